/- MCode: several texts of this claim in one file. No statement of the seat is proved here. -/
import Derived.Test.YteoledjllpgcbaaGreatDoorRows
import Derived.Test.YteoledjllpgcbaaGreatDoorMBase
import Derived.WalkMore
namespace Go.Proofs.YteoledjllpgcbaaGreatDoor.Code
set_option maxRecDepth 100000
set_option maxHeartbeats 64000000
set_option linter.unusedVariables false
def num (v : Nat) : List UInt8 := if v < 128 then [UInt8.ofNat v] else UInt8.ofNat (v % 128 + 128) :: num (v / 128)
termination_by v
decreasing_by omega
theorem num_lt {v : Nat} (h : v < 128) : num v = [UInt8.ofNat v] := by rw [num, if_pos h]
theorem num_ge {v : Nat} (h : 128 ≤ v) : num v = UInt8.ofNat (v % 128 + 128) :: num (v / 128) := by rw [num, if_neg (by omega)]
theorem num_pos (v : Nat) : 1 ≤ (num v).length := by
 by_cases h : v < 128
 · rw [num_lt h]; simp
 · rw [num_ge (by omega)]; simp
theorem num_len : ∀ (k v : Nat), v < 128 ^ (k + 1) → (num v).length ≤ k + 1
 | 0, v, h => by rw [num_lt (by simpa using h)]; simp
 | k + 1, v, h => by
  by_cases hv : v < 128
  · rw [num_lt hv]; simp
  ·
   rw [num_ge (by omega)]
   have := num_len k (v / 128) (by rw [Nat.div_lt_iff_lt_mul (by omega)]; rw [Nat.pow_succ] at h; omega)
   simp only [List.length_cons]; omega
theorem num_len9 (v : Nat) (h : v ≤ 4611686018427387904) : (num v).length ≤ 9 := num_len 8 v (by omega)
def text (s : List UInt8) : List UInt8 := num s.length ++ s
def list (l : List (List UInt8)) : List UInt8 := num l.length ++ l.flatMap text
def scan : List UInt8 → Nat → Nat → Except Nat (Nat × Nat × UInt8)
 | [], n, v => if n = 9 then .error 2 else .error 4
 | c :: t, n, v => if n = 9 then .error 2 else if c.toNat < 128 then .ok (v + c.toNat * 128 ^ n, n + 1, c) else scan t (n + 1) (v + c.toNat % 128 * 128 ^ n)
def fin (x : Except Nat (Nat × Nat × UInt8)) : Except Nat (Nat × Nat) :=
 match x with
 | .error e => .error e
 | .ok (v, n, c) => if (1 < n ∧ c = 0) ∨ 4611686018427387904 < v then .error 2 else .ok (v, n)
def getNum (b : List UInt8) : Except Nat (Nat × Nat) := fin (scan b 0 0)
def getText (most : Int) (b : List UInt8) : Except Nat (List UInt8 × Nat) :=
 match getNum b with
 | .error e => .error e
 | .ok (n, k) => if most < n then .error 2 else if b.length < k + n then .error 4 else .ok ((b.drop k).take n, k + n)
theorem ofNat_toNat {v : Nat} (h : v < 256) : (UInt8.ofNat v).toNat = v := by
 rw [UInt8.toNat_ofNat']; omega
/-! ### What was written is read -/
theorem scan_num : ∀ (m v n acc : Nat) (rest : List UInt8), v ≤ m → n + (num v).length ≤ 9 →
  ∃ c, scan (num v ++ rest) n acc = .ok (acc + v * 128 ^ n, n + (num v).length, c) ∧ (c = 0 → v = 0)
 | m, v, n, acc, rest, hm, h => by
  have hp := num_pos v
  by_cases hv : v < 128
  ·
   rw [num_lt hv]
   have e := ofNat_toNat (v := v) (by omega)
   refine ⟨UInt8.ofNat v, ?_, fun h0 => ?_⟩
   ·
    rw [List.singleton_append, scan, if_neg (by omega), e, if_pos hv]
    simp
   · rw [h0] at e; simpa using e.symm
  ·
   have e := ofNat_toNat (v := v % 128 + 128) (by omega)
   rw [num_ge (by omega)] at h ⊢
   simp only [List.length_cons] at h ⊢
   rw [List.cons_append, scan, if_neg (by omega), e, if_neg (by omega)]
   match m, hm with
   | 0, hm => omega
   | m + 1, hm =>
    obtain ⟨c, h1, h2⟩ := scan_num m (v / 128) (n + 1) (acc + (v % 128 + 128) % 128 * 128 ^ n) rest (by omega) (by omega)
    refine ⟨c, ?_, fun h0 => by have := h2 h0; omega⟩
    rw [h1]
    congr 2
    ·
     rw [Nat.pow_succ, Nat.add_assoc]
     congr 1
     rw [show (v % 128 + 128) % 128 = v % 128 by omega]
     have : v = v % 128 + 128 * (v / 128) := by omega
     conv => rhs; rw [this, Nat.add_mul]
     rw [Nat.mul_comm 128 (v / 128), Nat.mul_assoc, Nat.mul_comm (128 ^ n) 128]
    · congr 1; omega
theorem getNum_num (v : Nat) (rest : List UInt8) (h : v ≤ 4611686018427387904) : getNum (num v ++ rest) = .ok (v, (num v).length) := by
 have hl := num_len9 v h
 obtain ⟨c, h1, h2⟩ := scan_num v v 0 0 rest (Nat.le_refl _) (by omega)
 unfold getNum fin
 rw [h1]
 simp only [Nat.zero_add, Nat.pow_zero, Nat.mul_one]
 rw [if_neg]
 rintro (⟨h3, h4⟩ | h3)
 ·
  have := h2 h4
  subst this
  rw [num_lt (by omega)] at h3
  simp at h3
 · omega
theorem getText_text (most : Int) (s rest : List UInt8) (h : (s.length : Int) ≤ most) (h2 : s.length ≤ 4611686018427387904) : getText most (text s ++ rest) = .ok (s, (text s).length) := by
 unfold getText text
 rw [List.append_assoc, getNum_num _ _ h2]
 simp only
 rw [if_neg (by omega), if_neg (by simp only [List.length_append]; omega)]
 rw [List.drop_left, List.take_left]
 simp
/-! ### What is read was written -/
theorem scan_ok : ∀ (b : List UInt8) (n acc v m : Nat) (c : UInt8), n ≤ 9 → scan b n acc = .ok (v, m, c) →
  ∃ x, v = acc + x * 128 ^ n ∧ n < m ∧ m ≤ 9 ∧ m - n ≤ b.length ∧ (c ≠ 0 ∨ m = n + 1 → num x = b.take (m - n)) ∧ (c ≠ 0 → 1 ≤ x)
 | [], n, acc, v, m, c, h9, h => by
  unfold scan at h
  split at h <;> cases h
 | d :: t, n, acc, v, m, c, hn9, h => by
  rw [scan] at h
  split at h
  · cases h
  ·
   rename_i hn
   have hd := d.toNat_lt
   split at h
   ·
    rename_i hlt
    injection h with h
    simp only [Prod.mk.injEq] at h
    obtain ⟨rfl, rfl, rfl⟩ := h
    refine ⟨d.toNat, rfl, by omega, by omega, by simp, fun _ => ?_, fun h0 => ?_⟩
    ·
     rw [num_lt hlt, show n + 1 - n = 1 by omega]
     simp
    ·
     rcases Nat.eq_zero_or_pos d.toNat with h1 | h1
     · exact absurd (UInt8.toNat_inj.mp (by rw [h1]; rfl)) h0
     · exact h1
   ·
    rename_i hge
    obtain ⟨x, h1, h2, h3, h4, h5, h6⟩ := scan_ok t (n + 1) _ v m c (by omega) h
    have hmn : m - n = (m - (n + 1)) + 1 := by omega
    refine ⟨d.toNat % 128 + 128 * x, ?_, by omega, h3, by rw [List.length_cons]; omega, fun h7 => ?_, fun h7 => by have := h6 h7; omega⟩
    ·
     rw [h1, Nat.pow_succ, Nat.add_mul, Nat.add_assoc]
     congr 2
     rw [Nat.mul_comm 128 x, Nat.mul_assoc, Nat.mul_comm 128]
    ·
     have h8 : c ≠ 0 := by
      rcases h7 with h7 | h7
      · exact h7
      · omega
     have h9 := h6 h8
     rw [num_ge (by omega), hmn, List.take_succ_cons, ← h5 (.inl h8)]
     congr 1
     ·
      rw [show (d.toNat % 128 + 128 * x) % 128 + 128 = d.toNat by omega]
      simp
     · congr 1; omega
theorem scan_cut : ∀ (b : List UInt8) (n acc v m : Nat) (c : UInt8), n ≤ 9 → scan b n acc = .ok (v, m, c) → ∀ k, n + k < m → scan (b.take k) n acc = .error 4
 | [], n, acc, v, m, c, h9, h => by
  unfold scan at h
  split at h <;> cases h
 | d :: t, n, acc, v, m, c, hn9, h => by
  intro k hk
  have hm := scan_ok (d :: t) n acc v m c hn9 h
  obtain ⟨_, _, _, hm9, _⟩ := hm
  rw [scan] at h
  split at h
  · cases h
  ·
   rename_i hn
   match k, hk with
   | 0, hk => rw [List.take_zero, scan, if_neg hn]
   | k + 1, hk =>
    rw [List.take_succ_cons, scan, if_neg hn]
    split at h
    ·
     injection h with h
     simp only [Prod.mk.injEq] at h
     omega
    ·
     rename_i hge
     rw [if_neg hge]
     exact scan_cut t (n + 1) _ v m c (by omega) h k (by omega)
theorem getNum_ok {b : List UInt8} {v k : Nat} (h : getNum b = .ok (v, k)) : b.take k = num v ∧ v ≤ 4611686018427387904 ∧ 1 ≤ k ∧ k ≤ b.length ∧ ∀ j, j < k → getNum (b.take j) = .error 4 := by
 unfold getNum fin at h
 generalize hs : scan b 0 0 = r at h
 rcases r with e | ⟨v', m, c⟩
 · cases h
 ·
  simp only at h
  split at h
  · cases h
  ·
   rename_i hc
   injection h with h
   simp only [Prod.mk.injEq] at h
   obtain ⟨rfl, rfl⟩ := h
   obtain ⟨x, h1, h2, h3, h4, h5, h6⟩ := scan_ok b 0 0 v' m c (by omega) hs
   simp only [Nat.zero_add, Nat.pow_zero, Nat.mul_one, Nat.sub_zero] at h1 h4 h5
   subst h1
   have h7 : c ≠ 0 ∨ m = 1 := by
    by_cases hz : c = 0
    ·
     right
     by_cases h1m : 1 < m
     · exact absurd (.inl ⟨h1m, hz⟩) hc
     · omega
    · exact .inl hz
   refine ⟨(h5 h7).symm, by omega, h2, h4, fun j hj => ?_⟩
   unfold getNum fin
   rw [scan_cut b 0 0 _ m c (by omega) hs j (by omega)]
theorem getText_ok {most : Int} {b s : List UInt8} {k : Nat} (h : getText most b = .ok (s, k)) : b.take k = text s ∧ 1 ≤ k ∧ k ≤ b.length ∧ (s.length : Int) ≤ most ∧ s.length ≤ 4611686018427387904 ∧ ∀ j, j < k → getText most (b.take j) = .error 4 := by
 unfold getText at h
 generalize hs : getNum b = r at h
 rcases r with e | ⟨n, m⟩
 · cases h
 ·
  simp only at h
  obtain ⟨h1, h2, h3, h4, h5⟩ := getNum_ok hs
  split at h
  · cases h
  ·
   rename_i hmost
   split at h
   · cases h
   ·
    rename_i hlen
    injection h with h
    simp only [Prod.mk.injEq] at h
    obtain ⟨rfl, rfl⟩ := h
    have hl : ((b.drop m).take n).length = n := by rw [List.length_take, List.length_drop]; omega
    refine ⟨?_, by omega, by omega, by rw [hl]; omega, by rw [hl]; exact h2, fun j hj => ?_⟩
    ·
     unfold text
     rw [hl, ← h1, List.take_add]
    ·
     unfold getText
     by_cases hjm : j < m
     · rw [h5 j hjm]
     ·
      have e : b.take j = num n ++ (b.drop m).take (j - m) := by
       rw [← h1]
       rw [show j = m + (j - m) by omega, List.take_add]
       congr 2; omega
      rw [e, getNum_num _ _ h2]
      have hml : (num n).length = m := by rw [← h1, List.length_take]; omega
      simp only
      rw [if_neg hmost, if_pos (by rw [← e, List.length_take, hml]; omega)]
end Go.Proofs.YteoledjllpgcbaaGreatDoor.Code
namespace Go.Proofs.YteoledjllpgcbaaGreatDoor
set_option maxRecDepth 100000
set_option maxHeartbeats 64000000
set_option linter.unusedVariables false
open Go.RowKit
theorem fresh_any (A : Option Addr) (n c : Nat) (l : List UInt8) (w : World) (h : Bs w A n c l) (hn : n ≤ 140737488355328) : Calls Tryz.prog 123 #[.slice A n c] w (Ret8 w.heap.size l w) := by
 go_enter Tryz.func123, Tryz.ntmps123
 go_wp2_with (at_builtin; refine wl_app8 rfl (.const (.slice none 0 0)) (.tmp 3) rfl rfl (Own8.nil w w.heap.size) rfl h (by omega) (Nat.le_refl _) ?_; intro A1 n1 c1 w1 ho1 hb1 _)
 go_ret
 exact ⟨A1, n1, c1, rfl, by simpa using ho1, hb1⟩
structure PutRel (B : Nat) (l : List UInt8) (v : Nat) (w : World) (A' : Option Addr) (n' c' x : Nat) (l' : List UInt8) (wr : World) : Prop where
 own : Own8 wr B A' n' c' l'
 eq : l' ++ Code.num x = l ++ Code.num v
 below : Below B w wr
 le : x ≤ v
theorem or128 (x : Nat) (hx : x < 128) : bits .or .u8 (x : Int) 128 = (x : Int) + 128 := by
 rw [show (128 : Int) = ((128 : Nat) : Int) from rfl, u8_or_nat x 128 (by omega) (by omega), Nat.or_comm]
 have h := Nat.two_pow_add_eq_or_of_lt (i := 7) (b := x) (by omega) 1
 rw [show 2 ^ 7 * 1 = 128 from rfl] at h
 rw [← h]; push_cast; omega
theorem putNum_any (B : Nat) (A : Option Addr) (n c : Nat) (l : List UInt8) (v : Nat) (w : World) (h : Own8 w B A n c l) (hB : B ≤ w.heap.size) (hn : n ≤ 100000000000000) (hv : v ≤ 4611686018427387904) :
  Calls Tryz.prog 122 #[.slice A n c, .int .i64 (v : Int)] w (Ret8 B (l ++ Code.num v) w) := by
 have hlen := h.len
 have h9 := Code.num_len9 v hv
 have HS := Lib.hid (show ∀ l' x, l' ++ Code.num x = l ++ Code.num v → l'.length ≤ n + 9 from fun l' x e => by
  have e2 := congrArg List.length e
  rw [List.length_append, List.length_append, hlen] at e2
  omega)
 clear hlen h9
 go_enter Tryz.func122, Tryz.ntmps122
 go_wp2
 go_loopw [0, 1] (fun vb vv wr => ∃ (A' : Option Addr) (n' c' x : Nat) (l' : List UInt8), vb = .slice A' n' c' ∧ vv = .int .i64 x ∧ PutRel B l v w A' n' c' x l' wr) (fun _ vv _ => (intOf vv).toNat)
 case atStart => exact ⟨A, n, c, v, l, rfl, rfl, h, rfl, Below.refl _ _, Nat.le_refl _⟩
 case round =>
  obtain ⟨A', n', c', x, l', rfl, rfl, hr⟩ := hrel
  have hx := hr.le
  have hn' : n' ≤ n + 9 := by have := HS.out l' x hr.eq; rw [hr.own.len] at this; exact this
  have hB2 : B ≤ wr.heap.size := Nat.le_trans hB hr.below.size
  have f1 : bits .and .i64 (x : Int) 127 = (x : Int) % 128 := Bit.mask 7 x 127 128 (by omega) (by omega) (by omega) rfl rfl
  have e1 : ((x % 128 : Nat) : Int) = (x : Int) % 128 := by simp
  have f2 : bits .or .u8 ((x : Int) % 128) 128 = (x : Int) % 128 + 128 := by rw [← e1]; exact or128 (x % 128) (by omega)
  clear e1
  by_cases hgt : 127 < x
  ·
   have hb : ((x : Int) % 128 + 128) = ((UInt8.ofNat (x % 128 + 128)).toNat : Int) := by rw [Code.ofNat_toNat (by omega)]; push_cast; rfl
   have HB := Lib.hid hb
   clear hb
   go_wp2_with (at_builtin; refine wl_app1 rfl (.tmp 7) (.tmp 12) rfl rfl hr.own rfl (UInt8.ofNat (x % 128 + 128)) HB.out (by omega) hB2 ?_; intro A3 n3 c3 w3 ho3 hb3)
   go_roundw
   case rel => exact ⟨A3, n3, c3, x / 128, l' ++ [UInt8.ofNat (x % 128 + 128)], rfl, by simp, ho3, by rw [← hr.eq, Code.num_ge (v := x) (by omega), List.append_assoc]; rfl, hr.below.trans hb3, by omega⟩
   case measure => simp [intOf]; omega
  ·
   have hb : (x : Int) = ((UInt8.ofNat x).toNat : Int) := by rw [Code.ofNat_toNat (by omega)]
   have HB := Lib.hid hb
   clear hb f1 f2
   go_wp2_with (at_builtin; refine wl_app1 rfl (.tmp 16) (.tmp 19) rfl rfl hr.own rfl (UInt8.ofNat x) HB.out (by omega) hB2 ?_; intro A3 n3 c3 w3 ho3 hb3)
   go_ret
   refine ⟨A3, n3, c3, rfl, ?_, hr.below.trans hb3⟩
   rw [← hr.eq, Code.num_lt (by omega)]; exact ho3
def NumPost (l : List UInt8) (w : World) (e : Ending) (w' : World) : Prop := ∃ A n c, e = .returned (.tuple #[.slice A n c, .int .i64 0]) ∧ Own8 w' w.heap.size A n c l ∧ Below w.heap.size w w'
theorem num_any (A : Option Addr) (n c : Nat) (l : List UInt8) (v : Nat) (w : World) (h : Bs w A n c l) (hn : n ≤ 100000000000000) (hv : v ≤ 4611686018427387904) :
  Calls Tryz.prog 77 #[.slice A n c, .int .i64 (v : Int)] w (NumPost (l ++ Code.num v) w) := by
 have h2 : ¬ (4611686018427387904 : Int) < (v : Int) := by omega
 go_enter Tryz.func77, Tryz.ntmps77
 go_wp2_with fail
 refine (fresh_any A n c l w h (by omega)).mono ?_
 rintro e w1 ⟨A1, n1, c1, rfl, ho1, hb1⟩
 have hn1 : n1 ≤ 100000000000000 := by have a := ho1.len; have b := h.len; omega
 go_wp2_with fail
 refine (putNum_any w.heap.size A1 n1 c1 l v w1 ho1 hb1.size hn1 hv).mono ?_
 rintro e w2 ⟨A2, n2, c2, rfl, ho2, hb2⟩
 go_wp2
 go_ret2
 exact ⟨A2, n2, c2, rfl, ho2, hb1.trans hb2⟩
theorem putText_any (B : Nat) (A : Option Addr) (n c : Nat) (l s : List UInt8) (w : World) (h : Own8 w B A n c l) (hB : B ≤ w.heap.size) (hn : n ≤ 100000000000000) (hs : s.length ≤ 10000000000000) :
  Calls Tryz.prog 124 #[.slice A n c, sv s] w (Ret8 B (l ++ Code.text s) w) := by
 have z := strLen s
 go_enter Tryz.func124, Tryz.ntmps124
 go_wp2_with fail
 refine (putNum_any B A n c l s.length w h hB hn (by omega)).mono ?_
 rintro e w1 ⟨A1, n1, c1, rfl, ho1, hb1⟩
 have hn1 : n1 ≤ 100000000000009 := by have a := ho1.len; have b := h.len; have d := Code.num_len9 s.length (by omega); rw [List.length_append] at a; omega
 go_wp2_with (at_builtin; refine wl_appS rfl (.tmp 8) (.tmp 9) rfl rfl ho1 rfl (by omega) (Nat.le_trans hB hb1.size) ?_; intro A3 n3 c3 w3 ho3 hb3 _)
 go_ret
 exact ⟨A3, n3, c3, rfl, by unfold Code.text; rw [← List.append_assoc]; exact ho3, hb1.trans hb3⟩
theorem text_any (A : Option Addr) (n c : Nat) (l s : List UInt8) (w : World) (h : Bs w A n c l) (hn : n ≤ 100000000000000) (hs : s.length ≤ 10000000000000) :
  Calls Tryz.prog 89 #[.slice A n c, sv s] w (Ret8 w.heap.size (l ++ Code.text s) w) := by
 go_enter Tryz.func89, Tryz.ntmps89
 go_wp2_with fail
 refine (fresh_any A n c l w h (by omega)).mono ?_
 rintro e w1 ⟨A1, n1, c1, rfl, ho1, hb1⟩
 have hn1 : n1 ≤ 100000000000000 := by have a := ho1.len; have b := h.len; omega
 go_wp2_with fail
 refine (putText_any w.heap.size A1 n1 c1 l s w1 ho1 hb1.size hn1 hs).mono ?_
 rintro e w2 ⟨A2, n2, c2, rfl, ho2, hb2⟩
 go_wp2
 go_ret
 exact ⟨A2, n2, c2, rfl, ho2, hb1.trans hb2⟩
theorem rnum_any : ∀ (k v : Nat) (w : World), v ≤ k → v ≤ 4611686018427387904 → Calls Tryz.prog 88 #[.int .i64 (v : Int)] w (Ret8 w.heap.size (Code.num v) w)
 | k, v, w, hk, hv => by
  by_cases hlt : v < 128
  ·
   have hb : (v : Int) = ((UInt8.ofNat v).toNat : Int) := by rw [Code.ofNat_toNat (by omega)]
   have HB := Lib.hid hb
   clear hb hk
   go_enter Tryz.func88, Tryz.ntmps88
   go_wp2
   go_ret
   exact ⟨_, _, _, rfl, Own8.new w (Code.num v) _ (Nat.le_refl _) (by rw [Code.num_lt hlt]; simp only [List.map_cons, List.map_nil, bv]; rw [← HB.out]) (by rw [Code.num_lt hlt]; rfl) (by decide), (Below.refl _ w).alloc (Nat.le_refl _) _⟩
  ·
   match k, hk with
   | 0, hk => omega
   | k + 1, hk =>
    have ih := fun W => rnum_any k (v / 128) W (by omega) (by omega)
    have IH := Lib.hid ih
    have hb : ((v : Int) % 128 + 128) = ((UInt8.ofNat (v % 128 + 128)).toNat : Int) := by rw [Code.ofNat_toNat (by omega)]; push_cast; rfl
    have HB := Lib.hid hb
    have h9 := Code.num_len9 (v / 128) (by omega)
    clear hb ih
    go_enter Tryz.func88, Tryz.ntmps88
    go_wp2_with fail
    refine Calls.mono (show Calls Tryz.prog 88 #[.int .i64 ((v : Int) / 128)] _ _ from by have h := IH.out (w.alloc (.cells #[.int .u8 ((v : Int) % 128 + 128)] 5)); rw [Int.natCast_ediv] at h; exact h) ?_
    rintro e w1 ⟨A1, n1, c1, rfl, ho1, hb1⟩
    have hown : Own8 (w.alloc (.cells #[.int .u8 ((v : Int) % 128 + 128)] 5)) w.heap.size (some ⟨w.heap.size, 0, none⟩) 1 1 [UInt8.ofNat (v % 128 + 128)] := Own8.new w _ _ (Nat.le_refl _) (by simp only [List.map_cons, List.map_nil, bv]; rw [← HB.out]) rfl (by decide)
    have hn1 : n1 ≤ 9 := by have a := ho1.len; omega
    have hb0 : Below w.heap.size w (w.alloc (.cells #[.int .u8 ((v : Int) % 128 + 128)] 5)) := (Below.refl _ w).alloc (Nat.le_refl _) _
    go_wp2_with (at_builtin; refine wl_app8 rfl (.tmp 12) (.tmp 15) rfl rfl (hown.keep hb1) rfl ho1.bs (by omega) (bt hb0 hb1).size ?_; intro A3 n3 c3 w3 ho3 hb3 _)
    go_ret
    exact ⟨A3, n3, c3, rfl, by rw [Code.num_ge (by omega)]; exact ho3, (bt hb0 hb1).trans hb3⟩
theorem rtext_any (s : List UInt8) (w : World) (hs : s.length ≤ 10000000000000) :
  Calls Tryz.prog 98 #[sv s] w (Ret8 w.heap.size (Code.text s) w) := by
 have z := strLen s
 go_enter Tryz.func98, Tryz.ntmps98
 go_wp2_with fail
 refine (rnum_any s.length s.length w (Nat.le_refl _) (by omega)).mono ?_
 rintro e w1 ⟨A1, n1, c1, rfl, ho1, hb1⟩
 have hn1 : n1 ≤ 9 := by have a := ho1.len; have d := Code.num_len9 s.length (by omega); omega
 go_wp2_with (at_builtin; refine wl_appS rfl (.tmp 5) (.tmp 6) rfl rfl ho1 rfl (by omega) hb1.size ?_; intro A3 n3 c3 w3 ho3 hb3 _)
 go_ret
 exact ⟨A3, n3, c3, rfl, by unfold Code.text; exact ho3, hb1.trans hb3⟩
abbrev rv (A : Option Addr) (n c : Nat) (at_ e : Int) : Value := .agg #[.slice A n c, .int .i64 at_, .int .i64 e]
theorem inside_any (A : Option Addr) (n c at_ : Nat) (e : Int) (w : World) (hat : at_ ≤ n) (hc : n ≤ c) (hm : c ≤ maxLen) : Calls Tryz.prog 120 #[rv A n c (at_ : Int) e] w (RetB true w) := by
 rw [maxLen_eq] at hm
 go_enter Tryz.func120, Tryz.ntmps120
 go_wp2
 go_ret
 exact ⟨rfl, (Below.refl _ w).alloc (Nat.le_refl _) _⟩
def GetNumRet (at_ : Nat) (e : Ending) : Except Nat (Nat × Nat) → Prop
 | .ok (v, k) => e = .returned (.tuple #[.int .i64 (v : Int), .int .i64 ((at_ + k : Nat) : Int), .int .i64 0])
 | .error x => e = .returned (.tuple #[.int .i64 0, .int .i64 0, .int .i64 (x : Int)])
def GetNumPost (l : List UInt8) (at_ : Nat) (w : World) (e : Ending) (w' : World) : Prop := GetNumRet at_ e (Code.getNum (l.drop at_)) ∧ w = w'
theorem or_acc (acc y k : Nat) (ha : acc < 128 ^ k) (hy : y < 128) (hk : k ≤ 8) : bits .or .i64 (acc : Int) ((y * 128 ^ k : Nat) : Int) = ((acc + y * 128 ^ k : Nat) : Int) := by
 have e : (128 : Nat) ^ k = 2 ^ (7 * k) := by rw [Nat.pow_mul]
 have h8 : (128 : Nat) ^ k ≤ 128 ^ 8 := Nat.pow_le_pow_right (by omega) hk
 have h9 : y * 128 ^ k ≤ 127 * 128 ^ 8 := Nat.mul_le_mul (by omega) h8
 rw [Bit.i64_or _ _ (by omega) (by omega)]
 congr 1
 rw [Nat.or_comm, Nat.mul_comm, e]
 rw [e] at ha
 rw [← Nat.two_pow_add_eq_or_of_lt ha]
 omega
theorem shl_acc (y k : Nat) (hy : y < 128) (hk : k ≤ 8) : IntKind.i64.wrap ((y : Int) * 2 ^ (7 * k)) = ((y * 128 ^ k : Nat) : Int) := by
 have e : (128 : Nat) ^ k = 2 ^ (7 * k) := by rw [Nat.pow_mul]
 have h8 : (128 : Nat) ^ k ≤ 128 ^ 8 := Nat.pow_le_pow_right (by omega) hk
 have h9 : y * 128 ^ k ≤ 127 * 128 ^ 8 := Nat.mul_le_mul (by omega) h8
 have e2 : (y : Int) * 2 ^ (7 * k) = ((y * 128 ^ k : Nat) : Int) := by rw [e]; push_cast; rfl
 rw [e2]
 exact wrap_id _ (by omega) (by omega)
structure ScanRel (l : List UInt8) (at_ k acc : Nat) : Prop where
 eq : Code.scan (l.drop at_) 0 0 = Code.scan (l.drop (at_ + k)) k acc
 lt : acc < 128 ^ k
 le : k ≤ 9
theorem ScanRel.step {l : List UInt8} {at_ k acc : Nat} {b : UInt8} (h : ScanRel l at_ k acc) (hb : l[at_ + k]? = some b) (hk : k < 9) (hge : ¬ b.toNat < 128) : ScanRel l at_ (k + 1) (acc + b.toNat % 128 * 128 ^ k) := by
 obtain ⟨hlt, hbb⟩ := List.getElem?_eq_some_iff.1 hb
 refine ⟨?_, ?_, by omega⟩
 · rw [h.eq, List.drop_eq_getElem_cons hlt, hbb, Code.scan, if_neg (by omega), if_neg hge, Nat.add_assoc]
 ·
  have h1 := h.lt
  rw [Nat.pow_succ]
  have h2 : b.toNat % 128 ≤ 127 := by omega
  have h3 : b.toNat % 128 * 128 ^ k ≤ 127 * 128 ^ k := Nat.mul_le_mul_right _ h2
  omega
theorem ScanRel.last {l : List UInt8} {at_ k acc : Nat} {b : UInt8} (h : ScanRel l at_ k acc) (hb : l[at_ + k]? = some b) (hk : k < 9) (hlt : b.toNat < 128) : Code.getNum (l.drop at_) = Code.fin (.ok (acc + b.toNat * 128 ^ k, k + 1, b)) := by
 obtain ⟨hl, hbb⟩ := List.getElem?_eq_some_iff.1 hb
 unfold Code.getNum
 rw [h.eq, List.drop_eq_getElem_cons hl, hbb, Code.scan, if_neg (by omega), if_pos hlt]
theorem ScanRel.full {l : List UInt8} {at_ acc : Nat} (h : ScanRel l at_ 9 acc) : Code.getNum (l.drop at_) = .error 2 := by
 unfold Code.getNum
 rw [h.eq]
 cases l.drop (at_ + 9) <;> rfl
theorem ScanRel.none {l : List UInt8} {at_ k acc : Nat} (h : ScanRel l at_ k acc) (hk : k < 9) (hl : l.length ≤ at_ + k) : Code.getNum (l.drop at_) = .error 4 := by
 unfold Code.getNum
 rw [h.eq, List.drop_eq_nil_of_le hl, Code.scan, if_neg (by omega)]
 rfl
theorem getNum_ret {l : List UInt8} {at_ : Nat} {w : World} {e : Ending} {r : Except Nat (Nat × Nat)} (h : Code.getNum (l.drop at_) = r) (he : GetNumRet at_ e r) : GetNumPost l at_ w e w := ⟨by rw [h]; exact he, rfl⟩
theorem getNum_any (A : Option Addr) (n c at_ : Nat) (l : List UInt8) (w : World) (h : Bs w A n c l) (hat : at_ ≤ n) (hn : n ≤ 140737488355328) :
  Calls Tryz.prog 138 #[.slice A n c, .int .i64 (at_ : Int)] w (GetNumPost l at_ w) := by
 have hc := h.cap
 have hm := h.max
 rw [maxLen_eq] at hm
 go_enter Tryz.func138, Tryz.ntmps138
 go_wp2
 go_step3
 go_wp2
 go_step3
 go_wp2
 go_loop [7, 8] (fun vv vn => ∃ (k acc : Nat), vv = .int .i64 acc ∧ vn = .int .i64 k ∧ at_ + k ≤ n ∧ ScanRel l at_ k acc) (fun _ vn => 10 - (intOf vn).toNat)
 case atStart => exact ⟨0, 0, rfl, rfl, hat, rfl, by decide, by omega⟩
 case round =>
  obtain ⟨k, acc, rfl, rfl, hk, hr⟩ := hrel
  have hk9 := hr.le
  by_cases h9 : k = 9
  ·
   have b1 : ((k : Int) == 9) = true := beq_iff_eq.2 (by omega)
   have hfin := Lib.hid (show Code.getNum (l.drop at_) = .error 2 by subst h9; exact hr.full)
   clear h9
   go_wp2
   go_ret3
   exact getNum_ret hfin.out rfl
  ·
   have b1 : ((k : Int) == 9) = false := beq_eq_false_iff_ne.2 (by omega)
   by_cases hend : at_ + k = n
   ·
    have b2 : ((k : Int) == (n : Int) - (at_ : Int)) = true := beq_iff_eq.2 (by omega)
    have hfin := Lib.hid (hr.none (by omega) (by have := h.len; omega))
    clear hend h9
    go_wp2
    go_ret3
    exact getNum_ret hfin.out rfl
   ·
    have b2 : ((k : Int) == (n : Int) - (at_ : Int)) = false := beq_eq_false_iff_ne.2 (by omega)
    obtain ⟨b, off, rfl, hb, hcell⟩ := h.rd (fun e => by
     have h2 := h.len
     have h3 : l = [] := by simpa using e
     rw [h3] at h2
     simp at h2; omega)
    obtain ⟨x, hx⟩ : ∃ x, l[at_ + k]? = some x := ⟨_, List.getElem?_eq_getElem (by have := h.len; omega)⟩
    have x0 : w.cell? ⟨b, off + (at_ + k), none⟩ = some (Value.int .u8 (x.toNat : Int)) := hcell (at_ + k) (bv x) (by rw [List.getElem?_map, hx]; rfl)
    have hx8 := x.toNat_lt
    have f1 : bits .and .u8 (x.toNat : Int) 127 = ((x.toNat % 128 : Nat) : Int) := by rw [Bit.mask8 7 x.toNat 127 128 (by omega) (by omega) (by omega) rfl rfl]; simp
    obtain ⟨y, hy⟩ : ∃ y, x.toNat % 128 = y := ⟨_, rfl⟩
    obtain ⟨Z, hZ⟩ : ∃ Z, y * 128 ^ k = Z := ⟨_, rfl⟩
    have hy8 : y < 128 := by omega
    have f2 : wrap64 ((y : Int) * 2 ^ (7 * k)) = (Z : Int) := by
     have e := shl_acc y k hy8 (by omega)
     rw [IntKind.wrap_i64, hZ] at e
     unfold wrap64
     exact e
    have f3 : bits .or .i64 (acc : Int) (Z : Int) = (acc : Int) + (Z : Int) := by rw [← Int.natCast_add, ← hZ]; exact or_acc acc y k hr.lt hy8 (by omega)
    rw [hy] at f1
    have HX := Lib.hid (And.intro hx (And.intro hy hZ))
    have HC := Lib.hid hcell
    clear hx hy hZ hcell
    have hZ63 : (acc : Int) + (Z : Int) ≤ 9223372036854775807 := by
     have h1 := hr.lt
     obtain ⟨_, _, e⟩ := HX.out
     have h8 : (128 : Nat) ^ k ≤ 128 ^ 8 := Nat.pow_le_pow_right (by omega) (by omega)
     have h9 : y * 128 ^ k ≤ 127 * 128 ^ k := Nat.mul_le_mul_right _ (by omega)
     omega
    by_cases hlt : x.toNat < 128
    ·
     have hfin := hr.last HX.out.1 (by omega) hlt
     rw [show x.toNat * 128 ^ k = Z by rw [← HX.out.2.2, ← HX.out.2.1, Nat.mod_eq_of_lt hlt]] at hfin
     have HE := Lib.hid (show ((0 < k ∧ x.toNat = 0) ∨ 4611686018427387904 < acc + Z) → Code.getNum (l.drop at_) = .error 2 from fun hbad => by
      rw [hfin]; unfold Code.fin; simp only
      rw [if_pos]
      rcases hbad with ⟨h1, h2⟩ | h1
      · exact .inl ⟨by omega, UInt8.toNat_inj.mp (by rw [h2]; rfl)⟩
      · exact .inr h1)
     have HO := Lib.hid (show ¬ ((0 < k ∧ x.toNat = 0) ∨ 4611686018427387904 < acc + Z) → Code.getNum (l.drop at_) = .ok (acc + Z, k + 1) from fun hbad => by
      rw [hfin]; unfold Code.fin; simp only
      rw [if_neg]
      rintro (⟨h1, h2⟩ | h1)
      · exact hbad (.inl ⟨by omega, by rw [h2]; rfl⟩)
      · exact hbad (.inr h1))
     clear hfin
     by_cases hz : x.toNat = 0
     ·
      have bz : ((x.toNat : Int) == 0) = true := beq_iff_eq.2 (by omega)
      by_cases hk0 : 0 < k
      ·
       have hfin := Lib.hid (HE.out (.inl ⟨hk0, hz⟩))
       clear HE HO hz
       go_wp2
       (try rw [Exit.noGoto_ret])
       go_ret3
       exact getNum_ret hfin.out rfl
      ·
       by_cases hmax : 4611686018427387904 < acc + Z
       ·
        have hfin := Lib.hid (HE.out (.inr hmax))
        clear HE HO hz
        go_wp2
        (try rw [Exit.noGoto_ret])
        go_ret3
        exact getNum_ret hfin.out rfl
       ·
        have hfin := Lib.hid (HO.out (fun h => h.elim (fun h => hk0 h.1) hmax))
        clear HE HO hz
        go_wp2
        (try rw [Exit.noGoto_ret])
        go_ret3
        exact getNum_ret hfin.out (by unfold GetNumRet; simp)
     ·
      have bz : ((x.toNat : Int) == 0) = false := beq_eq_false_iff_ne.2 (by omega)
      by_cases hmax : 4611686018427387904 < acc + Z
      ·
       have hfin := Lib.hid (HE.out (.inr hmax))
       clear HE HO
       by_cases hk0 : 0 < k
       all_goals
        go_wp2
        (try rw [Exit.noGoto_ret])
        go_ret3
        exact getNum_ret hfin.out rfl
      ·
       have hfin := Lib.hid (HO.out (fun h => h.elim (fun h => hz h.2) hmax))
       clear HE HO
       by_cases hk0 : 0 < k
       all_goals
        go_wp2
        (try rw [Exit.noGoto_ret])
        go_ret3
        exact getNum_ret hfin.out (by unfold GetNumRet; simp)
    ·
     have hnext := Lib.hid (show ScanRel l at_ (k + 1) (acc + Z) by
      have h1 := hr.step HX.out.1 (by omega) hlt
      rw [show x.toNat % 128 * 128 ^ k = Z by rw [← HX.out.2.2, ← HX.out.2.1]] at h1
      exact h1)
     go_wp2
     go_round
     case rel => exact ⟨k + 1, acc + Z, by simp, by go_num, by omega, hnext.out⟩
     case measure => simp [intOf]; omega
structure Ss (w : World) (A : Option Addr) (n c : Nat) (l : List (List UInt8)) : Prop where
 rd : Rd w w.heap.size A (l.map sv)
 len : l.length = n
 cap : n ≤ c
 max : c ≤ maxLen
theorem Ss.keep {w w' : World} {A : Option Addr} {n c : Nat} {l : List (List UInt8)} (h : Ss w A n c l) (hb : Below w.heap.size w w') : Ss w' A n c l := ⟨(h.rd.below' hb (Nat.le_refl _)).more hb.size, h.len, h.cap, h.max⟩
theorem Ss.at {w : World} {A : Option Addr} {n c : Nat} {l : List (List UInt8)} (h : Ss w A n c l) {k : Nat} (hk : k < n) : ∃ b off, A = some ⟨b, off, none⟩ ∧ b < w.heap.size ∧ (∀ j s, l[j]? = some s → w.cell? ⟨b, off + j, none⟩ = some (sv s)) ∧ ∃ s, l[k]? = some s := by
 obtain ⟨b, off, hA, hb, hc⟩ := h.rd (fun e => by
  have h2 := h.len
  have h3 : l = [] := by simpa using e
  rw [h3] at h2
  simp at h2; omega)
 exact ⟨b, off, hA, hb, fun j s hj => hc j (sv s) (by rw [List.getElem?_map, hj]; rfl), _, List.getElem?_eq_getElem (by have := h.len; omega)⟩
theorem text_len (s : List UInt8) (h : s.length ≤ 4611686018427387904) : (Code.text s).length ≤ s.length + 9 := by
 unfold Code.text
 have := Code.num_len9 s.length h
 rw [List.length_append]; omega
theorem mem_at {l : List (List UInt8)} {k : Nat} {s : List UInt8} (h : l[k]? = some s) : s ∈ l := List.mem_of_getElem? h
theorem dec_nat (a k : Nat) : decide ((a : Int) < (k : Int)) = decide (a < k) := by
 by_cases h : a < k
 · rw [decide_eq_true h, decide_eq_true (by omega)]
 · rw [decide_eq_false h, decide_eq_false (by omega)]
theorem scan_err : ∀ (b : List UInt8) (n acc x : Nat), Code.scan b n acc = .error x → x = 2 ∨ x = 4
 | [], n, acc, x, h => by
  unfold Code.scan at h
  split at h <;> (injection h with h; omega)
 | c :: t, n, acc, x, h => by
  rw [Code.scan] at h
  split at h
  · injection h with h; omega
  ·
   split at h
   · cases h
   · exact scan_err t _ _ x h
theorem getNum_err {b : List UInt8} {x : Nat} (h : Code.getNum b = .error x) : x = 2 ∨ x = 4 := by
 unfold Code.getNum Code.fin at h
 generalize hs : Code.scan b 0 0 = r at h
 rcases r with e | ⟨v, m, c⟩
 ·
  injection h with h
  subst h
  exact scan_err b 0 0 _ hs
 ·
  simp only at h
  split at h
  · injection h with h; omega
  · cases h
theorem getText_err {most : Int} {b : List UInt8} {x : Nat} (h : Code.getText most b = .error x) : x = 2 ∨ x = 4 := by
 unfold Code.getText at h
 generalize hs : Code.getNum b = r at h
 rcases r with e | ⟨n, m⟩
 ·
  injection h with h
  subst h
  exact getNum_err hs
 ·
  simp only at h
  split at h
  · injection h with h; omega
  ·
   split at h
   · injection h with h; omega
   · cases h
def GetTextRet (at_ : Nat) (e : Ending) : Except Nat (List UInt8 × Nat) → Prop
 | .ok (s, k) => e = .returned (.tuple #[sv s, .int .i64 ((at_ + k : Nat) : Int), .int .i64 0])
 | .error x => e = .returned (.tuple #[.string { data := #[] }, .int .i64 0, .int .i64 (x : Int)])
def GetTextPost (l : List UInt8) (at_ : Nat) (most : Int) (w : World) (e : Ending) (w' : World) : Prop := GetTextRet at_ e (Code.getText most (l.drop at_)) ∧ w = w'
theorem getText_ret {l : List UInt8} {at_ : Nat} {most : Int} {w : World} {e : Ending} {r : Except Nat (List UInt8 × Nat)} (h : Code.getText most (l.drop at_) = r) (he : GetTextRet at_ e r) : GetTextPost l at_ most w e w := ⟨by rw [h]; exact he, rfl⟩
theorem getText_any (A : Option Addr) (n c at_ : Nat) (most : Int) (l : List UInt8) (w : World) (h : Bs w A n c l) (hat : at_ ≤ n) (hn : n ≤ 140737488355328) (hm1 : -9223372036854775808 ≤ most) (hm2 : most ≤ 9223372036854775807) :
  Calls Tryz.prog 119 #[.slice A n c, .int .i64 (at_ : Int), .int .i64 most] w (GetTextPost l at_ most w) := by
 have hc := h.cap
 have hm := h.max
 rw [maxLen_eq] at hm
 have hcall := getNum_any A n c at_ l w h hat hn
 unfold GetNumPost at hcall
 cases hg : Code.getNum (l.drop at_) with
 | error x =>
  rw [hg] at hcall
  have hx := getNum_err hg
  have HF := Lib.hid (show Code.getText most (l.drop at_) = .error x by unfold Code.getText; rw [hg])
  have HC := Lib.hid hcall
  have b1 : ((x : Int) == 0) = false := beq_eq_false_iff_ne.2 (by omega)
  clear hcall hg hx
  go_enter Tryz.func119, Tryz.ntmps119
  go_wp2_with fail
  refine HC.out.mono ?_
  rintro e w1 ⟨he, rfl⟩
  subst he
  go_wp2
  go_ret3
  exact getText_ret HF.out rfl
 | ok r =>
  obtain ⟨v, k⟩ := r
  rw [hg] at hcall
  obtain ⟨_, hv, hk1, hk, _⟩ := Code.getNum_ok hg
  rw [List.length_drop, h.len] at hk
  have HC := Lib.hid hcall
  have HF1 := Lib.hid (show most < (v : Int) → Code.getText most (l.drop at_) = .error 2 from fun hb => by unfold Code.getText; rw [hg]; simp only; rw [if_pos hb])
  have HF2 := Lib.hid (show ¬ most < (v : Int) → n < at_ + k + v → Code.getText most (l.drop at_) = .error 4 from fun hb hb2 => by unfold Code.getText; rw [hg]; simp only; rw [if_neg hb, if_pos (by rw [List.length_drop, h.len]; omega)])
  have HF3 := Lib.hid (show ¬ most < (v : Int) → ¬ n < at_ + k + v → Code.getText most (l.drop at_) = .ok (((l.take (at_ + k + v)).drop (at_ + k)), k + v) from fun hb hb2 => by
   unfold Code.getText; rw [hg]; simp only; rw [if_neg hb, if_neg (by rw [List.length_drop, h.len]; omega)]
   rw [List.drop_take, List.drop_drop, show at_ + k + v - (at_ + k) = v by omega])
  clear hcall hg
  by_cases hb1 : most < (v : Int)
  ·
   have HF := Lib.hid (HF1.out hb1)
   go_enter Tryz.func119, Tryz.ntmps119
   go_wp2_with fail
   refine HC.out.mono ?_
   rintro e w1 ⟨he, rfl⟩
   subst he
   go_wp2
   go_ret3
   exact getText_ret HF.out rfl
  ·
   by_cases hb2 : n < at_ + k + v
   ·
    have HF := Lib.hid (HF2.out hb1 hb2)
    have hb3 : (n : Int) - ((at_ : Int) + (k : Int)) < (v : Int) := by omega
    go_enter Tryz.func119, Tryz.ntmps119
    go_wp2_with fail
    refine HC.out.mono ?_
    rintro e w1 ⟨he, rfl⟩
    subst he
    go_wp2
    go_ret3
    exact getText_ret HF.out rfl
   ·
    have HF := Lib.hid (HF3.out hb1 hb2)
    have hb3 : ¬ (n : Int) - ((at_ : Int) + (k : Int)) < (v : Int) := by omega
    have hb4 : (v : Int) ≤ (n : Int) - ((at_ : Int) + (k : Int)) := by omega
    go_enter Tryz.func119, Tryz.ntmps119
    go_wp2_with fail
    refine HC.out.mono ?_
    rintro e w1 ⟨he, rfl⟩
    subst he
    go_wp2_with (first
     | (refine wl_cut_lh rfl 28 (.tmp 33) (.tmp 34) (.tmp 37) rfl 5 Tryz.underlying28 size_u8 A n c rfl .i64 .i64 ((at_ + k : Nat) : Int) ((at_ + k + v : Nat) : Int) (congrArg (Value.int .i64) (by push_cast; rfl)) (congrArg (Value.int .i64) (by push_cast; rfl)) (by omega) (by omega) (by omega) hc w.heap.size (l.map bv) h.rd (by simpa using h.len) ?_; intro A1 hr1; rw [Int.toNat_natCast, Int.toNat_natCast, ← List.map_take, ← List.map_drop] at hr1; rw [Int.toNat_natCast, Int.toNat_natCast]; have HR1 := Lib.hid hr1; clear hr1)
     | (refine wl_str rfl 28 9 (.tmp 38) rfl 5 Tryz.underlying28 Tryz.underlying5 Tryz.underlying9 A1 _ _ rfl w.heap.size ((l.take (at_ + k + v)).drop (at_ + k)) HR1.out (by rw [List.length_drop, List.length_take, h.len]; omega) ?_))
    go_ret3
    exact getText_ret HF.out (by unfold GetTextRet; simp; omega)
structure OwnS (w : World) (B : Nat) (A : Option Addr) (n c : Nat) (l : List (List UInt8)) : Prop where
 own : w.ownsRow B 9 1 (.slice A n c) n (l.map sv)
 len : l.length = n
 cap : n ≤ c
 max : c ≤ maxLen
section
variable {w w' : World} {B B' n c : Nat} {A : Option Addr} {l : List (List UInt8)}
theorem OwnS.keep (h : OwnS w B A n c l) (hb : Below w.heap.size w w') : OwnS w' B A n c l := ⟨own_keep h.own hb (Nat.le_refl _), h.len, h.cap, h.max⟩
theorem OwnS.base (h : OwnS w B A n c l) (hB : B' ≤ B) : OwnS w B' A n c l := ⟨own_base h.own hB, h.len, h.cap, h.max⟩
theorem OwnS.ss (h : OwnS w B A n c l) : Ss w A n c l := ⟨Rd.of_own h.own, h.len, h.cap, h.max⟩
theorem OwnS.nil (w : World) (B : Nat) : OwnS w B none 0 0 [] := ⟨own_nil _ _ _ _, rfl, Nat.le_refl _, Nat.zero_le _⟩
theorem info_str : (Tryz.prog.info? 9).map (fun i => (i.zero, i.size, i.bytes)) = some (some (.string ByteArray.empty), 1, 16) := by kernel_rfl
theorem strsT : ElemT Tryz.prog 27 9 1 16 := ElemT.mk' Tryz.underlying27 info_str rfl (by omega)
theorem one_s (l : List (List UInt8)) : ∀ u ∈ l.map sv, u.oneCell' = true := fun u hu => by
 obtain ⟨x, _, rfl⟩ := List.mem_map.1 hu
 rfl
end
section
variable {ops : Array Oper} {rest : List Oper} {o : Oper} {a : Act} {Q : Exit → Act → World → Prop} {w : World}
theorem wl_appS1 (hgd : o.guard = none) (s x : Operand) (ho : o.op = .call { callee := .builtin .append, args := #[s, x], argTypes := #[27, 27] })
  {w0 : World} {B : Nat} {A : Option Addr} {n c : Nat} {l : List (List UInt8)} (hs : a.eval s = .slice A n c) (h1 : OwnS w0 B A n c l)
  (hx : a.eval x = .slice (some ⟨w0.heap.size, 0, none⟩) 1 1) (b : List UInt8) (hsz : n ≤ 1000000000000) (hB : B ≤ w0.heap.size)
  (h : ∀ A' n' c' w', OwnS w' B A' n' c' (l ++ [b]) → Below B w0 w' → wpList Tryz.prog ops Q rest (a.put o.dst (.slice A' n' c')) w') : wpList Tryz.prog ops Q (o :: rest) a (w0.alloc (.cells #[sv b] 9)) := by
 have hb0 : Below w0.heap.size w0 (w0.alloc (.cells #[sv b] 9)) := (Below.refl _ w0).alloc (Nat.le_refl _) _
 refine wl_app hgd s x 27 ho B 9 1 16 strsT _ n _ hs (h1.keep hb0).own (w0.heap.size + 1) (some ⟨w0.heap.size, 0, none⟩) 1 1 [sv b] hx (rd_new w0 [sv b] 9 (0, 0)) rfl (by simp [Value.oneCell']) (by rw [maxLen_eq]; omega) (by omega) (Nat.le_trans hB hb0.size) fun A' c' w' g1 g2 _ g4 g5 g6 => ?_
 exact h A' (n + 1) c' w' ⟨by rw [List.map_append]; exact g1, by rw [List.length_append, h1.len]; rfl, g5, g6⟩ ((hb0.mono hB).trans g4)
end
theorem done_ok (A : Option Addr) (n c at_ : Nat) (w : World) (hat : at_ ≤ n) (hc : n ≤ c) (hm : c ≤ maxLen) : Calls Tryz.prog 71 #[rv A n c (at_ : Int) 0] w fun e w' => e = .returned (.int .i64 (if at_ < n then 2 else 0)) ∧ Below w.heap.size w w' := by
 have hin := fun W => inside_any A n c at_ 0 W hat hc hm
 have HI := Lib.hid hin
 rw [maxLen_eq] at hm
 clear hin
 by_cases h : at_ < n
 all_goals
  first | rw [if_pos h] | rw [if_neg h]
  go_enter Tryz.func71, Tryz.ntmps71
  go_wp2_with fail
  refine (HI.out _).mono ?_
  rintro e w1 ⟨rfl, hb1⟩
  have hrow := Row.belowS (row_new w _ _) hb1 (Nat.le_refl _)
  have x0 := hrow.cellQ 0 _ rfl
  have x1 := hrow.cellQ 1 _ rfl
  have HB := Lib.hid (bt ((Below.refl _ w).alloc (Nat.le_refl _) _) hb1)
  clear hrow hb1
  go_wp2
  go_ret
  exact ⟨rfl, HB.out⟩
theorem done_err (A : Option Addr) (n c : Nat) (at_ x : Int) (w : World) (hx : x ≠ 0) : Calls Tryz.prog 71 #[rv A n c at_ x] w fun e w' => e = .returned (.int .i64 x) ∧ Below w.heap.size w w' := by
 have b1 : (x == 0) = false := beq_eq_false_iff_ne.2 hx
 clear hx
 go_enter Tryz.func71, Tryz.ntmps71
 go_wp2
 go_ret
 exact ⟨rfl, (Below.refl _ w).alloc (Nat.le_refl _) _⟩
def StartPost (at_ x : Int) (l : List UInt8) (w : World) (e : Ending) (w' : World) : Prop := ∃ A n c, e = .returned (rv A n c at_ x) ∧ Own8 w' w.heap.size A n c l ∧ Below w.heap.size w w'
theorem start_ok (A : Option Addr) (n c : Nat) (at_ : Nat) (l : List UInt8) (w : World) (h : Bs w A n c l) (hn : n ≤ 140737488355328) (hat : at_ ≤ n) :
  Calls Tryz.prog 118 #[rv A n c (at_ : Int) 0] w (StartPost at_ 0 l w) := by
 go_enter Tryz.func118, Tryz.ntmps118
 go_wp2_with fail
 obtain ⟨W0, hW0⟩ : ∃ W, (w.alloc (.cells #[.slice A n c, .int .i64 (at_ : Int), .int .i64 0] 113)).alloc (.cells #[.slice none 0 0, .int .i64 0, .int .i64 0] 113) = W := ⟨_, rfl⟩
 have hs1 : (w.alloc (.cells #[.slice A n c, .int .i64 (at_ : Int), .int .i64 0] 113)).heap.size = w.heap.size + 1 := by unfold World.alloc; simp
 have hbox : Row W0 w.heap.size #[.slice A n c, .int .i64 (at_ : Int), .int .i64 0] 113 := by rw [← hW0]; exact (row_new w _ _).alloc _
 have hres : Row W0 (w.heap.size + 1) #[.slice none 0 0, .int .i64 0, .int .i64 0] 113 := by rw [← hW0, ← hs1]; exact row_new _ _ _
 have hb0 : Below w.heap.size w W0 := by rw [← hW0]; exact ((Below.refl _ w).alloc (Nat.le_refl _) _).alloc (by rw [hs1]; omega) _
 rw [hW0]
 refine (fresh_any A n c l W0 (h.keep hb0) hn).mono ?_
 rintro e w1 ⟨A1, n1, c1, rfl, ho1, hb1⟩
 have hn1 : n1 = n := by have a := ho1.len; have b := h.len; omega
 subst hn1
 have hbox1 := hbox.belowS hb1 (Nat.le_refl _)
 have hres1 := hres.belowS hb1 (Nat.le_refl _)
 have HRES := Lib.hid hres1
 have HBX := Lib.hid hbox1
 have ho2 := ho1.base (show w.heap.size + 2 ≤ W0.heap.size from hres.lt)
 have HB1 := Lib.hid (bt hb0 hb1)
 have x0 := hbox1.cellQ 0 _ rfl
 have x1 := hbox1.cellQ 1 _ rfl
 have x2 := hbox1.cellQ 2 _ rfl
 have y0 := hbox1.frozen 0
 clear hW0 hs1 hbox hres hb0 hb1 hbox1 hres1 ho1
 go_wp2_with fail
 generalize hwd : World.setCell w1 _ _ = wd
 have hin := inside_any A1 n1 c1 at_ 0 wd hat ho2.cap ho2.max
 refine hin.mono ?_
 rintro e w2 ⟨rfl, hb2⟩
 have hbx2 : Row wd w.heap.size #[.slice A1 n1 c1, .int .i64 (at_ : Int), .int .i64 0] 113 := by rw [← hwd]; exact HBX.out.set 0 _
 have hrs2 : Row wd (w.heap.size + 1) #[.slice none 0 0, .int .i64 0, .int .i64 0] 113 := by rw [← hwd]; exact HRES.out.far _ _ _ (by omega)
 have hbd : Below w.heap.size w wd := by rw [← hwd]; exact HB1.out.setCell (Nat.le_refl _) _
 have ho3 : Own8 wd (w.heap.size + 2) A1 n1 c1 l := by rw [← hwd]; exact ⟨own_setFrom ho2.own (by omega) [_] 0, ho2.len, ho2.cap, ho2.max⟩
 have hbx3 := hbx2.belowS hb2 (Nat.le_refl _)
 have hrs3 := hrs2.belowS hb2 (Nat.le_refl _)
 have HRS := Lib.hid hrs3
 have HB2 := Lib.hid (bt hbd hb2)
 have ho4 := ho3.keep hb2
 clear x0 x1 x2 y0 hwd hin hbx2 hrs2 hbd ho3 hb2
 have x0 := hbx3.cellQ 0 _ rfl
 have x1 := hbx3.cellQ 1 _ rfl
 have x2 := hbx3.cellQ 2 _ rfl
 have z0 := hrs3.frozen 0
 have z1 := hrs3.frozen 1
 have z2 := hrs3.frozen 2
 have v0 := hrs3.cellQ 0 _ rfl
 have v1 := hrs3.cellQ 1 _ rfl
 have v2 := hrs3.cellQ 2 _ rfl
 clear hbx3 hrs3
 go_wp2
 generalize hwf : World.setCell (World.setCell (World.setCell w2 _ _) _ _) _ _ = wf
 have hsf : setFrom (w.heap.size + 1) w2 0 [.slice A1 n1 c1, .int .i64 (at_ : Int), .int .i64 0] = wf := by rw [← hwf]; rfl
 have hrow := HRS.out.all [.slice A1 n1 c1, .int .i64 (at_ : Int), .int .i64 0] rfl
 rw [hsf] at hrow
 have r0 := hrow.cellQ 0 _ rfl
 have r1 := hrow.cellQ 1 _ rfl
 have r2 := hrow.cellQ 2 _ rfl
 refine bodyPost_ret (v := rv A1 n1 c1 (at_ : Int) 0) (by simp [results, Tryz.results118, go_sem, r0, r1, r2]) rfl ?_
 exact ⟨A1, n1, c1, rfl, by rw [← hsf]; exact ⟨own_base (own_setFrom ho4.own (by omega) _ 0) (by omega), ho4.len, ho4.cap, ho4.max⟩, by rw [← hsf]; exact below_setFrom (by omega) _ 0 HB2.out⟩
theorem start_err (A : Option Addr) (n c : Nat) (at_ x : Int) (l : List UInt8) (w : World) (h : Bs w A n c l) (hn : n ≤ 140737488355328) (hx : x ≠ 0) :
  Calls Tryz.prog 118 #[rv A n c at_ x] w (StartPost at_ x l w) := by
 have b1 : (x == 0) = false := beq_eq_false_iff_ne.2 hx
 clear hx
 go_enter Tryz.func118, Tryz.ntmps118
 go_wp2_with fail
 obtain ⟨W0, hW0⟩ : ∃ W, (w.alloc (.cells #[.slice A n c, .int .i64 at_, .int .i64 x] 113)).alloc (.cells #[.slice none 0 0, .int .i64 0, .int .i64 0] 113) = W := ⟨_, rfl⟩
 have hs1 : (w.alloc (.cells #[.slice A n c, .int .i64 at_, .int .i64 x] 113)).heap.size = w.heap.size + 1 := by unfold World.alloc; simp
 have hbox : Row W0 w.heap.size #[.slice A n c, .int .i64 at_, .int .i64 x] 113 := by rw [← hW0]; exact (row_new w _ _).alloc _
 have hres : Row W0 (w.heap.size + 1) #[.slice none 0 0, .int .i64 0, .int .i64 0] 113 := by rw [← hW0, ← hs1]; exact row_new _ _ _
 have hb0 : Below w.heap.size w W0 := by rw [← hW0]; exact ((Below.refl _ w).alloc (Nat.le_refl _) _).alloc (by rw [hs1]; omega) _
 rw [hW0]
 refine (fresh_any A n c l W0 (h.keep hb0) hn).mono ?_
 rintro e w1 ⟨A1, n1, c1, rfl, ho1, hb1⟩
 have hn1 : n1 = n := by have a := ho1.len; have b := h.len; omega
 subst hn1
 have hbox1 := hbox.belowS hb1 (Nat.le_refl _)
 have hres1 := hres.belowS hb1 (Nat.le_refl _)
 have HRES := Lib.hid hres1
 have HBX := Lib.hid hbox1
 have ho2 := ho1.base (show w.heap.size + 2 ≤ W0.heap.size from hres.lt)
 have HB1 := Lib.hid (bt hb0 hb1)
 have x0 := hbox1.cellQ 0 _ rfl
 have x1 := hbox1.cellQ 1 _ rfl
 have x2 := hbox1.cellQ 2 _ rfl
 have y0 := hbox1.frozen 0
 clear hW0 hs1 hbox hres hb0 hb1 hbox1 hres1 ho1
 have hrs := HRES.out
 have z0 := hrs.frozen 0
 have z1 := hrs.frozen 1
 have z2 := hrs.frozen 2
 have v0 := hrs.cellQ 0 _ rfl
 have v1 := hrs.cellQ 1 _ rfl
 have v2 := hrs.cellQ 2 _ rfl
 clear hrs
 go_wp2
 generalize hwf : World.setCell (World.setCell (World.setCell (World.setCell w1 _ _) _ _) _ _) _ _ = wf
 have hsf : setFrom (w.heap.size + 1) (w1.setCell ⟨w.heap.size, 0, none⟩ (.slice A1 n1 c1)) 0 [.slice A1 n1 c1, .int .i64 at_, .int .i64 x] = wf := by rw [← hwf]; rfl
 have hrow := (HRES.out.far w.heap.size 0 (.slice A1 n1 c1) (by omega)).all [.slice A1 n1 c1, .int .i64 at_, .int .i64 x] rfl
 rw [hsf] at hrow
 have r0 := hrow.cellQ 0 _ rfl
 have r1 := hrow.cellQ 1 _ rfl
 have r2 := hrow.cellQ 2 _ rfl
 refine bodyPost_ret (v := rv A1 n1 c1 at_ x) (by simp [results, Tryz.results118, go_sem, r0, r1, r2]) rfl ?_
 exact ⟨A1, n1, c1, rfl, by rw [← hsf]; exact ⟨own_base (own_setFrom (own_setFrom ho2.own (by omega) [_] 0) (by omega) _ 0) (by omega), ho2.len, ho2.cap, ho2.max⟩, by rw [← hsf]; exact below_setFrom (by omega) _ 0 (HB1.out.setCell (Nat.le_refl _) _)⟩
end Go.Proofs.YteoledjllpgcbaaGreatDoor
