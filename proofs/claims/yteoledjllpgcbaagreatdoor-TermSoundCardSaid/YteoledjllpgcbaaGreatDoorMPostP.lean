/- MPostP: several texts of this claim in one file. No statement of the seat is proved here. -/
import Derived.Test.YteoledjllpgcbaaGreatDoorMCode
namespace Go.Proofs.YteoledjllpgcbaaGreatDoor.Post
set_option maxRecDepth 100000
set_option maxHeartbeats 64000000
set_option linter.unusedVariables false
open Go.Proofs.YteoledjllpgcbaaGreatDoor.Code (num getNum getNum_num getNum_ok num_len9 num_pos)
def rightFrom (p : Int) : List Int → Bool
 | [] => true
 | x :: t => decide (p < x) && decide (x < 1000) && rightFrom x t
def right (l : List Int) : Bool := rightFrom (-1) l
theorem rightFrom_iff : ∀ (l : List Int) (p : Int), rightFrom p l = true ↔ (∀ x ∈ l, p < x ∧ x < 1000) ∧ l.Pairwise (· < ·)
 | [], p => by simp [rightFrom]
 | x :: t, p => by
  rw [rightFrom, Bool.and_eq_true, Bool.and_eq_true, decide_eq_true_eq, decide_eq_true_eq, rightFrom_iff t x, List.pairwise_cons]
  constructor
  ·
   rintro ⟨⟨h1, h2⟩, h3, h4⟩
   refine ⟨fun y hy => ?_, fun y hy => (h3 y hy).1, h4⟩
   rcases List.mem_cons.1 hy with rfl | hy
   · exact ⟨h1, h2⟩
   · have := h3 y hy; omega
  ·
   rintro ⟨h1, h2, h3⟩
   have hx := h1 x (by simp)
   exact ⟨hx, fun y hy => ⟨h2 y hy, (h1 y (by simp [hy])).2⟩, h3⟩
theorem right_iff (l : List Int) : right l = true ↔ (∀ x ∈ l, 0 ≤ x ∧ x < 1000) ∧ l.Pairwise (· < ·) := by
 unfold right
 rw [rightFrom_iff]
 constructor
 · rintro ⟨h1, h2⟩; exact ⟨fun x hx => by have := h1 x hx; omega, h2⟩
 · rintro ⟨h1, h2⟩; exact ⟨fun x hx => by have := h1 x hx; omega, h2⟩
theorem rightFrom_len : ∀ (l : List Int) (p : Int), rightFrom p l = true → -1 ≤ p → p ≤ 999 → l.length ≤ (999 - p).toNat
 | [], p, _, _, _ => by simp
 | x :: t, p, h, h0, h1 => by
  rw [rightFrom, Bool.and_eq_true, Bool.and_eq_true, decide_eq_true_eq, decide_eq_true_eq] at h
  have := rightFrom_len t x h.2 (by omega) (by omega)
  rw [List.length_cons]; omega
theorem right_len {l : List Int} (h : right l = true) : l.length ≤ 1000 := by
 have := rightFrom_len l (-1) h (by omega) (by omega)
 omega
def gapsFrom (p : Int) : List Int → List UInt8
 | [] => []
 | x :: t => num (x - p - 1).toNat ++ gapsFrom x t
def write (l : List Int) : List UInt8 := num l.length ++ gapsFrom (-1) l
def readItems : Nat → Int → List UInt8 → Except Nat (List Int × Nat)
 | 0, _, _ => .ok ([], 0)
 | n + 1, p, b =>
  match getNum b with
  | .error e => .error e
  | .ok (g, k) => if 998 - p < (g : Int) then .error 2 else
   match readItems n (p + g + 1) (b.drop k) with
   | .error e => .error e
   | .ok (l, m) => .ok ((p + g + 1) :: l, k + m)
def parse (b : List UInt8) : Except Nat (List Int × Nat) :=
 match getNum b with
 | .error e => .error e
 | .ok (many, k) => if 1000 < many then .error 2 else
  match readItems many (-1) (b.drop k) with
  | .error e => .error e
  | .ok (l, m) => .ok (l, k + m)
def read (b : List UInt8) : Except Nat (List Int) :=
 match parse b with
 | .error e => .error e
 | .ok (l, n) => if n < b.length then .error 2 else .ok l
theorem items_gaps : ∀ (l : List Int) (p : Int) (rest : List UInt8), rightFrom p l = true → -1 ≤ p → readItems l.length p (gapsFrom p l ++ rest) = .ok (l, (gapsFrom p l).length)
 | [], p, rest, _, _ => rfl
 | x :: t, p, rest, h, hp => by
  rw [rightFrom, Bool.and_eq_true, Bool.and_eq_true, decide_eq_true_eq, decide_eq_true_eq] at h
  obtain ⟨⟨h1, h2⟩, h3⟩ := h
  rw [List.length_cons, readItems, gapsFrom, List.append_assoc, getNum_num _ _ (by omega)]
  simp only
  have e : p + ((x - p - 1).toNat : Int) + 1 = x := by omega
  rw [if_neg (by omega), List.drop_left, e, items_gaps t x rest h3 (by omega)]
  simp
theorem parse_write {l : List Int} (h : right l = true) (rest : List UInt8) : parse (write l ++ rest) = .ok (l, (write l).length) := by
 have hl := right_len h
 unfold parse write
 rw [List.append_assoc, getNum_num _ _ (by omega)]
 simp only
 rw [if_neg (by omega), List.drop_left, items_gaps l (-1) rest h (by omega)]
 simp
theorem read_write {l : List Int} (h : right l = true) : read (write l) = .ok l := by
 have := parse_write h []
 rw [List.append_nil] at this
 unfold read
 rw [this]
 simp
theorem gaps_len : ∀ (l : List Int) (p : Int), rightFrom p l = true → -1 ≤ p → (gapsFrom p l).length ≤ 9 * l.length
 | [], p, _, _ => by simp [gapsFrom]
 | x :: t, p, h, hp => by
  rw [rightFrom, Bool.and_eq_true, Bool.and_eq_true, decide_eq_true_eq, decide_eq_true_eq] at h
  have h1 := gaps_len t x h.2 (by omega)
  have h2 := num_len9 (x - p - 1).toNat (by omega)
  rw [gapsFrom, List.length_append, List.length_cons]; omega
theorem write_len {l : List Int} (h : right l = true) : (write l).length ≤ 9009 := by
 have h1 := gaps_len l (-1) h (by omega)
 have h2 := right_len h
 have h3 := num_len9 l.length (by omega)
 unfold write; rw [List.length_append]; omega
/-! ### Sets -/
def ifs (c : Bool) (x : Int) (l : List Int) : List Int := if c then x :: l else l
def pickM (keep : Int → Bool → Bool → Bool) (a b : List Int) : List Int :=
 match a, b with
 | [], [] => []
 | x :: s, [] => ifs (keep x true false) x (pickM keep s [])
 | [], y :: t => ifs (keep y false true) y (pickM keep [] t)
 | x :: s, y :: t =>
  if x < y then ifs (keep x true false) x (pickM keep s (y :: t))
  else if y < x then ifs (keep y false true) y (pickM keep (x :: s) t)
  else ifs (keep x true true) x (pickM keep s t)
termination_by a.length + b.length
decreasing_by all_goals simp <;> omega
def good (l : List Int) : List Int := if right l then l else []
theorem good_of {l : List Int} (h : right l = true) : good l = l := by unfold good; rw [if_pos h]
def pick (keep : Int → Bool → Bool → Bool) (a b : List Int) : List Int := pickM keep (good a) (good b)
end Go.Proofs.YteoledjllpgcbaaGreatDoor.Post
namespace Go.Proofs.YteoledjllpgcbaaGreatDoor
set_option maxRecDepth 100000
set_option maxHeartbeats 64000000
set_option linter.unusedVariables false
open Go.RowKit
structure Zs (w : World) (A : Option Addr) (n c : Nat) (l : List Int) : Prop where
 rd : Rd w w.heap.size A (l.map iv)
 len : l.length = n
 cap : n ≤ c
 max : c ≤ maxLen
 wf : ∀ z ∈ l, -9223372036854775808 ≤ z ∧ z ≤ 9223372036854775807
theorem Zs.keep {w w' : World} {A : Option Addr} {n c : Nat} {l : List Int} (h : Zs w A n c l) (hb : Below w.heap.size w w') : Zs w' A n c l := ⟨(h.rd.below' hb (Nat.le_refl _)).more hb.size, h.len, h.cap, h.max, h.wf⟩
theorem Zs.nil (w : World) : Zs w none 0 0 [] := ⟨Rd.nil, rfl, Nat.le_refl _, Nat.zero_le _, by simp⟩
theorem Zs.at {w : World} {A : Option Addr} {n c : Nat} {l : List Int} (h : Zs w A n c l) {k : Nat} (hk : k < n) : ∃ b off, A = some ⟨b, off, none⟩ ∧ b < w.heap.size ∧ (∀ j z, l[j]? = some z → w.cell? ⟨b, off + j, none⟩ = some (.int .i64 z)) ∧ ∃ z, l[k]? = some z ∧ -9223372036854775808 ≤ z ∧ z ≤ 9223372036854775807 := by
 obtain ⟨b, off, hA, hb, hc⟩ := h.rd (fun e => by
  have h2 := h.len
  have h3 : l = [] := by simpa using e
  rw [h3] at h2
  simp at h2; omega)
 have hz : l[k]? = some (l[k]'(by rw [h.len]; exact hk)) := List.getElem?_eq_getElem (by rw [h.len]; exact hk)
 exact ⟨b, off, hA, hb, fun j z hj => hc j (iv z) (by rw [List.getElem?_map, hj]; rfl), _, hz, h.wf _ (List.mem_of_getElem? hz)⟩
structure OwnZ (w : World) (B : Nat) (A : Option Addr) (n c : Nat) (l : List Int) : Prop where
 own : w.ownsRow B 3 1 (.slice A n c) n (l.map iv)
 len : l.length = n
 cap : n ≤ c
 max : c ≤ maxLen
 wf : ∀ z ∈ l, -9223372036854775808 ≤ z ∧ z ≤ 9223372036854775807
theorem info_int : (Tryz.prog.info? 3).map (fun i => (i.zero, i.size, i.bytes)) = some (some (.int .i64 0), 1, 8) := by kernel_rfl
theorem intsT : ElemT Tryz.prog 43 3 1 8 := ElemT.mk' Tryz.underlying43 info_int rfl (by omega)
section
variable {w w' : World} {B B' n c : Nat} {A : Option Addr} {l : List Int}
theorem OwnZ.keep (h : OwnZ w B A n c l) (hb : Below w.heap.size w w') : OwnZ w' B A n c l := ⟨own_keep h.own hb (Nat.le_refl _), h.len, h.cap, h.max, h.wf⟩
theorem OwnZ.base (h : OwnZ w B A n c l) (hB : B' ≤ B) : OwnZ w B' A n c l := ⟨own_base h.own hB, h.len, h.cap, h.max, h.wf⟩
theorem OwnZ.zs (h : OwnZ w B A n c l) : Zs w A n c l := ⟨Rd.of_own h.own, h.len, h.cap, h.max, h.wf⟩
theorem OwnZ.nil (w : World) (B : Nat) : OwnZ w B none 0 0 [] := ⟨own_nil _ _ _ _, rfl, Nat.le_refl _, Nat.zero_le _, by simp⟩
end
section
variable {ops : Array Oper} {rest : List Oper} {o : Oper} {a : Act} {Q : Exit → Act → World → Prop} {w : World}
theorem wl_appZ1 (hgd : o.guard = none) (s x : Operand) (ho : o.op = .call { callee := .builtin .append, args := #[s, x], argTypes := #[43, 43] })
  {w0 : World} {B : Nat} {A : Option Addr} {n c : Nat} {l : List Int} (hs : a.eval s = .slice A n c) (h1 : OwnZ w0 B A n c l)
  (z : Int) (hx : a.eval x = .slice (some ⟨w0.heap.size, 0, none⟩) 1 1) (hz : -9223372036854775808 ≤ z ∧ z ≤ 9223372036854775807) (hsz : n ≤ 1000000000000) (hB : B ≤ w0.heap.size)
  (h : ∀ A' n' c' w', OwnZ w' B A' n' c' (l ++ [z]) → Below B w0 w' → (∀ B2 A2 n2 c2 l2, Own8 w0 B2 A2 n2 c2 l2 → Own8 w' B2 A2 n2 c2 l2) → wpList Tryz.prog ops Q rest (a.put o.dst (.slice A' n' c')) w') : wpList Tryz.prog ops Q (o :: rest) a (w0.alloc (.cells #[.int .i64 z] 3)) := by
 have hb0 : Below w0.heap.size w0 (w0.alloc (.cells #[.int .i64 z] 3)) := (Below.refl _ w0).alloc (Nat.le_refl _) _
 refine wl_app hgd s x 43 ho B 3 1 8 intsT _ n _ hs (h1.keep hb0).own (w0.heap.size + 1) (some ⟨w0.heap.size, 0, none⟩) 1 1 [iv z] hx (rd_new w0 [iv z] 3 (0, 0)) rfl (by simp [iv, Value.oneCell']) (by rw [maxLen_eq]; omega) (by omega) (Nat.le_trans hB hb0.size) fun A' c' w' g1 g2 _ g4 g5 g6 => ?_
 refine h A' (n + 1) c' w' ⟨by rw [List.map_append]; exact g1, by rw [List.length_append, h1.len]; rfl, g5, g6, fun y hy => ?_⟩ ((hb0.mono hB).trans g4) (fun B2 A2 n2 c2 l2 h2 => ⟨own_other (h1.keep hb0).own (h2.keep hb0).own (by decide) g2, h2.len, h2.cap, h2.max⟩)
 rcases List.mem_append.1 hy with hy | hy
 · exact h1.wf y hy
 · rw [List.mem_singleton.1 hy]; exact hz
end
theorem right_step {l : List Int} {k : Nat} {p z : Int} (h : Post.right l = Post.rightFrom p (l.drop k)) (hz : l[k]? = some z) : Post.right l = (decide (p < z) && decide (z < 1000) && Post.rightFrom z (l.drop (k + 1))) := by
 obtain ⟨hk, hzz⟩ := List.getElem?_eq_some_iff.1 hz
 rw [h, List.drop_eq_getElem_cons hk, hzz, Post.rightFrom]
theorem right_any (A : Option Addr) (n c : Nat) (l : List Int) (w : World) (h : Zs w A n c l) :
  Calls Tryz.prog 76 #[.slice A n c] w fun e w' => e = .returned (.bool (Post.right l)) ∧ w = w' := by
 have hm := h.max
 have hcap := h.cap
 rw [maxLen_eq] at hm
 go_enter Tryz.func76, Tryz.ntmps76
 go_wp2
 go_loop [3, 8] (fun vp vi => ∃ (k : Nat) (p : Int), k ≤ n ∧ vp = .int .i64 p ∧ vi = .int .i64 k ∧ -1 ≤ p ∧ p ≤ 999 ∧ Hid (Post.right l = Post.rightFrom p (l.drop k))) (fun _ vi => n - (intOf vi).toNat)
 case atStart => exact ⟨0, -1, by omega, rfl, rfl, by omega, by omega, Lib.hid rfl⟩
 case round =>
  obtain ⟨k, p, hk, rfl, rfl, hp, hp2, hr⟩ := hrel
  by_cases hlt : k < n
  ·
   obtain ⟨b, off, rfl, hb, hcell, z, hz, hz1, hz2⟩ := h.at hlt
   have x0 := hcell k z hz
   have HST := Lib.hid (right_step hr.out hz)
   clear hcell hz
   by_cases h1 : z ≤ p
   ·
    have HF := Lib.hid (show Post.right l = false by rw [HST.out, decide_eq_false (by omega : ¬ p < z)]; rfl)
    go_wp2
    go_ret
    exact ⟨by rw [HF.out]; rfl, rfl⟩
   ·
    by_cases h2 : 1000 ≤ z
    ·
     have HF := Lib.hid (show Post.right l = false by rw [HST.out, decide_eq_false (by omega : ¬ z < 1000), Bool.and_false]; rfl)
     go_wp2
     go_ret
     exact ⟨by rw [HF.out]; rfl, rfl⟩
    ·
     have HN := Lib.hid (show Post.right l = Post.rightFrom z (l.drop (k + 1)) by rw [HST.out, decide_eq_true (by omega : p < z), decide_eq_true (by omega : z < 1000)]; rfl)
     go_wp2
     go_round
     case rel => exact ⟨k + 1, z, by omega, rfl, by go_num, by omega, by omega, HN⟩
     case measure => simp [intOf]; omega
  ·
   obtain rfl : k = n := by omega
   have HF := Lib.hid (show Post.right l = true by rw [hr.out, List.drop_eq_nil_of_le (by rw [h.len]; exact Nat.le_refl _)]; rfl)
   go_wp2
   go_ret
   exact ⟨by rw [HF.out]; rfl, rfl⟩
theorem rright9_any (A : Option Addr) (n c : Nat) (l : List Int) (w : World) (h : Zs w A n c l) :
  Calls Tryz.prog 34 #[.slice A n c] w (RetB (Post.right l) w) := by
 have hm := h.max
 have hcap := h.cap
 rw [maxLen_eq] at hm
 go_enter Tryz.func34, Tryz.ntmps34
 go_wp2
 go_loopw [3] (fun vi wr => ∃ (k : Nat) (p : Int), k ≤ n ∧ vi = .int .i64 k ∧ -1 ≤ p ∧ p ≤ 999 ∧ Hid (Post.right l = Post.rightFrom p (l.drop k)) ∧ Below w.heap.size w wr ∧ Hid ((k = 0 → p = -1) ∧ (0 < k → l[k - 1]? = some p))) (fun vi _ => n - (intOf vi).toNat)
 case atStart => exact ⟨0, -1, by omega, rfl, by omega, by omega, Lib.hid rfl, Below.refl _ _, Lib.hid ⟨fun _ => rfl, fun h => by omega⟩⟩
 case round =>
  obtain ⟨k, p, hk, rfl, hp, hp2, hr, hbel, hprev⟩ := hrel
  have HB := Lib.hid hbel
  clear hbel
  by_cases hlt : k < n
  ·
   obtain ⟨b, off, rfl, hb, hcell, z, hz, hz1, hz2⟩ := h.at hlt
   have HX := Lib.hid (show ∀ W, Below wr.heap.size wr W → W.cell? ⟨b, off + k, none⟩ = some (.int .i64 z) from fun W hW => ((bt HB.out hW).cell (p := ⟨b, off + k, none⟩) hb).trans (hcell k z hz))
   have HST := Lib.hid (right_step hr.out hz)
   have HZ := Lib.hid hz
   have HCELL := Lib.hid hcell
   clear hcell hz
   have kz : (0 : Int) ≤ (k : Int) := by omega
   have kn : (k : Int) < (n : Int) := by omega
   by_cases h0 : z < 0
   ·
    have HF := Lib.hid (show Post.right l = false by
     rw [HST.out]
     by_cases hpz : p < z
     · exact absurd hpz (by omega)
     · rw [decide_eq_false hpz]; rfl)
    go_wp2_with fail
    refine Free.wp_free_l 28 (fun W => Below wr.heap.size wr W) [Free.kc (.slice (some ⟨b, off, none⟩) n c), Free.kc (.int .i64 (k : Int)), Free.kc (.pointer (some ⟨b, off + k, none⟩)), Free.kc (.int .i64 z), Free.kc (.bool true), Free.kc (.bool true), Free.kc (undef), Free.kc (undef), Free.kc (undef), Free.kc (undef), Free.kc (undef), Free.kc (.bool true), Free.kc (.bool true), Free.kc (undef), Free.kc (undef), Free.kc (undef), Free.kc (undef), Free.kc (undef), Free.kc (undef), Free.kc (undef), Free.kc (undef), Free.kc (undef), Free.kc (undef), Free.kc (undef), Free.kc (undef), Free.kc (undef), Free.kc (undef), Free.kc (.bool true)] (by kernel_rfl) (by kernel_rfl) (by decide) (Below.refl _ _).drew (fun w w' h g => bt h g) ?_ ?_
    ·
     iterate 28 refine Free.forall_succ ?_ ?_
     all_goals first | exact Free.forall_zero | (refine Free.op fun vals wq hC hd => ?_) | skip
     · exact Free.dm
     · exact Free.dm
     · exact Free.d_indexAddr rfl (Free.tr 0 hd) (Free.tr 1 hd) (run_idx 43 Tryz.underlying43 (by kernel_rfl) _ _ _ _ _ _ (by omega) (by omega)) rfl
     · exact Free.d_load rfl (Free.tr 2 hd) (by have hcc := HX.out wq hC; go_simp) rfl
     · exact Free.d_bin rfl (Free.tr 3 hd) (show _ = (.int .i64 0 : Value) from rfl) (by go_simp) (by go_simp) rfl
     · exact Free.d_move rfl (Free.tr 4 hd) rfl
     · exact Free.skl 5 15 false
     · exact Free.skl 5 15 false
     · exact Free.skl 5 15 false
     · exact Free.skl 5 15 false
     · exact Free.skl 5 15 false
     · exact Free.d_pick rfl (Eq.trans (b := vals 5) (by kernel_rfl) (hd 5 (by kernel_rfl))) rfl rfl
     · exact Free.d_move rfl (Free.tr 11 hd) rfl
     · exact Free.skl 12 22 false
     · exact Free.skl 12 22 false
     · exact Free.skl 12 22 false
     · exact Free.skr 15 25 true
     · exact Free.skr 15 25 true
     · exact Free.skr 15 25 true
     · exact Free.skr 15 25 true
     · exact Free.skr 15 25 true
     · exact Free.skr 15 25 true
     · exact Free.skr 15 25 true
     · exact Free.skr 15 25 true
     · exact Free.skr 15 25 true
     · exact Free.skr 15 25 true
     · exact Free.skl 12 22 false
     · exact Free.d_pick rfl (Eq.trans (b := vals 12) (by kernel_rfl) (hd 12 (by kernel_rfl))) rfl rfl
    ·
     intro vals wq hC hd
     refine Free.go hd ?_
     rintro _ rfl _ rfl _ rfl _ rfl _ rfl _ rfl _ rfl _ rfl _ rfl _ rfl _ rfl _ rfl _ rfl _ rfl _ rfl _ rfl _ rfl _ rfl _ rfl _ rfl _ rfl _ rfl _ rfl _ rfl _ rfl _ rfl _ rfl _ rfl
     simp only [Free.All, Free.fl, Act.put, Free.sa, Free.s0, Free.s1]
     refine wpList_nil ?_
     clear hd
     have HBQ := Lib.hid (bt HB.out hC)
     clear hC
     go_wp2
     go_ret
     exact ⟨by rw [HF.out]; rfl, HBQ.out⟩
   ·
    by_cases h1 : 999 < z
    ·
     have HF := Lib.hid (show Post.right l = false by rw [HST.out, decide_eq_false (by omega : ¬ z < 1000), Bool.and_false]; rfl)
     have h0' : 0 ≤ z := by omega
     go_wp2_with fail
     refine Free.wp_free_l 28 (fun W => Below wr.heap.size wr W) [Free.kc (.slice (some ⟨b, off, none⟩) n c), Free.kc (.int .i64 (k : Int)), Free.kc (.pointer (some ⟨b, off + k, none⟩)), Free.kc (.int .i64 z), Free.kc (.bool false), Free.kc (.bool false), Free.kc (.slice (some ⟨b, off, none⟩) n c), Free.kc (.int .i64 (k : Int)), Free.kc (.pointer (some ⟨b, off + k, none⟩)), Free.kc (.int .i64 z), Free.kc (.bool true), Free.kc (.bool true), Free.kc (.bool true), Free.kc (undef), Free.kc (undef), Free.kc (undef), Free.kc (undef), Free.kc (undef), Free.kc (undef), Free.kc (undef), Free.kc (undef), Free.kc (undef), Free.kc (undef), Free.kc (undef), Free.kc (undef), Free.kc (undef), Free.kc (undef), Free.kc (.bool true)] (by kernel_rfl) (by kernel_rfl) (by decide) (Below.refl _ _).drew (fun w w' h g => bt h g) ?_ ?_
     ·
      iterate 28 refine Free.forall_succ ?_ ?_
      all_goals first | exact Free.forall_zero | (refine Free.op fun vals wq hC hd => ?_) | skip
      · exact Free.dm
      · exact Free.dm
      · exact Free.d_indexAddr rfl (Free.tr 0 hd) (Free.tr 1 hd) (run_idx 43 Tryz.underlying43 (by kernel_rfl) _ _ _ _ _ _ (by omega) (by omega)) rfl
      · exact Free.d_load rfl (Free.tr 2 hd) (by have hcc := HX.out wq hC; go_simp) rfl
      · exact Free.d_bin rfl (Free.tr 3 hd) (show _ = (.int .i64 0 : Value) from rfl) (by go_simp) (by go_simp) rfl
      · exact Free.d_move rfl (Free.tr 4 hd) rfl
      · refine Free.og 5 15 false fun vals wq hC hd => ?_; exact Free.d_move rfl (by kernel_rfl) rfl
      · refine Free.og 5 15 false fun vals wq hC hd => ?_; exact Free.d_move rfl (by kernel_rfl) rfl
      · refine Free.og 5 15 false fun vals wq hC hd => ?_; exact Free.d_indexAddr rfl (Free.tr 6 hd) (Free.tr 7 hd) (run_idx 43 Tryz.underlying43 (by kernel_rfl) _ _ _ _ _ _ (by omega) (by omega)) rfl
      · refine Free.og 5 15 false fun vals wq hC hd => ?_; exact Free.d_load rfl (Free.tr 8 hd) (by have hcc := HX.out wq hC; go_simp) rfl
      · refine Free.og 5 15 false fun vals wq hC hd => ?_; exact Free.d_bin rfl (Free.tr 9 hd) (show _ = (.int .i64 999 : Value) from rfl) (by go_simp) (by go_simp) rfl
      · exact Free.d_pick rfl (Eq.trans (b := vals 5) (by kernel_rfl) (hd 5 (by kernel_rfl))) (Eq.trans (b := vals 10) (by kernel_rfl) (hd 10 (by kernel_rfl))) rfl
      · exact Free.d_move rfl (Free.tr 11 hd) rfl
      · exact Free.skl 12 22 false
      · exact Free.skl 12 22 false
      · exact Free.skl 12 22 false
      · exact Free.skr 15 25 true
      · exact Free.skr 15 25 true
      · exact Free.skr 15 25 true
      · exact Free.skr 15 25 true
      · exact Free.skr 15 25 true
      · exact Free.skr 15 25 true
      · exact Free.skr 15 25 true
      · exact Free.skr 15 25 true
      · exact Free.skr 15 25 true
      · exact Free.skr 15 25 true
      · exact Free.skl 12 22 false
      · exact Free.d_pick rfl (Eq.trans (b := vals 12) (by kernel_rfl) (hd 12 (by kernel_rfl))) rfl rfl
     ·
      intro vals wq hC hd
      refine Free.go hd ?_
      rintro _ rfl _ rfl _ rfl _ rfl _ rfl _ rfl _ rfl _ rfl _ rfl _ rfl _ rfl _ rfl _ rfl _ rfl _ rfl _ rfl _ rfl _ rfl _ rfl _ rfl _ rfl _ rfl _ rfl _ rfl _ rfl _ rfl _ rfl _ rfl
      simp only [Free.All, Free.fl, Act.put, Free.sa, Free.s0, Free.s1]
      refine wpList_nil ?_
      clear hd
      have HBQ := Lib.hid (bt HB.out hC)
      clear hC
      go_wp2
      go_ret
      exact ⟨by rw [HF.out]; rfl, HBQ.out⟩
    ·
     have h0' : 0 ≤ z := by omega
     have h1' : z ≤ 999 := by omega
     by_cases hk0 : 0 < k
     ·
      have HP := Lib.hid (show ∀ W, Below wr.heap.size wr W → W.cell? ⟨b, off + (k - 1), none⟩ = some (.int .i64 p) from fun W hW => ((bt HB.out hW).cell (p := ⟨b, off + (k - 1), none⟩) hb).trans (HCELL.out (k - 1) p (hprev.out.2 hk0)))
      have k1 : (0 : Int) < (k : Int) := by omega
      have k2 : (0 : Int) ≤ (k : Int) - 1 := by omega
      have k3 : (k : Int) - 1 < (n : Int) := by omega
      by_cases h2 : z ≤ p
      ·
       have HF := Lib.hid (show Post.right l = false by rw [HST.out, decide_eq_false (by omega : ¬ p < z)]; rfl)
       go_wp2_with fail
       refine Free.wp_free_l 28 (fun W => Below wr.heap.size wr W) [Free.kc (.slice (some ⟨b, off, none⟩) n c), Free.kc (.int .i64 (k : Int)), Free.kc (.pointer (some ⟨b, off + k, none⟩)), Free.kc (.int .i64 z), Free.kc (.bool false), Free.kc (.bool false), Free.kc (.slice (some ⟨b, off, none⟩) n c), Free.kc (.int .i64 (k : Int)), Free.kc (.pointer (some ⟨b, off + k, none⟩)), Free.kc (.int .i64 z), Free.kc (.bool false), Free.kc (.bool false), Free.kc (.bool false), Free.kc (.int .i64 (k : Int)), Free.kc (.bool true), Free.kc (.bool true), Free.kc (.slice (some ⟨b, off, none⟩) n c), Free.kc (.int .i64 (k : Int)), Free.kc (.pointer (some ⟨b, off + k, none⟩)), Free.kc (.int .i64 z), Free.kc (.slice (some ⟨b, off, none⟩) n c), Free.kc (.int .i64 (k : Int)), Free.kc (.int .i64 ((k : Int) - 1)), Free.kc (.pointer (some ⟨b, off + (k - 1), none⟩)), Free.kc (.int .i64 p), Free.kc (.bool true), Free.kc (.bool true), Free.kc (.bool true)] (by kernel_rfl) (by kernel_rfl) (by decide) (Below.refl _ _).drew (fun w w' h g => bt h g) ?_ ?_
       ·
        iterate 28 refine Free.forall_succ ?_ ?_
        all_goals first | exact Free.forall_zero | (refine Free.op fun vals wq hC hd => ?_) | skip
        · exact Free.dm
        · exact Free.dm
        · exact Free.d_indexAddr rfl (Free.tr 0 hd) (Free.tr 1 hd) (run_idx 43 Tryz.underlying43 (by kernel_rfl) _ _ _ _ _ _ (by omega) (by omega)) rfl
        · exact Free.d_load rfl (Free.tr 2 hd) (by have hcc := HX.out wq hC; go_simp) rfl
        · exact Free.d_bin rfl (Free.tr 3 hd) (show _ = (.int .i64 0 : Value) from rfl) (by go_simp) (by go_simp) rfl
        · exact Free.d_move rfl (Free.tr 4 hd) rfl
        · refine Free.og 5 15 false fun vals wq hC hd => ?_; exact Free.d_move rfl (by kernel_rfl) rfl
        · refine Free.og 5 15 false fun vals wq hC hd => ?_; exact Free.d_move rfl (by kernel_rfl) rfl
        · refine Free.og 5 15 false fun vals wq hC hd => ?_; exact Free.d_indexAddr rfl (Free.tr 6 hd) (Free.tr 7 hd) (run_idx 43 Tryz.underlying43 (by kernel_rfl) _ _ _ _ _ _ (by omega) (by omega)) rfl
        · refine Free.og 5 15 false fun vals wq hC hd => ?_; exact Free.d_load rfl (Free.tr 8 hd) (by have hcc := HX.out wq hC; go_simp) rfl
        · refine Free.og 5 15 false fun vals wq hC hd => ?_; exact Free.d_bin rfl (Free.tr 9 hd) (show _ = (.int .i64 999 : Value) from rfl) (by go_simp) (by go_simp) rfl
        · exact Free.d_pick rfl (Eq.trans (b := vals 5) (by kernel_rfl) (hd 5 (by kernel_rfl))) (Eq.trans (b := vals 10) (by kernel_rfl) (hd 10 (by kernel_rfl))) rfl
        · exact Free.d_move rfl (Free.tr 11 hd) rfl
        · refine Free.og 12 22 false fun vals wq hC hd => ?_; exact Free.d_move rfl (by kernel_rfl) rfl
        · refine Free.og 12 22 false fun vals wq hC hd => ?_; exact Free.d_bin rfl (Free.tr 13 hd) (show _ = (.int .i64 0 : Value) from rfl) (by go_simp) (by go_simp) rfl
        · refine Free.og 12 22 false fun vals wq hC hd => ?_; exact Free.d_move rfl (Free.tr 14 hd) rfl
        · refine Free.og 15 25 true fun vals wq hC hd => ?_; exact Free.d_move rfl (by kernel_rfl) rfl
        · refine Free.og 15 25 true fun vals wq hC hd => ?_; exact Free.d_move rfl (by kernel_rfl) rfl
        · refine Free.og 15 25 true fun vals wq hC hd => ?_; exact Free.d_indexAddr rfl (Free.tr 16 hd) (Free.tr 17 hd) (run_idx 43 Tryz.underlying43 (by kernel_rfl) _ _ _ _ _ _ (by omega) (by omega)) rfl
        · refine Free.og 15 25 true fun vals wq hC hd => ?_; exact Free.d_load rfl (Free.tr 18 hd) (by have hcc := HX.out wq hC; go_simp) rfl
        · refine Free.og 15 25 true fun vals wq hC hd => ?_; exact Free.d_move rfl (by kernel_rfl) rfl
        · refine Free.og 15 25 true fun vals wq hC hd => ?_; exact Free.d_move rfl (by kernel_rfl) rfl
        · refine Free.og 15 25 true fun vals wq hC hd => ?_; exact Free.d_bin rfl (Free.tr 21 hd) (show _ = (.int .i64 1 : Value) from rfl) (by go_simp) (by go_simp; exact wrap_id _ (by omega) (by omega)) rfl
        · refine Free.og 15 25 true fun vals wq hC hd => ?_; exact Free.d_indexAddr rfl (Free.tr 20 hd) (Free.tr 22 hd) (run_idx 43 Tryz.underlying43 (by kernel_rfl) _ _ _ _ _ _ (by omega) (by omega)) rfl
        · refine Free.og 15 25 true fun vals wq hC hd => ?_; exact Free.d_load rfl (Free.tr 23 hd) (by have hcc := HP.out wq hC; go_simp) rfl
        · refine Free.og 15 25 true fun vals wq hC hd => ?_; exact Free.d_bin rfl (Free.tr 19 hd) (Free.tr 24 hd) (by go_simp) (by go_simp) rfl
        · refine Free.og 12 22 false fun vals wq hC hd => ?_; exact Free.d_pick rfl (Eq.trans (b := vals 15) (by kernel_rfl) (hd 15 (by kernel_rfl))) (Eq.trans (b := vals 25) (by kernel_rfl) (hd 25 (by kernel_rfl))) rfl
        · exact Free.d_pick rfl (Eq.trans (b := vals 12) (by kernel_rfl) (hd 12 (by kernel_rfl))) (Eq.trans (b := vals 26) (by kernel_rfl) (hd 26 (by kernel_rfl))) rfl
       ·
        intro vals wq hC hd
        refine Free.go hd ?_
        rintro _ rfl _ rfl _ rfl _ rfl _ rfl _ rfl _ rfl _ rfl _ rfl _ rfl _ rfl _ rfl _ rfl _ rfl _ rfl _ rfl _ rfl _ rfl _ rfl _ rfl _ rfl _ rfl _ rfl _ rfl _ rfl _ rfl _ rfl _ rfl
        simp only [Free.All, Free.fl, Act.put, Free.sa, Free.s0, Free.s1]
        refine wpList_nil ?_
        clear hd
        have HBQ := Lib.hid (bt HB.out hC)
        clear hC
        go_wp2
        go_ret
        exact ⟨by rw [HF.out]; rfl, HBQ.out⟩
      ·
       have HN := Lib.hid (show Post.right l = Post.rightFrom z (l.drop (k + 1)) by rw [HST.out, decide_eq_true (by omega : p < z), decide_eq_true (by omega : z < 1000)]; rfl)
       go_wp2_with fail
       refine Free.wp_free_l 28 (fun W => Below wr.heap.size wr W) [Free.kc (.slice (some ⟨b, off, none⟩) n c), Free.kc (.int .i64 (k : Int)), Free.kc (.pointer (some ⟨b, off + k, none⟩)), Free.kc (.int .i64 z), Free.kc (.bool false), Free.kc (.bool false), Free.kc (.slice (some ⟨b, off, none⟩) n c), Free.kc (.int .i64 (k : Int)), Free.kc (.pointer (some ⟨b, off + k, none⟩)), Free.kc (.int .i64 z), Free.kc (.bool false), Free.kc (.bool false), Free.kc (.bool false), Free.kc (.int .i64 (k : Int)), Free.kc (.bool true), Free.kc (.bool true), Free.kc (.slice (some ⟨b, off, none⟩) n c), Free.kc (.int .i64 (k : Int)), Free.kc (.pointer (some ⟨b, off + k, none⟩)), Free.kc (.int .i64 z), Free.kc (.slice (some ⟨b, off, none⟩) n c), Free.kc (.int .i64 (k : Int)), Free.kc (.int .i64 ((k : Int) - 1)), Free.kc (.pointer (some ⟨b, off + (k - 1), none⟩)), Free.kc (.int .i64 p), Free.kc (.bool false), Free.kc (.bool false), Free.kc (.bool false)] (by kernel_rfl) (by kernel_rfl) (by decide) (Below.refl _ _).drew (fun w w' h g => bt h g) ?_ ?_
       ·
        iterate 28 refine Free.forall_succ ?_ ?_
        all_goals first | exact Free.forall_zero | (refine Free.op fun vals wq hC hd => ?_) | skip
        · exact Free.dm
        · exact Free.dm
        · exact Free.d_indexAddr rfl (Free.tr 0 hd) (Free.tr 1 hd) (run_idx 43 Tryz.underlying43 (by kernel_rfl) _ _ _ _ _ _ (by omega) (by omega)) rfl
        · exact Free.d_load rfl (Free.tr 2 hd) (by have hcc := HX.out wq hC; go_simp) rfl
        · exact Free.d_bin rfl (Free.tr 3 hd) (show _ = (.int .i64 0 : Value) from rfl) (by go_simp) (by go_simp) rfl
        · exact Free.d_move rfl (Free.tr 4 hd) rfl
        · refine Free.og 5 15 false fun vals wq hC hd => ?_; exact Free.d_move rfl (by kernel_rfl) rfl
        · refine Free.og 5 15 false fun vals wq hC hd => ?_; exact Free.d_move rfl (by kernel_rfl) rfl
        · refine Free.og 5 15 false fun vals wq hC hd => ?_; exact Free.d_indexAddr rfl (Free.tr 6 hd) (Free.tr 7 hd) (run_idx 43 Tryz.underlying43 (by kernel_rfl) _ _ _ _ _ _ (by omega) (by omega)) rfl
        · refine Free.og 5 15 false fun vals wq hC hd => ?_; exact Free.d_load rfl (Free.tr 8 hd) (by have hcc := HX.out wq hC; go_simp) rfl
        · refine Free.og 5 15 false fun vals wq hC hd => ?_; exact Free.d_bin rfl (Free.tr 9 hd) (show _ = (.int .i64 999 : Value) from rfl) (by go_simp) (by go_simp) rfl
        · exact Free.d_pick rfl (Eq.trans (b := vals 5) (by kernel_rfl) (hd 5 (by kernel_rfl))) (Eq.trans (b := vals 10) (by kernel_rfl) (hd 10 (by kernel_rfl))) rfl
        · exact Free.d_move rfl (Free.tr 11 hd) rfl
        · refine Free.og 12 22 false fun vals wq hC hd => ?_; exact Free.d_move rfl (by kernel_rfl) rfl
        · refine Free.og 12 22 false fun vals wq hC hd => ?_; exact Free.d_bin rfl (Free.tr 13 hd) (show _ = (.int .i64 0 : Value) from rfl) (by go_simp) (by go_simp) rfl
        · refine Free.og 12 22 false fun vals wq hC hd => ?_; exact Free.d_move rfl (Free.tr 14 hd) rfl
        · refine Free.og 15 25 true fun vals wq hC hd => ?_; exact Free.d_move rfl (by kernel_rfl) rfl
        · refine Free.og 15 25 true fun vals wq hC hd => ?_; exact Free.d_move rfl (by kernel_rfl) rfl
        · refine Free.og 15 25 true fun vals wq hC hd => ?_; exact Free.d_indexAddr rfl (Free.tr 16 hd) (Free.tr 17 hd) (run_idx 43 Tryz.underlying43 (by kernel_rfl) _ _ _ _ _ _ (by omega) (by omega)) rfl
        · refine Free.og 15 25 true fun vals wq hC hd => ?_; exact Free.d_load rfl (Free.tr 18 hd) (by have hcc := HX.out wq hC; go_simp) rfl
        · refine Free.og 15 25 true fun vals wq hC hd => ?_; exact Free.d_move rfl (by kernel_rfl) rfl
        · refine Free.og 15 25 true fun vals wq hC hd => ?_; exact Free.d_move rfl (by kernel_rfl) rfl
        · refine Free.og 15 25 true fun vals wq hC hd => ?_; exact Free.d_bin rfl (Free.tr 21 hd) (show _ = (.int .i64 1 : Value) from rfl) (by go_simp) (by go_simp; exact wrap_id _ (by omega) (by omega)) rfl
        · refine Free.og 15 25 true fun vals wq hC hd => ?_; exact Free.d_indexAddr rfl (Free.tr 20 hd) (Free.tr 22 hd) (run_idx 43 Tryz.underlying43 (by kernel_rfl) _ _ _ _ _ _ (by omega) (by omega)) rfl
        · refine Free.og 15 25 true fun vals wq hC hd => ?_; exact Free.d_load rfl (Free.tr 23 hd) (by have hcc := HP.out wq hC; go_simp) rfl
        · refine Free.og 15 25 true fun vals wq hC hd => ?_; exact Free.d_bin rfl (Free.tr 19 hd) (Free.tr 24 hd) (by go_simp) (by go_simp) rfl
        · refine Free.og 12 22 false fun vals wq hC hd => ?_; exact Free.d_pick rfl (Eq.trans (b := vals 15) (by kernel_rfl) (hd 15 (by kernel_rfl))) (Eq.trans (b := vals 25) (by kernel_rfl) (hd 25 (by kernel_rfl))) rfl
        · exact Free.d_pick rfl (Eq.trans (b := vals 12) (by kernel_rfl) (hd 12 (by kernel_rfl))) (Eq.trans (b := vals 26) (by kernel_rfl) (hd 26 (by kernel_rfl))) rfl
       ·
        intro vals wq hC hd
        refine Free.go hd ?_
        rintro _ rfl _ rfl _ rfl _ rfl _ rfl _ rfl _ rfl _ rfl _ rfl _ rfl _ rfl _ rfl _ rfl _ rfl _ rfl _ rfl _ rfl _ rfl _ rfl _ rfl _ rfl _ rfl _ rfl _ rfl _ rfl _ rfl _ rfl _ rfl
        simp only [Free.All, Free.fl, Act.put, Free.sa, Free.s0, Free.s1]
        refine wpList_nil ?_
        clear hd
        have HBQ := Lib.hid (bt HB.out hC)
        clear hC
        go_wp2
        go_roundw
        case rel => exact ⟨k + 1, z, by omega, by go_num, by omega, by omega, HN, HBQ.out, Lib.hid ⟨fun h => by omega, fun h => by rw [Nat.add_sub_cancel]; exact HZ.out⟩⟩
        case measure => simp [intOf]; omega
     ·
      have HN := Lib.hid (show Post.right l = Post.rightFrom z (l.drop (k + 1)) by
       have e := hprev.out.1 (by omega)
       rw [HST.out, decide_eq_true (by omega : p < z), decide_eq_true (by omega : z < 1000)]; rfl)
      have k1 : ¬ ((0 : Int) < (k : Int)) := by omega
      go_wp2_with fail
      refine Free.wp_free_l 28 (fun W => Below wr.heap.size wr W) [Free.kc (.slice (some ⟨b, off, none⟩) n c), Free.kc (.int .i64 (k : Int)), Free.kc (.pointer (some ⟨b, off + k, none⟩)), Free.kc (.int .i64 z), Free.kc (.bool false), Free.kc (.bool false), Free.kc (.slice (some ⟨b, off, none⟩) n c), Free.kc (.int .i64 (k : Int)), Free.kc (.pointer (some ⟨b, off + k, none⟩)), Free.kc (.int .i64 z), Free.kc (.bool false), Free.kc (.bool false), Free.kc (.bool false), Free.kc (.int .i64 (k : Int)), Free.kc (.bool false), Free.kc (.bool false), Free.kc (undef), Free.kc (undef), Free.kc (undef), Free.kc (undef), Free.kc (undef), Free.kc (undef), Free.kc (undef), Free.kc (undef), Free.kc (undef), Free.kc (undef), Free.kc (.bool false), Free.kc (.bool false)] (by kernel_rfl) (by kernel_rfl) (by decide) (Below.refl _ _).drew (fun w w' h g => bt h g) ?_ ?_
      ·
       iterate 28 refine Free.forall_succ ?_ ?_
       all_goals first | exact Free.forall_zero | (refine Free.op fun vals wq hC hd => ?_) | skip
       · exact Free.dm
       · exact Free.dm
       · exact Free.d_indexAddr rfl (Free.tr 0 hd) (Free.tr 1 hd) (run_idx 43 Tryz.underlying43 (by kernel_rfl) _ _ _ _ _ _ (by omega) (by omega)) rfl
       · exact Free.d_load rfl (Free.tr 2 hd) (by have hcc := HX.out wq hC; go_simp) rfl
       · exact Free.d_bin rfl (Free.tr 3 hd) (show _ = (.int .i64 0 : Value) from rfl) (by go_simp) (by go_simp) rfl
       · exact Free.d_move rfl (Free.tr 4 hd) rfl
       · refine Free.og 5 15 false fun vals wq hC hd => ?_; exact Free.d_move rfl (by kernel_rfl) rfl
       · refine Free.og 5 15 false fun vals wq hC hd => ?_; exact Free.d_move rfl (by kernel_rfl) rfl
       · refine Free.og 5 15 false fun vals wq hC hd => ?_; exact Free.d_indexAddr rfl (Free.tr 6 hd) (Free.tr 7 hd) (run_idx 43 Tryz.underlying43 (by kernel_rfl) _ _ _ _ _ _ (by omega) (by omega)) rfl
       · refine Free.og 5 15 false fun vals wq hC hd => ?_; exact Free.d_load rfl (Free.tr 8 hd) (by have hcc := HX.out wq hC; go_simp) rfl
       · refine Free.og 5 15 false fun vals wq hC hd => ?_; exact Free.d_bin rfl (Free.tr 9 hd) (show _ = (.int .i64 999 : Value) from rfl) (by go_simp) (by go_simp) rfl
       · exact Free.d_pick rfl (Eq.trans (b := vals 5) (by kernel_rfl) (hd 5 (by kernel_rfl))) (Eq.trans (b := vals 10) (by kernel_rfl) (hd 10 (by kernel_rfl))) rfl
       · exact Free.d_move rfl (Free.tr 11 hd) rfl
       · refine Free.og 12 22 false fun vals wq hC hd => ?_; exact Free.d_move rfl (by kernel_rfl) rfl
       · refine Free.og 12 22 false fun vals wq hC hd => ?_; exact Free.d_bin rfl (Free.tr 13 hd) (show _ = (.int .i64 0 : Value) from rfl) (by go_simp) (by go_simp) rfl
       · refine Free.og 12 22 false fun vals wq hC hd => ?_; exact Free.d_move rfl (Free.tr 14 hd) rfl
       · exact Free.skl 15 25 true
       · exact Free.skl 15 25 true
       · exact Free.skl 15 25 true
       · exact Free.skl 15 25 true
       · exact Free.skl 15 25 true
       · exact Free.skl 15 25 true
       · exact Free.skl 15 25 true
       · exact Free.skl 15 25 true
       · exact Free.skl 15 25 true
       · exact Free.skl 15 25 true
       · refine Free.og 12 22 false fun vals wq hC hd => ?_; exact Free.d_pick rfl (Eq.trans (b := vals 15) (by kernel_rfl) (hd 15 (by kernel_rfl))) rfl rfl
       · exact Free.d_pick rfl (Eq.trans (b := vals 12) (by kernel_rfl) (hd 12 (by kernel_rfl))) (Eq.trans (b := vals 26) (by kernel_rfl) (hd 26 (by kernel_rfl))) rfl
      ·
       intro vals wq hC hd
       refine Free.go hd ?_
       rintro _ rfl _ rfl _ rfl _ rfl _ rfl _ rfl _ rfl _ rfl _ rfl _ rfl _ rfl _ rfl _ rfl _ rfl _ rfl _ rfl _ rfl _ rfl _ rfl _ rfl _ rfl _ rfl _ rfl _ rfl _ rfl _ rfl _ rfl _ rfl
       simp only [Free.All, Free.fl, Act.put, Free.sa, Free.s0, Free.s1]
       refine wpList_nil ?_
       clear hd
       have HBQ := Lib.hid (bt HB.out hC)
       clear hC
       go_wp2
       go_roundw
       case rel => exact ⟨k + 1, z, by omega, by go_num, by omega, by omega, HN, HBQ.out, Lib.hid ⟨fun h => by omega, fun h => by rw [Nat.add_sub_cancel]; exact HZ.out⟩⟩
       case measure => simp [intOf]; omega
  ·
   obtain rfl : k = n := by omega
   have HF := Lib.hid (show Post.right l = true by rw [hr.out, List.drop_eq_nil_of_le (by rw [h.len]; exact Nat.le_refl _)]; rfl)
   go_wp2
   go_ret
   exact ⟨by rw [HF.out]; rfl, HB.out⟩
theorem take_nextZ {a b : List Int} {k : Nat} {x : Int} (h : a.take k = b.take k) (ha : a[k]? = some x) (hb : b[k]? = some x) : a.take (k + 1) = b.take (k + 1) := by
 rw [List.take_add_one, List.take_add_one, h, ha, hb]
theorem sameZ_any (A : Option Addr) (n c : Nat) (la : List Int) (B : Option Addr) (m k0 : Nat) (lb : List Int) (w : World) (ha : Zs w A n c la) (hb : Zs w B m k0 lb) :
  Calls Tryz.prog 19 #[.slice A n c, .slice B m k0] w (RetB (decide (la = lb)) w) := by
 have hm := hb.max
 have hcap := hb.cap
 have hm2 := ha.max
 have hcap2 := ha.cap
 rw [maxLen_eq] at hm hm2
 by_cases hnm : n = m
 ·
  subst hnm
  go_enter Tryz.func19, Tryz.ntmps19
  go_wp2
  go_loopw [5] (fun vi wr => ∃ k : Nat, k ≤ n ∧ vi = .int .i64 k ∧ Hid (la.take k = lb.take k) ∧ Below w.heap.size w wr) (fun vi _ => n - (intOf vi).toNat)
  case atStart => exact ⟨0, by omega, rfl, Lib.hid (by simp), Below.refl _ _⟩
  case round =>
   obtain ⟨k, hk, rfl, hr, hbel⟩ := hrel
   have HB := Lib.hid hbel
   clear hbel
   by_cases hlt : k < n
   ·
    obtain ⟨b1, o1, rfl, hb1, hc1, s, hs, s1, s2⟩ := ha.at hlt
    obtain ⟨b2, o2, rfl, hb2, hc2, t, ht, t1, t2⟩ := hb.at hlt
    have Y1 := Lib.hid (show ∀ W, Below wr.heap.size wr W → W.cell? ⟨b1, o1 + k, none⟩ = some (.int .i64 s) from fun W hW => ((bt HB.out hW).cell (p := ⟨b1, o1 + k, none⟩) hb1).trans (hc1 k s hs))
    have Y2 := Lib.hid (show ∀ W, Below wr.heap.size wr W → W.cell? ⟨b2, o2 + k, none⟩ = some (.int .i64 t) from fun W hW => ((bt HB.out hW).cell (p := ⟨b2, o2 + k, none⟩) hb2).trans (hc2 k t ht))
    have HS := Lib.hid (And.intro hs ht)
    clear hc1 hc2 hs ht
    have kz : (0 : Int) ≤ (k : Int) := by omega
    have kn : (k : Int) < (n : Int) := by omega
    by_cases hst : s = t
    ·
     subst hst
     have HN := Lib.hid (take_nextZ hr.out HS.out.1 HS.out.2)
     go_wp2_with fail
     refine Free.wp_free_l 9 (fun W => Below wr.heap.size wr W) [Free.kc (.slice (some ⟨b1, o1, none⟩) n c), Free.kc (.int .i64 (k : Int)), Free.kc (.pointer (some ⟨b1, o1 + k, none⟩)), Free.kc (.int .i64 s), Free.kc (.slice (some ⟨b2, o2, none⟩) n k0), Free.kc (.int .i64 (k : Int)), Free.kc (.pointer (some ⟨b2, o2 + k, none⟩)), Free.kc (.int .i64 s), Free.kc (.bool false)] (by kernel_rfl) (by kernel_rfl) (by decide) (Below.refl _ _).drew (fun w w' h g => bt h g) ?_ ?_
     ·
      iterate 9 refine Free.forall_succ ?_ ?_
      all_goals first | exact Free.forall_zero | (refine Free.op fun vals wq hC hd => ?_) | skip
      · exact Free.dm
      · exact Free.dm
      · exact Free.d_indexAddr rfl (Free.tr 0 hd) (Free.tr 1 hd) (run_idx 43 Tryz.underlying43 (by kernel_rfl) _ _ _ _ _ _ (by omega) (by omega)) rfl
      · exact Free.d_load rfl (Free.tr 2 hd) (by have hcc := Y1.out wq hC; go_simp) rfl
      · exact Free.dm
      · exact Free.dm
      · exact Free.d_indexAddr rfl (Free.tr 4 hd) (Free.tr 5 hd) (run_idx 43 Tryz.underlying43 (by kernel_rfl) _ _ _ _ _ _ (by omega) (by omega)) rfl
      · exact Free.d_load rfl (Free.tr 6 hd) (by have hcc := Y2.out wq hC; go_simp) rfl
      · exact Free.d_bin rfl (Free.tr 3 hd) (Free.tr 7 hd) (by go_simp) (by go_simp) rfl
     ·
      intro vals wq hC hd
      refine Free.go hd ?_
      rintro _ rfl _ rfl _ rfl _ rfl _ rfl _ rfl _ rfl _ rfl _ rfl
      simp only [Free.All, Free.fl, Act.put, Free.sa, Free.s0, Free.s1]
      refine wpList_nil ?_
      clear hd
      have HBQ := Lib.hid (bt HB.out hC)
      clear hC
      go_wp2
      go_roundw
      case rel => exact ⟨k + 1, by omega, by go_num, HN, HBQ.out⟩
      case measure => simp [intOf]; omega
    ·
     have bst : (s == t) = false := by simpa using hst
     have HN := Lib.hid (show decide (la = lb) = false from decide_eq_false (fun e => by
      subst e
      have h1 := HS.out.1
      rw [HS.out.2] at h1
      injection h1 with h1
      exact hst h1.symm))
     go_wp2_with fail
     refine Free.wp_free_l 9 (fun W => Below wr.heap.size wr W) [Free.kc (.slice (some ⟨b1, o1, none⟩) n c), Free.kc (.int .i64 (k : Int)), Free.kc (.pointer (some ⟨b1, o1 + k, none⟩)), Free.kc (.int .i64 s), Free.kc (.slice (some ⟨b2, o2, none⟩) n k0), Free.kc (.int .i64 (k : Int)), Free.kc (.pointer (some ⟨b2, o2 + k, none⟩)), Free.kc (.int .i64 t), Free.kc (.bool true)] (by kernel_rfl) (by kernel_rfl) (by decide) (Below.refl _ _).drew (fun w w' h g => bt h g) ?_ ?_
     ·
      iterate 9 refine Free.forall_succ ?_ ?_
      all_goals first | exact Free.forall_zero | (refine Free.op fun vals wq hC hd => ?_) | skip
      · exact Free.dm
      · exact Free.dm
      · exact Free.d_indexAddr rfl (Free.tr 0 hd) (Free.tr 1 hd) (run_idx 43 Tryz.underlying43 (by kernel_rfl) _ _ _ _ _ _ (by omega) (by omega)) rfl
      · exact Free.d_load rfl (Free.tr 2 hd) (by have hcc := Y1.out wq hC; go_simp) rfl
      · exact Free.dm
      · exact Free.dm
      · exact Free.d_indexAddr rfl (Free.tr 4 hd) (Free.tr 5 hd) (run_idx 43 Tryz.underlying43 (by kernel_rfl) _ _ _ _ _ _ (by omega) (by omega)) rfl
      · exact Free.d_load rfl (Free.tr 6 hd) (by have hcc := Y2.out wq hC; go_simp) rfl
      · exact Free.d_bin rfl (Free.tr 3 hd) (Free.tr 7 hd) (by go_simp) (by go_simp) rfl
     ·
      intro vals wq hC hd
      refine Free.go hd ?_
      rintro _ rfl _ rfl _ rfl _ rfl _ rfl _ rfl _ rfl _ rfl _ rfl
      simp only [Free.All, Free.fl, Act.put, Free.sa, Free.s0, Free.s1]
      refine wpList_nil ?_
      clear hd
      have HBQ := Lib.hid (bt HB.out hC)
      clear hC
      go_wp2
      go_ret
      exact ⟨by rw [HN.out]; rfl, HBQ.out⟩
   ·
    obtain rfl : k = n := by omega
    have HN := Lib.hid (show decide (la = lb) = true from decide_eq_true (by
     have h1 := hr.out
     rw [List.take_of_length_le (by rw [ha.len]; exact Nat.le_refl _), List.take_of_length_le (by rw [hb.len]; exact Nat.le_refl _)] at h1
     exact h1))
    go_wp2
    go_ret
    exact ⟨by rw [HN.out]; rfl, HB.out⟩
 ·
  have HN := Lib.hid (show decide (la = lb) = false from decide_eq_false (fun e => by
   subst e
   have h1 := ha.len
   have h2 := hb.len
   omega))
  have b1 : ((n : Int) == (m : Int)) = false := beq_eq_false_iff_ne.2 (by omega)
  have b2 : (n == m) = false := by simpa using hnm
  go_enter Tryz.func19, Tryz.ntmps19
  go_wp2
  go_ret
  exact ⟨by rw [HN.out]; rfl, Below.refl _ _⟩
structure WriteRel (B : Nat) (l : List Int) (w : World) (A' : Option Addr) (n' c' k : Nat) (p : Int) (acc : List UInt8) (wr : World) : Prop where
 own : Own8 wr B A' n' c' acc
 eq : Post.write l = acc ++ Post.gapsFrom p (l.drop k)
 right : Post.rightFrom p (l.drop k) = true
 below : Below B w wr
 small : n' ≤ 9 + 9 * k
theorem WriteRel.step {B : Nat} {l : List Int} {w : World} {A' : Option Addr} {n' c' k : Nat} {p : Int} {acc : List UInt8} {wr : World} (h : WriteRel B l w A' n' c' k p acc wr) {z : Int} (hz : l[k]? = some z) :
  p < z ∧ z < 1000 ∧ Post.rightFrom z (l.drop (k + 1)) = true ∧ Post.write l = (acc ++ Code.num (z - p - 1).toNat) ++ Post.gapsFrom z (l.drop (k + 1)) := by
 obtain ⟨hk, hzz⟩ := List.getElem?_eq_some_iff.1 hz
 have h1 := h.right
 rw [List.drop_eq_getElem_cons hk, hzz, Post.rightFrom, Bool.and_eq_true, Bool.and_eq_true, decide_eq_true_eq, decide_eq_true_eq] at h1
 refine ⟨h1.1.1, h1.1.2, h1.2, ?_⟩
 rw [h.eq, List.drop_eq_getElem_cons hk, hzz, Post.gapsFrom, List.append_assoc]
def WritePost (l : List Int) (w : World) (e : Ending) (w' : World) : Prop := ∃ A n c, e = .returned (.tuple #[.slice A n c, .int .i64 0]) ∧ Own8 w' w.heap.size A n c (Post.write l) ∧ Below w.heap.size w w'
theorem write_yes (A : Option Addr) (n c : Nat) (l : List Int) (w : World) (h : Zs w A n c l) (hr : Post.right l = true) : Calls Tryz.prog 32 #[.slice A n c] w (WritePost l w) := by
 have hcr := right_any A n c l w h
 rw [hr] at hcr
 have HC := Lib.hid hcr
 have hn : n ≤ 1000 := by have := Post.right_len hr; rw [h.len] at this; exact this
 have hm := h.max
 rw [maxLen_eq] at hm
 have HR := Lib.hid hr
 clear hcr hr
 go_enter Tryz.func32, Tryz.ntmps32
 go_wp2_with fail
 refine HC.out.mono ?_
 rintro e w0 ⟨rfl, rfl⟩
 go_wp2_with fail
 refine (num_any none 0 0 [] n w (Bs.nil w) (by omega) (by omega)).mono ?_
 rintro e w1 ⟨A1, n1, c1, rfl, ho1, hb1⟩
 rw [List.nil_append] at ho1
 have hn1 : n1 ≤ 9 := by rw [← ho1.len]; exact Code.num_len9 n (by omega)
 go_wp2
 go_loopw [4, 6, 22] (fun vb vp vi wr => ∃ (A' : Option Addr) (n' c' k : Nat) (p : Int) (acc : List UInt8), k ≤ n ∧ vb = .slice A' n' c' ∧ vp = .int .i64 p ∧ vi = .int .i64 k ∧ -1 ≤ p ∧ p ≤ 999 ∧ WriteRel w.heap.size l w A' n' c' k p acc wr) (fun _ _ vi _ => n - (intOf vi).toNat)
 case atStart => exact ⟨A1, n1, c1, 0, -1, _, by omega, rfl, rfl, rfl, by omega, by omega, ho1, by unfold Post.write; rw [h.len]; rfl, HR.out, hb1, by omega⟩
 case round =>
  obtain ⟨A', n', c', k, p, acc, hk, rfl, rfl, rfl, hp, hp2, hr⟩ := hrel
  have hsm := hr.small
  by_cases hlt : k < n
  ·
   obtain ⟨b, off, rfl, hb, hcell, z, hz, hz1, hz2⟩ := h.at hlt
   have x0 := (hr.below.cell (p := ⟨b, off + k, none⟩) hb).trans (hcell k z hz)
   obtain ⟨h1, h2, h3, h4⟩ := hr.step hz
   have HN := Lib.hid (And.intro h3 h4)
   obtain ⟨g, hg⟩ : ∃ g : Nat, z - p - 1 = (g : Int) := ⟨(z - p - 1).toNat, by omega⟩
   have HG := Lib.hid hg
   have hgn : g ≤ 1000 := by omega
   clear hcell hz h3 h4 hg
   go_wp2_with fail
   refine Calls.mono (show Calls Tryz.prog 77 #[.slice none 0 0, .int .i64 (z - p - 1)] wr (NumPost ([] ++ Code.num g) wr) from by rw [HG.out]; exact num_any none 0 0 [] g wr (Bs.nil wr) (by omega) (by omega)) ?_
   rintro e w2 ⟨A2, n2, c2, rfl, ho2, hb2⟩
   rw [List.nil_append] at ho2
   have hn2 : n2 ≤ 9 := by rw [← ho2.len]; exact Code.num_len9 g (by omega)
   have hb2' := hb2.mono hr.below.size
   go_wp2_with (at_builtin; refine wl_app8 rfl (.tmp 34) (.tmp 35) rfl rfl (hr.own.keep hb2) rfl ho2.bs (by omega) (hr.below.trans hb2').size ?_; intro A3 n3 c3 w3 ho3 hb3 _)
   have hn3 : n3 ≤ 9 + 9 * (k + 1) := by have a := ho3.len; have b := hr.own.len; have d := ho2.len; rw [List.length_append] at a; omega
   go_roundw
   case rel => exact ⟨A3, n3, c3, k + 1, z, _, by omega, rfl, rfl, by go_num, by omega, by omega, ho3, by rw [HN.out.2, show (z - p - 1).toNat = g by rw [HG.out]; rfl], HN.out.1, (hr.below.trans hb2').trans hb3, hn3⟩
   case measure => simp [intOf]; omega
  ·
   obtain rfl : k = n := by omega
   have HF := Lib.hid (show Post.write l = acc by rw [hr.eq, List.drop_eq_nil_of_le (by rw [h.len]; exact Nat.le_refl _), Post.gapsFrom, List.append_nil])
   go_wp2
   go_ret2
   exact ⟨A', n', c', rfl, by rw [HF.out]; exact hr.own, hr.below⟩
end Go.Proofs.YteoledjllpgcbaaGreatDoor
