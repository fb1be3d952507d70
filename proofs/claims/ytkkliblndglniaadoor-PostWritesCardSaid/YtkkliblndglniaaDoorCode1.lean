/- Numbers and texts are written: fresh, putNum, Num, putText, Text, and the reference's Num, Text. No statement of the seat is proved here. -/
import Derived.Test.YtkkliblndglniaaDoorMem
import Derived.Test.YtkkliblndglniaaDoorCodePlain
namespace Go.Proofs.YtkkliblndglniaaDoor
set_option linter.unusedVariables false
open Go.RowKit

theorem fresh_any (A : Option Addr) (n c : Nat) (l : List UInt8) (w : World) (h : Bs w A n c l) (hn : n ≤ 140737488355328) : Calls Tryd.prog 28 #[.slice A n c] w (Ret8 w.heap.size l w) := by
  go_enter Tryd.func28, Tryd.ntmps28
  go_wp2_with (at_builtin; refine wl_app8 rfl (.const (.slice none 0 0)) (.tmp 3) rfl rfl (Own8.nil w w.heap.size) rfl h (by omega) (Nat.le_refl _) ?_; intro A1 n1 c1 w1 ho1 hb1 _)
  go_ret
  exact ⟨A1, n1, c1, rfl, by simpa using ho1, hb1⟩
/-- Where the writing of a number is. -/
structure PutRel (B : Nat) (l : List UInt8) (v : Nat) (w : World) (A' : Option Addr) (n' c' x : Nat) (l' : List UInt8) (wr : World) : Prop where
  own : Own8 wr B A' n' c' l'
  eq : l' ++ Code.num x = l ++ Code.num v
  below : Below B w wr
  le : x ≤ v
theorem or128 (x : Nat) (hx : x < 128) : bits .or .u8 (x : Int) 128 = (x : Int) + 128 := by
  rw [show (128 : Int) = ((128 : Nat) : Int) from rfl, u8_or_nat x 128 (by omega) (by omega), Nat.or_comm]
  have h := Nat.two_pow_add_eq_or_of_lt (i := 7) (b := x) (by omega) 1
  rw [show 2 ^ 7 * 1 = 128 from rfl] at h
  rw [← h]; push_cast; omega
set_option maxRecDepth 100000 in
set_option maxHeartbeats 4000000 in
theorem putNum_any (B : Nat) (A : Option Addr) (n c : Nat) (l : List UInt8) (v : Nat) (w : World) (h : Own8 w B A n c l) (hB : B ≤ w.heap.size) (hn : n ≤ 100000000000000) (hv : v ≤ 4611686018427387904) :
    Calls Tryd.prog 27 #[.slice A n c, .int .i64 (v : Int)] w (Ret8 B (l ++ Code.num v) w) := by
  have hlen := h.len
  have h9 := Code.num_len9 v hv
  have HS := Lib.hid (show ∀ l' x, l' ++ Code.num x = l ++ Code.num v → l'.length ≤ n + 9 from fun l' x e => by
    have e2 := congrArg List.length e
    rw [List.length_append, List.length_append, hlen] at e2
    omega)
  clear hlen h9
  go_enter Tryd.func27, Tryd.ntmps27
  go_wp2
  go_loopw [0, 1] (fun vb vv wr => ∃ (A' : Option Addr) (n' c' x : Nat) (l' : List UInt8), vb = .slice A' n' c' ∧ vv = .int .i64 x ∧ PutRel B l v w A' n' c' x l' wr) (fun _ vv _ => (intOf vv).toNat)
  case atStart => exact ⟨A, n, c, v, l, rfl, rfl, h, rfl, Below.refl _ _, Nat.le_refl _⟩
  case round =>
    obtain ⟨A', n', c', x, l', rfl, rfl, hr⟩ := hrel
    have hx := hr.le
    have hn' : n' ≤ n + 9 := by have := HS.out l' x hr.eq; rw [hr.own.len] at this; exact this
    have hB2 : B ≤ wr.heap.size := Nat.le_trans hB hr.below.size
    have f1 : bits .and .i64 (x : Int) 127 = (x : Int) % 128 := Bit.mask 7 x 127 128 (by omega) (by omega) (by omega) rfl rfl
    have e1 : ((x % 128 : Nat) : Int) = (x : Int) % 128 := by simp
    have f2 : bits .or .u8 ((x : Int) % 128) 128 = (x : Int) % 128 + 128 := by rw [← e1]; exact or128 (x % 128) (by omega)
    clear e1
    by_cases hgt : 127 < x
    · have hb : ((x : Int) % 128 + 128) = ((UInt8.ofNat (x % 128 + 128)).toNat : Int) := by rw [Code.ofNat_toNat (by omega)]; push_cast; rfl
      have HB := Lib.hid hb
      clear hb
      go_wp2_with (at_builtin; refine wl_app1 rfl (.tmp 7) (.tmp 12) rfl rfl hr.own rfl (UInt8.ofNat (x % 128 + 128)) HB.out (by omega) hB2 ?_; intro A3 n3 c3 w3 ho3 hb3)
      go_roundw
      case rel => exact ⟨A3, n3, c3, x / 128, l' ++ [UInt8.ofNat (x % 128 + 128)], rfl, by simp, ho3, by rw [← hr.eq, Code.num_ge (v := x) (by omega), List.append_assoc]; rfl, hr.below.trans hb3, by omega⟩
      case measure => simp [intOf]; omega
    · have hb : (x : Int) = ((UInt8.ofNat x).toNat : Int) := by rw [Code.ofNat_toNat (by omega)]
      have HB := Lib.hid hb
      clear hb f1 f2
      go_wp2_with (at_builtin; refine wl_app1 rfl (.tmp 16) (.tmp 19) rfl rfl hr.own rfl (UInt8.ofNat x) HB.out (by omega) hB2 ?_; intro A3 n3 c3 w3 ho3 hb3)
      go_ret
      refine ⟨A3, n3, c3, rfl, ?_, hr.below.trans hb3⟩
      rw [← hr.eq, Code.num_lt (by omega)]; exact ho3
def NumPost (l : List UInt8) (w : World) (e : Ending) (w' : World) : Prop := ∃ A n c, e = .returned (.tuple #[.slice A n c, .int .i64 0]) ∧ Own8 w' w.heap.size A n c l ∧ Below w.heap.size w w'
set_option maxHeartbeats 4000000 in
theorem num_any (A : Option Addr) (n c : Nat) (l : List UInt8) (v : Nat) (w : World) (h : Bs w A n c l) (hn : n ≤ 100000000000000) (hv : v ≤ 4611686018427387904) :
    Calls Tryd.prog 17 #[.slice A n c, .int .i64 (v : Int)] w (NumPost (l ++ Code.num v) w) := by
  have h2 : ¬ (4611686018427387904 : Int) < (v : Int) := by omega
  go_enter Tryd.func17, Tryd.ntmps17
  go_wp2_with fail
  refine (fresh_any A n c l w h (by omega)).mono ?_
  rintro e w1 ⟨A1, n1, c1, rfl, ho1, hb1⟩
  have hn1 : n1 ≤ 100000000000000 := by have a := ho1.len; have b := h.len; omega
  go_wp2_with fail
  refine (putNum_any w.heap.size A1 n1 c1 l v w1 ho1 hb1.size hn1 hv).mono ?_
  rintro e w2 ⟨A2, n2, c2, rfl, ho2, hb2⟩
  go_wp2
  go_ret2
  exact ⟨A2, n2, c2, rfl, ho2, hb1.trans hb2⟩
theorem num_no (A : Option Addr) (n c : Nat) (v : Int) (w : World) (hlo : -9223372036854775808 ≤ v) (hhi : v ≤ 9223372036854775807) (hv : v < 0 ∨ 4611686018427387904 < v) :
    Calls Tryd.prog 17 #[.slice A n c, .int .i64 v] w fun e w' => e = .returned (.tuple #[.slice none 0 0, .int .i64 1]) ∧ w = w' := by
  by_cases h0 : v < 0
  · clear hv
    go_enter Tryd.func17, Tryd.ntmps17
    go_wp2
    go_ret2
    exact ⟨rfl, rfl⟩
  · have h1 : 4611686018427387904 < v := by omega
    clear hv
    go_enter Tryd.func17, Tryd.ntmps17
    go_wp2
    go_ret2
    exact ⟨rfl, rfl⟩
set_option maxRecDepth 100000 in
set_option maxHeartbeats 4000000 in
theorem rnum_any : ∀ (k v : Nat) (w : World), v ≤ k → v ≤ 4611686018427387904 → Calls Tryd.prog 19 #[.int .i64 (v : Int)] w (Ret8 w.heap.size (Code.num v) w)
  | k, v, w, hk, hv => by
    by_cases hlt : v < 128
    · have hb : (v : Int) = ((UInt8.ofNat v).toNat : Int) := by rw [Code.ofNat_toNat (by omega)]
      have HB := Lib.hid hb
      clear hb hk
      go_enter Tryd.func19, Tryd.ntmps19
      go_wp2
      go_ret
      exact ⟨_, _, _, rfl, Own8.new w (Code.num v) _ (Nat.le_refl _) (by rw [Code.num_lt hlt]; simp only [List.map_cons, List.map_nil, bv]; rw [← HB.out]) (by rw [Code.num_lt hlt]; rfl) (by decide), (Below.refl _ w).alloc (Nat.le_refl _) _⟩
    · match k, hk with
      | 0, hk => omega
      | k + 1, hk =>
        have ih := fun W => rnum_any k (v / 128) W (by omega) (by omega)
        have IH := Lib.hid ih
        have hb : ((v : Int) % 128 + 128) = ((UInt8.ofNat (v % 128 + 128)).toNat : Int) := by rw [Code.ofNat_toNat (by omega)]; push_cast; rfl
        have HB := Lib.hid hb
        have h9 := Code.num_len9 (v / 128) (by omega)
        clear hb ih
        go_enter Tryd.func19, Tryd.ntmps19
        go_wp2_with fail
        refine Calls.mono (show Calls Tryd.prog 19 #[.int .i64 ((v : Int) / 128)] _ _ from by have h := IH.out (w.alloc (.cells #[.int .u8 ((v : Int) % 128 + 128)] 5)); rw [Int.natCast_ediv] at h; exact h) ?_
        rintro e w1 ⟨A1, n1, c1, rfl, ho1, hb1⟩
        have hown : Own8 (w.alloc (.cells #[.int .u8 ((v : Int) % 128 + 128)] 5)) w.heap.size (some ⟨w.heap.size, 0, none⟩) 1 1 [UInt8.ofNat (v % 128 + 128)] := Own8.new w _ _ (Nat.le_refl _) (by simp only [List.map_cons, List.map_nil, bv]; rw [← HB.out]) rfl (by decide)
        have hn1 : n1 ≤ 9 := by have a := ho1.len; omega
        have hb0 : Below w.heap.size w (w.alloc (.cells #[.int .u8 ((v : Int) % 128 + 128)] 5)) := (Below.refl _ w).alloc (Nat.le_refl _) _
        go_wp2_with (at_builtin; refine wl_app8 rfl (.tmp 12) (.tmp 15) rfl rfl (hown.keep hb1) rfl ho1.bs (by omega) (bt hb0 hb1).size ?_; intro A3 n3 c3 w3 ho3 hb3 _)
        go_ret
        exact ⟨A3, n3, c3, rfl, by rw [Code.num_ge (by omega)]; exact ho3, (bt hb0 hb1).trans hb3⟩
end Go.Proofs.YtkkliblndglniaaDoor
