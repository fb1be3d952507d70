/- LeafBytes, PostsBytes, HeadBytes, Leaf, Posts, Head, of the package seal. No statement of the seat is proved here. -/
import Derived.Test.YtoiilhbjlfdfpaaDoorSeal1
namespace Go.Proofs.YtoiilhbjlfdfpaaDoor
set_option linter.unusedVariables false
open Go.RowKit

theorem rows_one (w : World) (A : Option Addr) (n c : Nat) (l : List UInt8) (t : TypeId) (hr : Rd w w.heap.size A (l.map bv)) (hl : l.length = n) (hc : n ≤ c) (hm : c ≤ maxLen) :
    RowsAt (w.alloc (.cells #[.slice A n c] t)) (some ⟨w.heap.size, 0, none⟩) 1 (fun _ => ⟨A, n, c, l⟩) := fun _ => by
  refine ⟨w.heap.size, 0, rfl, by unfold World.alloc; simp, fun i hi => ?_⟩
  obtain rfl : i = 0 := by omega
  exact ⟨(row_new w _ _).cellQ 0 _ rfl, ⟨(hr.alloc (Nat.le_refl _) _).more (by unfold World.alloc; simp), hl, hc, hm⟩⟩
theorem flat_one (x : Piece) : flatP (fun _ => x) 1 = x.l := by simp [flatP]
/-- The sum of a kind's byte and bytes. -/
def seal_ (kd : UInt8) (l : List UInt8) : List UInt8 := Sha.sum (kd :: l)
def SealPost (kd : UInt8) (l : List UInt8) (w : World) (e : Ending) (w' : World) : Prop := e = .returned (sv (seal_ kd l)) ∧ Below w.heap.size w w'
theorem join_sum (kd : UInt8) (l : List UInt8) (A : Option Addr) (c : Nat) (w : World) (B : Nat) (ho : w.ownsRow B 5 1 (.slice A (l.length + 1) c) (l.length + 1) ((kd :: l).map bv)) (hc : l.length + 1 ≤ c) (hm : c ≤ maxLen) (hl : l.length ≤ 1000000) (ht : Tabs w) :
    Calls Tryd.prog 31 #[.slice A (l.length + 1) c] w (SealPost kd l w) :=
  sum_any A (l.length + 1) c (kd :: l) w (Rd.of_own ho) rfl hc hm (by omega) ht.r ht.b

set_option maxHeartbeats 4000000 in
theorem leafBytes_any (A : Option Addr) (n c : Nat) (l : List UInt8) (w : World) (hr : Rd w w.heap.size A (l.map bv)) (hl : l.length = n) (hc : n ≤ c) (hm : c ≤ maxLen) (hs : n ≤ 1000000) :
    Calls Tryd.prog 69 #[.slice A n c] w (JoinPost 0 l w) := by
  have HR := Lib.hid (rows_one w A n c l 50 hr hl hc hm)
  rw [maxLen_eq] at hm
  clear hr hl
  go_enter Tryd.func69, Tryd.ntmps69
  go_wp2_with fail
  refine Calls.mono (show Calls Tryd.prog 64 #[.int .u8 ((0 : UInt8).toNat : Int), .slice (some ⟨w.heap.size, 0, none⟩) 1 1] (w.alloc (.cells #[.slice A n c] 50)) (JoinPost 0 (flatP (fun _ => ⟨A, n, c, l⟩) 1) (w.alloc (.cells #[.slice A n c] 50))) from join_any 0 _ 1 1 _ _ HR.out (Nat.le_refl _) (by decide) (by omega) (fun i hi => hs)) ?_
  rintro e w1 ⟨A1, c1, rfl, ho, h1, h2, hb⟩
  rw [flat_one] at ho h1 ⊢
  have HO := Lib.hid (And.intro ho (And.intro h1 (And.intro h2 hb)))
  clear ho h1 h2 hb
  go_wp2
  go_ret
  exact ⟨A1, c1, rfl, own_base HO.out.1 (by unfold World.alloc; simp), HO.out.2.1, HO.out.2.2.1, bt ((Below.refl _ w).alloc (Nat.le_refl _) _) HO.out.2.2.2⟩
set_option maxHeartbeats 4000000 in
theorem leaf_any (A : Option Addr) (n c : Nat) (l : List UInt8) (w : World) (hr : Rd w w.heap.size A (l.map bv)) (hl : l.length = n) (hc : n ≤ c) (hm : c ≤ maxLen) (hs : n ≤ 1000000) (ht : Tabs w) :
    Calls Tryd.prog 59 #[.slice A n c] w (SealPost 0 l w) := by
  have HR := Lib.hid (And.intro hr (And.intro hl hm))
  have HT := Lib.hid ht
  clear hr hl hm ht
  go_enter Tryd.func59, Tryd.ntmps59
  go_wp2_with fail
  refine (leafBytes_any A n c l w HR.out.1 HR.out.2.1 hc HR.out.2.2 hs).mono ?_
  rintro e w1 ⟨A1, c1, rfl, ho, h1, h2, hb⟩
  have HO := Lib.hid (And.intro ho (And.intro h1 (And.intro h2 hb)))
  clear ho h1 h2 hb
  go_wp2_with fail
  refine (join_sum 0 l A1 c1 w1 _ HO.out.1 HO.out.2.1 HO.out.2.2.1 (by rw [HR.out.2.1]; exact hs) (HT.out.below HO.out.2.2.2)).mono ?_
  rintro e w2 ⟨rfl, hb2⟩
  have HB2 := Lib.hid (bt HO.out.2.2.2 hb2)
  clear hb2
  go_wp2
  go_ret
  exact ⟨rfl, HB2.out⟩

end Go.Proofs.YtoiilhbjlfdfpaaDoor
