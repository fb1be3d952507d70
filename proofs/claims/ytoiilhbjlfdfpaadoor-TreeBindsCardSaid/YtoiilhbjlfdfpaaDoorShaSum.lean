/- Sum, of the package that sums. No statement of the seat is proved here. -/
import Derived.Test.YtoiilhbjlfdfpaaDoorShaEnd
namespace Go.Proofs.YtoiilhbjlfdfpaaDoor
set_option linter.unusedVariables false
open Go.RowKit

def SumPost (l : List UInt8) (w : World) (e : Ending) (w' : World) : Prop := e = .returned (sv (Sha.sum l)) ∧ Below w.heap.size w w'
theorem vld_of (m : Nat) (h : m ≤ 1099511627776) : vld (m : Int) (m % 64) = true := by
  unfold vld
  exact decide_eq_true ⟨by omega, by omega, by omega⟩
theorem takes_new (m : Nat) (h : m ≤ 1099511627776) : takes 0 0 m = true := by
  unfold takes
  rw [show vld 0 0 = true from vld_of 0 (by omega)]
  simpa using (by omega : (m : Int) ≤ 1099511627776)
set_option maxHeartbeats 4000000 in
theorem sum_any (B : Option Addr) (m k : Nat) (l : List UInt8) (w : World) (hB : Rd w w.heap.size B (l.map bv)) (hl : l.length = m) (hk : m ≤ k) (hk2 : k ≤ maxLen) (hm2 : m ≤ 1099511627776) (hRL : RoundsLie w) (hBL : BeginLies w) :
    Calls Tryd.prog 31 #[.slice B m k] w (SumPost l w) := by
  have HL := Lib.hid (And.intro hB (And.intro hRL hBL))
  subst hl
  clear hB hRL hBL
  go_enter Tryd.func31, Tryd.ntmps31
  go_wp2_with (first
    | (go_at_call 53; refine (new_any _ HL.out.2.2).mono ?_; rintro e w1 ⟨rfl, hb1⟩; have HB1 := Lib.hid hb1; clear hb1)
    | (go_at_call 52; refine (add_any Sha.begin_ none 0 0 [] 0 B l.length k l w1 Rd.nil rfl (Nat.le_refl _) (Nat.zero_le _) (HL.out.1.below' HB1.out (Nat.le_refl _) |>.more HB1.out.size) rfl hk hk2 hm2 (HL.out.2.1.below HB1.out (Nat.le_refl _)) (HL.out.2.2.below HB1.out (Nat.le_refl _))).mono ?_; rintro e w2 ⟨p, hp, A2, c2, rfl, hr2, hc2, hc2', hb2⟩; have HP := Lib.hid hp; have HR2 := Lib.hid (And.intro hr2 (And.intro hc2 hc2')); have HB2 := Lib.hid (HB1.out.trans (hb2.mono HB1.out.size)); clear hp hr2 hc2 hc2' hb2)
    | (go_at_call 51; refine (end_any p.1 A2 p.2.length c2 p.2 _ w2 HR2.out.1 rfl HR2.out.2.1 HR2.out.2.2 (HL.out.2.1.below HB2.out (Nat.le_refl _)) (HL.out.2.2.below HB2.out (Nat.le_refl _))).mono ?_; rintro e w3 ⟨rfl, hb3⟩; have HB3 := Lib.hid (HB2.out.trans (hb3.mono HB2.out.size)); clear hb3))
  go_ret
  refine ⟨?_, HB3.out⟩
  have hp := HP.out
  have ht := takes_new l.length hm2
  have e1 : effS Sha.begin_ 0 ([] : List UInt8).length l.length = Sha.begin_ := by unfold effS; rw [show takes 0 ([] : List UInt8).length l.length = true from ht]; rfl
  have e2 : effR [] 0 ([] : List UInt8).length l.length = [] := by unfold effR; rw [show takes 0 ([] : List UInt8).length l.length = true from ht]; rfl
  have e3 : effN 0 0 l.length = 0 := by unfold effN; rw [ht]; rfl
  rw [e1, e2, List.nil_append] at hp
  have hv : vld (l.length : Int) p.2.length = true := by
    rw [hp, Sha.proc_rest]; exact vld_of _ hm2
  rw [e3, Int.zero_add]
  have e4 : endS p.1 (l.length : Int) p.2.length = p.1 := by unfold endS; rw [hv]; rfl
  have e5 : endR p.2 (l.length : Int) p.2.length = p.2 := by unfold endR; rw [hv]; rfl
  have e6 : endN (l.length : Int) p.2.length = (l.length : Int) := by unfold endN; rw [hv]; rfl
  show Ending.returned (sv _) = _
  rw [e4, e5, e6, Int.toNat_natCast]
  unfold Sha.sum
  rw [← hp]
end Go.Proofs.YtoiilhbjlfdfpaaDoor
