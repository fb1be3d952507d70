/- The document's examples hold (knows); ShaSums. -/
import Derived.Test.YtcnjpcmadkkhfaaDoorShaUnhex
import Derived.Test.YtcnjpcmadkkhfaaDoorShaRef5
import Derived.Lib.SlBytesConst
namespace Go.Proofs.YtcnjpcmadkkhfaaDoor
set_option linter.unusedVariables false
open Go.RowKit

/-- What lies before the calls: the package's two tables. -/
structure Tabs (w : World) : Prop where
  r : RoundsLie w
  b : BeginLies w
theorem Tabs.below {w w' : World} (h : Tabs w) (hb : Below w.heap.size w w') : Tabs w' := ⟨h.r.below hb (Nat.le_refl _), h.b.below hb (Nat.le_refl _)⟩
def Yes (w : World) (e : Ending) (w' : World) : Prop := e = .returned (.bool true) ∧ Below w.heap.size w w'
theorem end_new_any (w : World) (ht : Tabs w) : Calls Tryd.prog 18 #[tv Sha.begin_ (.slice none 0 0) 0] w (SumPost [] w) := by
  refine (end_any Sha.begin_ none 0 0 [] 0 w Rd.nil rfl (Nat.le_refl _) (Nat.zero_le _) ht.r ht.b).mono ?_
  rintro e w' ⟨rfl, hb⟩
  refine ⟨?_, hb⟩
  have hv : vld 0 ([] : List UInt8).length = true := vld_of 0 (by omega)
  have e4 : endS Sha.begin_ 0 ([] : List UInt8).length = Sha.begin_ := by unfold endS; rw [hv]; rfl
  have e5 : endR [] 0 ([] : List UInt8).length = [] := by unfold endR; rw [hv]; rfl
  have e6 : endN 0 ([] : List UInt8).length = 0 := by unfold endN; rw [hv]; rfl
  rw [e4, e5, e6]
  exact congrArg (fun x => Ending.returned (sv x)) Hex.end_new
theorem sum_nil_any (w : World) (ht : Tabs w) : Calls Tryd.prog 14 #[.slice none 0 0] w (SumPost [] w) :=
  sum_any none 0 0 [] w Rd.nil rfl (Nat.le_refl _) (Nat.zero_le _) (by omega) ht.r ht.b
theorem unhex_abc (w : World) : Calls Tryd.prog 19 #[sv Hex.abcHex] w fun e w' => e = .returned (.tuple #[sv (Sha.sum [97, 98, 99]), .int .i64 0]) ∧ Below w.heap.size w w' := by
  refine (unhex_any Hex.abcHex w (by decide)).mono ?_
  rintro e w' ⟨⟨l, t, n, h, rfl⟩, hb⟩
  rw [Hex.abc_sum] at h
  rcases h with ⟨h1, rfl, rfl⟩ | ⟨h1, _⟩
  · injection h1 with h1
    subst h1
    exact ⟨rfl, hb⟩
  · cases h1
theorem abc_bytes : ([.int .u8 97, .int .u8 98, .int .u8 99] : List Value) = List.map bv [97, 98, 99] := rfl
theorem hex_nil (w : World) : Calls Tryd.prog 21 #[sv (Sha.sum [])] w fun e w' => e = .returned (sv Hex.nilHex) ∧ Below w.heap.size w w' := by
  refine (hex_any (Sha.sum []) w (by decide)).mono ?_
  rintro e w' ⟨rfl, hb⟩
  exact ⟨by rw [Hex.nil_sum], hb⟩
theorem eq_refl_str (T : TypeId) (l : List UInt8) (w : World) : (binOp .eql T (sv l) (sv l)).run Tryd.prog w = .ok (.bool true) w := by
  rw [run_eql_str]; simp
theorem nil_same : ((str Hex.nilHex).toList == [101, 51, 98, 48, 99, 52, 52, 50, 57, 56, 102, 99, 49, 99, 49, 52, 57, 97, 102, 98, 102, 52, 99, 56, 57, 57, 54, 102, 98, 57, 50, 52, 50, 55, 97, 101, 52, 49, 101, 52, 54, 52, 57, 98, 57, 51, 52, 99, 97, 52, 57, 53, 57, 57, 49, 98, 55, 56, 53, 50, 98, 56, 53, 53]) = true := by
  rw [str_toList]; decide
set_option maxRecDepth 100000 in
set_option maxHeartbeats 4000000 in
theorem knows_any (w : World) (ht : Tabs w) : Calls Tryd.prog 13 #[] w (Yes w) := by
  obtain ⟨S, hS⟩ : ∃ S, Sha.sum [97, 98, 99] = S := ⟨_, rfl⟩
  obtain ⟨Z, hZ⟩ : ∃ Z, Sha.sum [] = Z := ⟨_, rfl⟩
  have HT := Lib.hid ht
  have kc := fun (w : World) (C : Array Value) (n c : Nat) => Lib.run_convert_bytes_const (P := Tryd.prog) w 22 5 C n c Tryd.underlying22 Tryd.underlying5
  have c1 := fun (w : World) => (unhex_abc w)
  rw [hS] at c1
  have c2 := fun (w : World) (h : Tabs w) => (sum_nil_any w h)
  have c3 := fun (w : World) => (hex_nil w)
  rw [hZ] at c3
  have c4 := fun (w : World) (h : Tabs w) => (end_new_any w h)
  have c5 := fun (w : World) (A : Option Addr) (h : Tabs w) (hr : Rd w w.heap.size A ([97, 98, 99].map bv)) => sum_any A 3 3 [97, 98, 99] w hr rfl (Nat.le_refl _) (by decide) (by omega) h.r h.b
  unfold SumPost at c2 c4 c5
  rw [hZ] at c2 c4
  rw [hS] at c5
  have C1 := Lib.hid c1
  have C2 := Lib.hid c2
  have C3 := Lib.hid c3
  have C4 := Lib.hid c4
  have C5 := Lib.hid c5
  have q3 := nil_same
  clear c1 c2 c3 c4 c5 hS hZ ht
  go_enter Tryd.func13, Tryd.ntmps13
  go_wp2_with fail
  refine (C1.out _).mono ?_
  rintro e w1 ⟨rfl, hb1⟩
  have HB1 := Lib.hid hb1
  clear hb1
  go_wp2_with fail
  refine (C2.out _ (HT.out.below HB1.out)).mono ?_
  rintro e w2 ⟨rfl, hb2⟩
  have HB2 := Lib.hid (bt HB1.out hb2)
  clear hb2
  go_wp2_with fail
  refine (C3.out _).mono ?_
  rintro e w3 ⟨rfl, hb3⟩
  have HB3 := Lib.hid (bt HB2.out hb3)
  clear hb3
  go_wp2_with fail
  have ht3 := HT.out.below (HB3.out.alloc HB3.out.size (.cells (List.map bv [97, 98, 99]).toArray 5 (3, 4)))
  refine (C5.out _ (some ⟨w3.heap.size, 0, none⟩) ht3 ((rd_new w3 ([97, 98, 99].map bv) 5 (3, 4)).more (by unfold World.alloc; simp))).mono ?_
  rintro e w4 ⟨rfl, hb4⟩
  have HB4 := Lib.hid (bt (HB3.out.alloc HB3.out.size (.cells (List.map bv [97, 98, 99]).toArray 5 (3, 4))) hb4)
  clear hb4 ht3 kc q3
  go_wp2_with fail
  refine (new_any _ (HT.out.below HB4.out).b).mono ?_
  rintro e w5 ⟨rfl, hb5⟩
  have HB5 := Lib.hid (bt HB4.out hb5)
  clear hb5
  go_wp2_with fail
  refine (C4.out _ (HT.out.below HB5.out)).mono ?_
  rintro e w6 ⟨rfl, hb6⟩
  have HB6 := Lib.hid (bt HB5.out hb6)
  clear hb6
  go_wp2_with fail
  refine (C2.out _ (HT.out.below HB6.out)).mono ?_
  rintro e w7 ⟨rfl, hb7⟩
  have HB7 := Lib.hid (bt HB6.out hb7)
  clear hb7
  go_wp2
  go_ret
  exact ⟨rfl, HB7.out⟩
end Go.Proofs.YtcnjpcmadkkhfaaDoor
