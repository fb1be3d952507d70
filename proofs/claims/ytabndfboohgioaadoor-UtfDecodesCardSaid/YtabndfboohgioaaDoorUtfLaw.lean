/- The document's examples hold (knows), and the laws on single characters. -/
import Derived.Test.YtabndfboohgioaaDoorUtfRef
import Derived.Test.YtabndfboohgioaaDoorUtfDec2
import Derived.Lib.SlBytesConst
namespace Go.Proofs.YtabndfboohgioaaDoor
set_option linter.unusedVariables false
open Go.RowKit

/-- What a law answers: true; nothing that was there has turned. -/
def Yes (w : World) (e : Ending) (w' : World) : Prop := e = .returned (.bool true) ∧ Below w.heap.size w w'
theorem yes_mk {w w' : World} (h : Below w.heap.size w w') : Yes w (.returned (.bool true)) w' := ⟨rfl, h⟩

theorem knows_dec : Utf.dec [195, 164, 255, 65] = [228, 65533, 65] := by decide +kernel
theorem knows_s1 : Utf.small 196 = 228 := by decide +kernel
theorem knows_s2 : Utf.small 1040 = 1072 := by decide +kernel
theorem knows_s3 : Utf.small 1025 = 1105 := by decide +kernel
theorem knows_l : Utf.letter 223 = true := by decide +kernel
theorem knows_d : Utf.digit 55 = true := by decide +kernel
theorem knows_r : Utf.right 0 = true := by decide +kernel

/-- Three ints that are read: their cells. -/
theorem rd_three {w : World} {B : Nat} {A : Option Addr} {x y z : Int} (h : Rd w B A ([x, y, z].map iv)) :
    ∃ b off, A = some ⟨b, off, none⟩ ∧ b < B ∧ w.cell? ⟨b, off, none⟩ = some (.int .i64 x) ∧ w.cell? ⟨b, off + 1, none⟩ = some (.int .i64 y) ∧ w.cell? ⟨b, off + 2, none⟩ = some (.int .i64 z) := by
  obtain ⟨b, off, e, hb, hc⟩ := h (by simp)
  exact ⟨b, off, e, hb, hc 0 _ rfl, hc 1 _ rfl, hc 2 _ rfl⟩
set_option maxRecDepth 100000 in
set_option maxHeartbeats 4000000 in
theorem knows_any (w : World) (ht : Tabs w) : Calls Tryd.prog 10 #[] w (Yes w) := by
  have hr := rd_new w ([195, 164, 255, 65].map bv) 5 (4, 5)
  have hb0 : Below w.heap.size w (w.alloc (.cells (List.map bv [195, 164, 255, 65]).toArray 5 (4, 5))) := (Below.refl _ _).alloc (Nat.le_refl _) _
  have ht1 := ht.below hb0
  have hd := decode_any (some ⟨w.heap.size, 0, none⟩) 4 4 [195, 164, 255, 65] (w.alloc (.cells (List.map bv [195, 164, 255, 65]).toArray 5 (4, 5))) (hr.more (by simp)) rfl (by omega) (by rw [maxLen_eq]; omega) (by simp)
  have HD := Lib.hid hd
  have HB0 := Lib.hid hb0
  have HT1 := Lib.hid ht1
  clear hd hb0 ht1 hr ht
  have kc := fun (w : World) (C : Array Value) (n c : Nat) => Lib.run_convert_bytes_const (P := Tryd.prog) w 22 5 C n c Tryd.underlying22 Tryd.underlying5
  go_enter Tryd.func10, Tryd.ntmps10
  go_wp2_with fail
  refine HD.out.mono ?_
  rintro e w1 ⟨v, rfl, hown, hb⟩
  rw [knows_dec] at hown
  obtain ⟨A, c, rfl, _, _⟩ := own_form hown
  obtain ⟨b, off, rfl, hlt, c0, c1, c2⟩ := rd_three (Rd.of_own hown)
  have HB1 := Lib.hid (HB0.out.trans (hb.mono (by simp)))
  have ht2 : Tabs w1 := HT1.out.below hb
  clear hown hb kc
  go_wp2_with fail
  refine (small_any 196 w1 ht2).mono ?_
  rintro e w2 ⟨rfl, hb2⟩
  rw [knows_s1]
  have ht3 : Tabs w2 := ht2.below hb2
  have HB2 := Lib.hid hb2
  clear hb2 ht2 c0 c1 c2
  go_wp2_with fail
  refine (small_any 1040 w2 ht3).mono ?_
  rintro e w3 ⟨rfl, hb3⟩
  rw [knows_s2]
  have ht4 : Tabs w3 := ht3.below hb3
  have HB3 := Lib.hid hb3
  clear hb3 ht3
  go_wp2_with fail
  refine (small_any 1025 w3 ht4).mono ?_
  rintro e w4 ⟨rfl, hb4⟩
  rw [knows_s3]
  have ht5 : Tabs w4 := ht4.below hb4
  have HB4 := Lib.hid hb4
  clear hb4 ht4
  go_wp2_with fail
  refine (letter_any 223 w4 ht5).mono ?_
  rintro e w5 ⟨rfl, hb5⟩
  rw [knows_l]
  have HB5 := Lib.hid hb5
  clear hb5 ht5
  go_wp2_with fail
  refine (digit_any 55 w5).mono ?_
  rintro e w6 ⟨rfl, rfl⟩
  rw [knows_d]
  go_wp2_with fail
  refine (right_any 0 w5).mono ?_
  rintro e w6 ⟨rfl, rfl⟩
  rw [knows_r]
  go_wp2
  go_ret
  exact ⟨rfl, HB1.out.trans ((HB2.out.mono HB1.out.size).trans (((HB3.out.mono (Nat.le_trans HB1.out.size HB2.out.size))).trans (((HB4.out.mono (Nat.le_trans HB1.out.size (Nat.le_trans HB2.out.size HB3.out.size)))).trans (HB5.out.mono (Nat.le_trans HB1.out.size (Nat.le_trans HB2.out.size (Nat.le_trans HB3.out.size HB4.out.size)))))))⟩
end Go.Proofs.YtabndfboohgioaaDoor
