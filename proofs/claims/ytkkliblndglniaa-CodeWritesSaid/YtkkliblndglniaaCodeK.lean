/- The document's examples of layer 2 (knows). No statement of the seat is proved here. -/
import Derived.Test.YtkkliblndglniaaCode5
namespace Go.Proofs.Ytkkliblndglniaa
set_option linter.unusedVariables false
open Go.RowKit

theorem num300 : Code.num 300 = [172, 2] := by rw [Code.num_ge (by omega), Code.num_lt (by omega)]; rfl
theorem hay_text : Code.text [104, 97, 121] = [3, 104, 97, 121] := by
  unfold Code.text
  rw [show ([104, 97, 121] : List UInt8).length = 3 from rfl, Code.num_lt (by omega)]; rfl
def ReadNumIs (n : Nat) (l : List UInt8) (at_ x v : Int) (w : World) (e : Ending) (w' : World) : Prop := ∃ A c, Own8 w' w.heap.size A n c l ∧ Below w.heap.size w w' ∧ e = .returned (.tuple #[rv A n c at_ x, .int .i64 v])
def ReadTextIs (n : Nat) (l : List UInt8) (at_ x : Int) (s : List UInt8) (w : World) (e : Ending) (w' : World) : Prop := ∃ A c, Own8 w' w.heap.size A n c l ∧ Below w.heap.size w w' ∧ e = .returned (.tuple #[rv A n c at_ x, sv s])
theorem read300 (A : Option Addr) (c : Nat) (w : World) (h : Bs w A 2 c [172, 2]) : Calls Try.prog 19 #[rv A 2 c 0 0] w (ReadNumIs 2 [172, 2] 2 0 300 w) := by
  refine Calls.mono (show Calls Try.prog 19 #[rv A 2 c 0 0] w (ReadNumPost [172, 2] 2 0 w) from readNum_any A 2 c 0 [172, 2] w h (by omega) (by omega)) ?_
  rintro e w' ⟨A', c', ho, hb, he⟩
  have hg : Code.getNum (([172, 2] : List UInt8).drop 0) = .ok (300, 2) := by
    have h := Code.getNum_num 300 [] (by omega)
    rw [List.append_nil, num300] at h
    exact h
  rw [hg] at he
  exact ⟨A', c', ho, hb, he⟩
theorem readBad (A : Option Addr) (c : Nat) (w : World) (h : Bs w A 2 c [128, 0]) : Calls Try.prog 19 #[rv A 2 c 0 0] w (ReadNumIs 2 [128, 0] 0 2 0 w) := by
  refine Calls.mono (show Calls Try.prog 19 #[rv A 2 c 0 0] w (ReadNumPost [128, 0] 2 0 w) from readNum_any A 2 c 0 [128, 0] w h (by omega) (by omega)) ?_
  rintro e w' ⟨A', c', ho, hb, he⟩
  have hg : Code.getNum (([128, 0] : List UInt8).drop 0) = .error 2 := by rfl
  rw [hg] at he
  exact ⟨A', c', ho, hb, he⟩
theorem readHay (A : Option Addr) (c : Nat) (w : World) (h : Bs w A 4 c [3, 104, 97, 121]) : Calls Try.prog 20 #[rv A 4 c 0 0, .int .i64 9] w (ReadTextIs 4 [3, 104, 97, 121] 4 0 [104, 97, 121] w) := by
  refine Calls.mono (show Calls Try.prog 20 #[rv A 4 c 0 0, .int .i64 9] w (ReadTextPost [3, 104, 97, 121] 4 0 9 w) from readText_any A 4 c 0 9 [3, 104, 97, 121] w h (by omega) (by omega) (by omega) (by omega)) ?_
  rintro e w' ⟨A', c', ho, hb, he⟩
  have hg : Code.getText 9 (([3, 104, 97, 121] : List UInt8).drop 0) = .ok ([104, 97, 121], 4) := by
    have h := Code.getText_text 9 [104, 97, 121] [] (by decide) (by decide)
    rw [List.append_nil, hay_text] at h
    exact h
  rw [hg] at he
  exact ⟨A', c', ho, hb, he⟩
set_option maxRecDepth 100000 in
set_option maxHeartbeats 8000000 in
theorem knows2_any (w : World) : Calls Try.prog 11 #[] w (RetB true w) := by
  obtain ⟨L, hL⟩ : ∃ L : List UInt8, [172, 2] = L := ⟨_, rfl⟩
  obtain ⟨M, hM⟩ : ∃ M : List UInt8, [3, 104, 97, 121] = M := ⟨_, rfl⟩
  obtain ⟨S, hS⟩ : ∃ S : List UInt8, [104, 97, 121] = S := ⟨_, rfl⟩
  obtain ⟨X, hX⟩ : ∃ X : List UInt8, [128, 0] = X := ⟨_, rfl⟩
  have c1 := fun (W : World) => (show Calls Try.prog 12 #[.slice none 0 0, .int .i64 300] W (NumPost ([] ++ Code.num 300) W) from num_any none 0 0 [] 300 W (Bs.nil W) (by omega) (by omega))
  rw [List.nil_append, num300, hL] at c1
  have c2 := fun (W : World) => (show Calls Try.prog 15 #[.slice none 0 0, .string { data := #[104, 97, 121] }] W (Ret8 W.heap.size ([] ++ Code.text [104, 97, 121]) W) from text_any none 0 0 [] [104, 97, 121] W (Bs.nil W) (by omega) (by decide))
  rw [List.nil_append, hay_text, hM] at c2
  have c3 := read300
  rw [hL] at c3
  have c4 := readHay
  rw [hM, hS] at c4
  have c5 := readBad
  rw [hX] at c5
  have lL : L.length = 2 := by rw [← hL]; rfl
  have lM : M.length = 4 := by rw [← hM]; rfl
  have e1 : ((str L).toList == [172, 2]) = true := by rw [str_toList, ← hL]; rfl
  have e2 : ((str M).toList == [3, 104, 97, 121]) = true := by rw [str_toList, ← hM]; rfl
  have e3 : ((str S).toList == [104, 97, 121]) = true := by rw [str_toList, ← hS]; rfl
  have hXb : ([.int .u8 128, .int .u8 0] : List Value) = X.map bv := by rw [← hX]; rfl
  have C1 := Lib.hid c1
  have C2 := Lib.hid c2
  have C3 := Lib.hid c3
  have C4 := Lib.hid c4
  have C5 := Lib.hid c5
  have HL := Lib.hid (And.intro lL lM)
  have HX := Lib.hid (And.intro hXb (show X.length = 2 by rw [← hX]; rfl))
  clear c1 c2 c3 c4 c5 hL hM hS hX lL lM hXb
  go_enter Try.func11, Try.ntmps11
  go_wp2_with fail
  refine (C1.out _).mono ?_
  rintro e w1 ⟨A1, n1, c1, rfl, ho1, hb1⟩
  obtain rfl : n1 = 2 := by rw [← ho1.len]; exact HL.out.1
  have HB1 := Lib.hid hb1
  clear hb1
  go_wp2_with fail
  refine (C2.out _).mono ?_
  rintro e w2 ⟨A2, n2, c2, rfl, ho2, hb2⟩
  obtain rfl : n2 = 4 := by rw [← ho2.len]; exact HL.out.2
  have p1 := ho1.bs.keep hb2
  have HB2 := Lib.hid (bt HB1.out hb2)
  clear hb2
  go_wp2_with fail
  refine (C3.out A1 c1 w2 p1).mono ?_
  rintro e w3 ⟨A3, c3, ho3, hb3, rfl⟩
  have hb3a := (Below.refl w3.heap.size w3).alloc (Nat.le_refl _) (.cells #[.slice A3 2 c3, .int .i64 2, .int .i64 0] 37)
  have R3 := Lib.hid (row_new w3 #[.slice A3 2 c3, .int .i64 2, .int .i64 0] 37)
  have hb3b := bt hb3 hb3a
  have p2 := p1.keep hb3b
  have q2 := ho2.bs.keep hb3b
  have HB3 := Lib.hid (bt HB2.out hb3b)
  clear hb3 hb3a hb3b
  go_wp2_with fail
  refine (C4.out A2 c2 _ q2).mono ?_
  rintro e w4 ⟨A4, c4, ho4, hb4, rfl⟩
  have hb4a := (Below.refl w4.heap.size w4).alloc (Nat.le_refl _) (.cells #[.slice A4 4 c4, .int .i64 4, .int .i64 0] 37)
  have R4 := Lib.hid (row_new w4 #[.slice A4 4 c4, .int .i64 4, .int .i64 0] 37)
  have hb4b := bt hb4 hb4a
  have p3 := p2.keep hb4b
  have q3 := q2.keep hb4b
  have R3' := Lib.hid (R3.out.belowS hb4b (Nat.le_refl _))
  have HB4 := Lib.hid (bt HB3.out hb4b)
  clear hb4 hb4a hb4b
  have hb5 := (Below.refl (w4.alloc (.cells #[.slice A4 4 c4, .int .i64 4, .int .i64 0] 37)).heap.size (w4.alloc (.cells #[.slice A4 4 c4, .int .i64 4, .int .i64 0] 37))).alloc (Nat.le_refl _) (.cells #[.int .u8 128, .int .u8 0] 5)
  have hx := (Own8.new (w4.alloc (.cells #[.slice A4 4 c4, .int .i64 4, .int .i64 0] 37)) X [.int .u8 128, .int .u8 0] (Nat.le_refl _) HX.out.1 HX.out.2 (by decide)).bs
  have hsz : (w4.alloc (.cells #[.slice A4 4 c4, .int .i64 4, .int .i64 0] 37)).heap.size = w4.heap.size + 1 := by unfold World.alloc; simp
  rw [hsz] at hx
  have p4 := p3.keep hb5
  have q4 := q3.keep hb5
  have R3a := Lib.hid (R3'.out.belowS hb5 (Nat.le_refl _))
  have R4a := Lib.hid (R4.out.belowS hb5 (Nat.le_refl _))
  have HB5 := Lib.hid (bt HB4.out hb5)
  clear hb5 hsz
  go_wp2_with fail
  refine (C5.out _ _ _ hx).mono ?_
  rintro e w5 ⟨A5, c5, ho5, hb6, rfl⟩
  have hb6a := (Below.refl w5.heap.size w5).alloc (Nat.le_refl _) (.cells #[.slice A5 2 c5, .int .i64 0, .int .i64 2] 37)
  have hr5 := row_new w5 #[.slice A5 2 c5, .int .i64 0, .int .i64 2] 37
  have hb6b := bt hb6 hb6a
  have p5 := p4.keep hb6b
  have q5 := q4.keep hb6b
  have hr3 := R3a.out.belowS hb6b (Nat.le_refl _)
  have R4b := Lib.hid (R4a.out.belowS hb6b (Nat.le_refl _))
  have R5 := Lib.hid hr5
  have d3 := (ho3.bs.cap)
  have HB6 := Lib.hid (bt HB5.out hb6b)
  have s1 := run_str (P := Try.prog) (w := w5.alloc (.cells #[.slice A5 2 c5, .int .i64 0, .int .i64 2] 37)) 23 9 5 Try.underlying23 Try.underlying5 Try.underlying9 A1 2 c1 _ L p5.rd p5.len
  have s2 := run_str (P := Try.prog) (w := w5.alloc (.cells #[.slice A5 2 c5, .int .i64 0, .int .i64 2] 37)) 23 9 5 Try.underlying23 Try.underlying5 Try.underlying9 A2 4 c2 _ M q5.rd q5.len
  have y0 := hr3.cellQ 0 _ rfl
  have y1 := hr3.cellQ 1 _ rfl
  have y2 := hr3.cellQ 2 _ rfl
  clear hb6 hb6a hb6b hr5 hr3
  go_wp2_with fail
  have hd := done_ok A3 2 c3 2 (w5.alloc (.cells #[.slice A5 2 c5, .int .i64 0, .int .i64 2] 37)) (Nat.le_refl _) ho3.cap ho3.max
  refine Calls.mono (show Calls Try.prog 23 #[rv A3 2 c3 2 0] _ _ from hd) ?_
  rintro e w6 ⟨rfl, hb7⟩
  have HB7 := Lib.hid (bt HB6.out hb7)
  have z4 := (R4b.out.belowS hb7 (Nat.le_refl _)).cellQ 1 _ rfl
  have z5 := (R5.out.belowS hb7 (Nat.le_refl _)).cellQ 2 _ rfl
  clear hb7 hd y0 y1 y2 s1 s2
  go_wp2
  go_ret
  exact ⟨rfl, HB7.out⟩
end Go.Proofs.Ytkkliblndglniaa
