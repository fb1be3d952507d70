/- Arguments opened: links, proofs, answers. No statement of the seat is proved here. -/
import Derived.Test.YteoledjllpgcbaaGreatDoorMReplyE
import Derived.Test.YteoledjllpgcbaaGreatDoorMReplyD
namespace Go.Proofs.YteoledjllpgcbaaGreatDoor
set_option maxRecDepth 100000
set_option maxHeartbeats 64000000
set_option linter.unusedVariables false
open Go.ChangeShapes Go.WideShapes Go.ChangeAt Go.RowKit
structure InPf9 (W : World) (d : PfD) : Prop where
 i : InPf W d
 at_ : -9223372036854775808 ≤ d.p.at_ ∧ d.p.at_ ≤ 9223372036854775807
 pl : ∀ s ∈ d.p.path, s.length ≤ maxLen
section
variable {H : Type} {enc : TypeId × Value → H} {W : World} {base : Nat} {v : Value} {d : DataW H} {p : List MemPlace} {r : Reach}
theorem open_linkC {fuel : Nat} {cs : List Value} {x : DataW H × List MemPlace} (h : DataW.trod enc Tryz.prog W 0 (fun _ => true) true fuel 26 cs = some x) : ∃ k : Hd.Lk, cs = [sv k.term, sv k.next, sv k.posts] := by
 obtain ⟨y0, y1, y2, m, _, hl, f0, f1, f2⟩ := Go.Deep.trod_struct3 Tryz.underlying26 h
 have hl2 : cs.length = 3 := hl.trans (by kernel_rfl)
 obtain ⟨c0, c1, c2, rfl⟩ := list3 hl2
 try dsimp only at f0
 rw [show Tryz.prog.cellsOf 9 = 1 by kernel_rfl] at f0
 have f0 : DataW.trod enc Tryz.prog W 0 (fun _ => true) true m 9 [c0] = some y0 := by simpa using f0
 try dsimp only at f1
 rw [show Tryz.prog.cellsOf 9 = 1 by kernel_rfl] at f1
 have f1 : DataW.trod enc Tryz.prog W 0 (fun _ => true) true m 9 [c1] = some y1 := by simpa using f1
 try dsimp only at f2
 rw [show Tryz.prog.cellsOf 9 = 1 by kernel_rfl] at f2
 have f2 : DataW.trod enc Tryz.prog W 0 (fun _ => true) true m 9 [c2] = some y2 := by simpa using f2
 clear h hl hl2
 obtain ⟨t0, e0, _, w0⟩ := DataW.trod_string Tryz.underlying9 f0
 obtain ⟨t1, e1, _, w1⟩ := DataW.trod_string Tryz.underlying9 f1
 obtain ⟨t2, e2, _, w2⟩ := DataW.trod_string Tryz.underlying9 f2
 obtain ⟨l0, rfl, _⟩ := str_of t0 w0
 obtain ⟨l1, rfl, _⟩ := str_of t1 w1
 obtain ⟨l2, rfl, _⟩ := str_of t2 w2
 simp only [List.cons.injEq, and_true] at e0 e1 e2
 exact ⟨⟨l0, l1, l2⟩, by rw [e0, e1, e2]⟩
theorem open_proofC {fuel : Nat} {cs : List Value} {x : DataW H × List MemPlace} (h : DataW.trod enc Tryz.prog W 0 (fun _ => true) true fuel 30 cs = some x) : ∃ d : PfD, cs = pfc d ∧ InPf9 W d := by
 obtain ⟨y0, y1, y2, y3, m, _, hl, f0, f1, f2, f3⟩ := Go.Joins.trod_struct4 Tryz.underlying30 h
 have hl2 : cs.length = 6 := hl.trans (by kernel_rfl)
 obtain ⟨c0, c1, c2, c3, c4, c5, rfl⟩ := list6 hl2
 try dsimp only at f0
 rw [show Tryz.prog.cellsOf 3 = 1 by kernel_rfl] at f0
 have f0 : DataW.trod enc Tryz.prog W 0 (fun _ => true) true m 3 [c0] = some y0 := by simpa using f0
 try dsimp only at f1
 rw [show Tryz.prog.cellsOf 26 = 3 by kernel_rfl] at f1
 have f1 : DataW.trod enc Tryz.prog W 0 (fun _ => true) true m 26 [c1, c2, c3] = some y1 := by simpa using f1
 try dsimp only at f2
 rw [show Tryz.prog.cellsOf 27 = 1 by kernel_rfl] at f2
 have f2 : DataW.trod enc Tryz.prog W 0 (fun _ => true) true m 27 [c4] = some y2 := by simpa using f2
 try dsimp only at f3
 rw [show Tryz.prog.cellsOf 28 = 1 by kernel_rfl] at f3
 have f3 : DataW.trod enc Tryz.prog W 0 (fun _ => true) true m 28 [c5] = some y3 := by simpa using f3
 clear h hl hl2
 obtain ⟨a, e0, _, wa⟩ := DataW.trod_int Tryz.underlying3 f0
 obtain ⟨k, e1⟩ := open_linkC f1
 obtain ⟨Ap, np, cp, lp, e2, hp, hpl⟩ := open_strsC f2
 obtain ⟨Ad, nd, cd, ld, e3, hd⟩ := open_bytesC f3
 simp only [List.cons.injEq, and_true] at e0 e1 e2 e3
 exact ⟨⟨⟨a, k, lp, ld⟩, Ap, np, cp, Ad, nd, cd⟩, by rw [e0, e1.1, e1.2.1, e1.2.2, e2, e3]; rfl, ⟨⟨hp, hd⟩, bounds_i64 wa, hpl⟩⟩
end
end Go.Proofs.YteoledjllpgcbaaGreatDoor
