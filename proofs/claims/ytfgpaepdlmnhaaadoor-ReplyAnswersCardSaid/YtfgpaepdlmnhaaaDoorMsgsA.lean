/- Arguments opened: links, proofs, answers. No statement of the seat is proved here. -/
import Derived.Test.YtfgpaepdlmnhaaaDoorMReplyE
import Derived.Test.YtfgpaepdlmnhaaaDoorMReplyD
namespace Go.Proofs.YtfgpaepdlmnhaaaDoor
set_option maxRecDepth 100000
set_option linter.unusedVariables false
open Go.ChangeShapes Go.WideShapes Go.ChangeAt Go.RowKit
/-- A proof that came in. -/
structure InPf9 (W : World) (d : PfD) : Prop where
  i : InPf W d
  at_ : -9223372036854775808 ≤ d.p.at_ ∧ d.p.at_ ≤ 9223372036854775807
  pl : ∀ s ∈ d.p.path, s.length ≤ maxLen
section
variable {H : Type} {enc : TypeId × Value → H} {W : World} {base : Nat} {v : Value} {d : DataW H} {p : List MemPlace} {r : Reach}
set_option maxRecDepth 100000 in
theorem open_linkC {fuel : Nat} {cs : List Value} {x : DataW H × List MemPlace} (h : DataW.trod enc Tryd.prog W 0 (fun _ => true) true fuel 77 cs = some x) : ∃ k : Hd.Lk, cs = [sv k.term, sv k.next, sv k.posts] := by
  obtain ⟨y0, y1, y2, m, _, hl, f0, f1, f2⟩ := Go.Deep.trod_struct3 Tryd.underlying77 h
  have hl2 : cs.length = 3 := hl.trans (by kernel_rfl)
  obtain ⟨c0, c1, c2, rfl⟩ := list3 hl2
  try dsimp only at f0
  rw [show Tryd.prog.cellsOf 9 = 1 by kernel_rfl] at f0
  have f0 : DataW.trod enc Tryd.prog W 0 (fun _ => true) true m 9 [c0] = some y0 := by simpa using f0
  try dsimp only at f1
  rw [show Tryd.prog.cellsOf 9 = 1 by kernel_rfl] at f1
  have f1 : DataW.trod enc Tryd.prog W 0 (fun _ => true) true m 9 [c1] = some y1 := by simpa using f1
  try dsimp only at f2
  rw [show Tryd.prog.cellsOf 9 = 1 by kernel_rfl] at f2
  have f2 : DataW.trod enc Tryd.prog W 0 (fun _ => true) true m 9 [c2] = some y2 := by simpa using f2
  clear h hl hl2
  obtain ⟨t0, e0, _, w0⟩ := DataW.trod_string Tryd.underlying9 f0
  obtain ⟨t1, e1, _, w1⟩ := DataW.trod_string Tryd.underlying9 f1
  obtain ⟨t2, e2, _, w2⟩ := DataW.trod_string Tryd.underlying9 f2
  obtain ⟨l0, rfl, _⟩ := str_of t0 w0
  obtain ⟨l1, rfl, _⟩ := str_of t1 w1
  obtain ⟨l2, rfl, _⟩ := str_of t2 w2
  simp only [List.cons.injEq, and_true] at e0 e1 e2
  exact ⟨⟨l0, l1, l2⟩, by rw [e0, e1, e2]⟩
set_option maxRecDepth 100000 in
theorem open_proofC {fuel : Nat} {cs : List Value} {x : DataW H × List MemPlace} (h : DataW.trod enc Tryd.prog W 0 (fun _ => true) true fuel 79 cs = some x) : ∃ d : PfD, cs = pfc d ∧ InPf9 W d := by
  obtain ⟨y0, y1, y2, y3, m, _, hl, f0, f1, f2, f3⟩ := Go.Joins.trod_struct4 Tryd.underlying79 h
  have hl2 : cs.length = 6 := hl.trans (by kernel_rfl)
  obtain ⟨c0, c1, c2, c3, c4, c5, rfl⟩ := list6 hl2
  try dsimp only at f0
  rw [show Tryd.prog.cellsOf 3 = 1 by kernel_rfl] at f0
  have f0 : DataW.trod enc Tryd.prog W 0 (fun _ => true) true m 3 [c0] = some y0 := by simpa using f0
  try dsimp only at f1
  rw [show Tryd.prog.cellsOf 77 = 3 by kernel_rfl] at f1
  have f1 : DataW.trod enc Tryd.prog W 0 (fun _ => true) true m 77 [c1, c2, c3] = some y1 := by simpa using f1
  try dsimp only at f2
  rw [show Tryd.prog.cellsOf 46 = 1 by kernel_rfl] at f2
  have f2 : DataW.trod enc Tryd.prog W 0 (fun _ => true) true m 46 [c4] = some y2 := by simpa using f2
  try dsimp only at f3
  rw [show Tryd.prog.cellsOf 30 = 1 by kernel_rfl] at f3
  have f3 : DataW.trod enc Tryd.prog W 0 (fun _ => true) true m 30 [c5] = some y3 := by simpa using f3
  clear h hl hl2
  obtain ⟨a, e0, _, wa⟩ := DataW.trod_int Tryd.underlying3 f0
  obtain ⟨k, e1⟩ := open_linkC f1
  obtain ⟨Ap, np, cp, lp, e2, hp, hpl⟩ := open_strsC f2
  obtain ⟨Ad, nd, cd, ld, e3, hd⟩ := open_bytesC f3
  simp only [List.cons.injEq, and_true] at e0 e1 e2 e3
  exact ⟨⟨⟨a, k, lp, ld⟩, Ap, np, cp, Ad, nd, cd⟩, by rw [e0, e1.1, e1.2.1, e1.2.2, e2, e3]; rfl, ⟨⟨hp, hd⟩, bounds_i64 wa, hpl⟩⟩
set_option maxRecDepth 100000 in
theorem open_proofsC {fuel : Nat} {cs : List Value} {x : DataW H × List MemPlace} (h : DataW.trod enc Tryd.prog W 0 (fun _ => true) true fuel 95 cs = some x) : ∃ r : RwD, cs = rwc r ∧ InRow W r ∧ ∀ d ∈ r.l, InPf9 W d := by
  rcases Go.Deep.open_slice Tryd.underlying95 h with ⟨hcs, _⟩ | ⟨a, len, cap, m, n, D, Pl, hcs, _, hl, hm, hmm, _, hel⟩
  · exact ⟨⟨none, 0, 0, []⟩, hcs, ⟨Sq.nil W, by simp⟩, by simp⟩
  · have hE : Tryd.prog.cellsOf 79 = 6 := by kernel_rfl
    have key : ∀ i, ∃ s : PfD, i < len → W.cells? 0 (a.add (i * 6)) 6 = some (pfc s) ∧ InPf9 W s := fun i => by
      by_cases hi : i < len
      · obtain ⟨cs', h1, h2⟩ := hel i (by rw [hmm]; simp; omega)
        rw [hE] at h1
        obtain ⟨s, rfl, hs⟩ := open_proofC h2
        exact ⟨s, fun _ => ⟨h1, hs⟩⟩
      · exact ⟨⟨⟨0, ⟨[], [], []⟩, [], []⟩, none, 0, 0, none, 0, 0⟩, fun h => absurd h hi⟩
    obtain ⟨f, hf⟩ := Classical.axiomOfChoice key
    have hall : ∀ d ∈ (List.range len).map f, InPf9 W d := fun d hd => by
      obtain ⟨i, hi, rfl⟩ := List.mem_map.1 hd
      exact (hf i (List.mem_range.1 hi)).2
    exact ⟨⟨some a, len, cap, (List.range len).map f⟩, hcs, ⟨sq_of pfc_len (by omega) f hl hm (fun i hi => (hf i hi).1), fun d hd => (hall d hd).i⟩, hall⟩
set_option maxRecDepth 100000 in
theorem open_rowsC {fuel : Nat} {cs : List Value} {x : DataW H × List MemPlace} (h : DataW.trod enc Tryd.prog W 0 (fun _ => true) true fuel 25 cs = some x) : ∃ (A : Option Addr) (n c : Nat) (L : List RwD), cs = [.slice A n c] ∧ InRows W A n c L ∧ ∀ r ∈ L, ∀ d ∈ r.l, InPf9 W d := by
  rcases Go.Deep.open_slice Tryd.underlying25 h with ⟨hcs, _⟩ | ⟨a, len, cap, m, n, D, Pl, hcs, _, hl, hm, hmm, _, hel⟩
  · exact ⟨none, 0, 0, [], hcs, ⟨Sq.nil W, by simp⟩, by simp⟩
  · have hE : Tryd.prog.cellsOf 95 = 1 := by kernel_rfl
    have key : ∀ i, ∃ s : RwD, i < len → W.cells? 0 (a.add (i * 1)) 1 = some (rwc s) ∧ (InRow W s ∧ ∀ d ∈ s.l, InPf9 W d) := fun i => by
      by_cases hi : i < len
      · obtain ⟨cs', h1, h2⟩ := hel i (by rw [hmm]; simp; omega)
        rw [hE] at h1
        obtain ⟨s, rfl, hs⟩ := open_proofsC h2
        exact ⟨s, fun _ => ⟨h1, hs⟩⟩
      · exact ⟨⟨none, 0, 0, []⟩, fun h => absurd h hi⟩
    obtain ⟨f, hf⟩ := Classical.axiomOfChoice key
    have hall : ∀ r ∈ (List.range len).map f, InRow W r ∧ ∀ d ∈ r.l, InPf9 W d := fun d hd => by
      obtain ⟨i, hi, rfl⟩ := List.mem_map.1 hd
      exact (hf i (List.mem_range.1 hi)).2
    exact ⟨some a, len, cap, (List.range len).map f, hcs, ⟨sq_of rwc_len (by omega) f hl hm (fun i hi => (hf i hi).1), fun r hr => (hall r hr).1⟩, fun r hr => (hall r hr).2⟩
/-- An answer that came in. -/
structure InAa (W : World) (As : Option Addr) (ns cs : Nat) (A : Option Addr) (n c : Nat) (a : Hd.An) (L : List RwD) : Prop where
  h : InH W As ns cs a.h
  r : InRows W A n c L
  e : L.map RwD.ps = a.rows
  b : ∀ l ∈ a.rows, ∀ p ∈ l, (-9223372036854775808 ≤ p.at_ ∧ p.at_ ≤ 9223372036854775807) ∧ ∀ s ∈ p.path, s.length ≤ maxLen
set_option maxRecDepth 100000 in
theorem open_answerC {fuel : Nat} {cs : List Value} {x : DataW H × List MemPlace} (h : DataW.trod enc Tryd.prog W 0 (fun _ => true) true fuel 27 cs = some x) : ∃ (As : Option Addr) (ns ks : Nat) (A : Option Addr) (n c : Nat) (a : Hd.An) (L : List RwD), cs = [.int .i64 a.h.size, sv a.h.log, .slice As ns ks, .slice A n c] ∧ InAa W As ns ks A n c a L := by
  obtain ⟨y0, y1, m, _, hl, f0, f1⟩ := Go.ChangeShapes.trod_struct2 Tryd.underlying27 h
  have hl2 : cs.length = 4 := hl.trans (by kernel_rfl)
  obtain ⟨c0, c1, c2, c3, rfl⟩ := list4 hl2
  try dsimp only at f0
  rw [show Tryd.prog.cellsOf 24 = 3 by kernel_rfl] at f0
  have f0 : DataW.trod enc Tryd.prog W 0 (fun _ => true) true m 24 [c0, c1, c2] = some y0 := by simpa using f0
  try dsimp only at f1
  rw [show Tryd.prog.cellsOf 25 = 1 by kernel_rfl] at f1
  have f1 : DataW.trod enc Tryd.prog W 0 (fun _ => true) true m 25 [c3] = some y1 := by simpa using f1
  clear h hl hl2
  obtain ⟨As, ns, ks, hh, e0, hh1⟩ := open_headC f0
  obtain ⟨A, n, c, L, e1, hr, hb⟩ := open_rowsC f1
  simp only [List.cons.injEq, and_true] at e0 e1
  refine ⟨As, ns, ks, A, n, c, ⟨hh, L.map RwD.ps⟩, L, by rw [e0.1, e0.2.1, e0.2.2, e1], hh1, hr, rfl, fun l hl p hp => ?_⟩
  obtain ⟨r, hr1, rfl⟩ := List.mem_map.1 hl
  obtain ⟨d, hd, rfl⟩ := List.mem_map.1 hp
  exact ⟨(hb r hr1 d hd).at_, (hb r hr1 d hd).pl⟩
set_option maxRecDepth 100000 in
theorem open_answerL (hv : Value.okWide Tryd.prog W r base 27 v) (h : DataW.Trod enc Tryd.prog W 0 (fun _ => true) true 27 v d p) :
    ∃ (As : Option Addr) (ns ks : Nat) (A : Option Addr) (n c : Nat) (a : Hd.An) (L : List RwD), v = .agg #[.int .i64 a.h.size, sv a.h.log, .slice As ns ks, .slice A n c] ∧ InAa W As ns ks A n c a L := by
  obtain ⟨cs, rfl, hsz⟩ := okWide_struct Tryd.underlying27 hv
  obtain ⟨fuel, hf⟩ := h
  obtain ⟨As, ns, ks, A, n, c, a, L, e, hi⟩ := open_answerC (by simpa [Value.cells] using hf)
  exact ⟨As, ns, ks, A, n, c, a, L, by rw [← e], hi⟩
end
end Go.Proofs.YtfgpaepdlmnhaaaDoor
