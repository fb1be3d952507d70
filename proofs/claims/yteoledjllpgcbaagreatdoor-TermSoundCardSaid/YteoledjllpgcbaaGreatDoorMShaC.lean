/- MShaC: several texts of this claim in one file. No statement of the seat is proved here. -/
import Derived.Test.YteoledjllpgcbaaGreatDoorMShaB
import Derived.Lib.SlBytesConst
import Derived.Test.YteoledjllpgcbaaGreatDoorMBase
import Derived.Test.YteoledjllpgcbaaGreatDoorCards
import Derived.Test.YteoledjllpgcbaaGreatDoorTie
import Derived.ProofKit
import Derived.OpenShut
import Derived.Deep.DeepHandedRow
import Derived.Lib.LaidTab
namespace Go.Proofs.YteoledjllpgcbaaGreatDoor
set_option maxRecDepth 100000
set_option maxHeartbeats 64000000
set_option linter.unusedVariables false
open Go.RowKit
structure Tabs (w : World) : Prop where
 r : RoundsLie w
 b : BeginLies w
theorem Tabs.below {w w' : World} (h : Tabs w) (hb : Below w.heap.size w w') : Tabs w' := ⟨h.r.below hb (Nat.le_refl _), h.b.below hb (Nat.le_refl _)⟩
def Yes (w : World) (e : Ending) (w' : World) : Prop := e = .returned (.bool true) ∧ Below w.heap.size w w'
open Go.ChangeShapes Go.WideShapes Go.ChangeAt Go.RowKit
def zsB : List Int := Sha.begin_.list.map nv
def zsR : List Int := Sha.consts.map nv
theorem gB : Tryz.prog.globalNamed "rubrick/sha.begin" = some 0 := by kernel_rfl
theorem gR : Tryz.prog.globalNamed "rubrick/sha.rounds" = some 3 := by kernel_rfl
theorem gBt : (Tryz.prog.globals[0]?).map (·.type) = some 145 := by kernel_rfl
theorem gRt : (Tryz.prog.globals[3]?).map (·.type) = some 183 := by kernel_rfl
theorem var_heap {P : Program} {w : World} {name : String} {g : Nat} {cs : Array Value} (hg : P.globalNamed name = some g) (h : w.var? P name = some cs) : ∃ t fr, w.heap[g]? = some (.cells cs t fr) := by
 simp only [World.var?, hg, Option.bind_some] at h
 split at h
 ·
  rename_i cs' t fr hh
  injection h with h
  subst h
  exact ⟨t, fr, hh⟩
 · cases h
theorem laidB_eq : (Rows.laid_rubrick_sha_begin : DataW Unit) = Lib.tabData .u32 zsB := by rfl
theorem laidR_eq : (Rows.laid_rubrick_sha_rounds : DataW Unit) = Lib.tabData .u32 zsR := by rfl
theorem cell_tab {W : World} {g : Nat} {cs : Array Value} {t : TypeId} {fr : Nat × Nat} {zs : List Int} (h : W.heap[g]? = some (.cells cs t fr)) (hc : cs.toList = zs.map fun z => Value.int .u32 z) (j : Nat) (z : Int) (hz : zs[j]? = some z) : W.cell? ⟨g, j, none⟩ = some (.int .u32 z) := by
 have h2 : cs[j]? = some (.int .u32 z) := by
  rw [← Array.getElem?_toList, hc, List.getElem?_map, hz]; rfl
 obtain ⟨hj, hv⟩ := Array.getElem?_eq_some_iff.1 h2
 simp [World.cell?, h, hj, hv]
theorem heap_lt {W : World} {g : Nat} {o : Obj} (h : W.heap[g]? = some o) : g < W.heap.size := by
 rcases Nat.lt_or_ge g W.heap.size with hlt | hge
 · exact hlt
 · rw [Array.getElem?_eq_none hge] at h; cases h
theorem tabs_of {W : World} {rest : List (String × DataW Unit)} (h : laidMet Tryz.prog (("rubrick/sha.begin", Rows.laid_rubrick_sha_begin) :: ("rubrick/sha.rounds", Rows.laid_rubrick_sha_rounds) :: rest) W) : Tabs W := by
 obtain ⟨ps, ⟨g, t, cs, fuel, p, q, hg, ht, hvar, hd, ⟨g2, t2, cs2, fuel2, p2, q2, hg2, ht2, hvar2, hd2, _, _⟩, _⟩, _⟩ := h
 obtain rfl := Option.some.inj (gB.symm.trans hg)
 obtain rfl := Option.some.inj (gBt.symm.trans ht)
 obtain rfl := Option.some.inj (gR.symm.trans hg2)
 obtain rfl := Option.some.inj (gRt.symm.trans ht2)
 rw [laidB_eq] at hd
 rw [laidR_eq] at hd2
 have e1 := Lib.cells_of_tab (n := 8) Tryz.underlying145 Tryz.underlying144 (by kernel_rfl) (by kernel_rfl) hd
 have e2 := Lib.cells_of_tab (n := 64) Tryz.underlying183 Tryz.underlying144 (by kernel_rfl) (by kernel_rfl) hd2
 obtain ⟨t1, fr1, h1⟩ := var_heap gB hvar
 obtain ⟨t2, fr2, h2⟩ := var_heap gR hvar2
 have k := fun j z hz => cell_tab h1 e1 j z hz
 refine ⟨⟨heap_lt h2, fun j hj => cell_tab h2 e2 j _ ?_⟩, ⟨heap_lt h1, ⟨k 0 _ rfl, k 1 _ rfl, k 2 _ rfl, k 3 _ rfl, k 4 _ rfl, k 5 _ rfl, k 6 _ rfl, k 7 _ rfl⟩⟩⟩
 have h64 : Sha.consts.length = 64 := rfl
 unfold zsR cst
 rw [List.getElem?_map, List.getElem?_eq_getElem (by omega)]
 simp [List.getD, List.getElem?_eq_getElem (show j < Sha.consts.length by omega)]
def setRow (cs : Array Value) : Obj → Obj
 | .cells _ t frozen => .cells cs t frozen
 | o => o
noncomputable def laidWorld (os : Os) : World :=
 { World.holding Tryz.prog os ⟨#[], #[], []⟩ with heap := ((World.holding Tryz.prog os ⟨#[], #[], []⟩).heap.modify 0 (setRow (zsB.map fun z => Value.int .u32 z).toArray)).modify 3 (setRow (zsR.map fun z => Value.int .u32 z).toArray) }
end Go.Proofs.YteoledjllpgcbaaGreatDoor
