/- From the rows' list of package-level variables to the cells of the four tables; a world for the witness. -/
import Derived.Test.YteoledjllpgcbaaGreatDoorMUtfB
import Derived.Test.YteoledjllpgcbaaGreatDoorMShaC
namespace Go.Proofs.YteoledjllpgcbaaGreatDoor.Ut
set_option maxRecDepth 100000
set_option maxHeartbeats 64000000
set_option linter.unusedVariables false
open Go.ChangeShapes Go.WideShapes Go.ChangeAt Go.RowKit
theorem flat_rows (k : IntKind) (m : Nat) : ∀ (rows : List (List Int)) (cs : List Value), (∀ r ∈ rows, r.length = m) → cs.length = rows.length * m →
  (∀ i r, rows[i]? = some r → ∀ j z, r[j]? = some z → cs[i * m + j]? = some (.int k z)) → cs = rows.flatten.map (Value.int k)
 | [], cs, _, hl, _ => by
  simp at hl
  subst hl; rfl
 | r :: rows, cs, hr, hl, h => by
  have hrl := hr r (by simp)
  have h0 : cs.take m = r.map (Value.int k) := by
   apply List.ext_getElem?
   intro j
   rw [List.getElem?_take]
   split
   ·
    rename_i hj
    have hz : r[j]? = some (r[j]'(by omega)) := List.getElem?_eq_getElem (by omega)
    have := h 0 r rfl j _ hz
    rw [Nat.zero_mul, Nat.zero_add] at this
    rw [this, List.getElem?_map, hz]; rfl
   ·
    rename_i hj
    rw [List.getElem?_eq_none (by simp; omega)]
  have h1 := flat_rows k m rows (cs.drop m) (fun r hr' => hr r (by simp [hr'])) (by rw [List.length_drop, hl, List.length_cons, Nat.add_mul]; omega) (fun i r hi j z hz => by
   rw [List.getElem?_drop]
   have := h (i + 1) r (by simpa using hi) j z hz
   rw [← this, Nat.add_mul, Nat.one_mul]
   congr 1; omega)
  rw [← List.take_append_drop m cs, h0, h1]
  simp
theorem cells_of_structs {H : Type} {enc : TypeId × Value → H} {P : Program} {w : World} {base : Nat} {sp : Nat → Bool} {held : Bool} {fuel : Nat} {t e : TypeId} {n m : Nat} {fs : Array Field} {k : IntKind} {cs : List Value} {rows : List (List Int)} {p : List MemPlace}
  (ht : P.underlying t = some (.array n e)) (he : P.underlying e = some (.struct fs)) (hf : ∀ (j : Nat) (f : Field), fs[j]? = some f → f.offset = j ∧ P.underlying f.type = some (.int k) ∧ P.cellsOf f.type = 1) (hfs : fs.size = m)
  (hce : P.cellsOf e = m) (hct : P.cellsOf t = n * m) (hn : rows.length = n) (hrows : ∀ r ∈ rows, r.length = m)
  (h : DataW.trod enc P w base sp held fuel t cs = some (.agg (rows.map fun r => .agg (r.map fun z => .lit (.int k z))), p)) : cs = rows.flatten.map (Value.int k) := by
 obtain ⟨xs, q, _, hx, hl, hxl, hat⟩ := DataW.trod_array ht h
 refine flat_rows k m rows cs hrows (by rw [hl, hct, hn]) fun i r hi j z hz => ?_
 have hin : i < n := by rw [← hn]; exact (List.getElem?_eq_some_iff.1 hi).1
 have hjm : j < m := by rw [← hrows r (List.mem_of_getElem? hi)]; exact (List.getElem?_eq_some_iff.1 hz).1
 have h1 := hat i hin
 have hxi : xs[i]? = some (xs[i]'(by omega)) := List.getElem?_eq_getElem (by omega)
 rw [hxi] at h1
 obtain ⟨ys, q', _, hy, hyl, hyl2, hat2⟩ := DataW.trod_struct he h1
 have hd : (xs[i]'(by omega)).1 = .agg (r.map fun z => .lit (.int k z)) := by
  have h3 := congrArg Prod.fst hx
  simp only [DataW.agg.injEq] at h3
  have h4 := congrArg (·[i]?) h3
  simpa [hi, hxi, List.getElem?_map] using h4.symm
 rw [hy] at hd
 simp only [DataW.agg.injEq] at hd
 have hfj : fs[j]? = some (fs[j]'(by omega)) := Array.getElem?_eq_getElem (by omega)
 obtain ⟨g1, g2, g3⟩ := hf j _ hfj
 have h5 := hat2 j _ hfj
 have hyj : ys[j]? = some (ys[j]'(by omega)) := List.getElem?_eq_getElem (by omega)
 rw [hyj, g1, g3, hce] at h5
 have hdj : (ys[j]'(by omega)).1 = .lit (.int k z) := by
  have h6 := congrArg (·[j]?) hd
  simpa [hyj, hz, List.getElem?_map] using h6
 have h7 : DataW.trod enc P w base sp held q' (fs[j]'(by omega)).type (((cs.drop (i * m)).take m).drop j |>.take 1) = some ((DataW.lit (.int k z) : DataW H), (ys[j]'(by omega)).2) := by
  rw [h5, ← hdj]
 obtain ⟨z', hc, hzz, _⟩ := DataW.trod_int g2 h7
 injection hzz with hzz _
 injection hzz with hzz
 injection hzz with _ hzz
 subst hzz
 have h8 := congrArg (·[0]?) hc
 simp only [List.getElem?_take, List.getElem?_drop] at h8
 simpa [hjm] using h8
def rowsL : List (List Int) := [[65, 90], [97, 122], [192, 214], [216, 246], [248, 255], [913, 929], [931, 937], [945, 969], [1024, 1119]]
def rowsS : List (List Int) := [[65, 90, 32], [192, 214, 32], [216, 222, 32], [913, 929, 32], [931, 937, 32], [1024, 1039, 80], [1040, 1071, 32]]
theorem gL : Tryz.prog.globalNamed "rubrick/utf.letters" = some 1 := by kernel_rfl
theorem gS : Tryz.prog.globalNamed "rubrick/utf.shifts" = some 2 := by kernel_rfl
theorem gLt : (Tryz.prog.globals[1]?).map (·.type) = some 171 := by kernel_rfl
theorem gSt : (Tryz.prog.globals[2]?).map (·.type) = some 182 := by kernel_rfl
theorem laidL_eq : (Rows.laid_rubrick_utf_letters : DataW Unit) = .agg (rowsL.map fun r => .agg (r.map fun z => .lit (.int .i64 z))) := rfl
theorem laidS_eq : (Rows.laid_rubrick_utf_shifts : DataW Unit) = .agg (rowsS.map fun r => .agg (r.map fun z => .lit (.int .i64 z))) := rfl
theorem ofFields (P : Program) (k : IntKind) (fs : Array Field) (h : (fs.toList.zipIdx.all fun (f, j) => f.offset == j && P.cellsOf f.type == 1) = true) (h2 : ∀ f ∈ fs, P.underlying f.type = some (.int k)) :
  ∀ (j : Nat) (f : Field), fs[j]? = some f → f.offset = j ∧ P.underlying f.type = some (.int k) ∧ P.cellsOf f.type = 1 := by
 intro j f hj
 have hm : (f, j) ∈ fs.toList.zipIdx := by
  rw [List.mem_zipIdx_iff_getElem?]
  simpa using hj
 have := List.all_eq_true.1 h _ hm
 simp at this
 exact ⟨this.1, h2 f (Array.mem_of_getElem? hj), this.2⟩
theorem utabs4_of {W : World} {rest : List (String × DataW Unit)} (h : laidMet Tryz.prog (("rubrick/sha.begin", Rows.laid_rubrick_sha_begin) :: ("rubrick/sha.rounds", Rows.laid_rubrick_sha_rounds) :: ("rubrick/utf.letters", Rows.laid_rubrick_utf_letters) :: ("rubrick/utf.shifts", Rows.laid_rubrick_utf_shifts) :: rest) W) : UTabs W := by
 obtain ⟨ps, ⟨_, _, _, _, _, _, _, _, _, _, ⟨_, _, _, _, _, _, _, _, _, _, ⟨g, t, cs, fuel, p, q, hg, ht, hvar, hd, ⟨g2, t2, cs2, fuel2, p2, q2, hg2, ht2, hvar2, hd2, _, _⟩, _⟩, _⟩, _⟩, _⟩ := h
 obtain rfl := Option.some.inj (gL.symm.trans hg)
 obtain rfl := Option.some.inj (gLt.symm.trans ht)
 obtain rfl := Option.some.inj (gS.symm.trans hg2)
 obtain rfl := Option.some.inj (gSt.symm.trans ht2)
 rw [laidL_eq] at hd
 rw [laidS_eq] at hd2
 have e1 := cells_of_structs (n := 9) (m := 2) Tryz.underlying171 Tryz.underlying170 (ofFields _ .i64 _ (by kernel_rfl) (by intro f hf; simp at hf; rcases hf with rfl | rfl <;> exact Tryz.underlying3)) rfl (by kernel_rfl) (by kernel_rfl) rfl (by decide) hd
 have e2 := cells_of_structs (n := 7) (m := 3) Tryz.underlying182 Tryz.underlying181 (ofFields _ .i64 _ (by kernel_rfl) (by intro f hf; simp at hf; rcases hf with rfl | rfl | rfl <;> exact Tryz.underlying3)) rfl (by kernel_rfl) (by kernel_rfl) rfl (by decide) hd2
 obtain ⟨t1, fr1, h1⟩ := var_heap gL hvar
 obtain ⟨t2, fr2, h2⟩ := var_heap gS hvar2
 have c1 : cs = letCells := by apply Array.ext'; rw [e1]; rfl
 have c2 : cs2 = shiCells := by apply Array.ext'; rw [e2]; rfl
 subst c1; subst c2
 exact ⟨⟨t1, fr1, h1⟩, ⟨t2, fr2, h2⟩⟩
end Go.Proofs.YteoledjllpgcbaaGreatDoor.Ut
namespace Go.Proofs.YteoledjllpgcbaaGreatDoor
noncomputable def laidWorld4 (os : Os) : World :=
 { laidWorld os with heap := ((laidWorld os).heap.modify 1 (setRow Ut.letCells)).modify 2 (setRow Ut.shiCells) }
end Go.Proofs.YteoledjllpgcbaaGreatDoor
