/- PostJoins: for every input the law answers true, and leaves memory as it was; no condition. -/
import Derived.Test.YtkkliblndglniaaPostJoins
import Derived.Test.YtkkliblndglniaaOpen
import Derived.Lib.SmallJoins
namespace Go.Proofs.Ytkkliblndglniaa
set_option linter.unusedVariables false
open Go.ChangeShapes Go.WideShapes Go.ChangeAt Go.RowKit
open Go.ChangeMaps (open_string shut_string)

namespace fPostJoins
theorem contract (H : Type) (enc : TypeId × Value → H) (W : World) (base : Nat) (args : Array Value) (ds gs : List (DataW H)) (before : List MemPlace)
    (hval : ∀ (j : Nat) t v, Try.f10.params[j]? = some t → args[j]? = some v → Value.okWide Try.prog W .any base t v)
    (hW : DataW.Whole enc Try.prog Try.f10.params.toList Rows.postJoinsSpec.vars false W args.toList ds gs before) :
    Calls Try.prog 10 args W fun e W' => ∃ v, e = .returned v ∧ Rows.postJoinsSpec.post enc Try.prog Try.f10 false true false false W args v W' := by
  have hW' := hW
  obtain ⟨p, q, hA0, hV, rfl, hfz, hnd⟩ := hW
  have hA : DataW.TrodAll enc Try.prog W 0 (fun _ => true) true Try.f10.params.toList args.toList ds p := hA0
  rw [Try.params10] at hA hval
  obtain ⟨v0, vs0, d0, ds0, p0, q0, hargs, rfl, rfl, h0, r0⟩ := trodAll_cons hA
  obtain ⟨v1, vs1, d1, ds1, p1, q1, rfl, rfl, rfl, h1, r1⟩ := trodAll_cons r0
  obtain ⟨v2, vs2, d2, ds2, p2, q2, rfl, rfl, rfl, h2, r2⟩ := trodAll_cons r1
  obtain ⟨rfl, rfl, rfl⟩ := trodAll_nil r2
  obtain rfl : args = #[v0, v1, v2] := by cases args; simp_all
  obtain ⟨rfl, rfl⟩ := trodVars_none hV
  have k0 := h0
  have lt0 : ∀ x ∈ p0, x.block < W.heap.size := by obtain ⟨m, hm⟩ := k0; exact DataW.trod_lt m _ _ _ hm
  obtain ⟨A0, n0, c0, l0, rfl, rd0, ln0, cp0, mx0, wf0⟩ := open_intsL (hval 0 48 v0 rfl rfl) h0
  have k1 := h1
  have lt1 : ∀ x ∈ p1, x.block < W.heap.size := by obtain ⟨m, hm⟩ := k1; exact DataW.trod_lt m _ _ _ hm
  obtain ⟨A1, n1, c1, l1, rfl, rd1, ln1, cp1, mx1, wf1⟩ := open_intsL (hval 1 48 v1 rfl rfl) h1
  obtain ⟨g20, g21, y20, y21, m2, rfl, rfl, rfl, hy20, hy21⟩ := Go.Joins.open_agg2 Try.underlying57 (by kernel_rfl) (show Try.prog.cellsOf 57 = 2 by kernel_rfl) (hval 2 57 v2 rfl rfl) h2
  obtain ⟨c2, e20, rfl, w20⟩ := DataW.trod_int Try.underlying3 hy20
  obtain ⟨f2, e21, rfl, w21⟩ := DataW.trod_int Try.underlying3 hy21
  simp at e20 e21
  subst e20 e21
  clear hA0
  simp only [List.append_nil] at hW'
  refine (postjoins_any A0 n0 c0 l0 A1 n1 c1 l1 c2 f2 W rd0 ln0 cp0 mx0 wf0 rd1 ln1 cp1 mx1 wf1 ).mono fun e W' ⟨he, bel⟩ => ?_
  subst he
  exact ⟨_, rfl, _, _, _, [], _, [], hW', trodAll_cons_mk (shut_bool Try.underlying4 _) trodAll_mk0, (trodAll_cons_mk (Below.trod laidOut (by kernel_rfl) (of_decide_eq_true (by kernel_rfl)) k0 bel lt0) (trodAll_cons_mk (Below.trod laidOut (by kernel_rfl) (of_decide_eq_true (by kernel_rfl)) k1 bel lt1) (trodAll_cons_mk (Go.Joins.shut_agg2 (y0 := (.lit (.int .i64 c2), [])) (y1 := (.lit (.int .i64 f2), [])) Try.underlying57 (by kernel_rfl) (show Try.prog.cellsOf 57 = 2 by kernel_rfl) ⟨1, by simp [DataW.trod, Try.underlying3, w20]⟩ ⟨1, by simp [DataW.trod, Try.underlying3, w21]⟩) trodAll_mk0))), rfl, bel.frame _, fun h => by cases h⟩
set_option maxRecDepth 100000 in
theorem lifted (os : Os) (started : os.Started) (H : Type) (enc : TypeId × Value → H) :
    ReturnsInHanded {} Try.checked os 10 .any (Rows.postJoinsSpec.pre6 enc Try.prog Try.f10 Rows.postJoinsRow.domain false) (Rows.postJoinsSpec.post enc Try.prog Try.f10 false true false false) := by
  refine returnsInHanded_of_change (C := Try.checked) own started (by kernel_rfl) Try.func10
    (ChangeSpec.witness6 (enc := enc) (C := Try.checked) false ⟨#[], #[.slice none 0 0, .slice none 0 0, .agg #[.int .i64 0, .int .i64 0]], []⟩ 8 (by kernel_rfl) (by kernel_rfl) (by kernel_rfl) (by kernel_rfl)) ?_
  intro W base args ds gs before hval0 hW hcnd _
  have hval : ∀ (j : Nat) t v, Try.f10.params[j]? = some t → args[j]? = some v → Value.okWide Try.prog W .any base t v := hval0
  exact contract H enc W base args ds gs before hval hW
end fPostJoins
/-- The statement. -/
theorem PostJoins_said : Rows.PostJoinsSaid :=
  OpenClaim.holds_of_wide 10 Try.f10 rfl rfl rfl rfl rfl rfl rfl ⟨rfl, rfl, rfl, rfl, rfl⟩ rfl rfl rfl rfl rfl (by kernel_rfl) Try.func10 (by kernel_rfl)
    (of_decide_eq_true (by kernel_rfl)) (by unfold Func.isWrapper; first | (rw [if_pos (by decide +kernel)]; kernel_rfl) | (rw [if_neg (by decide +kernel)]; exact ⟨rfl, rfl⟩))
    (fun os started H enc _ => fPostJoins.lifted os started H enc)
end Go.Proofs.Ytkkliblndglniaa
