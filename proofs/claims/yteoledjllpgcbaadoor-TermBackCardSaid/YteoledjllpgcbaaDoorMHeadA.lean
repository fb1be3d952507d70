/- MHeadA: several texts of this claim in one file. No statement of the seat is proved here. -/
import Derived.Test.YteoledjllpgcbaaDoorMHeadP
import Derived.Deep.CutRange
import Derived.Test.YteoledjllpgcbaaDoorMSealA
namespace Go.Proofs.YteoledjllpgcbaaDoor
set_option maxRecDepth 100000
set_option maxHeartbeats 64000000
set_option linter.unusedVariables false
open Go.RowKit
theorem drop_cons {α : Type} {l : List α} {t : Nat} {x : α} (h : l[t]? = some x) : l.drop t = x :: l.drop (t + 1) := by
 obtain ⟨h1, h2⟩ := List.getElem?_eq_some_iff.1 h
 rw [List.drop_eq_getElem_cons h1, h2]
def hdv (A : Option Addr) (n c : Nat) (h : Hd.H) : Value := .agg #[.int .i64 h.size, sv h.log, .slice A n c]
theorem run_idxK {P : Program} {w : World} {k : Nat} (T : TypeId) {e : TypeId} (hu : P.underlying T = some (.slice e)) (he : (P.info? (P.elem T)).map (·.size) = some k) (b off n c i : Nat) (z : Int) (hz : z = (i : Int)) (hi : i < n) :
  (Instr.indexAt T (.slice (some ⟨b, off, none⟩) n c) (.int .i64 z)).run P w = .ok (.pointer (some ⟨b, off + i * k, none⟩)) w := by
 subst hz
 have hue : P.elem T = e := by simp [Program.elem, hu]
 rw [run_indexAt_slice w T _ n c .i64 _ (by rw [hue]; exact hu), if_pos ⟨by omega, by omega⟩, run_sizeOf_of _ k he, Result.andThen_ok, Int.toNat_natCast]
 by_cases h0 : i * k = 0
 · rw [h0]; simp [Addr.add]
 · simp [Addr.add, h0]
def Hd.beg (l : List Hd.Sg) : Nat → Int
 | 0 => match l[0]? with | some s => s.fr | none => 0
 | k + 1 => match l[k]? with | some s => s.to | none => 0
theorem Hd.beg_succ {l : List Hd.Sg} {k : Nat} {s : Hd.Sg} (h : l[k]? = some s) : Hd.beg l (k + 1) = s.to := by simp only [Hd.beg]; rw [h]
theorem Hd.row_beg {l : List Hd.Sg} {s0 : Hd.Sg} (h : l[0]? = some s0) (size : Int) : Hd.row l size = (decide (l.length ≤ 64) && (decide (s0.fr = 0) && Hd.rowFrom l (Hd.beg l 0) size)) := by
 unfold Hd.row Hd.beg
 rw [h]
 congr 1
 cases l with
 | nil => simp at h
 | cons s l =>
  simp only [List.getElem?_cons_zero, Option.some.injEq] at h
  subst h
  unfold Hd.rowFrom
  simp
theorem Hd.rowFrom_at {l : List Hd.Sg} {k : Nat} {s : Hd.Sg} (h : l[k]? = some s) (a size : Int) : Hd.rowFrom (l.drop k) a size = (decide (s.fr = a) && (s.ok && Hd.rowFrom (l.drop (k + 1)) s.to size)) := by
 rw [drop_cons h]; rfl
end Go.Proofs.YteoledjllpgcbaaDoor
