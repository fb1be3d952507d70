/- slices.Reverse of texts; Path, of the tree. No statement of the seat is proved here. -/
import Derived.Test.YtoiilhbjlfdfpaaDoorTree8
namespace Go.Proofs.YtoiilhbjlfdfpaaDoor
set_option linter.unusedVariables false
open Go.RowKit

/-- Turned round but for the places from i on to its mirror. -/
structure RevRel (l xs : List (List UInt8)) (n i : Nat) : Prop where
  len : xs.length = n
  out : ∀ k, k < n → xs[k]? = if k < i ∨ n ≤ k + i then l[n - 1 - k]? else l[k]?
theorem RevRel.start {l : List (List UInt8)} {n : Nat} (h : l.length = n) : RevRel l l n 0 := ⟨h, fun k hk => by rw [if_neg (by omega)]⟩
theorem RevRel.step {l xs : List (List UInt8)} {n i j : Nat} {a b : List UInt8} (h : RevRel l xs n i) (hij : i + j + 1 = n) (hlt : i < j) (ha : xs[i]? = some a) (hb : xs[j]? = some b) : RevRel l ((xs.set i b).set j a) n (i + 1) := by
  have e1 := h.out i (by omega)
  have e2 := h.out j (by omega)
  rw [if_neg (by omega), ha] at e1
  rw [if_neg (by omega), hb] at e2
  refine ⟨by rw [List.length_set, List.length_set, h.len], fun k hk => ?_⟩
  by_cases k1 : k = j
  · subst k1
    rw [List.getElem?_set_self (by rw [List.length_set, h.len]; omega), if_pos (by omega), show n - 1 - k = i by omega, ← e1]
  · rw [List.getElem?_set_ne (fun e => k1 e.symm)]
    by_cases k2 : k = i
    · subst k2
      rw [List.getElem?_set_self (by rw [h.len]; omega), if_pos (by omega), show n - 1 - k = j by omega, ← e2]
    · rw [List.getElem?_set_ne (fun e => k2 e.symm), h.out k hk]
      by_cases k3 : k < i ∨ n ≤ k + i
      · rw [if_pos k3, if_pos (by omega)]
      · rw [if_neg k3, if_neg (by omega)]
theorem RevRel.done {l xs : List (List UInt8)} {n i : Nat} (hl : l.length = n) (h : RevRel l xs n i) (hi : n ≤ 2 * i + 1) : xs = l.reverse := by
  apply List.ext_getElem?
  intro k
  by_cases hk : k < n
  · rw [h.out k hk, List.getElem?_reverse (by omega), hl]
    by_cases k3 : k < i ∨ n ≤ k + i
    · rw [if_pos k3]
    · rw [if_neg k3, show n - 1 - k = k by omega]
  · rw [List.getElem?_eq_none (by rw [h.len]; omega), List.getElem?_eq_none (by rw [List.length_reverse]; omega)]
set_option maxRecDepth 100000 in
set_option maxHeartbeats 16000000 in
theorem reverse_any (B : Nat) (A : Option Addr) (n c : Nat) (l : List (List UInt8)) (w : World) (h : OwnS w B A n c l) (hB : B ≤ w.heap.size) (hn : n ≤ 1000000) :
    Calls Tryd.prog 44 #[.slice A n c] w fun e w' => (∃ v, e = .returned v) ∧ OwnS w' B A n c l.reverse ∧ Below B w w' := by
  have hcap := h.cap
  have hmax := h.max
  rw [maxLen_eq] at hmax
  have HL := Lib.hid h.len
  go_enter Tryd.func44, Tryd.ntmps44
  go_wp2
  go_loopw [2, 3] (fun vi vj wr => ∃ (i : Nat) (xs : List (List UInt8)), vi = .int .i64 i ∧ vj = .int .i64 ((n : Int) - 1 - i) ∧ i ≤ n ∧ 2 * i ≤ n + 1 ∧ OwnS wr B A n c xs ∧ Below B w wr ∧ Hid (RevRel l xs n i)) (fun vi _ _ => n - (intOf vi).toNat)
  case atStart => exact ⟨0, l, rfl, by simp, by omega, by omega, h, Below.refl _ _, Lib.hid (RevRel.start HL.out)⟩
  case round =>
    obtain ⟨i, xs, rfl, rfl, hi, hi2, hown, hbel, hrev⟩ := hrel
    by_cases hlt : 2 * i + 1 < n
    · obtain ⟨j, hj⟩ : ∃ j, i + j + 1 = n := ⟨n - 1 - i, by omega⟩
      have hjv : (n : Int) - 1 - (i : Int) = (j : Int) := by omega
      obtain ⟨g, rfl, hg1, hg2⟩ := hown.form (by omega)
      obtain ⟨a, ha⟩ : ∃ a, xs[i]? = some a := ⟨_, List.getElem?_eq_getElem (by rw [hown.len]; omega)⟩
      obtain ⟨b, hb⟩ : ∃ b, xs[j]? = some b := ⟨_, List.getElem?_eq_getElem (by rw [hown.len]; omega)⟩
      have x0 := hown.cell ha
      have x1 := hown.cell hb
      have x2 := hown.own.frozenAt i
      have x3 := hown.own.frozenAt j
      have HN := Lib.hid (hrev.out.step (by omega) (by omega) ha hb)
      have hij : (i : Int) < (j : Int) := by omega
      have hij2 : ¬ j = i := by omega
      rw [hjv]
      clear ha hb hrev hjv
      go_wp2_with fail
      go_region
      go_wp2
      have hown2 := (hown.set i b).set j a
      have HS := Lib.hid (show OwnS (((wr.setCell ⟨g, i, none⟩ (sv b)).setCell ⟨g, j, none⟩ (sv a)).drew) B (some ⟨g, 0, none⟩) n c ((xs.set i b).set j a) ∧ Below B w (((wr.setCell ⟨g, i, none⟩ (sv b)).setCell ⟨g, j, none⟩ (sv a)).drew) from ⟨⟨hown2.own, hown2.len, hown2.cap, hown2.max⟩, ((hbel.setCell (p := ⟨g, i, none⟩) hg1 _).setCell (p := ⟨g, j, none⟩) hg1 _).trans (Below.refl _ _).drew⟩)
      clear hown2
      go_roundw
      case rel => exact ⟨i + 1, _, by go_num, by first | go_num | (simp only [Value.int.injEq, true_and]; push_cast; omega) | (congr 1; push_cast; omega), by omega, by omega, HS.out.1, HS.out.2, HN⟩
      case measure => simp [intOf]; omega
    · have HF := Lib.hid (hrev.out.done HL.out (by omega))
      have hij : ¬ (i : Int) < (n : Int) - 1 - (i : Int) := by omega
      clear hrev
      go_wp2
      go_end0
      exact ⟨⟨_, rfl⟩, by rw [← HF.out]; exact hown, hbel⟩
end Go.Proofs.YtoiilhbjlfdfpaaDoor
