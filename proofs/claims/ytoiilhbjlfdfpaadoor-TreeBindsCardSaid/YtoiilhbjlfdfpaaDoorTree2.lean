/- combine, root, Root, Range, of the tree. No statement of the seat is proved here. -/
import Derived.Test.YtoiilhbjlfdfpaaDoorTree1
import Derived.Laws.OwnMore
namespace Go.Proofs.YtoiilhbjlfdfpaaDoor
set_option linter.unusedVariables false
open Go.RowKit

theorem run_idx0 {P : Program} {w : World} (T : TypeId) {e : TypeId} (hu : P.underlying T = some (.slice e)) (he : (P.info? (P.elem T)).map (·.size) = some 1) (b n c i : Nat) (z : Int) (hz : z = (i : Int)) (hi : i < n) :
    (Instr.indexAt T (.slice (some ⟨b, 0, none⟩) n c) (.int .i64 z)).run P w = .ok (.pointer (some ⟨b, i, none⟩)) w := by
  have h := run_idx (w := w) T hu he b 0 n c i z hz hi
  rw [Nat.zero_add] at h
  exact h
theorem own_cut {w : World} {B : Nat} {e : TypeId} {A : Option Addr} {n c : Nat} {xs : List Value} (h : w.ownsRow B e 1 (.slice A n c) n xs) (k : Nat) (hk : k ≤ n) : w.ownsRow B e 1 (.slice A k c) k (xs.take k) := by
  have hl := h.1
  refine ⟨by rw [List.length_take]; omega, ?_⟩
  rcases h.2 with ⟨hv, h0⟩ | ⟨g, cap, cur, hv, h1, h2, h3, h4, h5, h6⟩
  · obtain rfl : k = 0 := by omega
    simp only [Value.slice.injEq] at hv
    exact .inl ⟨by rw [hv.1, hv.2.2], rfl⟩
  · simp only [Value.slice.injEq, true_and] at hv
    refine .inr ⟨g, cap, cur, by rw [hv.1, hv.2], h1, h2, by omega, h4, h5, ?_⟩
    rw [← h6, List.take_take, Nat.mul_one, Nat.mul_one, Nat.min_eq_left hk]
theorem OwnS.cut {w : World} {B : Nat} {A : Option Addr} {n c : Nat} {l : List (List UInt8)} (h : OwnS w B A n c l) (k : Nat) (hk : k ≤ n) : OwnS w B A k c (l.take k) :=
  ⟨by rw [List.map_take]; exact own_cut h.own k hk, by rw [List.length_take, h.len]; omega, Nat.le_trans hk h.cap, h.max⟩
theorem OwnS.form {w : World} {B : Nat} {A : Option Addr} {n c : Nat} {l : List (List UInt8)} (h : OwnS w B A n c l) (hn : 0 < n) : ∃ g, A = some ⟨g, 0, none⟩ ∧ B ≤ g ∧ g < w.heap.size := by
  rcases h.own.2 with ⟨hv, h0⟩ | ⟨g, cap, cur, hv, h1, h2, _⟩
  · omega
  · simp only [Value.slice.injEq, true_and] at hv
    exact ⟨g, hv.1, h1, by
      rcases Nat.lt_or_ge g w.heap.size with hlt | hge
      · exact hlt
      · rw [Array.getElem?_eq_none hge] at h2; cases h2⟩
theorem OwnS.cell {w : World} {B g : Nat} {n c : Nat} {l : List (List UInt8)} (h : OwnS w B (some ⟨g, 0, none⟩) n c l) {j : Nat} {s : List UInt8} (hs : l[j]? = some s) : w.cell? ⟨g, j, none⟩ = some (sv s) := by
  have hj : j < n := by rw [← h.len]; exact (List.getElem?_eq_some_iff.1 hs).1
  rw [h.own.cellAt j (by omega), List.getElem?_map, hs]; rfl
theorem OwnS.set {w : World} {B g : Nat} {n c : Nat} {l : List (List UInt8)} (h : OwnS w B (some ⟨g, 0, none⟩) n c l) (j : Nat) (s : List UInt8) : OwnS (w.setCell ⟨g, j, none⟩ (sv s)) B (some ⟨g, 0, none⟩) n c (l.set j s) :=
  ⟨by rw [List.map_set]; exact (h.own.stored j (sv s)).1, by rw [List.length_set]; exact h.len, h.cap, h.max⟩
theorem comb_list (S : List (List UInt8)) (a b d : List UInt8) : ((S ++ [a, b]).set S.length d).take (S.length + 1) = S ++ [d] := by
  induction S with
  | nil => rfl
  | cons x r ih => simp only [List.cons_append, List.length_cons, List.set_cons_succ, List.take_succ_cons, ih]
def OwnSPost (B : Nat) (l : List (List UInt8)) (w : World) (e : Ending) (w' : World) : Prop := ∃ A n c, e = .returned (.slice A n c) ∧ OwnS w' B A n c l ∧ Below B w w'
set_option maxRecDepth 100000 in
set_option maxHeartbeats 4000000 in
theorem combine_any (B : Nat) (A : Option Addr) (n c : Nat) (S : List (List UInt8)) (a b : List UInt8) (w : World) (h : OwnS w B A n c (S ++ [a, b])) (hB : B ≤ w.heap.size) (ha : a.length = 32) (hb : b.length = 32) (ht : Tabs w) :
    Calls Tryd.prog 60 #[.slice A n c] w (OwnSPost B (S ++ [tnd a b]) w) := by
  have hn := h.len
  rw [List.length_append] at hn
  obtain ⟨g, rfl, hg, hgw⟩ := h.form (by rw [← hn]; simp)
  obtain ⟨m, hm⟩ : ∃ m, S.length = m := ⟨_, rfl⟩
  have hnm : n = m + 2 := by rw [← hn, hm]; rfl
  have hcap := h.cap
  have hmax := h.max
  rw [maxLen_eq] at hmax
  have X0 := Lib.hid (show ∀ W, Below w.heap.size w W → W.cell? ⟨g, m, none⟩ = some (sv a) from fun W hW => (h.keep hW).cell (by rw [← hm]; simp))
  have X1 := Lib.hid (show ∀ W, Below w.heap.size w W → W.cell? ⟨g, m + 1, none⟩ = some (sv b) from fun W hW => (h.keep hW).cell (by rw [← hm, List.getElem?_append_right (by omega)]; simp))
  have QN := Lib.hid (show ∀ W, Below w.heap.size w W → Calls Tryd.prog 46 #[sv a, sv b] W (StrPost (tnd a b) W) from fun W hW => tnode_any a b W ha hb (ht.below hW))
  unfold StrPost at QN
  have HS := Lib.hid (show ∀ W, Below w.heap.size w W → OwnS (W.setCell ⟨g, m, none⟩ (sv (tnd a b))) B (some ⟨g, 0, none⟩) (m + 1) c (S ++ [tnd a b]) ∧ Below B w (W.setCell ⟨g, m, none⟩ (sv (tnd a b))) from fun W hW => by
    have h2 := ((h.keep hW).set m (tnd a b)).cut (m + 1) (by omega)
    rw [← hm, comb_list] at h2
    rw [← hm]
    exact ⟨h2, (hW.mono hB).setCell (show B ≤ (⟨g, S.length, none⟩ : Addr).block from hg) _⟩)
  have HF := Lib.hid (show ∀ W, Below w.heap.size w W → W.frozen? ⟨g, m, none⟩ = false from fun W hW => (h.keep hW).own.frozenAt m)
  have c1 : (n : Int) - 2 = (m : Int) := by omega
  clear h ha hb ht hn hm
  go_enter Tryd.func60, Tryd.ntmps60
  go_wp2_with fail
  refine Free.wp_free_l 13 (fun W => Below w.heap.size w W) [Free.kc (.slice (some ⟨g, 0, none⟩) n c), Free.kc (.int .i64 (m : Int)), Free.kc (.slice (some ⟨g, 0, none⟩) n c), Free.kc (.int .i64 (m : Int)), Free.kc (.pointer (some ⟨g, m, none⟩)), Free.kc (sv a), Free.kc (.slice (some ⟨g, 0, none⟩) n c), Free.kc (.int .i64 (m : Int)), Free.kc (.int .i64 ((m : Int) + 1)), Free.kc (.pointer (some ⟨g, m + 1, none⟩)), Free.kc (sv b), Free.kc (sv (tnd a b)), Free.kc (.pointer (some ⟨g, m, none⟩))] (by kernel_rfl) (by kernel_rfl) (by decide) (Below.refl _ _).drew (fun w w' h g => bt h g) ?_ ?_
  · refine Free.forall_succ (Free.forall_succ (Free.forall_succ (Free.forall_succ (Free.forall_succ (Free.forall_succ (Free.forall_succ (Free.forall_succ (Free.forall_succ (Free.forall_succ (Free.forall_succ (Free.forall_succ (Free.forall_succ (Free.forall_zero) ?_) ?_) ?_) ?_) ?_) ?_) ?_) ?_) ?_) ?_) ?_) ?_) ?_
    · exact Free.ob_plain _ rfl rfl fun vals wq hC hd => (by exact Free.d_move rfl (by kernel_rfl) rfl)
    · exact Free.ob_plain _ rfl rfl fun vals wq hC hd => (by exact Free.d_move rfl (by kernel_rfl) rfl)
    · exact Free.ob_plain _ rfl rfl fun vals wq hC hd => (by exact Free.d_move rfl (by kernel_rfl) rfl)
    · exact Free.ob_plain _ rfl rfl fun vals wq hC hd => (by exact Free.d_move rfl (by kernel_rfl) rfl)
    · exact Free.ob_plain _ rfl rfl fun vals wq hC hd => (by exact Free.d_indexAddr rfl (Eq.trans (b := vals 2) (by kernel_rfl) (hd 2 (by kernel_rfl))) (Eq.trans (b := vals 3) (by kernel_rfl) (hd 3 (by kernel_rfl))) (run_idx0 22 Tryd.underlying22 (by kernel_rfl) g n c m _ (by omega) (by omega)) rfl)
    · exact Free.ob_plain _ rfl rfl fun vals wq hC hd => (by exact Free.d_load rfl (Eq.trans (b := vals 4) (by kernel_rfl) (hd 4 (by kernel_rfl))) (by have hcc := X0.out wq hC; go_simp) rfl)
    · exact Free.ob_plain _ rfl rfl fun vals wq hC hd => (by exact Free.d_move rfl (by kernel_rfl) rfl)
    · exact Free.ob_plain _ rfl rfl fun vals wq hC hd => (by exact Free.d_move rfl (by kernel_rfl) rfl)
    · exact Free.ob_plain _ rfl rfl fun vals wq hC hd => (by exact Free.d_bin rfl (Eq.trans (b := vals 7) (by kernel_rfl) (hd 7 (by kernel_rfl))) (show _ = (.int .i64 1 : Value) from rfl) (by go_simp) (by first | (go_simp; done) | (go_simp; rw [IntWalk.u32_in _ (by omega)]) | (go_simp; rw [IntWalk.i64_in _ (by omega)]) | (go_simp; rw [IntWalk.u8_in _ (by omega)]) | (go_simp; rw [IntKind.wrap_u32]; exact nv_add _ _)) rfl)
    · exact Free.ob_plain _ rfl rfl fun vals wq hC hd => (by exact Free.d_indexAddr rfl (Eq.trans (b := vals 6) (by kernel_rfl) (hd 6 (by kernel_rfl))) (Eq.trans (b := vals 8) (by kernel_rfl) (hd 8 (by kernel_rfl))) (run_idx0 22 Tryd.underlying22 (by kernel_rfl) g n c (m + 1) _ (by omega) (by omega)) rfl)
    · exact Free.ob_plain _ rfl rfl fun vals wq hC hd => (by exact Free.d_load rfl (Eq.trans (b := vals 9) (by kernel_rfl) (hd 9 (by kernel_rfl))) (by have hcc := X1.out wq hC; go_simp) rfl)
    · exact Free.ob_plain _ rfl rfl fun vals wq hC hd => (by exact Free.d_call Tryd.func46 (by kernel_rfl) (by kernel_rfl) rfl rfl (Free.arg2 (Eq.trans (b := vals 5) (by kernel_rfl) (hd 5 (by kernel_rfl))) (Eq.trans (b := vals 10) (by kernel_rfl) (hd 10 (by kernel_rfl)))) ((QN.out wq hC).mono fun e w2 h => ⟨_, h.1, rfl, h.2⟩))
    · exact Free.ob_plain _ rfl rfl fun vals wq hC hd => (by exact Free.d_indexAddr rfl (Eq.trans (b := vals 0) (by kernel_rfl) (hd 0 (by kernel_rfl))) (Eq.trans (b := vals 1) (by kernel_rfl) (hd 1 (by kernel_rfl))) (run_idx0 22 Tryd.underlying22 (by kernel_rfl) g n c m _ (by omega) (by omega)) rfl)
  · intro vals wq hC hd
    have e0 : vals 0 = (.slice (some ⟨g, 0, none⟩) n c) := hd 0 (by decide)
    have e1 : vals 1 = (.int .i64 (m : Int)) := hd 1 (by decide)
    have e2 : vals 2 = (.slice (some ⟨g, 0, none⟩) n c) := hd 2 (by decide)
    have e3 : vals 3 = (.int .i64 (m : Int)) := hd 3 (by decide)
    have e4 : vals 4 = (.pointer (some ⟨g, m, none⟩)) := hd 4 (by decide)
    have e5 : vals 5 = (sv a) := hd 5 (by decide)
    have e6 : vals 6 = (.slice (some ⟨g, 0, none⟩) n c) := hd 6 (by decide)
    have e7 : vals 7 = (.int .i64 (m : Int)) := hd 7 (by decide)
    have e8 : vals 8 = (.int .i64 ((m : Int) + 1)) := hd 8 (by decide)
    have e9 : vals 9 = (.pointer (some ⟨g, m + 1, none⟩)) := hd 9 (by decide)
    have e10 : vals 10 = (sv b) := hd 10 (by decide)
    have e11 : vals 11 = (sv (tnd a b)) := hd 11 (by decide)
    have e12 : vals 12 = (.pointer (some ⟨g, m, none⟩)) := hd 12 (by decide)
    simp only [Free.frameOf, List.range, List.range.loop, List.foldl, Free.dstOf, List.getElem?_toArray, List.getElem?_cons_zero, List.getElem?_cons_succ, Option.bind_some, Act.put, List.setIfInBounds_toArray, List.set_cons_zero, List.set_cons_succ, e0, e1, e2, e3, e4, e5, e6, e7, e8, e9, e10, e11, e12]
    clear hd e0 e1 e2 e3 e4 e5 e6 e7 e8 e9 e10 e11 e12
    have y0 := X0.out wq hC
    have y1 := HF.out wq hC
    have HE := Lib.hid (HS.out wq hC)
    clear hC
    go_wp2
    go_ret
    exact ⟨_, _, _, rfl, HE.out.1, HE.out.2⟩
end Go.Proofs.YtoiilhbjlfdfpaaDoor
