/- Lists of texts are written: List, the reference's List and Same; great. No statement of the seat is proved here. -/
import Derived.Test.YtoiilhbjlfdfpaaDoorCode1
namespace Go.Proofs.YtoiilhbjlfdfpaaDoor
set_option linter.unusedVariables false
open Go.RowKit

/-- A slice of texts that reads as a list. -/
structure Ss (w : World) (A : Option Addr) (n c : Nat) (l : List (List UInt8)) : Prop where
  rd : Rd w w.heap.size A (l.map sv)
  len : l.length = n
  cap : n ≤ c
  max : c ≤ maxLen
theorem Ss.keep {w w' : World} {A : Option Addr} {n c : Nat} {l : List (List UInt8)} (h : Ss w A n c l) (hb : Below w.heap.size w w') : Ss w' A n c l := ⟨(h.rd.below' hb (Nat.le_refl _)).more hb.size, h.len, h.cap, h.max⟩
theorem Ss.at {w : World} {A : Option Addr} {n c : Nat} {l : List (List UInt8)} (h : Ss w A n c l) {k : Nat} (hk : k < n) : ∃ b off, A = some ⟨b, off, none⟩ ∧ b < w.heap.size ∧ (∀ j s, l[j]? = some s → w.cell? ⟨b, off + j, none⟩ = some (sv s)) ∧ ∃ s, l[k]? = some s := by
  obtain ⟨b, off, hA, hb, hc⟩ := h.rd (fun e => by
    have h2 := h.len
    have h3 : l = [] := by simpa using e
    rw [h3] at h2
    simp at h2; omega)
  exact ⟨b, off, hA, hb, fun j s hj => hc j (sv s) (by rw [List.getElem?_map, hj]; rfl), _, List.getElem?_eq_getElem (by have := h.len; omega)⟩
theorem text_len (s : List UInt8) (h : s.length ≤ 4611686018427387904) : (Code.text s).length ≤ s.length + 9 := by
  unfold Code.text
  have := Code.num_len9 s.length h
  rw [List.length_append]; omega
theorem take_flat {l : List (List UInt8)} {k : Nat} {s : List UInt8} (h : l[k]? = some s) : (l.take (k + 1)).flatMap Code.text = (l.take k).flatMap Code.text ++ Code.text s := by
  rw [List.take_add_one, h, Option.toList_some, List.flatMap_append, List.flatMap_singleton]
theorem mem_at {l : List (List UInt8)} {k : Nat} {s : List UInt8} (h : l[k]? = some s) : s ∈ l := List.mem_of_getElem? h
/-- Where the writing of a list is. -/
structure ListRel (B : Nat) (l0 : List UInt8) (ls : List (List UInt8)) (n : Nat) (w : World) (A' : Option Addr) (n' c' k : Nat) (wr : World) : Prop where
  own : Own8 wr B A' n' c' (l0 ++ (ls.take k).flatMap Code.text)
  below : Below w.heap.size w wr
  small : n' ≤ n + 20000 * k
theorem dec_nat (a k : Nat) : decide ((a : Int) < (k : Int)) = decide (a < k) := by
  by_cases h : a < k
  · rw [decide_eq_true h, decide_eq_true (by omega)]
  · rw [decide_eq_false h, decide_eq_false (by omega)]
/-- More than is looked at? -/
def greatS (ls : List (List UInt8)) : Bool := ls.any (fun s => decide (1000 < s.length)) || decide (50 < ls.length)
theorem run_neq_str' {P : Program} {w : World} (T : TypeId) (a b : List UInt8) : (binOp .neq T (.string (str a)) (.string (str b))).run P w = .ok (.bool (!decide (a = b))) w := by
  rw [binOp_string_neq, str_toList, str_toList, Sem.run_pure]
  congr 3
  by_cases h : a = b <;> simp [h]
theorem take_next {α : Type} {a b : List α} {k : Nat} {x y : α} (h : a.take k = b.take k) (ha : a[k]? = some x) (hb : b[k]? = some y) (he : x = y) : a.take (k + 1) = b.take (k + 1) := by
  rw [List.take_add_one, List.take_add_one, h, ha, hb, he]
set_option maxRecDepth 100000 in
set_option maxHeartbeats 4000000 in
theorem rsame_any (A : Option Addr) (n c : Nat) (la : List (List UInt8)) (B : Option Addr) (m k0 : Nat) (lb : List (List UInt8)) (w : World) (ha : Ss w A n c la) (hb : Ss w B m k0 lb) :
    Calls Tryd.prog 19 #[.slice A n c, .slice B m k0] w (RetB (decide (la = lb)) w) := by
  have hm := hb.max
  have hcap := hb.cap
  have hm2 := ha.max
  have hcap2 := ha.cap
  rw [maxLen_eq] at hm hm2
  by_cases hnm : n = m
  · subst hnm
    go_enter Tryd.func19, Tryd.ntmps19
    go_wp2
    go_loopw [5] (fun vi wr => ∃ k : Nat, k ≤ n ∧ vi = .int .i64 k ∧ Hid (la.take k = lb.take k) ∧ Below w.heap.size w wr) (fun vi _ => n - (intOf vi).toNat)
    case atStart => exact ⟨0, by omega, rfl, Lib.hid (by simp), Below.refl _ _⟩
    case round =>
      obtain ⟨k, hk, rfl, hr, hbel⟩ := hrel
      have HB := Lib.hid hbel
      clear hbel
      by_cases hlt : k < n
      · obtain ⟨b1, o1, rfl, hb1, hc1, s, hs⟩ := ha.at hlt
        obtain ⟨b2, o2, rfl, hb2, hc2, t, ht⟩ := hb.at hlt
        have y1 : ∀ W, Below wr.heap.size wr W → W.cell? ⟨b1, o1 + k, none⟩ = some (sv s) := fun W hW => ((bt HB.out hW).cell (p := ⟨b1, o1 + k, none⟩) hb1).trans (hc1 k s hs)
        have y2 : ∀ W, Below wr.heap.size wr W → W.cell? ⟨b2, o2 + k, none⟩ = some (sv t) := fun W hW => ((bt HB.out hW).cell (p := ⟨b2, o2 + k, none⟩) hb2).trans (hc2 k t ht)
        have Y1 := Lib.hid y1
        have Y2 := Lib.hid y2
        have HS := Lib.hid (And.intro hs ht)
        clear y1 y2 hc1 hc2 hs ht
        have kz : (0 : Int) ≤ (k : Int) := by omega
        have kn : (k : Int) < (n : Int) := by omega
        go_wp2_with fail
        refine Free.wp_free_l 9 (fun W => Below wr.heap.size wr W) [Free.kc (.slice (some ⟨b1, o1, none⟩) n c), Free.kc (.int .i64 (k : Int)), Free.kc (.pointer (some ⟨b1, o1 + k, none⟩)), Free.kc (sv s), Free.kc (.slice (some ⟨b2, o2, none⟩) n k0), Free.kc (.int .i64 (k : Int)), Free.kc (.pointer (some ⟨b2, o2 + k, none⟩)), Free.kc (sv t), Free.kc (.bool (!decide (s = t)))] (by kernel_rfl) (by kernel_rfl) (by decide) (Below.refl _ _).drew (fun w w' h g => bt h g) ?_ ?_
        · refine Free.forall_succ (Free.forall_succ (Free.forall_succ (Free.forall_succ (Free.forall_succ (Free.forall_succ (Free.forall_succ (Free.forall_succ (Free.forall_succ (Free.forall_zero) ?_) ?_) ?_) ?_) ?_) ?_) ?_) ?_) ?_
          · exact Free.ob_plain _ rfl rfl fun vals wq hC hd => (by exact Free.d_move rfl (by kernel_rfl) rfl)
          · exact Free.ob_plain _ rfl rfl fun vals wq hC hd => (by exact Free.d_move rfl (by kernel_rfl) rfl)
          · exact Free.ob_plain _ rfl rfl fun vals wq hC hd => (by exact Free.d_indexAddr rfl (Eq.trans (b := vals 0) (by kernel_rfl) (hd 0 (by kernel_rfl))) (Eq.trans (b := vals 1) (by kernel_rfl) (hd 1 (by kernel_rfl))) (run_idx 22 Tryd.underlying22 (by kernel_rfl) _ _ _ _ _ _ (by omega) (by omega)) rfl)
          · exact Free.ob_plain _ rfl rfl fun vals wq hC hd => (by exact Free.d_load rfl (Eq.trans (b := vals 2) (by kernel_rfl) (hd 2 (by kernel_rfl))) (by have hcc := Y1.out wq hC; go_simp) rfl)
          · exact Free.ob_plain _ rfl rfl fun vals wq hC hd => (by exact Free.d_move rfl (by kernel_rfl) rfl)
          · exact Free.ob_plain _ rfl rfl fun vals wq hC hd => (by exact Free.d_move rfl (by kernel_rfl) rfl)
          · exact Free.ob_plain _ rfl rfl fun vals wq hC hd => (by exact Free.d_indexAddr rfl (Eq.trans (b := vals 4) (by kernel_rfl) (hd 4 (by kernel_rfl))) (Eq.trans (b := vals 5) (by kernel_rfl) (hd 5 (by kernel_rfl))) (run_idx 22 Tryd.underlying22 (by kernel_rfl) _ _ _ _ _ _ (by omega) (by omega)) rfl)
          · exact Free.ob_plain _ rfl rfl fun vals wq hC hd => (by exact Free.d_load rfl (Eq.trans (b := vals 6) (by kernel_rfl) (hd 6 (by kernel_rfl))) (by have hcc := Y2.out wq hC; go_simp) rfl)
          · exact Free.ob_plain _ rfl rfl fun vals wq hC hd => (by exact Free.d_bin rfl (Eq.trans (b := vals 3) (by kernel_rfl) (hd 3 (by kernel_rfl))) (Eq.trans (b := vals 7) (by kernel_rfl) (hd 7 (by kernel_rfl))) (by go_simp) (run_neq_str' _ _ _) rfl)
        · intro vals wq hC hd
          have e0 : vals 0 = (.slice (some ⟨b1, o1, none⟩) n c) := hd 0 (by decide)
          have e1 : vals 1 = (.int .i64 (k : Int)) := hd 1 (by decide)
          have e2 : vals 2 = (.pointer (some ⟨b1, o1 + k, none⟩)) := hd 2 (by decide)
          have e3 : vals 3 = (sv s) := hd 3 (by decide)
          have e4 : vals 4 = (.slice (some ⟨b2, o2, none⟩) n k0) := hd 4 (by decide)
          have e5 : vals 5 = (.int .i64 (k : Int)) := hd 5 (by decide)
          have e6 : vals 6 = (.pointer (some ⟨b2, o2 + k, none⟩)) := hd 6 (by decide)
          have e7 : vals 7 = (sv t) := hd 7 (by decide)
          have e8 : vals 8 = (.bool (!decide (s = t))) := hd 8 (by decide)
          simp only [Free.frameOf, List.range, List.range.loop, List.foldl, Free.dstOf, List.getElem?_toArray, List.getElem?_cons_zero, List.getElem?_cons_succ, Option.bind_some, Act.put, List.setIfInBounds_toArray, List.set_cons_zero, List.set_cons_succ, e0, e1, e2, e3, e4, e5, e6, e7, e8]
          refine wpList_nil ?_
          clear hd e0 e1 e2 e3 e4 e5 e6 e7 e8
          have HBQ := Lib.hid (bt HB.out hC)
          clear hC
          by_cases hst : s = t
          · have HN := Lib.hid (take_next hr.out HS.out.1 HS.out.2 hst)
            rw [decide_eq_true hst]
            clear hst
            go_wp2
            go_roundw
            case rel => exact ⟨k + 1, by omega, by go_num, HN, HBQ.out⟩
            case measure => simp [intOf]; omega
          · have HN := Lib.hid (show decide (la = lb) = false from decide_eq_false (fun e => by
              subst e
              have h1 := HS.out.1
              rw [HS.out.2] at h1
              injection h1 with h1
              exact hst h1.symm))
            rw [decide_eq_false hst]
            clear hst
            go_wp2
            go_ret
            exact ⟨by rw [HN.out]; rfl, HBQ.out⟩
      · obtain rfl : k = n := by omega
        have HN := Lib.hid (show decide (la = lb) = true from decide_eq_true (by
          have h1 := hr.out
          rw [List.take_of_length_le (by rw [ha.len]; exact Nat.le_refl _), List.take_of_length_le (by rw [hb.len]; exact Nat.le_refl _)] at h1
          exact h1))
        go_wp2
        go_ret
        exact ⟨by rw [HN.out]; rfl, HB.out⟩
  · have HN := Lib.hid (show decide (la = lb) = false from decide_eq_false (fun e => by
      subst e
      have h1 := ha.len
      have h2 := hb.len
      omega))
    have b1 : ((n : Int) == (m : Int)) = false := beq_eq_false_iff_ne.2 (by omega)
    have b2 : (n == m) = false := by simpa using hnm
    go_enter Tryd.func19, Tryd.ntmps19
    go_wp2
    go_ret
    exact ⟨by rw [HN.out]; rfl, Below.refl _ _⟩
end Go.Proofs.YtoiilhbjlfdfpaaDoor
