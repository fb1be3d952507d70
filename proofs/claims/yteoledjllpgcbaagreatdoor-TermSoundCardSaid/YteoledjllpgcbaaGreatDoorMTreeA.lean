/- MTreeA: several texts of this claim in one file. No statement of the seat is proved here. -/
import Derived.Test.YteoledjllpgcbaaGreatDoorMTreeP
import Derived.Test.YteoledjllpgcbaaGreatDoorMCode
import Derived.Test.YteoledjllpgcbaaGreatDoorMSealA
import Derived.Laws.OwnMore
namespace Go.Proofs.YteoledjllpgcbaaGreatDoor
set_option maxRecDepth 100000
set_option maxHeartbeats 64000000
set_option linter.unusedVariables false
open Go.RowKit
def Tree.spz (n : Int) : Nat := if n < 2 then 0 else if 1099511627776 < n then 0 else Tree.sp n.toNat
theorem Tree.spz_in {n : Nat} (h : 2 ≤ n) (h2 : n ≤ 1099511627776) : Tree.spz (n : Int) = Tree.sp n := by
 unfold Tree.spz
 rw [if_neg (by omega), if_neg (by omega), Int.toNat_natCast]
def Tree.all32 (l : List (List UInt8)) : Bool := l.all fun s => decide (s.length = 32)
def Tree.great (l : List (List UInt8)) : Bool := l.any (fun s => decide (100 < s.length)) || decide (100 < l.length)
theorem Tree.great_no {l : List (List UInt8)} (h : Tree.great l = false) : (∀ s ∈ l, s.length ≤ 100) ∧ l.length ≤ 100 := by
 unfold Tree.great at h
 rw [Bool.or_eq_false_iff, List.any_eq_false, decide_eq_false_iff_not] at h
 exact ⟨fun s hs => by have := h.1 s hs; rw [decide_eq_true_eq] at this; omega, by omega⟩
theorem Tree.all32_iff {l : List (List UInt8)} : Tree.all32 l = true ↔ ∀ s ∈ l, s.length = 32 := by
 unfold Tree.all32
 rw [List.all_eq_true]
 exact ⟨fun h s hs => of_decide_eq_true (h s hs), fun h s hs => decide_eq_true (h s hs)⟩
theorem split_any (n : Int) (w : World) (h1 : -9223372036854775808 ≤ n) (h2 : n ≤ 9223372036854775807) :
  Calls Tryz.prog 73 #[.int .i64 n] w fun e w' => e = .returned (.int .i64 (Tree.spz n : Int)) ∧ w = w' := by
 by_cases hlo : n < 2
 ·
  have HF := Lib.hid (show Tree.spz n = 0 by unfold Tree.spz; rw [if_pos hlo])
  go_enter Tryz.func73, Tryz.ntmps73
  go_wp2
  go_ret
  exact ⟨by rw [HF.out]; rfl, rfl⟩
 ·
  by_cases hhi : 1099511627776 < n
  ·
   have HF := Lib.hid (show Tree.spz n = 0 by unfold Tree.spz; rw [if_neg hlo, if_pos hhi])
   go_enter Tryz.func73, Tryz.ntmps73
   go_wp2
   go_ret
   exact ⟨by rw [HF.out]; rfl, rfl⟩
  ·
   obtain ⟨m, rfl⟩ : ∃ m : Nat, n = (m : Int) := ⟨n.toNat, by omega⟩
   have hm2 : 2 ≤ m := by omega
   have hmh : m ≤ 1099511627776 := by omega
   have HF := Lib.hid (Tree.spz_in hm2 hmh)
   have HS := Lib.hid (show Tree.sf m 1 m = Tree.sp m by unfold Tree.sp; rw [if_neg (by omega)])
   clear h1 h2
   go_enter Tryz.func73, Tryz.ntmps73
   go_wp2
   go_loop [3] (fun v => ∃ k f : Nat, v = .int .i64 k ∧ 1 ≤ k ∧ k < m ∧ m ≤ k + f ∧ Hid (Tree.sf f k m = Tree.sp m)) (fun v => m - (intOf v).toNat)
   case atStart => exact ⟨1, m, rfl, by omega, by omega, by omega, HS⟩
   case round =>
    obtain ⟨k, f, rfl, hk1, hkm, hf, hs⟩ := hrel
    by_cases hlt : 2 * k < m
    ·
     have HN : Hid (∃ g, m ≤ 2 * k + g ∧ Tree.sf g (2 * k) m = Tree.sp m) := Lib.hid (by
      match f, hf, hs with
      | 0, hf, hs => omega
      | g + 1, hf, hs =>
       refine ⟨g, by omega, ?_⟩
       have := hs.out
       rw [Tree.sf, if_pos hlt] at this
       exact this)
     have c1 : (2 : Int) * (k : Int) < (m : Int) := by omega
     clear hf hs
     go_wp2
     go_round
     case rel => obtain ⟨g, a, b⟩ := HN.out; exact ⟨2 * k, g, by go_num, by omega, hlt, a, Lib.hid b⟩
     case measure => simp [intOf]; omega
    ·
     have HR := Lib.hid (show Tree.sp m = k by
      rw [← hs.out]
      match f with
      | 0 => rfl
      | g + 1 => rw [Tree.sf, if_neg hlt])
     have c1 : ¬ (2 : Int) * (k : Int) < (m : Int) := by omega
     clear hs
     go_wp2
     go_ret
     exact ⟨by rw [HF.out, HR.out]; rfl, rfl⟩
theorem rsplit_any (n : Int) (w : World) (h1 : -9223372036854775808 ≤ n) (h2 : n ≤ 9223372036854775807) :
  Calls Tryz.prog 86 #[.int .i64 n] w fun e w' => e = .returned (.int .i64 (Tree.spz n : Int)) ∧ w = w' := by
 by_cases hlo : n < 2
 ·
  have HF := Lib.hid (show Tree.spz n = 0 by unfold Tree.spz; rw [if_pos hlo])
  go_enter Tryz.func86, Tryz.ntmps86
  go_wp2
  go_ret
  exact ⟨by rw [HF.out]; rfl, rfl⟩
 ·
  by_cases hhi : 1099511627776 < n
  ·
   have HF := Lib.hid (show Tree.spz n = 0 by unfold Tree.spz; rw [if_neg hlo, if_pos hhi])
   go_enter Tryz.func86, Tryz.ntmps86
   go_wp2
   go_ret
   exact ⟨by rw [HF.out]; rfl, rfl⟩
  ·
   obtain ⟨m, rfl⟩ : ∃ m : Nat, n = (m : Int) := ⟨n.toNat, by omega⟩
   have hm2 : 2 ≤ m := by omega
   have hmh : m ≤ 1099511627776 := by omega
   have HF := Lib.hid (Tree.spz_in hm2 hmh)
   have HS := Lib.hid (show Tree.sf m 1 m = Tree.sp m by unfold Tree.sp; rw [if_neg (by omega)])
   clear h1 h2
   go_enter Tryz.func86, Tryz.ntmps86
   go_wp2
   go_loop [3] (fun v => ∃ k f : Nat, v = .int .i64 k ∧ 1 ≤ k ∧ k < m ∧ m ≤ k + f ∧ Hid (Tree.sf f k m = Tree.sp m)) (fun v => m - (intOf v).toNat)
   case atStart => exact ⟨1, m, rfl, by omega, by omega, by omega, HS⟩
   case round =>
    obtain ⟨k, f, rfl, hk1, hkm, hf, hs⟩ := hrel
    by_cases hlt : 2 * k < m
    ·
     have HN : Hid (∃ g, m ≤ 2 * k + g ∧ Tree.sf g (2 * k) m = Tree.sp m) := Lib.hid (by
      match f, hf, hs with
      | 0, hf, hs => omega
      | g + 1, hf, hs =>
       refine ⟨g, by omega, ?_⟩
       have := hs.out
       rw [Tree.sf, if_pos hlt] at this
       exact this)
     have c1 : (2 : Int) * (k : Int) < (m : Int) := by omega
     clear hf hs
     go_wp2
     go_round
     case rel => obtain ⟨g, a, b⟩ := HN.out; exact ⟨2 * k, g, by go_num, by omega, hlt, a, Lib.hid b⟩
     case measure => simp [intOf]; omega
    ·
     have HR := Lib.hid (show Tree.sp m = k by
      rw [← hs.out]
      match f with
      | 0 => rfl
      | g + 1 => rw [Tree.sf, if_neg hlt])
     have c1 : ¬ (2 : Int) * (k : Int) < (m : Int) := by omega
     clear hs
     go_wp2
     go_ret
     exact ⟨by rw [HF.out, HR.out]; rfl, rfl⟩
theorem digests_any (B : Option Addr) (m k0 : Nat) (ls : List (List UInt8)) (w : World) (hs : Ss w B m k0 ls) (hwf : ∀ s ∈ ls, s.length ≤ maxLen) :
  Calls Tryz.prog 72 #[.slice B m k0] w fun e w' => e = .returned (.bool (Tree.all32 ls)) ∧ w = w' := by
 have hm := hs.max
 have hcap := hs.cap
 rw [maxLen_eq] at hm
 have HW := Lib.hid hwf
 clear hwf
 go_enter Tryz.func72, Tryz.ntmps72
 go_wp2
 go_loop [7] (fun vi => ∃ k : Nat, k ≤ m ∧ vi = .int .i64 k ∧ Hid (∀ j s, j < k → ls[j]? = some s → s.length = 32)) (fun vi => m - (intOf vi).toNat)
 case atStart => exact ⟨0, by omega, rfl, Lib.hid (fun j s h => by omega)⟩
 case round =>
  obtain ⟨k, hk, rfl, hr⟩ := hrel
  by_cases hlt : k < m
  ·
   obtain ⟨b, off, rfl, hb, hcell, s, hks⟩ := hs.at hlt
   have x0 := hcell k s hks
   have hsl := HW.out s (mem_at hks)
   rw [maxLen_eq] at hsl
   have z := strLen s
   obtain ⟨q, hq⟩ : ∃ q, s.length = q := ⟨_, rfl⟩
   rw [hq] at hsl z
   have HQ := Lib.hid hq
   have HK := Lib.hid hks
   clear hcell hks hq
   by_cases hbig : ¬ q = 32
   ·
    have hfin := Lib.hid (show Tree.all32 ls = false by
     refine Bool.eq_false_iff.2 fun h => ?_
     have := Tree.all32_iff.1 h s (mem_at HK.out)
     rw [HQ.out] at this
     exact hbig this)
    have b1 : ((q : Int) == 32) = false := beq_eq_false_iff_ne.2 (by omega)
    go_wp2
    go_ret
    exact ⟨by rw [hfin.out]; rfl, rfl⟩
   ·
    have hnext := Lib.hid (show ∀ j s, j < k + 1 → ls[j]? = some s → s.length = 32 from fun j t hj ht => by
     by_cases e : j = k
     ·
      subst e
      have := HK.out
      rw [ht] at this
      injection this with this
      rw [this, HQ.out]; omega
     · exact hr.out j t (by omega) ht)
    have b1 : (q : Int) = 32 := by omega
    have b2 : ((q : Int) == 32) = true := by rw [b1]; rfl
    go_wp2
    go_round
    case rel => exact ⟨k + 1, by omega, by go_num, hnext⟩
    case measure => simp [intOf]; omega
  ·
   obtain rfl : k = m := by omega
   have hall : ∀ s ∈ ls, s.length = 32 := fun s hsm => by
    obtain ⟨j, hj, e⟩ := List.getElem_of_mem hsm
    exact hr.out j s (by have := hs.len; omega) (by rw [← e]; exact List.getElem?_eq_getElem hj)
   have hfin := Lib.hid (Tree.all32_iff.2 hall)
   clear hall
   go_wp2
   go_ret
   exact ⟨by rw [hfin.out]; rfl, rfl⟩
theorem great6_any (B : Option Addr) (m k0 : Nat) (ls : List (List UInt8)) (w : World) (hs : Ss w B m k0 ls) (hwf : ∀ s ∈ ls, s.length ≤ maxLen) :
  Calls Tryz.prog 44 #[.slice B m k0] w fun e w' => e = .returned (.bool (Tree.great ls)) ∧ w = w' := by
 have hm := hs.max
 have hcap := hs.cap
 rw [maxLen_eq] at hm
 have HW := Lib.hid hwf
 clear hwf
 go_enter Tryz.func44, Tryz.ntmps44
 go_wp2
 go_loop [3] (fun vi => ∃ k : Nat, k ≤ m ∧ vi = .int .i64 k ∧ Hid (∀ j s, j < k → ls[j]? = some s → s.length ≤ 100)) (fun vi => m - (intOf vi).toNat)
 case atStart => exact ⟨0, by omega, rfl, Lib.hid (fun j s h => by omega)⟩
 case round =>
  obtain ⟨k, hk, rfl, hr⟩ := hrel
  by_cases hlt : k < m
  ·
   obtain ⟨b, off, rfl, hb, hcell, s, hks⟩ := hs.at hlt
   have x0 := hcell k s hks
   have hsl := HW.out s (mem_at hks)
   rw [maxLen_eq] at hsl
   have z := strLen s
   obtain ⟨q, hq⟩ : ∃ q, s.length = q := ⟨_, rfl⟩
   rw [hq] at hsl z
   have HQ := Lib.hid hq
   have HK := Lib.hid hks
   clear hcell hks hq
   by_cases hbig : 100 < q
   ·
    have hfin := Lib.hid (show Tree.great ls = true by
     unfold Tree.great
     rw [Bool.or_eq_true]
     exact .inl (List.any_eq_true.2 ⟨s, mem_at HK.out, by rw [HQ.out]; exact decide_eq_true hbig⟩))
    go_wp2
    go_ret
    exact ⟨by rw [hfin.out]; rfl, rfl⟩
   ·
    have hnext := Lib.hid (show ∀ j s, j < k + 1 → ls[j]? = some s → s.length ≤ 100 from fun j t hj ht => by
     by_cases e : j = k
     ·
      subst e
      have := HK.out
      rw [ht] at this
      injection this with this
      rw [this, HQ.out]; omega
     · exact hr.out j t (by omega) ht)
    go_wp2
    go_round
    case rel => exact ⟨k + 1, by omega, by go_num, hnext⟩
    case measure => simp [intOf]; omega
  ·
   obtain rfl : k = m := by omega
   have hall : ∀ s ∈ ls, s.length ≤ 100 := fun s hsm => by
    obtain ⟨j, hj, e⟩ := List.getElem_of_mem hsm
    exact hr.out j s (by have := hs.len; omega) (by rw [← e]; exact List.getElem?_eq_getElem hj)
   have hfin := Lib.hid (show Tree.great ls = decide (100 < k) by
    unfold Tree.great
    have : ls.any (fun s => decide (100 < s.length)) = false := List.any_eq_false.2 fun s hsm => by rw [decide_eq_true_eq]; have := hall s hsm; omega
    rw [this, Bool.false_or, hs.len])
   clear hall
   have hd := Lib.hid (dec_nat 100 k)
   go_wp2
   go_ret
   exact ⟨by rw [hfin.out, ← hd.out]; rfl, rfl⟩
abbrev tnd (a b : List UInt8) : List UInt8 := seal_ 1 (a ++ b)
def StrPost (s : List UInt8) (w : World) (e : Ending) (w' : World) : Prop := e = .returned (sv s) ∧ Below w.heap.size w w'
theorem tnode_any (l r : List UInt8) (w : World) (hl : l.length = 32) (hr : r.length = 32) (ht : Tabs w) :
  Calls Tryz.prog 91 #[sv l, sv r] w (StrPost (tnd l r) w) := by
 have HT := Lib.hid (node_any l r w hl hr ht)
 clear ht hl hr
 go_enter Tryz.func91, Tryz.ntmps91
 go_wp2_with fail
 refine HT.out.mono ?_
 rintro e w1 ⟨rfl, hb⟩
 go_wp2
 go_ret
 exact ⟨rfl, hb⟩
theorem run_idx0 {P : Program} {w : World} (T : TypeId) {e : TypeId} (hu : P.underlying T = some (.slice e)) (he : (P.info? (P.elem T)).map (·.size) = some 1) (b n c i : Nat) (z : Int) (hz : z = (i : Int)) (hi : i < n) :
  (Instr.indexAt T (.slice (some ⟨b, 0, none⟩) n c) (.int .i64 z)).run P w = .ok (.pointer (some ⟨b, i, none⟩)) w := by
 have h := run_idx (w := w) T hu he b 0 n c i z hz hi
 rw [Nat.zero_add] at h
 exact h
theorem own_cut {w : World} {B : Nat} {e : TypeId} {A : Option Addr} {n c : Nat} {xs : List Value} (h : w.ownsRow B e 1 (.slice A n c) n xs) (k : Nat) (hk : k ≤ n) : w.ownsRow B e 1 (.slice A k c) k (xs.take k) := by
 have hl := h.1
 refine ⟨by rw [List.length_take]; omega, ?_⟩
 rcases h.2 with ⟨hv, h0⟩ | ⟨g, cap, cur, hv, h1, h2, h3, h4, h5, h6⟩
 ·
  obtain rfl : k = 0 := by omega
  simp only [Value.slice.injEq] at hv
  exact .inl ⟨by rw [hv.1, hv.2.2], rfl⟩
 ·
  simp only [Value.slice.injEq, true_and] at hv
  refine .inr ⟨g, cap, cur, by rw [hv.1, hv.2], h1, h2, by omega, h4, h5, ?_⟩
  rw [← h6, List.take_take, Nat.mul_one, Nat.mul_one, Nat.min_eq_left hk]
theorem OwnS.cut {w : World} {B : Nat} {A : Option Addr} {n c : Nat} {l : List (List UInt8)} (h : OwnS w B A n c l) (k : Nat) (hk : k ≤ n) : OwnS w B A k c (l.take k) :=
 ⟨by rw [List.map_take]; exact own_cut h.own k hk, by rw [List.length_take, h.len]; omega, Nat.le_trans hk h.cap, h.max⟩
theorem OwnS.form {w : World} {B : Nat} {A : Option Addr} {n c : Nat} {l : List (List UInt8)} (h : OwnS w B A n c l) (hn : 0 < n) : ∃ g, A = some ⟨g, 0, none⟩ ∧ B ≤ g ∧ g < w.heap.size := by
 rcases h.own.2 with ⟨hv, h0⟩ | ⟨g, cap, cur, hv, h1, h2, _⟩
 · omega
 ·
  simp only [Value.slice.injEq, true_and] at hv
  exact ⟨g, hv.1, h1, by
   rcases Nat.lt_or_ge g w.heap.size with hlt | hge
   · exact hlt
   · rw [Array.getElem?_eq_none hge] at h2; cases h2⟩
theorem OwnS.cell {w : World} {B g : Nat} {n c : Nat} {l : List (List UInt8)} (h : OwnS w B (some ⟨g, 0, none⟩) n c l) {j : Nat} {s : List UInt8} (hs : l[j]? = some s) : w.cell? ⟨g, j, none⟩ = some (sv s) := by
 have hj : j < n := by rw [← h.len]; exact (List.getElem?_eq_some_iff.1 hs).1
 rw [h.own.cellAt j (by omega), List.getElem?_map, hs]; rfl
theorem OwnS.set {w : World} {B g : Nat} {n c : Nat} {l : List (List UInt8)} (h : OwnS w B (some ⟨g, 0, none⟩) n c l) (j : Nat) (s : List UInt8) : OwnS (w.setCell ⟨g, j, none⟩ (sv s)) B (some ⟨g, 0, none⟩) n c (l.set j s) :=
 ⟨by rw [List.map_set]; exact (h.own.stored j (sv s)).1, by rw [List.length_set]; exact h.len, h.cap, h.max⟩
theorem comb_list (S : List (List UInt8)) (a b d : List UInt8) : ((S ++ [a, b]).set S.length d).take (S.length + 1) = S ++ [d] := by
 induction S with
 | nil => rfl
 | cons x r ih => simp only [List.cons_append, List.length_cons, List.set_cons_succ, List.take_succ_cons, ih]
def OwnSPost (B : Nat) (l : List (List UInt8)) (w : World) (e : Ending) (w' : World) : Prop := ∃ A n c, e = .returned (.slice A n c) ∧ OwnS w' B A n c l ∧ Below B w w'
theorem combine_any (B : Nat) (A : Option Addr) (n c : Nat) (S : List (List UInt8)) (a b : List UInt8) (w : World) (h : OwnS w B A n c (S ++ [a, b])) (hB : B ≤ w.heap.size) (ha : a.length = 32) (hb : b.length = 32) (ht : Tabs w) :
  Calls Tryz.prog 121 #[.slice A n c] w (OwnSPost B (S ++ [tnd a b]) w) := by
 have hn := h.len
 rw [List.length_append] at hn
 obtain ⟨g, rfl, hg, hgw⟩ := h.form (by rw [← hn]; simp)
 obtain ⟨m, hm⟩ : ∃ m, S.length = m := ⟨_, rfl⟩
 have hnm : n = m + 2 := by rw [← hn, hm]; rfl
 have hcap := h.cap
 have hmax := h.max
 rw [maxLen_eq] at hmax
 have X0 := Lib.hid (show ∀ W, Below w.heap.size w W → W.cell? ⟨g, m, none⟩ = some (sv a) from fun W hW => (h.keep hW).cell (by rw [← hm]; simp))
 have X1 := Lib.hid (show ∀ W, Below w.heap.size w W → W.cell? ⟨g, m + 1, none⟩ = some (sv b) from fun W hW => (h.keep hW).cell (by rw [← hm, List.getElem?_append_right (by omega)]; simp))
 have QN := Lib.hid (show ∀ W, Below w.heap.size w W → Calls Tryz.prog 91 #[sv a, sv b] W (StrPost (tnd a b) W) from fun W hW => tnode_any a b W ha hb (ht.below hW))
 unfold StrPost at QN
 have HS := Lib.hid (show ∀ W, Below w.heap.size w W → OwnS (W.setCell ⟨g, m, none⟩ (sv (tnd a b))) B (some ⟨g, 0, none⟩) (m + 1) c (S ++ [tnd a b]) ∧ Below B w (W.setCell ⟨g, m, none⟩ (sv (tnd a b))) from fun W hW => by
  have h2 := ((h.keep hW).set m (tnd a b)).cut (m + 1) (by omega)
  rw [← hm, comb_list] at h2
  rw [← hm]
  exact ⟨h2, (hW.mono hB).setCell (show B ≤ (⟨g, S.length, none⟩ : Addr).block from hg) _⟩)
 have HF := Lib.hid (show ∀ W, Below w.heap.size w W → W.frozen? ⟨g, m, none⟩ = false from fun W hW => (h.keep hW).own.frozenAt m)
 have c1 : (n : Int) - 2 = (m : Int) := by omega
 clear h ha hb ht hn hm
 go_enter Tryz.func121, Tryz.ntmps121
 go_wp2_with fail
 refine Free.wp_free_l 13 (fun W => Below w.heap.size w W) [Free.kc (.slice (some ⟨g, 0, none⟩) n c), Free.kc (.int .i64 (m : Int)), Free.kc (.slice (some ⟨g, 0, none⟩) n c), Free.kc (.int .i64 (m : Int)), Free.kc (.pointer (some ⟨g, m, none⟩)), Free.kc (sv a), Free.kc (.slice (some ⟨g, 0, none⟩) n c), Free.kc (.int .i64 (m : Int)), Free.kc (.int .i64 ((m : Int) + 1)), Free.kc (.pointer (some ⟨g, m + 1, none⟩)), Free.kc (sv b), Free.kc (sv (tnd a b)), Free.kc (.pointer (some ⟨g, m, none⟩))] (by kernel_rfl) (by kernel_rfl) (by decide) (Below.refl _ _).drew (fun w w' h g => bt h g) ?_ ?_
 ·
  iterate 13 refine Free.forall_succ ?_ ?_
  all_goals first | exact Free.forall_zero | (refine Free.op fun vals wq hC hd => ?_) | skip
  · exact Free.dm
  · exact Free.dm
  · exact Free.dm
  · exact Free.dm
  · exact Free.d_indexAddr rfl (Free.tr 2 hd) (Free.tr 3 hd) (run_idx0 27 Tryz.underlying27 (by kernel_rfl) g n c m _ (by omega) (by omega)) rfl
  · exact Free.d_load rfl (Free.tr 4 hd) (by have hcc := X0.out wq hC; go_simp) rfl
  · exact Free.dm
  · exact Free.dm
  · exact Free.d_bin rfl (Free.tr 7 hd) (show _ = (.int .i64 1 : Value) from rfl) (by go_simp) (by first | (go_simp; done) | (go_simp; rw [IntWalk.u32_in _ (by omega)]) | (go_simp; rw [IntWalk.i64_in _ (by omega)]) | (go_simp; rw [IntWalk.u8_in _ (by omega)]) | (go_simp; rw [IntKind.wrap_u32]; exact nv_add _ _)) rfl
  · exact Free.d_indexAddr rfl (Free.tr 6 hd) (Free.tr 8 hd) (run_idx0 27 Tryz.underlying27 (by kernel_rfl) g n c (m + 1) _ (by omega) (by omega)) rfl
  · exact Free.d_load rfl (Free.tr 9 hd) (by have hcc := X1.out wq hC; go_simp) rfl
  · exact Free.d_call Tryz.func91 (by kernel_rfl) (by kernel_rfl) rfl rfl (Free.arg2 (Free.tr 5 hd) (Free.tr 10 hd)) ((QN.out wq hC).mono fun e w2 h => ⟨_, h.1, rfl, h.2⟩)
  · exact Free.d_indexAddr rfl (Free.tr 0 hd) (Free.tr 1 hd) (run_idx0 27 Tryz.underlying27 (by kernel_rfl) g n c m _ (by omega) (by omega)) rfl
 ·
  intro vals wq hC hd
  refine Free.go hd ?_
  rintro _ rfl _ rfl _ rfl _ rfl _ rfl _ rfl _ rfl _ rfl _ rfl _ rfl _ rfl _ rfl _ rfl
  simp only [Free.All, Free.fl, Act.put, Free.sa, Free.s0, Free.s1]
  clear hd
  have y0 := X0.out wq hC
  have y1 := HF.out wq hC
  have HE := Lib.hid (HS.out wq hC)
  clear hC
  go_wp2
  go_ret
  exact ⟨_, _, _, rfl, HE.out.1, HE.out.2⟩
abbrev tnil : List UInt8 := Sha.sum []
abbrev troot (l : List (List UInt8)) : List UInt8 := Tree.root tnd tnil l
theorem tnd_len (a b : List UInt8) : (tnd a b).length = 32 := Sha.sum_length _
theorem troot_len {l : List (List UInt8)} (h : ∀ s ∈ l, s.length = 32) : (troot l).length = 32 := by
 match l with
 | [] => unfold troot; rw [Tree.root_nil]; exact Sha.sum_length _
 | [x] => unfold troot; rw [Tree.root_one]; exact h x (by simp)
 | x :: y :: r => unfold troot; rw [Tree.root_two tnd tnil (l := x :: y :: r) (by simp)]; exact tnd_len _ _
theorem R_len {l : List (List UInt8)} (h : ∀ s ∈ l, s.length = 32) (i m : Nat) : (Tree.R tnd tnil l i m).length = 32 := troot_len fun s hs => h s (List.mem_of_mem_drop (List.mem_of_mem_take hs))
theorem P_len32 {l : List (List UInt8)} (h : ∀ s ∈ l, s.length = 32) : ∀ (k j t : Nat), j ≤ k → ∀ s ∈ Tree.P tnd tnil l j t, s.length = 32
 | 0, j, t, hj, s, hs => by
               obtain rfl : j = 0 := by omega
               rw [Tree.P_zero] at hs; simp at hs
 | k + 1, j, t, hj, s, hs => by
  by_cases h0 : j = 0
  · subst h0; rw [Tree.P_zero] at hs; simp at hs
  ·
   by_cases ho : j % 2 = 1
   ·
    rw [Tree.P_odd tnd tnil l j t ho, List.mem_append, List.mem_singleton] at hs
    rcases hs with hs | rfl
    · exact P_len32 h k (j / 2) (t + 1) (by omega) s hs
    · exact R_len h _ _
   ·
    rw [Tree.P_even tnd tnil l j t (by omega)] at hs
    exact P_len32 h k (j / 2) (t + 1) (by omega) s hs
theorem P_count {l : List (List UInt8)} : ∀ (k j t : Nat), j ≤ k → (Tree.P tnd tnil l j t).length ≤ j
 | 0, j, t, hj => by
           obtain rfl : j = 0 := by omega
           rw [Tree.P_zero]; simp
 | k + 1, j, t, hj => by
  by_cases h0 : j = 0
  · subst h0; rw [Tree.P_zero]; simp
  ·
   by_cases ho : j % 2 = 1
   ·
    rw [Tree.P_odd tnd tnil l j t ho, List.length_append]
    have := P_count (l := l) k (j / 2) (t + 1) (by omega)
    simp only [List.length_singleton]; omega
   ·
    rw [Tree.P_even tnd tnil l j t (by omega)]
    have := P_count (l := l) k (j / 2) (t + 1) (by omega)
    omega
structure InRel (l : List (List UInt8)) (i j : Nat) (st : List (List UInt8)) : Prop where
 stk : ∃ t, Tree.Stk tnd tnil l i j t st
 all : ∀ s ∈ st, s.length = 32
theorem InRel.start {l : List (List UInt8)} (h32 : ∀ s ∈ l, s.length = 32) {i : Nat} {x : List UInt8} (hx : l[i]? = some x) : InRel l i i (Tree.P tnd tnil l i 0 ++ [x]) :=
 ⟨⟨0, Tree.Stk.start tnd tnil hx⟩, fun s hs => by
  rw [List.mem_append, List.mem_singleton] at hs
  rcases hs with hs | rfl
  · exact P_len32 h32 i i 0 (Nat.le_refl _) s hs
  · exact h32 _ (List.mem_of_getElem? hx)⟩
theorem InRel.step {l : List (List UInt8)} {i j : Nat} {st : List (List UInt8)} (h : InRel l i j st) (hi : i < l.length) (hj : j % 2 = 1) :
  ∃ S a b, st = S ++ [a, b] ∧ a.length = 32 ∧ b.length = 32 ∧ InRel l i (j / 2) (S ++ [tnd a b]) := by
 obtain ⟨t, ht⟩ := h.stk
 obtain ⟨S, a, b, rfl, h2⟩ := ht.step tnd tnil hi hj
 exact ⟨S, a, b, rfl, h.all a (by simp), h.all b (by simp), ⟨_, h2⟩, fun s hs => by
  rw [List.mem_append, List.mem_singleton] at hs
  rcases hs with hs | rfl
  · exact h.all s (by simp [hs])
  · exact tnd_len _ _⟩
theorem InRel.done {l : List (List UInt8)} {i j : Nat} {st : List (List UInt8)} (h : InRel l i j st) (hj : j % 2 = 0) : st = Tree.P tnd tnil l (i + 1) 0 := by
 obtain ⟨t, ht⟩ := h.stk
 exact ht.done tnd tnil hj
structure FoldRel (l st : List (List UInt8)) : Prop where
 eq : Tree.fr tnd tnil st = troot l
 ne : st ≠ []
 all : ∀ s ∈ st, s.length = 32
theorem FoldRel.start {l : List (List UInt8)} (h32 : ∀ s ∈ l, s.length = 32) (h0 : 0 < l.length) : FoldRel l (Tree.P tnd tnil l l.length 0) :=
 ⟨Tree.fr_root tnd tnil l h0, Tree.P_ne tnd tnil l _ _ h0, P_len32 h32 _ _ _ (Nat.le_refl _)⟩
theorem FoldRel.step {l st : List (List UInt8)} (h : FoldRel l st) (h2 : 2 ≤ st.length) : ∃ S a b, st = S ++ [a, b] ∧ a.length = 32 ∧ b.length = 32 ∧ FoldRel l (S ++ [tnd a b]) := by
 obtain ⟨S, a, b, rfl⟩ : ∃ S a b, st = S ++ [a, b] := by
  refine ⟨st.take (st.length - 2), st[st.length - 2]'(by omega), st[st.length - 1]'(by omega), ?_⟩
  have e1 : st.drop (st.length - 2) = [st[st.length - 2]'(by omega), st[st.length - 1]'(by omega)] := by
   rw [List.drop_eq_getElem_cons (by omega), List.drop_eq_getElem_cons (by omega), List.drop_eq_nil_of_le (by omega)]
   congr 2
   congr 1
   omega
  rw [← e1, List.take_append_drop]
 exact ⟨S, a, b, rfl, h.all a (by simp), h.all b (by simp), by rw [← Tree.fr_step]; exact h.eq, by simp, fun s hs => by
  rw [List.mem_append, List.mem_singleton] at hs
  rcases hs with hs | rfl
  · exact h.all s (by simp [hs])
  · exact tnd_len _ _⟩
theorem FoldRel.end {l st : List (List UInt8)} (h : FoldRel l st) (h2 : st.length ≤ 1) : st = [troot l] := by
 match st, h, h2 with
 | [], h, _ => exact absurd rfl h.ne
 | [x], h, _ => have := h.eq; unfold Tree.fr at this; rw [this]
theorem and1 (j : Nat) (hj : j < 9223372036854775808) : bits .and .i64 (j : Int) 1 = (j : Int) % 2 := Bit.mask 1 j 1 2 (by omega) (by omega) (by omega) rfl rfl
theorem root_any (A : Option Addr) (n c : Nat) (l : List (List UInt8)) (w : World) (h : Ss w A n c l) (h32 : ∀ s ∈ l, s.length = 32) (hn : n ≤ 1000000) (ht : Tabs w) :
  Calls Tryz.prog 74 #[.slice A n c] w (StrPost (troot l) w) := by
 have hm := h.max
 have hcap := h.cap
 rw [maxLen_eq] at hm
 have HT := Lib.hid ht
 have H32 := Lib.hid h32
 have HLN := Lib.hid h.len
 clear ht h32
 by_cases h0 : n = 0
 ·
  subst h0
  have HE := Lib.hid (show troot l = tnil by
   have : l = [] := List.length_eq_zero_iff.1 HLN.out
   rw [this]; exact Tree.root_nil _ _)
  clear h
  go_enter Tryz.func74, Tryz.ntmps74
  go_wp2_with fail
  refine (sum_any none 0 0 [] w Rd.nil rfl (Nat.le_refl _) (by decide) (by omega) HT.out.r HT.out.b).mono ?_
  rintro e w1 ⟨rfl, hb1⟩
  go_wp2
  go_ret
  exact ⟨by rw [HE.out]; rfl, hb1⟩
 ·
  have b0 : ((n : Int) == 0) = false := beq_eq_false_iff_ne.2 (by omega)
  go_enter Tryz.func74, Tryz.ntmps74
  go_wp2
  go_loopw [3, 12] (fun vs vi wr => ∃ (A' : Option Addr) (n' c' i : Nat), i ≤ n ∧ vs = .slice A' n' c' ∧ vi = .int .i64 i ∧ OwnS wr w.heap.size A' n' c' (Tree.P tnd tnil l i 0) ∧ Below w.heap.size w wr) (fun _ vi _ => n - (intOf vi).toNat)
  case atStart => exact ⟨none, 0, 0, 0, by omega, rfl, rfl, by rw [Tree.P_zero]; exact OwnS.nil _ _, Below.refl _ _⟩
  case round =>
   obtain ⟨A', n', c', i, hi, rfl, rfl, hown, hbel⟩ := hrel
   have hn' : n' ≤ i := by rw [← hown.len]; exact P_count i i 0 (Nat.le_refl _)
   by_cases hlt : i < n
   ·
    obtain ⟨b, off, rfl, hbb, hcell, x, hx⟩ := h.at hlt
    have x0 := (hbel.cell (p := ⟨b, off + i, none⟩) hbb).trans (hcell i x hx)
    have HX := Lib.hid (InRel.start H32.out hx)
    have hci : (i : Int) < (n : Int) := by omega
    clear hcell hx
    go_wp2_with (at_builtin; refine wl_appS1 rfl (.tmp 15) (.tmp 20) rfl rfl hown rfl x (by omega) hbel.size ?_; intro A1 n1 c1 w1 ho1 hb1)
    have hn1 : n1 ≤ i + 1 := by have := ho1.len; rw [List.length_append, hown.len] at this; simp at this; omega
    have HB1 := Lib.hid (hbel.trans hb1)
    clear hown hbel hb1 x0
    go_loopw [3, 5] (fun vs vj wr => ∃ (A2 : Option Addr) (n2 c2 j : Nat) (st : List (List UInt8)), vs = .slice A2 n2 c2 ∧ vj = .int .i64 j ∧ j ≤ i ∧ n2 ≤ i + 1 ∧ OwnS wr w.heap.size A2 n2 c2 st ∧ InRel l i j st ∧ Below w.heap.size w wr) (fun _ vj _ => (intOf vj).toNat)
    case atStart => exact ⟨A1, n1, c1, i, _, rfl, rfl, Nat.le_refl _, hn1, ho1, HX.out, HB1.out⟩
    case round =>
     obtain ⟨A2, n2, c2, j, st, rfl, rfl, hji, hn2, ho2, hin, hb2⟩ := hrel
     have f1 := and1 j (by omega)
     by_cases hodd : j % 2 = 1
     ·
      have c1 : (j : Int) % 2 = 1 := by omega
      obtain ⟨S, p, q, rfl, hp, hq, hin2⟩ := hin.step (by rw [HLN.out]; exact hlt) hodd
      have HC := Lib.hid (combine_any w.heap.size A2 n2 c2 S p q wr ho2 hb2.size hp hq (HT.out.below hb2))
      have HIN := Lib.hid hin2
      have HB2 := Lib.hid hb2
      have hl2 := ho2.len
      rw [List.length_append] at hl2
      simp only [List.length_cons, List.length_nil] at hl2
      clear hin hin2 ho2 hb2 hp hq
      go_wp2_with fail
      refine HC.out.mono ?_
      rintro e w3 ⟨A3, n3, c3, rfl, ho3, hb3⟩
      have hn3 : n3 ≤ i + 1 := by have := ho3.len; rw [List.length_append] at this; simp at this; omega
      have HB3 := Lib.hid (HB2.out.trans hb3)
      clear hb3
      go_wp2
      go_roundw
      case rel => exact ⟨A3, n3, c3, j / 2, _, rfl, by go_num, by omega, hn3, ho3, HIN.out, HB3.out⟩
      case measure => simp [intOf]; omega
     ·
      have c1 : (j : Int) % 2 = 0 := by omega
      have hdone := hin.done (by omega)
      subst hdone
      have HB2 := Lib.hid hb2
      clear hin hb2
      go_wp2
      go_roundw
      case rel => exact ⟨A2, n2, c2, i + 1, by omega, rfl, by go_num, ho2, HB2.out⟩
      case measure => simp [intOf]; omega
   ·
    obtain rfl : i = n := by omega
    have hfr : FoldRel l (Tree.P tnd tnil l i 0) := by
     have := FoldRel.start H32.out (by rw [HLN.out]; omega)
     rw [HLN.out] at this
     exact this
    have HFR := Lib.hid hfr
    have HBL := Lib.hid hbel
    clear hfr hbel
    go_wp2
    go_loopw [3] (fun vs wr => ∃ (A2 : Option Addr) (n2 c2 : Nat) (st : List (List UInt8)), vs = .slice A2 n2 c2 ∧ n2 ≤ i ∧ OwnS wr w.heap.size A2 n2 c2 st ∧ FoldRel l st ∧ Below w.heap.size w wr) (fun vs _ => match vs with | .slice _ n _ => n | _ => 0)
    case atStart => exact ⟨A', n', c', _, rfl, hn', hown, HFR.out, HBL.out⟩
    case round =>
     obtain ⟨A2, n2, c2, st, rfl, hn2, ho2, hfr, hb2⟩ := hrel
     by_cases h1 : 1 < n2
     ·
      obtain ⟨S, p, q, rfl, hp, hq, hin2⟩ := hfr.step (by rw [ho2.len]; exact h1)
      have HC := Lib.hid (combine_any w.heap.size A2 n2 c2 S p q wr ho2 hb2.size hp hq (HT.out.below hb2))
      have HIN := Lib.hid hin2
      have HB2 := Lib.hid hb2
      have hl2 := ho2.len
      rw [List.length_append] at hl2
      simp only [List.length_cons, List.length_nil] at hl2
      clear hfr hin2 ho2 hb2 hp hq
      go_wp2_with fail
      refine HC.out.mono ?_
      rintro e w3 ⟨A3, n3, c3, rfl, ho3, hb3⟩
      have hn3 : S.length + 1 = n3 := by have := ho3.len; rw [List.length_append] at this; simp at this; omega
      have HB3 := Lib.hid (HB2.out.trans hb3)
      clear hb3
      go_wp2
      go_roundw
      case rel => exact ⟨A3, n3, c3, _, rfl, by omega, ho3, HIN.out, HB3.out⟩
      case measure => simp; omega
     ·
      have hst := hfr.end (by rw [ho2.len]; omega)
      subst hst
      have hn2 : n2 = 1 := ho2.len.symm
      subst hn2
      obtain ⟨g, rfl, hg1, hg2⟩ := ho2.form (by omega)
      have x0 : wr.cell? ⟨g, 0, none⟩ = some (sv (troot l)) := ho2.cell rfl
      have HB2 := Lib.hid hb2
      clear hfr hb2
      go_wp2
      go_ret
      exact ⟨rfl, HB2.out⟩
section
variable {w : World} {A : Option Addr} {n c : Nat} {l : List (List UInt8)}
theorem run_cutS_hi (h : Ss w A n c l) (k : Nat) (hk : k ≤ n) :
  ∃ A', (Instr.sliceAt 27 (.slice A n c) none (some (.int .i64 (k : Int))) none).run Tryz.prog w = .ok (.slice A' k c) w ∧ Ss w A' k c (l.take k) := by
 have hu' : Tryz.prog.underlying 27 = some (.slice (Tryz.prog.elem 27)) := by kernel_rfl
 have hr1 := run_slice_h (P := Tryz.prog) w 27 A n c hu' .i64 (k : Int) (by omega) (by have := h.cap; omega)
 rw [show Tryz.prog.elem 27 = 9 by kernel_rfl, run_sizeOf_of 9 1 (by kernel_rfl), Result.andThen_ok] at hr1
 refine ⟨_, by rw [run_sliceAt_slice w 27 _ _ _ _ hu', hr1]; simp only [Int.toNat_natCast]; rfl, ?_, by rw [List.length_take, h.len]; omega, Nat.le_trans hk h.cap, h.max⟩
 rw [List.map_take]
 split
 · exact h.rd.take _
 ·
  have := (h.rd.take k).drop 0
  simpa using this
theorem run_cutS_lo (h : Ss w A n c l) (k : Nat) (hk : k ≤ n) :
  ∃ A', (Instr.sliceAt 27 (.slice A n c) (some (.int .i64 (k : Int))) none none).run Tryz.prog w = .ok (.slice A' (n - k) (c - k)) w ∧ Ss w A' (n - k) (c - k) (l.drop k) := by
 have hu' : Tryz.prog.underlying 27 = some (.slice (Tryz.prog.elem 27)) := by kernel_rfl
 have hcut := rd_cut (i := k) h.rd (by rw [List.length_map]; exact h.len) h.cap
 have hr1 := run_slice_l (P := Tryz.prog) w 27 A n c hu' .i64 (k : Int) (by omega) (by omega)
 rw [show Tryz.prog.elem 27 = 9 by kernel_rfl, run_sizeOf_of 9 1 (by kernel_rfl), Result.andThen_ok] at hr1
 refine ⟨_, by rw [run_sliceAt_slice w 27 _ _ _ _ hu', hr1]; simp only [Int.toNat_natCast]; rfl, ?_, by rw [List.length_drop, h.len], by have := h.cap; omega, by have := h.max; omega⟩
 rw [List.map_drop]
 exact hcut
end
section
variable {ops : Array Oper} {rest : List Oper} {o : Oper} {a : Act} {Q : Exit → Act → World → Prop} {w : World} {A : Option Addr} {n c : Nat} {l : List (List UInt8)}
theorem wl_sl (hgd : o.guard = none) (T : TypeId) (x : Operand) (lo hi : Option Operand) (ho : o.op = .slice T x lo hi none) {cx v : Value} {clo chi : Option Value} (hx : a.eval x = cx) (hlo : lo.map a.eval = clo) (hhi : hi.map a.eval = chi)
  (hr : (Instr.sliceAt T cx clo chi none).run Tryz.prog w = .ok v w) (h : wpList Tryz.prog ops Q rest (a.put o.dst v) w) : wpList Tryz.prog ops Q (o :: rest) a w :=
 wl_of_wp hgd fun _ hK => by
  unfold Oper.wp execOp
  simp only [ho, Sem.run_bind, Sem.run_pure, Option.map_none, hx, hlo, hhi, hr, Result.andThen_ok]
  exact hK _ _ h
end
theorem all_take {l : List (List UInt8)} (h : ∀ s ∈ l, s.length = 32) (k : Nat) : ∀ s ∈ l.take k, s.length = 32 := fun s hs => h s (List.mem_of_mem_take hs)
theorem all_drop {l : List (List UInt8)} (h : ∀ s ∈ l, s.length = 32) (k : Nat) : ∀ s ∈ l.drop k, s.length = 32 := fun s hs => h s (List.mem_of_mem_drop hs)
theorem rroot_any : ∀ (q : Nat) (A : Option Addr) (n c : Nat) (l : List (List UInt8)) (w : World), n ≤ q → Ss w A n c l → (∀ s ∈ l, s.length = 32) → n ≤ 1000000 → Calls Tryz.prog 64 #[.slice A n c] w (StrPost (troot l) w)
 | q, A, n, c, l, w, hq, h, h32, hn => by
  have hm := h.max
  have hcap := h.cap
  rw [maxLen_eq] at hm
  have HLN := Lib.hid h.len
  have H32 := Lib.hid h32
  clear h32
  by_cases h0 : n = 0
  ·
   subst h0
   have HE := Lib.hid (show troot l = tnil by
    have : l = [] := List.length_eq_zero_iff.1 HLN.out
    rw [this]; exact Tree.root_nil _ _)
   clear h
   go_enter Tryz.func64, Tryz.ntmps64
   go_wp2_with fail
   refine (rsum_any none 0 0 [] w Rd.nil rfl (Nat.le_refl _) (by decide) (by omega)).mono ?_
   rintro e w1 ⟨rfl, hb1⟩
   go_wp2
   go_ret
   exact ⟨by rw [HE.out]; rfl, hb1⟩
  ·
   by_cases h1 : n = 1
   ·
    subst h1
    obtain ⟨b, off, rfl, hbb, hcell, x, hx⟩ := h.at (k := 0) (by omega)
    have x0 : w.cell? ⟨b, off, none⟩ = some (sv x) := hcell 0 x hx
    have HE := Lib.hid (show troot l = x from Tree.root_len1 _ _ HLN.out hx)
    clear hcell hx
    go_enter Tryz.func64, Tryz.ntmps64
    go_wp2
    go_ret
    exact ⟨by rw [HE.out]; rfl, Below.refl _ _⟩
   ·
    have b0 : ((n : Int) == 0) = false := beq_eq_false_iff_ne.2 (by omega)
    have b1 : ((n : Int) == 1) = false := beq_eq_false_iff_ne.2 (by omega)
    have h2 : 2 ≤ n := by omega
    match q, hq with
    | 0, hq => omega
    | q + 1, hq =>
    obtain ⟨k0, hk⟩ : ∃ k0, Tree.sp n = k0 := ⟨_, rfl⟩
    have kp := Tree.sp_pos h2
    have kl := Tree.sp_lt h2
    rw [hk] at kp kl
    have hk0 : k0 ≤ n := by omega
    have HE := Lib.hid (show troot l = tnd (troot (l.take k0)) (troot (l.drop k0)) by
     unfold troot
     rw [Tree.root_two tnd tnil (by rw [HLN.out]; exact h2), HLN.out, hk])
    have HSP := Lib.hid (show Tree.spz (n : Int) = k0 by rw [Tree.spz_in h2 (by omega), hk])
    have HSS := Lib.hid (show ∀ W, Below w.heap.size w W → Ss W A n c l from fun W hW => h.keep hW)
    have HLT := Lib.hid (show (l.take k0).length = k0 ∧ (l.drop k0).length = n - k0 by rw [List.length_take, List.length_drop, HLN.out]; omega)
    have HTK := Lib.hid (all_take H32.out k0)
    have HDR := Lib.hid (all_drop H32.out k0)
    have HLL := Lib.hid (show (troot (l.take k0)).length ≤ 100000 ∧ (troot (l.drop k0)).length ≤ 100000 by rw [troot_len HTK.out, troot_len HDR.out]; omega)
    have IH := Lib.hid (show ∀ (A' : Option Addr) (n' c' : Nat) (l' : List (List UInt8)) (W : World), (∀ s ∈ l', s.length = 32) → Ss W A' n' c' l' ∧ (n' ≤ q ∧ n' ≤ 1000000) → Calls Tryz.prog 64 #[.slice A' n' c'] W (StrPost (troot l') W) from fun A' n' c' l' W g1 g2 => rroot_any q A' n' c' l' W g2.2.1 g2.1 g1 g2.2.2)
    have hkq : (k0 ≤ q ∧ k0 ≤ 1000000) ∧ (n - k0 ≤ q ∧ n - k0 ≤ 1000000) := by omega
    have HKQ := Lib.hid hkq
    clear hk h hkq
    go_enter Tryz.func64, Tryz.ntmps64
    go_wp2_with fail
    refine (rsplit_any (n : Int) w (by omega) (by omega)).mono ?_
    rintro e w1 ⟨rfl, rfl⟩
    rw [HSP.out]
    go_wp2_with fail
    refine Free.wp_free_l 10 (fun W => Below w.heap.size w W) [Free.kc (.slice A n c), Free.kc (.int .i64 (k0 : Int)), Free.kr (k0) ((l.take k0).map sv), Free.kc (sv (troot (l.take k0))), Free.kc (.slice A n c), Free.kc (.int .i64 (k0 : Int)), Free.kr (n - k0) ((l.drop k0).map sv), Free.kc (sv (troot (l.drop k0))), Free.kc (sv (tnd (troot (l.take k0)) (troot (l.drop k0)))), Free.kc (sv (tnd (troot (l.take k0)) (troot (l.drop k0))))] (by kernel_rfl) (by kernel_rfl) (by decide) (Below.refl _ _).drew (fun w w' h g => bt h g) ?_ ?_
    ·
     iterate 10 refine Free.forall_succ ?_ ?_
     all_goals first | exact Free.forall_zero | (refine Free.op fun vals wq hC hd => ?_) | skip
     · exact Free.dm
     · exact Free.dm
     · obtain ⟨A', hrun, hss⟩ := run_cutS_hi (HSS.out wq hC) k0 hk0; exact Free.d_slice rfl (Free.tr 0 hd) rfl (show _ = some (Value.int .i64 (k0 : Int)) from congrArg some (Free.tr 1 hd)) rfl hrun ⟨A', c, rfl, hss.rd, hss.cap, hss.max⟩
     · obtain ⟨A2, k2, e2, rd2, le2, mx2⟩ := hd 2 (by kernel_rfl); exact Free.d_call Tryz.func64 (by kernel_rfl) (by kernel_rfl) rfl rfl (Free.arg1 (Eq.trans (b := vals 2) (by kernel_rfl) e2)) ((IH.out A2 _ k2 _ wq HTK.out ⟨⟨rd2, HLT.out.1, le2, mx2⟩, HKQ.out.1⟩).mono fun e w2 h => ⟨_, h.1, rfl, h.2⟩)
     · exact Free.dm
     · exact Free.dm
     · obtain ⟨A', hrun, hss⟩ := run_cutS_lo (HSS.out wq hC) k0 hk0; exact Free.d_slice rfl (Free.tr 4 hd) (show _ = some (Value.int .i64 (k0 : Int)) from congrArg some (Free.tr 5 hd)) rfl rfl hrun ⟨A', c - k0, rfl, hss.rd, hss.cap, hss.max⟩
     · obtain ⟨A6, k6, e6, rd6, le6, mx6⟩ := hd 6 (by kernel_rfl); exact Free.d_call Tryz.func64 (by kernel_rfl) (by kernel_rfl) rfl rfl (Free.arg1 (Eq.trans (b := vals 6) (by kernel_rfl) e6)) ((IH.out A6 _ k6 _ wq HDR.out ⟨⟨rd6, HLT.out.2, le6, mx6⟩, HKQ.out.2⟩).mono fun e w2 h => ⟨_, h.1, rfl, h.2⟩)
     · exact Free.d_call Tryz.func97 (by kernel_rfl) (by kernel_rfl) rfl rfl (Free.arg2 (Free.tr 3 hd) (Free.tr 7 hd)) ((rnode_any _ _ wq HLL.out.1 HLL.out.2).mono fun e w2 h => ⟨_, h.1, rfl, h.2⟩)
     · exact Free.d_assign rfl (Free.tr 8 hd) rfl
    ·
     intro vals wq hC hd
     refine Free.go hd ?_
     rintro _ rfl _ rfl _ ⟨A2, k2, rfl, rd2, le2, mx2⟩ _ rfl _ rfl _ rfl _ ⟨A6, k6, rfl, rd6, le6, mx6⟩ _ rfl _ rfl _ rfl
     simp only [Free.All, Free.fl, Act.put, Free.sa, Free.s0, Free.s1]
     refine wpList_nil ?_
     clear hd
     have HB := Lib.hid hC
     clear hC
     go_wp2
     go_ret
     exact ⟨by rw [HE.out]; rfl, HB.out⟩
theorem Root_any (A : Option Addr) (n c : Nat) (l : List (List UInt8)) (w : World) (h : Ss w A n c l) (h32 : ∀ s ∈ l, s.length = 32) (hn : n ≤ 1000000) (ht : Tabs w) :
  Calls Tryz.prog 65 #[.slice A n c] w fun e w' => e = .returned (.tuple #[sv (troot l), .int .i64 0]) ∧ Below w.heap.size w w' := by
 have hd := digests_any A n c l w h (fun s hs => by rw [h32 s hs]; decide)
 rw [Tree.all32_iff.2 h32] at hd
 have HD := Lib.hid hd
 have HR := Lib.hid (root_any A n c l w h h32 hn ht)
 clear hd h h32 ht
 go_enter Tryz.func65, Tryz.ntmps65
 go_wp2_with fail
 refine HD.out.mono ?_
 rintro e w1 ⟨rfl, rfl⟩
 go_wp2_with fail
 refine HR.out.mono ?_
 rintro e w2 ⟨rfl, hb⟩
 go_wp2
 go_ret2
 exact ⟨rfl, hb⟩
end Go.Proofs.YteoledjllpgcbaaGreatDoor
