/- MTreeC: several texts of this claim in one file. No statement of the seat is proved here. -/
import Derived.Test.YteoledjllpgcbaaGreatDoorMTreeB
import Derived.Test.YteoledjllpgcbaaGreatDoorMBase
namespace Go.Proofs.YteoledjllpgcbaaGreatDoor
set_option maxRecDepth 100000
set_option maxHeartbeats 64000000
set_option linter.unusedVariables false
open Go.RowKit
structure RevRel (l xs : List (List UInt8)) (n i : Nat) : Prop where
 len : xs.length = n
 out : ∀ k, k < n → xs[k]? = if k < i ∨ n ≤ k + i then l[n - 1 - k]? else l[k]?
theorem RevRel.start {l : List (List UInt8)} {n : Nat} (h : l.length = n) : RevRel l l n 0 := ⟨h, fun k hk => by rw [if_neg (by omega)]⟩
theorem RevRel.step {l xs : List (List UInt8)} {n i j : Nat} {a b : List UInt8} (h : RevRel l xs n i) (hij : i + j + 1 = n) (hlt : i < j) (ha : xs[i]? = some a) (hb : xs[j]? = some b) : RevRel l ((xs.set i b).set j a) n (i + 1) := by
 have e1 := h.out i (by omega)
 have e2 := h.out j (by omega)
 rw [if_neg (by omega), ha] at e1
 rw [if_neg (by omega), hb] at e2
 refine ⟨by rw [List.length_set, List.length_set, h.len], fun k hk => ?_⟩
 by_cases k1 : k = j
 ·
  subst k1
  rw [List.getElem?_set_self (by rw [List.length_set, h.len]; omega), if_pos (by omega), show n - 1 - k = i by omega, ← e1]
 ·
  rw [List.getElem?_set_ne (fun e => k1 e.symm)]
  by_cases k2 : k = i
  ·
   subst k2
   rw [List.getElem?_set_self (by rw [h.len]; omega), if_pos (by omega), show n - 1 - k = j by omega, ← e2]
  ·
   rw [List.getElem?_set_ne (fun e => k2 e.symm), h.out k hk]
   by_cases k3 : k < i ∨ n ≤ k + i
   · rw [if_pos k3, if_pos (by omega)]
   · rw [if_neg k3, if_neg (by omega)]
theorem RevRel.done {l xs : List (List UInt8)} {n i : Nat} (hl : l.length = n) (h : RevRel l xs n i) (hi : n ≤ 2 * i + 1) : xs = l.reverse := by
 apply List.ext_getElem?
 intro k
 by_cases hk : k < n
 ·
  rw [h.out k hk, List.getElem?_reverse (by omega), hl]
  by_cases k3 : k < i ∨ n ≤ k + i
  · rw [if_pos k3]
  · rw [if_neg k3, show n - 1 - k = k by omega]
 · rw [List.getElem?_eq_none (by rw [h.len]; omega), List.getElem?_eq_none (by rw [List.length_reverse]; omega)]
theorem reverse_any (B : Nat) (A : Option Addr) (n c : Nat) (l : List (List UInt8)) (w : World) (h : OwnS w B A n c l) (hB : B ≤ w.heap.size) (hn : n ≤ 1000000) :
  Calls Tryz.prog 75 #[.slice A n c] w fun e w' => (∃ v, e = .returned v) ∧ OwnS w' B A n c l.reverse ∧ Below B w w' := by
 have hcap := h.cap
 have hmax := h.max
 rw [maxLen_eq] at hmax
 have HL := Lib.hid h.len
 go_enter Tryz.func75, Tryz.ntmps75
 go_wp2
 go_loopw [2, 3] (fun vi vj wr => ∃ (i : Nat) (xs : List (List UInt8)), vi = .int .i64 i ∧ vj = .int .i64 ((n : Int) - 1 - i) ∧ i ≤ n ∧ 2 * i ≤ n + 1 ∧ OwnS wr B A n c xs ∧ Below B w wr ∧ Hid (RevRel l xs n i)) (fun vi _ _ => n - (intOf vi).toNat)
 case atStart => exact ⟨0, l, rfl, by simp, by omega, by omega, h, Below.refl _ _, Lib.hid (RevRel.start HL.out)⟩
 case round =>
  obtain ⟨i, xs, rfl, rfl, hi, hi2, hown, hbel, hrev⟩ := hrel
  by_cases hlt : 2 * i + 1 < n
  ·
   obtain ⟨j, hj⟩ : ∃ j, i + j + 1 = n := ⟨n - 1 - i, by omega⟩
   have hjv : (n : Int) - 1 - (i : Int) = (j : Int) := by omega
   obtain ⟨g, rfl, hg1, hg2⟩ := hown.form (by omega)
   obtain ⟨a, ha⟩ : ∃ a, xs[i]? = some a := ⟨_, List.getElem?_eq_getElem (by rw [hown.len]; omega)⟩
   obtain ⟨b, hb⟩ : ∃ b, xs[j]? = some b := ⟨_, List.getElem?_eq_getElem (by rw [hown.len]; omega)⟩
   have x0 := hown.cell ha
   have x1 := hown.cell hb
   have x2 := hown.own.frozenAt i
   have x3 := hown.own.frozenAt j
   have HN := Lib.hid (hrev.out.step (by omega) (by omega) ha hb)
   have hij : (i : Int) < (j : Int) := by omega
   have hij2 : ¬ j = i := by omega
   rw [hjv]
   clear ha hb hrev hjv
   go_wp2_with fail
   go_region
   go_wp2
   have hown2 := (hown.set i b).set j a
   have HS := Lib.hid (show OwnS (((wr.setCell ⟨g, i, none⟩ (sv b)).setCell ⟨g, j, none⟩ (sv a)).drew) B (some ⟨g, 0, none⟩) n c ((xs.set i b).set j a) ∧ Below B w (((wr.setCell ⟨g, i, none⟩ (sv b)).setCell ⟨g, j, none⟩ (sv a)).drew) from ⟨⟨hown2.own, hown2.len, hown2.cap, hown2.max⟩, ((hbel.setCell (p := ⟨g, i, none⟩) hg1 _).setCell (p := ⟨g, j, none⟩) hg1 _).trans (Below.refl _ _).drew⟩)
   clear hown2
   go_roundw
   case rel => exact ⟨i + 1, _, by go_num, by first | go_num | (simp only [Value.int.injEq, true_and]; push_cast; omega) | (congr 1; push_cast; omega), by omega, by omega, HS.out.1, HS.out.2, HN⟩
   case measure => simp [intOf]; omega
  ·
   have HF := Lib.hid (hrev.out.done HL.out (by omega))
   have hij : ¬ (i : Int) < (n : Int) - 1 - (i : Int) := by omega
   clear hrev
   go_wp2
   go_end0
   exact ⟨⟨_, rfl⟩, by rw [← HF.out]; exact hown, hbel⟩
structure Sb (w : World) (B : Nat) (A : Option Addr) (n c : Nat) (l : List (List UInt8)) : Prop where
 rd : Rd w B A (l.map sv)
 len : l.length = n
 cap : n ≤ c
 max : c ≤ maxLen
theorem Sb.ss {w : World} {B : Nat} {A : Option Addr} {n c : Nat} {l : List (List UInt8)} (h : Sb w B A n c l) (hB : B ≤ w.heap.size) : Ss w A n c l := ⟨h.rd.more hB, h.len, h.cap, h.max⟩
theorem Sb.keep {w w' : World} {B : Nat} {A : Option Addr} {n c : Nat} {l : List (List UInt8)} (h : Sb w B A n c l) (hb : Below B w w') : Sb w' B A n c l := ⟨h.rd.below' hb (Nat.le_refl _), h.len, h.cap, h.max⟩
section
variable {w : World} {B : Nat} {A : Option Addr} {n c : Nat} {l : List (List UInt8)}
theorem run_cutB_hi (h : Sb w B A n c l) (k : Nat) (hk : k ≤ n) :
  ∃ A', (Instr.sliceAt 27 (.slice A n c) none (some (.int .i64 (k : Int))) none).run Tryz.prog w = .ok (.slice A' k c) w ∧ Sb w B A' k c (l.take k) := by
 have hu' : Tryz.prog.underlying 27 = some (.slice (Tryz.prog.elem 27)) := by kernel_rfl
 have hr1 := run_slice_h (P := Tryz.prog) w 27 A n c hu' .i64 (k : Int) (by omega) (by have := h.cap; omega)
 rw [show Tryz.prog.elem 27 = 9 by kernel_rfl, run_sizeOf_of 9 1 (by kernel_rfl), Result.andThen_ok] at hr1
 refine ⟨_, by rw [run_sliceAt_slice w 27 _ _ _ _ hu', hr1]; simp only [Int.toNat_natCast]; rfl, ?_, by rw [List.length_take, h.len]; omega, Nat.le_trans hk h.cap, h.max⟩
 rw [List.map_take]
 split
 · exact h.rd.take _
 ·
  have := (h.rd.take k).drop 0
  simpa using this
theorem run_cutB_lo (h : Sb w B A n c l) (k : Nat) (hk : k ≤ n) :
  ∃ A', (Instr.sliceAt 27 (.slice A n c) (some (.int .i64 (k : Int))) none none).run Tryz.prog w = .ok (.slice A' (n - k) (c - k)) w ∧ Sb w B A' (n - k) (c - k) (l.drop k) := by
 have hu' : Tryz.prog.underlying 27 = some (.slice (Tryz.prog.elem 27)) := by kernel_rfl
 have hcut := rd_cut (i := k) h.rd (by rw [List.length_map]; exact h.len) h.cap
 have hr1 := run_slice_l (P := Tryz.prog) w 27 A n c hu' .i64 (k : Int) (by omega) (by omega)
 rw [show Tryz.prog.elem 27 = 9 by kernel_rfl, run_sizeOf_of 9 1 (by kernel_rfl), Result.andThen_ok] at hr1
 refine ⟨_, by rw [run_sliceAt_slice w 27 _ _ _ _ hu', hr1]; simp only [Int.toNat_natCast]; rfl, ?_, by rw [List.length_drop, h.len], by have := h.cap; omega, by have := h.max; omega⟩
 rw [List.map_drop]
 exact hcut
end
section
variable {ops : Array Oper} {rest : List Oper} {o : Oper} {a : Act} {Q : Exit → Act → World → Prop} {w : World} {B : Nat} {A : Option Addr} {n c : Nat} {l : List (List UInt8)}
theorem wl_cutB_hi (hgd : o.guard = none) (x hi : Operand) (ho : o.op = .slice 27 x none (some hi) none) (hx : a.eval x = .slice A n c) (h1 : Sb w B A n c l) (k : Nat) (hhi : a.eval hi = .int .i64 (k : Int)) (hk : k ≤ n)
  (h : ∀ A', Sb w B A' k c (l.take k) → wpList Tryz.prog ops Q rest (a.put o.dst (.slice A' k c)) w) : wpList Tryz.prog ops Q (o :: rest) a w := by
 obtain ⟨A', hr, hs⟩ := run_cutB_hi h1 k hk
 exact wl_sl hgd _ x none (some hi) ho hx rfl (congrArg some hhi) hr (h A' hs)
theorem wl_cutB_lo (hgd : o.guard = none) (x lo : Operand) (ho : o.op = .slice 27 x (some lo) none none) (hx : a.eval x = .slice A n c) (h1 : Sb w B A n c l) (k : Nat) (hlo : a.eval lo = .int .i64 (k : Int)) (hk : k ≤ n)
  (h : ∀ A', Sb w B A' (n - k) (c - k) (l.drop k) → wpList Tryz.prog ops Q rest (a.put o.dst (.slice A' (n - k) (c - k))) w) : wpList Tryz.prog ops Q (o :: rest) a w := by
 obtain ⟨A', hr, hs⟩ := run_cutB_lo h1 k hk
 exact wl_sl hgd _ x (some lo) none ho hx (congrArg some hlo) rfl hr (h A' hs)
end
structure PathRel (w : World) (B : Nat) (l : List (List UInt8)) (i n : Nat) (A2 : Option Addr) (n2 c2 x : Nat) (l2 acc : List (List UInt8)) : Prop where
 ss : Sb w B A2 n2 c2 l2
 all : ∀ s ∈ l2, s.length = 32
 lt : x < n2
 count : acc.length + n2 ≤ n
 eq : tpath l i = tpath l2 x ++ acc.reverse
theorem PathRel.left {w : World} {B : Nat} {l : List (List UInt8)} {i n : Nat} {A2 : Option Addr} {n2 c2 x : Nat} {l2 acc : List (List UInt8)} (h : PathRel w B l i n A2 n2 c2 x l2 acc) (h2 : 2 ≤ n2) {k0 : Nat} (hk : Tree.sp n2 = k0) (hx : x < k0) {A3 : Option Addr} {w' : World} (hs : Sb w' B A3 k0 c2 (l2.take k0)) :
  PathRel w' B l i n A3 k0 c2 x (l2.take k0) (acc ++ [troot (l2.drop k0)]) := by
 have kl := Tree.sp_lt h2
 have e := Tree.path_left tnd tnil (l := l2) (i := x) (by rw [h.ss.len]; exact h2) (by rw [h.ss.len, hk]; exact hx)
 rw [h.ss.len, hk] at e
 exact ⟨hs, all_take h.all k0, hx, by have := h.count; rw [List.length_append, List.length_singleton]; omega, by rw [h.eq, List.reverse_append]; unfold tpath; rw [e, List.append_assoc]; rfl⟩
theorem PathRel.right {w : World} {B : Nat} {l : List (List UInt8)} {i n : Nat} {A2 : Option Addr} {n2 c2 x : Nat} {l2 acc : List (List UInt8)} (h : PathRel w B l i n A2 n2 c2 x l2 acc) (h2 : 2 ≤ n2) {k0 : Nat} (hk : Tree.sp n2 = k0) (hx : ¬ x < k0) {A3 : Option Addr} {w' : World} (hs : Sb w' B A3 (n2 - k0) (c2 - k0) (l2.drop k0)) :
  PathRel w' B l i n A3 (n2 - k0) (c2 - k0) (x - k0) (l2.drop k0) (acc ++ [troot (l2.take k0)]) := by
 have kp := Tree.sp_pos h2
 have e := Tree.path_right tnd tnil (l := l2) (i := x) (by rw [h.ss.len]; exact h2) (by rw [h.ss.len, hk]; exact hx)
 rw [h.ss.len, hk] at e
 exact ⟨hs, all_drop h.all k0, by have := h.lt; omega, by have := h.count; rw [List.length_append, List.length_singleton]; omega, by rw [h.eq, List.reverse_append]; unfold tpath; rw [e, List.append_assoc]; rfl⟩
def PathPost (l : List (List UInt8)) (w : World) (e : Ending) (w' : World) : Prop := ∃ A n c, e = .returned (.tuple #[.slice A n c, .int .i64 0]) ∧ OwnS w' w.heap.size A n c l ∧ Below w.heap.size w w'
def lenS (v : Value) : Nat := match v with | .slice _ n _ => n | _ => 0
theorem path_any (A : Option Addr) (n c : Nat) (l : List (List UInt8)) (i : Nat) (w : World) (h : Ss w A n c l) (h32 : ∀ s ∈ l, s.length = 32) (hn : n ≤ 1000) (hi : i < n) (ht : Tabs w) :
  Calls Tryz.prog 30 #[.slice A n c, .int .i64 (i : Int)] w (PathPost (tpath l i) w) := by
 have hcap := h.cap
 have hmax := h.max
 rw [maxLen_eq] at hmax
 have hd := digests_any A n c l w h (fun s hs => by rw [h32 s hs]; decide)
 rw [Tree.all32_iff.2 h32] at hd
 have HD := Lib.hid hd
 have HT := Lib.hid ht
 have HR0 := Lib.hid (show PathRel w w.heap.size l i n A n c i l [] from ⟨⟨h.rd, h.len, h.cap, h.max⟩, h32, hi, by simp, by simp⟩)
 have g1 : ¬ (i : Int) < 0 := by omega
 have g2 : ¬ (n : Int) ≤ (i : Int) := by omega
 have d1 : decide ((i : Int) < 0) = false := decide_eq_false g1
 have d2 : decide ((n : Int) ≤ (i : Int)) = false := decide_eq_false g2
 have d3 : decide (n ≤ i) = false := decide_eq_false (by omega)
 clear hd ht h h32
 go_enter Tryz.func30, Tryz.ntmps30
 go_wp2_with fail
 refine HD.out.mono ?_
 rintro e w1 ⟨rfl, rfl⟩
 go_wp2
 go_loopw [0, 1, 6] (fun vl vi vp wr => ∃ (A2 : Option Addr) (n2 c2 x : Nat) (l2 : List (List UInt8)) (A' : Option Addr) (n' c' : Nat) (acc : List (List UInt8)), vl = .slice A2 n2 c2 ∧ vi = .int .i64 x ∧ vp = .slice A' n' c' ∧ PathRel wr w.heap.size l i n A2 n2 c2 x l2 acc ∧ OwnS wr w.heap.size A' n' c' acc ∧ Below w.heap.size w wr) (fun vl _ _ _ => lenS vl)
 case atStart => exact ⟨A, n, c, i, l, none, 0, 0, [], rfl, rfl, rfl, HR0.out, OwnS.nil _ _, Below.refl _ _⟩
 case round =>
  obtain ⟨A2, n2, c2, x, l2, A', n', c', acc, rfl, rfl, rfl, hrel, hown, hbel⟩ := hrel
  have hss := hrel.ss
  have hc2 := hrel.ss.cap
  have hm2 := hrel.ss.max
  rw [maxLen_eq] at hm2
  have hcnt := hrel.count
  rw [hown.len] at hcnt
  have hlt2 := hrel.lt
  by_cases h1 : 1 < n2
  ·
   obtain ⟨k0, hk⟩ : ∃ k0, Tree.sp n2 = k0 := ⟨_, rfl⟩
   have kp := Tree.sp_pos (n := n2) (by omega)
   have kl := Tree.sp_lt (n := n2) (by omega)
   rw [hk] at kp kl
   have HSP := Lib.hid (show Tree.spz (n2 : Int) = k0 by rw [Tree.spz_in (by omega) (by omega), hk])
   have HREL := Lib.hid (And.intro hrel hk)
   clear hk hrel
   by_cases hlt : x < k0
   ·
    have hci : (x : Int) < (k0 : Int) := by omega
    go_wp2_with fail
    refine (split_any (n2 : Int) wr (by omega) (by omega)).mono ?_
    rintro e w1 ⟨rfl, rfl⟩
    rw [HSP.out]
    go_wp2_with (refine wl_cutB_lo rfl (.tmp 31) (.tmp 32) rfl rfl hss k0 rfl (by omega) ?_; intro A3 hs3)
    refine (root_any A3 (n2 - k0) (c2 - k0) (l2.drop k0) wr (hs3.ss hbel.size) (all_drop HREL.out.1.all k0) (by omega) (HT.out.below hbel)).mono ?_
    rintro e w3 ⟨rfl, hb3⟩
    have hown3 := hown.keep hb3
    have hbel3 := bt hbel hb3
    go_wp2_with (first
     | (at_builtin; refine wl_appS1 rfl (.tmp 30) (.tmp 35) rfl rfl hown3 rfl (troot (l2.drop k0)) (by omega) hbel3.size ?_; intro A4 n4 c4 w4 ho4 hb4)
     | (refine wl_cutB_hi rfl (.tmp 37) (.tmp 38) rfl rfl (hss.keep (hb3.mono hbel.size |>.trans hb4)) k0 rfl (by omega) ?_; intro A5 hs5))
    go_roundw
    case rel => exact ⟨A5, k0, c2, x, l2.take k0, A4, n4, c4, _, rfl, rfl, rfl, HREL.out.1.left (by omega) HREL.out.2 hlt hs5, ho4, hbel3.trans hb4⟩
    case measure => simp [lenS]; omega
   ·
    have hci : ¬ (x : Int) < (k0 : Int) := by omega
    have hck : (k0 : Int) ≤ (x : Int) := by omega
    go_wp2_with fail
    refine (split_any (n2 : Int) wr (by omega) (by omega)).mono ?_
    rintro e w1 ⟨rfl, rfl⟩
    rw [HSP.out]
    go_wp2_with (refine wl_cutB_hi rfl (.tmp 41) (.tmp 42) rfl rfl hss k0 rfl (by omega) ?_; intro A3 hs3)
    refine (root_any A3 k0 c2 (l2.take k0) wr (hs3.ss hbel.size) (all_take HREL.out.1.all k0) (by omega) (HT.out.below hbel)).mono ?_
    rintro e w3 ⟨rfl, hb3⟩
    have hown3 := hown.keep hb3
    have hbel3 := bt hbel hb3
    go_wp2_with (first
     | (at_builtin; refine wl_appS1 rfl (.tmp 40) (.tmp 45) rfl rfl hown3 rfl (troot (l2.take k0)) (by omega) hbel3.size ?_; intro A4 n4 c4 w4 ho4 hb4)
     | (refine wl_cutB_lo rfl (.tmp 47) (.tmp 48) rfl rfl (hss.keep (hb3.mono hbel.size |>.trans hb4)) k0 rfl (by omega) ?_; intro A5 hs5))
    go_roundw
    case rel => exact ⟨A5, n2 - k0, c2 - k0, x - k0, l2.drop k0, A4, n4, c4, _, rfl, by go_num, rfl, HREL.out.1.right (by omega) HREL.out.2 hlt hs5, ho4, hbel3.trans hb4⟩
    case measure => simp [lenS]; omega
  ·
   have HF := Lib.hid (show tpath l i = acc.reverse by
    have := hrel.eq
    unfold tpath at this ⊢
    rw [this, Tree.path_small tnd tnil (by rw [hrel.ss.len]; omega)]; rfl)
   clear hrel hss
   go_wp2_with fail
   refine (reverse_any w.heap.size A' n' c' acc wr hown hbel.size (by omega)).mono ?_
   rintro e w3 ⟨⟨v, rfl⟩, ho3, hb3⟩
   have HB3 := Lib.hid (hbel.trans hb3)
   clear hb3
   go_wp2
   go_ret2
   exact ⟨A', n', c', rfl, by rw [HF.out]; exact ho3, HB3.out⟩
def tleaves (f : Nat → Piece) (n : Nat) : List (List UInt8) := (List.range n).map fun i => seal_ 0 (f i).l
theorem tleaves_succ (f : Nat → Piece) (n : Nat) : tleaves f (n + 1) = tleaves f n ++ [seal_ 0 (f n).l] := by
 unfold tleaves
 rw [List.range_succ, List.map_append]; rfl
theorem leaves_any (A : Option Addr) (n c : Nat) (f : Nat → Piece) (w : World) (hr : RowsAt w A n f) (hc : n ≤ c) (hm : c ≤ maxLen) (hn : n ≤ 1000000) (hl : ∀ i, i < n → (f i).n ≤ 1000000) (ht : Tabs w) :
  Calls Tryz.prog 31 #[.slice A n c] w (OwnSPost w.heap.size (tleaves f n) w) := by
 rw [maxLen_eq] at hm
 have HR := Lib.hid hr
 have HL := Lib.hid hl
 have HT := Lib.hid ht
 clear hr hl ht
 go_enter Tryz.func31, Tryz.ntmps31
 go_wp2
 go_loopw [3, 8] (fun v i wr => ∃ (k : Nat) (A2 : Option Addr) (n2 c2 : Nat), k ≤ n ∧ i = .int .i64 k ∧ v = .slice A2 n2 c2 ∧ n2 ≤ k ∧ OwnS wr w.heap.size A2 n2 c2 (tleaves f k) ∧ Below w.heap.size w wr) (fun _ i _ => n - (intOf i).toNat)
 case atStart => exact ⟨0, none, 0, 0, by omega, rfl, rfl, by omega, OwnS.nil _ _, Below.refl _ _⟩
 case round =>
  obtain ⟨k, A2, n2, c2, hk, rfl, rfl, hnk, hown, hbel⟩ := hrel
  by_cases hlt : k < n
  ·
   obtain ⟨b, off, rfl, hb, hrows⟩ := HR.out (by omega)
   obtain ⟨hcell, hpc⟩ := hrows k hlt
   have hxn := HL.out k hlt
   have HE := Lib.hid (tleaves_succ f k)
   obtain ⟨x, hx⟩ : ∃ x, f k = x := ⟨_, rfl⟩
   rw [hx] at hcell hpc hxn HE
   have HP := Lib.hid hpc
   have x0 := (hbel.cell (p := ⟨b, off + k, none⟩) hb).trans hcell
   clear hrows hcell hpc hx
   go_wp2_with fail
   refine (leaf_any x.a x.n x.c x.l wr ((HP.out.rd.below' hbel (Nat.le_refl _)).more hbel.size) HP.out.len HP.out.cap HP.out.max hxn (HT.out.below hbel)).mono ?_
   rintro e w3 ⟨rfl, hb3⟩
   have hown3 := hown.keep hb3
   have hbel3 := bt hbel hb3
   go_wp2_with (at_builtin; refine wl_appS1 rfl (.tmp 12) (.tmp 15) rfl rfl hown3 rfl (seal_ 0 x.l) (by omega) hbel3.size ?_; intro A4 n4 c4 w4 ho4 hb4)
   go_roundw
   case rel => exact ⟨k + 1, A4, n4, c4, by omega, by go_num, rfl, by rw [← ho4.len, List.length_append, hown.len, List.length_singleton]; omega, by rw [HE.out]; exact ho4, hbel3.trans hb4⟩
   case measure => simp [intOf]; omega
  ·
   obtain rfl : k = n := by omega
   go_wp2
   go_ret
   exact ⟨A2, n2, c2, rfl, hown, hbel⟩
theorem rleaf_any (A : Option Addr) (n c : Nat) (l : List UInt8) (w : World) (hr : Rd w w.heap.size A (l.map bv)) (hl : l.length = n) (hc : n ≤ c) (hm : c ≤ maxLen) (hs : n ≤ 1000000) :
  Calls Tryz.prog 53 #[.slice A n c] w (SealPost 0 l w) := by
 have HC := Lib.hid (rof_any 0 A n c l w hr hl hc hm hs)
 clear hr hl hm
 go_enter Tryz.func53, Tryz.ntmps53
 go_wp2_with fail
 refine HC.out.mono ?_
 rintro e w2 ⟨rfl, hb2⟩
 have HB2 := Lib.hid hb2
 clear hb2
 go_wp2
 go_ret
 exact ⟨rfl, HB2.out⟩
theorem seal_len (kd : UInt8) (l : List UInt8) : (seal_ kd l).length = 32 := Sha.sum_length _
theorem clb_32 {d : List UInt8} (hd : d.length = 32) (S : List Bool) (p : List (List UInt8)) : (Tree.clb tnd tnil d S p).length = 32 := by
 cases S with
 | nil => exact hd
 | cons s S => cases s <;> exact tnd_len _ _
end Go.Proofs.YteoledjllpgcbaaGreatDoor
