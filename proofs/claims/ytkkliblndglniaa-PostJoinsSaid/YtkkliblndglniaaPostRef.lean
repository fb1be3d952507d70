/- The reference's Good, Has, Pick, In; In. No statement of the seat is proved here. -/
import Derived.Test.YtkkliblndglniaaPost4
namespace Go.Proofs.Ytkkliblndglniaa
set_option linter.unusedVariables false
open Go.RowKit

def GoodPost (l : List Int) (w wq : World) (e : Ending) (w' : World) : Prop := ∃ A n c, e = .returned (.slice A n c) ∧ Zs w A n c (Post.good l) ∧ Below wq.heap.size wq w'
theorem rgood_any (A : Option Addr) (n c : Nat) (l : List Int) (w wq : World) (h : Zs w A n c l) (hb : Below w.heap.size w wq) : Calls Try.prog 48 #[.slice A n c] wq (GoodPost l w wq) := by
  have hr := rright9_any A n c l wq (h.keep hb)
  cases hl : Post.right l with
  | true =>
    rw [hl] at hr
    have h2 : Zs w A n c (Post.good l) := by rw [Post.good_of hl]; exact h
    have HR := Lib.hid hr
    clear hr hl h
    go_enter Try.func48, Try.ntmps48
    go_wp2_with fail
    refine HR.out.mono ?_
    rintro e w1 ⟨rfl, hb1⟩
    go_wp2
    go_ret
    exact ⟨A, n, c, rfl, h2, hb1⟩
  | false =>
    rw [hl] at hr
    have h2 : Zs w none 0 0 (Post.good l) := by unfold Post.good; rw [hl]; exact Zs.nil w
    have HR := Lib.hid hr
    clear hr hl h
    go_enter Try.func48, Try.ntmps48
    go_wp2_with fail
    refine HR.out.mono ?_
    rintro e w1 ⟨rfl, hb1⟩
    go_wp2
    go_ret
    exact ⟨none, 0, 0, rfl, h2, hb1⟩
set_option maxHeartbeats 4000000 in
theorem rhas_any (A : Option Addr) (n c : Nat) (l : List Int) (z : Int) (w wq : World) (h : Zs w A n c l) (hb : Below w.heap.size w wq) : Calls Try.prog 49 #[.slice A n c, .int .i64 z] wq fun e w' => e = .returned (.bool (decide (z ∈ l))) ∧ wq = w' := by
  have hm := h.max
  have hcap := h.cap
  rw [maxLen_eq] at hm
  have HB := Lib.hid hb
  clear hb
  go_enter Try.func49, Try.ntmps49
  go_wp2
  go_loop [5] (fun vi => ∃ k : Nat, k ≤ n ∧ vi = .int .i64 k ∧ Hid (∀ j x, j < k → l[j]? = some x → ¬ x = z)) (fun vi => n - (intOf vi).toNat)
  case atStart => exact ⟨0, by omega, rfl, Lib.hid (fun j x h => by omega)⟩
  case round =>
    obtain ⟨k, hk, rfl, hr⟩ := hrel
    by_cases hlt : k < n
    · obtain ⟨b, off, rfl, hbb, hcell, x, hx, hx1, hx2⟩ := h.at hlt
      have x0 := (HB.out.cell (p := ⟨b, off + k, none⟩) hbb).trans (hcell k x hx)
      have HX := Lib.hid hx
      clear hcell hx
      by_cases hxz : x = z
      · subst hxz
        have HF := Lib.hid (show decide (x ∈ l) = true from decide_eq_true (List.mem_of_getElem? HX.out))
        go_wp2
        go_ret
        exact ⟨by rw [HF.out]; rfl, rfl⟩
      · have b1 : (x == z) = false := by simpa using hxz
        have HN := Lib.hid (show ∀ j y, j < k + 1 → l[j]? = some y → ¬ y = z from fun j y hj hy => by
          by_cases e : j = k
          · subst e
            have := HX.out
            rw [hy] at this
            injection this with this
            rw [this]; exact hxz
          · exact hr.out j y (by omega) hy)
        clear hxz
        go_wp2
        go_round
        case rel => exact ⟨k + 1, by omega, by go_num, HN⟩
        case measure => simp [intOf]; omega
    · obtain rfl : k = n := by omega
      have HF := Lib.hid (show decide (z ∈ l) = false from decide_eq_false (fun hm => by
        obtain ⟨j, hj, e⟩ := List.getElem_of_mem hm
        exact hr.out j l[j] (by rw [← h.len]; exact hj) (List.getElem?_eq_getElem hj) e))
      go_wp2
      go_ret
      exact ⟨by rw [HF.out]; rfl, rfl⟩
/-- The picked ones below k. -/
structure Upto (p acc : List Int) (k : Nat) : Prop where
  pw : acc.Pairwise (· < ·)
  mem : ∀ z, z ∈ acc ↔ z ∈ p ∧ z < (k : Int)
  len : acc.length ≤ k
theorem Upto.yes {p acc : List Int} {k : Nat} (h : Upto p acc k) (hk : (k : Int) ∈ p) : Upto p (acc ++ [(k : Int)]) (k + 1) := by
  refine ⟨List.pairwise_append.2 ⟨h.pw, by simp, fun x hx y hy => by rw [List.mem_singleton.1 hy]; exact ((h.mem x).1 hx).2⟩, fun z => ?_, by rw [List.length_append]; have := h.len; simp; omega⟩
  rw [List.mem_append, List.mem_singleton, h.mem]
  constructor
  · rintro (⟨h1, h2⟩ | rfl)
    · exact ⟨h1, by push_cast; omega⟩
    · exact ⟨hk, by push_cast; omega⟩
  · rintro ⟨h1, h2⟩
    by_cases e : z = (k : Int)
    · exact .inr e
    · exact .inl ⟨h1, by push_cast at h2; omega⟩
theorem Upto.no {p acc : List Int} {k : Nat} (h : Upto p acc k) (hk : ¬ (k : Int) ∈ p) : Upto p acc (k + 1) := by
  refine ⟨h.pw, fun z => ?_, by have := h.len; omega⟩
  rw [h.mem]
  constructor
  · rintro ⟨h1, h2⟩; exact ⟨h1, by push_cast; omega⟩
  · rintro ⟨h1, h2⟩
    refine ⟨h1, ?_⟩
    by_cases e : z = (k : Int)
    · subst e; exact absurd h1 hk
    · push_cast at h2; omega
set_option maxRecDepth 100000 in
set_option maxHeartbeats 8000000 in
theorem rpick_both (A : Option Addr) (n c : Nat) (la : List Int) (B : Option Addr) (m k0 : Nat) (lb : List Int) (w : World) (ha : Zs w A n c la) (hb : Zs w B m k0 lb) :
    Calls Try.prog 33 #[.slice A n c, .slice B m k0, .int .i64 0] w (PickPost (Post.pick Post.kBoth la lb) w) := by
  obtain ⟨P, hP⟩ : ∃ P, Post.pick Post.kBoth la lb = P := ⟨_, rfl⟩
  have hmem := fun z => Post.mem_pick Post.kBoth la lb z
  have hpw := Post.pick_pw Post.kBoth la lb
  have hpr := (Post.right_iff _).1 (Post.pick_right Post.kBoth la lb)
  rw [hP] at hmem hpw hpr ⊢
  have HM := Lib.hid hmem
  have HPW := Lib.hid (And.intro hpw hpr)
  clear hmem hpw hpr hP
  go_enter Try.func33, Try.ntmps33
  go_wp2_with fail
  refine (rgood_any A n c la w w ha (Below.refl _ _)).mono ?_
  rintro e w1 ⟨A1, n1, c1, rfl, hz1, hb1⟩
  go_wp2_with fail
  refine (rgood_any B m k0 lb w w1 hb hb1).mono ?_
  rintro e w2 ⟨B1, m1, k1, rfl, hz2, hb2⟩
  have hb02 := bt hb1 hb2
  go_wp2
  go_loopw [7, 8] (fun vl vn wr => ∃ (Al : Option Addr) (nl cl k : Nat) (acc : List Int), vl = .slice Al nl cl ∧ vn = .int .i64 k ∧ k ≤ 1000 ∧ OwnZ wr w.heap.size Al nl cl acc ∧ Below w.heap.size w wr ∧ Hid (Upto P acc k)) (fun _ vn _ => 1000 - (intOf vn).toNat)
  case atStart => exact ⟨none, 0, 0, 0, [], rfl, rfl, by omega, OwnZ.nil _ _, hb02, Lib.hid ⟨List.Pairwise.nil, fun z => ⟨fun h => by simp at h, fun h => by have := HPW.out.2.1 z h.1; have := h.2; simp at this; omega⟩, by simp⟩⟩
  case round =>
    obtain ⟨Al, nl, cl, k, acc, rfl, rfl, hk, hown, hbel, hu⟩ := hrel
    have hnl : nl ≤ 1000 := by have a := hown.len; have b := hu.out.len; omega
    by_cases hlt : k < 1000
    · have HX := Lib.hid (rhas_any A1 n1 c1 (Post.good la) (k : Int) w wr hz1 hbel)
      have HY := Lib.hid (rhas_any B1 m1 k1 (Post.good lb) (k : Int) w wr hz2 hbel)
      cases hx : decide ((k : Int) ∈ Post.good la) <;> cases hy : decide ((k : Int) ∈ Post.good lb)
      · have HK := Lib.hid (HM.out (k : Int))
        have HXY := Lib.hid (And.intro hx hy)
        have HXX := Lib.hid hx
        have HYY := Lib.hid hy
        clear hx hy
        go_wp2_with fail
        refine HX.out.mono ?_
        rintro e w3 ⟨rfl, rfl⟩
        rw [HXX.out]
        go_wp2_with fail
        refine HY.out.mono ?_
        rintro e w3 ⟨rfl, rfl⟩
        rw [HYY.out]
        have HIN := Lib.hid (show ¬ (k : Int) ∈ P from fun h => by
          have h2 := (HK.out.1 h).2
          rw [HXY.out.1, HXY.out.2] at h2
          simp [Post.kBoth] at h2)
        go_wp2
        go_roundw
        case rel => exact ⟨Al, nl, cl, k + 1, acc, rfl, by go_num, by omega, hown, hbel, Lib.hid (hu.out.no HIN.out)⟩
        case measure => simp [intOf]; omega
      · have HK := Lib.hid (HM.out (k : Int))
        have HXY := Lib.hid (And.intro hx hy)
        have HXX := Lib.hid hx
        have HYY := Lib.hid hy
        clear hx hy
        go_wp2_with fail
        refine HX.out.mono ?_
        rintro e w3 ⟨rfl, rfl⟩
        rw [HXX.out]
        go_wp2_with fail
        refine HY.out.mono ?_
        rintro e w3 ⟨rfl, rfl⟩
        rw [HYY.out]
        have HIN := Lib.hid (show ¬ (k : Int) ∈ P from fun h => by
          have h2 := (HK.out.1 h).2
          rw [HXY.out.1, HXY.out.2] at h2
          simp [Post.kBoth] at h2)
        go_wp2
        go_roundw
        case rel => exact ⟨Al, nl, cl, k + 1, acc, rfl, by go_num, by omega, hown, hbel, Lib.hid (hu.out.no HIN.out)⟩
        case measure => simp [intOf]; omega
      · have HK := Lib.hid (HM.out (k : Int))
        have HXY := Lib.hid (And.intro hx hy)
        have HXX := Lib.hid hx
        have HYY := Lib.hid hy
        clear hx hy
        go_wp2_with fail
        refine HX.out.mono ?_
        rintro e w3 ⟨rfl, rfl⟩
        rw [HXX.out]
        go_wp2_with fail
        refine HY.out.mono ?_
        rintro e w3 ⟨rfl, rfl⟩
        rw [HYY.out]
        have HIN := Lib.hid (show ¬ (k : Int) ∈ P from fun h => by
          have h2 := (HK.out.1 h).2
          rw [HXY.out.1, HXY.out.2] at h2
          simp [Post.kBoth] at h2)
        go_wp2
        go_roundw
        case rel => exact ⟨Al, nl, cl, k + 1, acc, rfl, by go_num, by omega, hown, hbel, Lib.hid (hu.out.no HIN.out)⟩
        case measure => simp [intOf]; omega
      · have HK := Lib.hid (HM.out (k : Int))
        have HXY := Lib.hid (And.intro hx hy)
        have HXX := Lib.hid hx
        have HYY := Lib.hid hy
        clear hx hy
        go_wp2_with fail
        refine HX.out.mono ?_
        rintro e w3 ⟨rfl, rfl⟩
        rw [HXX.out]
        go_wp2_with fail
        refine HY.out.mono ?_
        rintro e w3 ⟨rfl, rfl⟩
        rw [HYY.out]
        have HIN := Lib.hid (show (k : Int) ∈ P from HK.out.2 ⟨by first | exact .inl (of_decide_eq_true HXY.out.1) | exact .inr (of_decide_eq_true HXY.out.2), by rw [HXY.out.1, HXY.out.2]; rfl⟩)
        go_wp2_with (at_builtin; refine wl_appZ1 rfl (.tmp 54) (.tmp 56) rfl rfl hown (k : Int) rfl (by omega) (by omega) hbel.size ?_; intro A4 n4 c4 w4 ho4 hb4 _)
        go_roundw
        case rel => exact ⟨A4, n4, c4, k + 1, _, rfl, by go_num, by omega, ho4, hbel.trans hb4, Lib.hid (hu.out.yes HIN.out)⟩
        case measure => simp [intOf]; omega
    · obtain rfl : k = 1000 := by omega
      have HF := Lib.hid (show acc = P from Post.sorted_ext _ _ hu.out.pw HPW.out.1 fun z => by
        rw [hu.out.mem]
        exact ⟨fun h => h.1, fun h => ⟨h, by have := (HPW.out.2.1 z h).2; simpa using this⟩⟩)
      go_wp2
      go_ret
      exact ⟨Al, nl, cl, rfl, by rw [← HF.out]; exact hown, hbel⟩
set_option maxRecDepth 100000 in
set_option maxHeartbeats 8000000 in
theorem rpick_either (A : Option Addr) (n c : Nat) (la : List Int) (B : Option Addr) (m k0 : Nat) (lb : List Int) (w : World) (ha : Zs w A n c la) (hb : Zs w B m k0 lb) :
    Calls Try.prog 33 #[.slice A n c, .slice B m k0, .int .i64 1] w (PickPost (Post.pick Post.kEither la lb) w) := by
  obtain ⟨P, hP⟩ : ∃ P, Post.pick Post.kEither la lb = P := ⟨_, rfl⟩
  have hmem := fun z => Post.mem_pick Post.kEither la lb z
  have hpw := Post.pick_pw Post.kEither la lb
  have hpr := (Post.right_iff _).1 (Post.pick_right Post.kEither la lb)
  rw [hP] at hmem hpw hpr ⊢
  have HM := Lib.hid hmem
  have HPW := Lib.hid (And.intro hpw hpr)
  clear hmem hpw hpr hP
  go_enter Try.func33, Try.ntmps33
  go_wp2_with fail
  refine (rgood_any A n c la w w ha (Below.refl _ _)).mono ?_
  rintro e w1 ⟨A1, n1, c1, rfl, hz1, hb1⟩
  go_wp2_with fail
  refine (rgood_any B m k0 lb w w1 hb hb1).mono ?_
  rintro e w2 ⟨B1, m1, k1, rfl, hz2, hb2⟩
  have hb02 := bt hb1 hb2
  go_wp2
  go_loopw [7, 8] (fun vl vn wr => ∃ (Al : Option Addr) (nl cl k : Nat) (acc : List Int), vl = .slice Al nl cl ∧ vn = .int .i64 k ∧ k ≤ 1000 ∧ OwnZ wr w.heap.size Al nl cl acc ∧ Below w.heap.size w wr ∧ Hid (Upto P acc k)) (fun _ vn _ => 1000 - (intOf vn).toNat)
  case atStart => exact ⟨none, 0, 0, 0, [], rfl, rfl, by omega, OwnZ.nil _ _, hb02, Lib.hid ⟨List.Pairwise.nil, fun z => ⟨fun h => by simp at h, fun h => by have := HPW.out.2.1 z h.1; have := h.2; simp at this; omega⟩, by simp⟩⟩
  case round =>
    obtain ⟨Al, nl, cl, k, acc, rfl, rfl, hk, hown, hbel, hu⟩ := hrel
    have hnl : nl ≤ 1000 := by have a := hown.len; have b := hu.out.len; omega
    by_cases hlt : k < 1000
    · have HX := Lib.hid (rhas_any A1 n1 c1 (Post.good la) (k : Int) w wr hz1 hbel)
      have HY := Lib.hid (rhas_any B1 m1 k1 (Post.good lb) (k : Int) w wr hz2 hbel)
      cases hx : decide ((k : Int) ∈ Post.good la) <;> cases hy : decide ((k : Int) ∈ Post.good lb)
      · have HK := Lib.hid (HM.out (k : Int))
        have HXY := Lib.hid (And.intro hx hy)
        have HXX := Lib.hid hx
        have HYY := Lib.hid hy
        clear hx hy
        go_wp2_with fail
        refine HX.out.mono ?_
        rintro e w3 ⟨rfl, rfl⟩
        rw [HXX.out]
        go_wp2_with fail
        refine HY.out.mono ?_
        rintro e w3 ⟨rfl, rfl⟩
        rw [HYY.out]
        have HIN := Lib.hid (show ¬ (k : Int) ∈ P from fun h => by
          have h2 := (HK.out.1 h).2
          rw [HXY.out.1, HXY.out.2] at h2
          simp [Post.kEither] at h2)
        go_wp2
        go_roundw
        case rel => exact ⟨Al, nl, cl, k + 1, acc, rfl, by go_num, by omega, hown, hbel, Lib.hid (hu.out.no HIN.out)⟩
        case measure => simp [intOf]; omega
      · have HK := Lib.hid (HM.out (k : Int))
        have HXY := Lib.hid (And.intro hx hy)
        have HXX := Lib.hid hx
        have HYY := Lib.hid hy
        clear hx hy
        go_wp2_with fail
        refine HX.out.mono ?_
        rintro e w3 ⟨rfl, rfl⟩
        rw [HXX.out]
        go_wp2_with fail
        refine HY.out.mono ?_
        rintro e w3 ⟨rfl, rfl⟩
        rw [HYY.out]
        have HIN := Lib.hid (show (k : Int) ∈ P from HK.out.2 ⟨by first | exact .inl (of_decide_eq_true HXY.out.1) | exact .inr (of_decide_eq_true HXY.out.2), by rw [HXY.out.1, HXY.out.2]; rfl⟩)
        go_wp2_with (at_builtin; refine wl_appZ1 rfl (.tmp 54) (.tmp 56) rfl rfl hown (k : Int) rfl (by omega) (by omega) hbel.size ?_; intro A4 n4 c4 w4 ho4 hb4 _)
        go_roundw
        case rel => exact ⟨A4, n4, c4, k + 1, _, rfl, by go_num, by omega, ho4, hbel.trans hb4, Lib.hid (hu.out.yes HIN.out)⟩
        case measure => simp [intOf]; omega
      · have HK := Lib.hid (HM.out (k : Int))
        have HXY := Lib.hid (And.intro hx hy)
        have HXX := Lib.hid hx
        have HYY := Lib.hid hy
        clear hx hy
        go_wp2_with fail
        refine HX.out.mono ?_
        rintro e w3 ⟨rfl, rfl⟩
        rw [HXX.out]
        go_wp2_with fail
        refine HY.out.mono ?_
        rintro e w3 ⟨rfl, rfl⟩
        rw [HYY.out]
        have HIN := Lib.hid (show (k : Int) ∈ P from HK.out.2 ⟨by first | exact .inl (of_decide_eq_true HXY.out.1) | exact .inr (of_decide_eq_true HXY.out.2), by rw [HXY.out.1, HXY.out.2]; rfl⟩)
        go_wp2_with (at_builtin; refine wl_appZ1 rfl (.tmp 54) (.tmp 56) rfl rfl hown (k : Int) rfl (by omega) (by omega) hbel.size ?_; intro A4 n4 c4 w4 ho4 hb4 _)
        go_roundw
        case rel => exact ⟨A4, n4, c4, k + 1, _, rfl, by go_num, by omega, ho4, hbel.trans hb4, Lib.hid (hu.out.yes HIN.out)⟩
        case measure => simp [intOf]; omega
      · have HK := Lib.hid (HM.out (k : Int))
        have HXY := Lib.hid (And.intro hx hy)
        have HXX := Lib.hid hx
        have HYY := Lib.hid hy
        clear hx hy
        go_wp2_with fail
        refine HX.out.mono ?_
        rintro e w3 ⟨rfl, rfl⟩
        rw [HXX.out]
        go_wp2_with fail
        refine HY.out.mono ?_
        rintro e w3 ⟨rfl, rfl⟩
        rw [HYY.out]
        have HIN := Lib.hid (show (k : Int) ∈ P from HK.out.2 ⟨by first | exact .inl (of_decide_eq_true HXY.out.1) | exact .inr (of_decide_eq_true HXY.out.2), by rw [HXY.out.1, HXY.out.2]; rfl⟩)
        go_wp2_with (at_builtin; refine wl_appZ1 rfl (.tmp 54) (.tmp 56) rfl rfl hown (k : Int) rfl (by omega) (by omega) hbel.size ?_; intro A4 n4 c4 w4 ho4 hb4 _)
        go_roundw
        case rel => exact ⟨A4, n4, c4, k + 1, _, rfl, by go_num, by omega, ho4, hbel.trans hb4, Lib.hid (hu.out.yes HIN.out)⟩
        case measure => simp [intOf]; omega
    · obtain rfl : k = 1000 := by omega
      have HF := Lib.hid (show acc = P from Post.sorted_ext _ _ hu.out.pw HPW.out.1 fun z => by
        rw [hu.out.mem]
        exact ⟨fun h => h.1, fun h => ⟨h, by have := (HPW.out.2.1 z h).2; simpa using this⟩⟩)
      go_wp2
      go_ret
      exact ⟨Al, nl, cl, rfl, by rw [← HF.out]; exact hown, hbel⟩
set_option maxRecDepth 100000 in
set_option maxHeartbeats 8000000 in
theorem rpick_but (A : Option Addr) (n c : Nat) (la : List Int) (B : Option Addr) (m k0 : Nat) (lb : List Int) (w : World) (ha : Zs w A n c la) (hb : Zs w B m k0 lb) :
    Calls Try.prog 33 #[.slice A n c, .slice B m k0, .int .i64 2] w (PickPost (Post.pick Post.kBut la lb) w) := by
  obtain ⟨P, hP⟩ : ∃ P, Post.pick Post.kBut la lb = P := ⟨_, rfl⟩
  have hmem := fun z => Post.mem_pick Post.kBut la lb z
  have hpw := Post.pick_pw Post.kBut la lb
  have hpr := (Post.right_iff _).1 (Post.pick_right Post.kBut la lb)
  rw [hP] at hmem hpw hpr ⊢
  have HM := Lib.hid hmem
  have HPW := Lib.hid (And.intro hpw hpr)
  clear hmem hpw hpr hP
  go_enter Try.func33, Try.ntmps33
  go_wp2_with fail
  refine (rgood_any A n c la w w ha (Below.refl _ _)).mono ?_
  rintro e w1 ⟨A1, n1, c1, rfl, hz1, hb1⟩
  go_wp2_with fail
  refine (rgood_any B m k0 lb w w1 hb hb1).mono ?_
  rintro e w2 ⟨B1, m1, k1, rfl, hz2, hb2⟩
  have hb02 := bt hb1 hb2
  go_wp2
  go_loopw [7, 8] (fun vl vn wr => ∃ (Al : Option Addr) (nl cl k : Nat) (acc : List Int), vl = .slice Al nl cl ∧ vn = .int .i64 k ∧ k ≤ 1000 ∧ OwnZ wr w.heap.size Al nl cl acc ∧ Below w.heap.size w wr ∧ Hid (Upto P acc k)) (fun _ vn _ => 1000 - (intOf vn).toNat)
  case atStart => exact ⟨none, 0, 0, 0, [], rfl, rfl, by omega, OwnZ.nil _ _, hb02, Lib.hid ⟨List.Pairwise.nil, fun z => ⟨fun h => by simp at h, fun h => by have := HPW.out.2.1 z h.1; have := h.2; simp at this; omega⟩, by simp⟩⟩
  case round =>
    obtain ⟨Al, nl, cl, k, acc, rfl, rfl, hk, hown, hbel, hu⟩ := hrel
    have hnl : nl ≤ 1000 := by have a := hown.len; have b := hu.out.len; omega
    by_cases hlt : k < 1000
    · have HX := Lib.hid (rhas_any A1 n1 c1 (Post.good la) (k : Int) w wr hz1 hbel)
      have HY := Lib.hid (rhas_any B1 m1 k1 (Post.good lb) (k : Int) w wr hz2 hbel)
      cases hx : decide ((k : Int) ∈ Post.good la) <;> cases hy : decide ((k : Int) ∈ Post.good lb)
      · have HK := Lib.hid (HM.out (k : Int))
        have HXY := Lib.hid (And.intro hx hy)
        have HXX := Lib.hid hx
        have HYY := Lib.hid hy
        clear hx hy
        go_wp2_with fail
        refine HX.out.mono ?_
        rintro e w3 ⟨rfl, rfl⟩
        rw [HXX.out]
        go_wp2_with fail
        refine HY.out.mono ?_
        rintro e w3 ⟨rfl, rfl⟩
        rw [HYY.out]
        have HIN := Lib.hid (show ¬ (k : Int) ∈ P from fun h => by
          have h2 := (HK.out.1 h).2
          rw [HXY.out.1, HXY.out.2] at h2
          simp [Post.kBut] at h2)
        go_wp2
        go_roundw
        case rel => exact ⟨Al, nl, cl, k + 1, acc, rfl, by go_num, by omega, hown, hbel, Lib.hid (hu.out.no HIN.out)⟩
        case measure => simp [intOf]; omega
      · have HK := Lib.hid (HM.out (k : Int))
        have HXY := Lib.hid (And.intro hx hy)
        have HXX := Lib.hid hx
        have HYY := Lib.hid hy
        clear hx hy
        go_wp2_with fail
        refine HX.out.mono ?_
        rintro e w3 ⟨rfl, rfl⟩
        rw [HXX.out]
        go_wp2_with fail
        refine HY.out.mono ?_
        rintro e w3 ⟨rfl, rfl⟩
        rw [HYY.out]
        have HIN := Lib.hid (show ¬ (k : Int) ∈ P from fun h => by
          have h2 := (HK.out.1 h).2
          rw [HXY.out.1, HXY.out.2] at h2
          simp [Post.kBut] at h2)
        go_wp2
        go_roundw
        case rel => exact ⟨Al, nl, cl, k + 1, acc, rfl, by go_num, by omega, hown, hbel, Lib.hid (hu.out.no HIN.out)⟩
        case measure => simp [intOf]; omega
      · have HK := Lib.hid (HM.out (k : Int))
        have HXY := Lib.hid (And.intro hx hy)
        have HXX := Lib.hid hx
        have HYY := Lib.hid hy
        clear hx hy
        go_wp2_with fail
        refine HX.out.mono ?_
        rintro e w3 ⟨rfl, rfl⟩
        rw [HXX.out]
        go_wp2_with fail
        refine HY.out.mono ?_
        rintro e w3 ⟨rfl, rfl⟩
        rw [HYY.out]
        have HIN := Lib.hid (show (k : Int) ∈ P from HK.out.2 ⟨by first | exact .inl (of_decide_eq_true HXY.out.1) | exact .inr (of_decide_eq_true HXY.out.2), by rw [HXY.out.1, HXY.out.2]; rfl⟩)
        go_wp2_with (at_builtin; refine wl_appZ1 rfl (.tmp 54) (.tmp 56) rfl rfl hown (k : Int) rfl (by omega) (by omega) hbel.size ?_; intro A4 n4 c4 w4 ho4 hb4 _)
        go_roundw
        case rel => exact ⟨A4, n4, c4, k + 1, _, rfl, by go_num, by omega, ho4, hbel.trans hb4, Lib.hid (hu.out.yes HIN.out)⟩
        case measure => simp [intOf]; omega
      · have HK := Lib.hid (HM.out (k : Int))
        have HXY := Lib.hid (And.intro hx hy)
        have HXX := Lib.hid hx
        have HYY := Lib.hid hy
        clear hx hy
        go_wp2_with fail
        refine HX.out.mono ?_
        rintro e w3 ⟨rfl, rfl⟩
        rw [HXX.out]
        go_wp2_with fail
        refine HY.out.mono ?_
        rintro e w3 ⟨rfl, rfl⟩
        rw [HYY.out]
        have HIN := Lib.hid (show ¬ (k : Int) ∈ P from fun h => by
          have h2 := (HK.out.1 h).2
          rw [HXY.out.1, HXY.out.2] at h2
          simp [Post.kBut] at h2)
        go_wp2
        go_roundw
        case rel => exact ⟨Al, nl, cl, k + 1, acc, rfl, by go_num, by omega, hown, hbel, Lib.hid (hu.out.no HIN.out)⟩
        case measure => simp [intOf]; omega
    · obtain rfl : k = 1000 := by omega
      have HF := Lib.hid (show acc = P from Post.sorted_ext _ _ hu.out.pw HPW.out.1 fun z => by
        rw [hu.out.mem]
        exact ⟨fun h => h.1, fun h => ⟨h, by have := (HPW.out.2.1 z h).2; simpa using this⟩⟩)
      go_wp2
      go_ret
      exact ⟨Al, nl, cl, rfl, by rw [← HF.out]; exact hown, hbel⟩
theorem keep_in (f t : Int) (h : Nat) (w : World) (hr : Row w h #[.int .i64 f, .int .i64 t] 57) : KeepF 50 #[.pointer (some ⟨h, 0, none⟩)] (Post.kIn f t) w where
  fn := ⟨_, Try.func50, by kernel_rfl, by kernel_rfl⟩
  call := fun W n x y h1 h2 hW => by
    have hrow := hr.belowS hW (Nat.le_refl _)
    have x0 := hrow.cellQ 0 _ rfl
    have x1 := hrow.cellQ 1 _ rfl
    clear hrow hr hW
    show Calls Try.prog 50 #[.int .i64 n, .bool x, .bool y, .pointer (some ⟨h, 0, none⟩)] W _
    unfold Post.kIn
    by_cases g1 : f ≤ n
    · by_cases g2 : n < t
      · rw [decide_eq_true g1, decide_eq_true g2]
        go_enter Try.func50, Try.ntmps50
        go_wp2
        go_ret
        exact ⟨rfl, rfl⟩
      · rw [decide_eq_true g1, decide_eq_false g2]
        go_enter Try.func50, Try.ntmps50
        go_wp2
        go_ret
        exact ⟨rfl, rfl⟩
    · rw [decide_eq_false g1, Bool.false_and]
      go_enter Try.func50, Try.ntmps50
      go_wp2
      go_ret
      exact ⟨rfl, rfl⟩
theorem in_any (A : Option Addr) (n c : Nat) (la : List Int) (f t : Int) (w : World) (ha : Zs w A n c la) :
    Calls Try.prog 34 #[.slice A n c, .agg #[.int .i64 f, .int .i64 t]] w (PickPost (Post.pick (Post.kIn f t) la []) w) := by
  have hb0 : Below w.heap.size w (w.alloc (.cells #[.int .i64 f, .int .i64 t] 57)) := (Below.refl _ w).alloc (Nat.le_refl _) _
  have hc := pick_any 50 #[.pointer (some ⟨w.heap.size, 0, none⟩)] (Post.kIn f t) A n c la none 0 0 [] (w.alloc (.cells #[.int .i64 f, .int .i64 t] 57)) (ha.keep hb0) (Zs.nil _) (keep_in f t w.heap.size _ (row_new w _ _))
  have HC := Lib.hid hc
  have HB0 := Lib.hid hb0
  clear hc ha hb0
  go_enter Try.func34, Try.ntmps34
  go_wp2_with fail
  refine HC.out.mono ?_
  rintro e w1 ⟨A1, n1, c1, rfl, ho1, hb1⟩
  have ho2 := ho1.base HB0.out.size
  have HB1 := Lib.hid (bt HB0.out hb1)
  clear hb1 ho1
  go_wp2
  go_ret
  exact ⟨A1, n1, c1, rfl, ho2, HB1.out⟩
theorem pick_in (f t : Int) (l : List Int) : Post.pick (Post.kIn f t) l [] = (Post.good l).filter fun x => decide (f ≤ x) && decide (x < t) := by
  refine Post.sorted_ext _ _ (Post.pick_pw _ _ _) ((Post.good_pw l).filter _) fun z => ?_
  rw [Post.mem_pick, List.mem_filter]
  have : Post.good [] = [] := rfl
  rw [this]
  simp [Post.kIn]
theorem filt_yes {p : Int → Bool} {l : List Int} {k : Nat} {z : Int} (hz : l[k]? = some z) (h : p z = true) : (l.take (k + 1)).filter p = (l.take k).filter p ++ [z] := by
  rw [List.take_add_one, hz, Option.toList_some, List.filter_append]; simp [h]
theorem filt_no {p : Int → Bool} {l : List Int} {k : Nat} {z : Int} (hz : l[k]? = some z) (h : p z = false) : (l.take (k + 1)).filter p = (l.take k).filter p := by
  rw [List.take_add_one, hz, Option.toList_some, List.filter_append]; simp [h]
set_option maxRecDepth 100000 in
set_option maxHeartbeats 8000000 in
theorem rin_any (A : Option Addr) (n c : Nat) (la : List Int) (f t : Int) (w : World) (ha : Zs w A n c la) :
    Calls Try.prog 35 #[.slice A n c, .agg #[.int .i64 f, .int .i64 t]] w (PickPost (Post.pick (Post.kIn f t) la []) w) := by
  rw [pick_in]
  obtain ⟨q, hq⟩ : ∃ q : Int → Bool, (fun x => decide (f ≤ x) && decide (x < t)) = q := ⟨_, rfl⟩
  rw [hq]
  have HQ := Lib.hid (show ∀ x, q x = (decide (f ≤ x) && decide (x < t)) from fun x => by rw [← hq])
  have hb0 : Below w.heap.size w (w.alloc (.cells #[.int .i64 f, .int .i64 t] 57)) := (Below.refl _ w).alloc (Nat.le_refl _) _
  have hrow0 := row_new w #[.int .i64 f, .int .i64 t] 57
  have hgood := rgood_any A n c la w (w.alloc (.cells #[.int .i64 f, .int .i64 t] 57)) ha hb0
  have hlen := Post.right_len (Post.good_right la)
  obtain ⟨gl, hgl⟩ : ∃ gl, Post.good la = gl := ⟨_, rfl⟩
  unfold GoodPost at hgood
  rw [hgl] at hgood hlen ⊢
  have HG := Lib.hid hgood
  have HB0 := Lib.hid hb0
  have HR0 := Lib.hid hrow0
  have HLEN := Lib.hid hlen
  clear hq hb0 hrow0 hgood hgl hlen
  go_enter Try.func35, Try.ntmps35
  go_wp2_with fail
  refine HG.out.mono ?_
  rintro e w1 ⟨A1, n1, c1, rfl, hz, hb1⟩
  have HB1 := Lib.hid (bt HB0.out hb1)
  have HR1 := Lib.hid (HR0.out.belowS hb1 (Nat.le_refl _))
  have hcap := hz.cap
  have hmax := hz.max
  rw [maxLen_eq] at hmax
  have hn1 : n1 ≤ 1000 := by rw [← hz.len]; exact HLEN.out
  clear hb1
  go_wp2_with fail
  obtain ⟨h0, hh0⟩ : ∃ h0, w.heap.size = h0 := ⟨_, rfl⟩
  have HH := Lib.hid hh0
  have HRX := Lib.hid (show Row w1 h0 #[.int .i64 f, .int .i64 t] 57 by rw [← hh0]; exact HR1.out)
  (try rw [hh0])
  go_loopw [5, 6] (fun vl vi wr => ∃ (Al : Option Addr) (nl cl k : Nat), vl = .slice Al nl cl ∧ vi = .int .i64 k ∧ k ≤ n1 ∧ OwnZ wr (h0 + 1) Al nl cl ((gl.take k).filter q) ∧ Below w.heap.size w wr ∧ Row wr h0 #[.int .i64 f, .int .i64 t] 57) (fun _ vi _ => n1 - (intOf vi).toNat)
  case atStart => exact ⟨none, 0, 0, 0, rfl, rfl, by omega, OwnZ.nil _ _, HB1.out, HRX.out⟩
  clear hh0
  case round =>
    obtain ⟨Al, nl, cl, k, rfl, rfl, hk, hown, hbel, hrow⟩ := hrel
    have hnl : nl ≤ 1000 := by
      have a := hown.len
      have b := List.length_filter_le q (gl.take k)
      have d := List.length_take_le k gl
      omega
    have HB := Lib.hid hbel
    have HR := Lib.hid hrow
    clear hbel hrow
    by_cases hlt : k < n1
    · obtain ⟨b, off, rfl, hbb, hcell, z, hzz, hz1, hz2⟩ := hz.at hlt
      have HX := Lib.hid (show ∀ W, Below wr.heap.size wr W → W.cell? ⟨b, off + k, none⟩ = some (.int .i64 z) from fun W hW => ((bt HB.out hW).cell (p := ⟨b, off + k, none⟩) hbb).trans (hcell k z hzz))
      have HF0 := Lib.hid (show ∀ W, Below wr.heap.size wr W → W.cell? ⟨h0, 0, none⟩ = some (.int .i64 f) from fun W hW => (HR.out.belowS hW (Nat.le_refl _)).cellQ 0 _ rfl)
      have HF1 := Lib.hid (show ∀ W, Below wr.heap.size wr W → W.cell? ⟨h0, 1, none⟩ = some (.int .i64 t) from fun W hW => (HR.out.belowS hW (Nat.le_refl _)).cellQ 1 _ rfl)
      have HZZ := Lib.hid hzz
      clear hcell hzz
      have kz : (0 : Int) ≤ (k : Int) := by omega
      have kn : (k : Int) < (n1 : Int) := by omega
      by_cases g1 : f ≤ z
      · by_cases g2 : z < t
        · have HN := Lib.hid (filt_yes HZZ.out (show q z = true by rw [HQ.out, decide_eq_true g1, decide_eq_true g2]; rfl))
          go_wp2_with fail
          refine Free.wp_free_l 16 (fun W => Below wr.heap.size wr W) [Free.kc (.slice (some ⟨b, off, none⟩) n1 c1), Free.kc (.int .i64 (k : Int)), Free.kc (.pointer (some ⟨b, off + k, none⟩)), Free.kc (.int .i64 z), Free.kc (.pointer (some ⟨h0, 0, none⟩)), Free.kc (.int .i64 f), Free.kc (.bool true), Free.kc (.bool true), Free.kc (.slice (some ⟨b, off, none⟩) n1 c1), Free.kc (.int .i64 (k : Int)), Free.kc (.pointer (some ⟨b, off + k, none⟩)), Free.kc (.int .i64 z), Free.kc (.pointer (some ⟨h0, 1, none⟩)), Free.kc (.int .i64 t), Free.kc (.bool true), Free.kc (.bool true)] (by kernel_rfl) (by kernel_rfl) (by decide) (Below.refl _ _).drew (fun w w' h g => bt h g) ?_ ?_
          · refine Free.forall_succ (Free.forall_succ (Free.forall_succ (Free.forall_succ (Free.forall_succ (Free.forall_succ (Free.forall_succ (Free.forall_succ (Free.forall_succ (Free.forall_succ (Free.forall_succ (Free.forall_succ (Free.forall_succ (Free.forall_succ (Free.forall_succ (Free.forall_succ (Free.forall_zero) ?_) ?_) ?_) ?_) ?_) ?_) ?_) ?_) ?_) ?_) ?_) ?_) ?_) ?_) ?_) ?_
            · exact Free.ob_plain _ rfl rfl fun vals wq hC hd => (by exact Free.d_move rfl (by kernel_rfl) rfl)
            · exact Free.ob_plain _ rfl rfl fun vals wq hC hd => (by exact Free.d_move rfl (by kernel_rfl) rfl)
            · exact Free.ob_plain _ rfl rfl fun vals wq hC hd => (by exact Free.d_indexAddr rfl (Eq.trans (b := vals 0) (by kernel_rfl) (hd 0 (by kernel_rfl))) (Eq.trans (b := vals 1) (by kernel_rfl) (hd 1 (by kernel_rfl))) (run_idx 48 Try.underlying48 (by kernel_rfl) _ _ _ _ _ _ (by omega) (by omega)) rfl)
            · exact Free.ob_plain _ rfl rfl fun vals wq hC hd => (by exact Free.d_load rfl (Eq.trans (b := vals 2) (by kernel_rfl) (hd 2 (by kernel_rfl))) (by have hcc := HX.out wq hC; go_simp) rfl)
            · exact Free.ob_plain _ rfl rfl fun vals wq hC hd => (by exact d_fieldP (cx := .pointer (some ⟨h0, 0, none⟩)) rfl (by kernel_rfl) (by go_simp) rfl)
            · exact Free.ob_plain _ rfl rfl fun vals wq hC hd => (by exact Free.d_load rfl (Eq.trans (b := vals 4) (by kernel_rfl) (hd 4 (by kernel_rfl))) (by have hcc := HF0.out wq hC; go_simp) rfl)
            · exact Free.ob_plain _ rfl rfl fun vals wq hC hd => (by exact Free.d_bin rfl (Eq.trans (b := vals 3) (by kernel_rfl) (hd 3 (by kernel_rfl))) (Eq.trans (b := vals 5) (by kernel_rfl) (hd 5 (by kernel_rfl))) (by go_simp) (by go_simp) rfl)
            · exact Free.ob_plain _ rfl rfl fun vals wq hC hd => (by exact Free.d_move rfl (Eq.trans (b := vals 6) (by kernel_rfl) (hd 6 (by kernel_rfl))) rfl)
            · exact Free.ob_guard _ rfl 7 22 true rfl rfl fun vals wq hC hd => ⟨Eq.trans (b := vals 7) (by kernel_rfl) (hd 7 (by kernel_rfl)), (by exact Free.d_move rfl (by kernel_rfl) rfl)⟩
            · exact Free.ob_guard _ rfl 7 22 true rfl rfl fun vals wq hC hd => ⟨Eq.trans (b := vals 7) (by kernel_rfl) (hd 7 (by kernel_rfl)), (by exact Free.d_move rfl (by kernel_rfl) rfl)⟩
            · exact Free.ob_guard _ rfl 7 22 true rfl rfl fun vals wq hC hd => ⟨Eq.trans (b := vals 7) (by kernel_rfl) (hd 7 (by kernel_rfl)), (by exact Free.d_indexAddr rfl (Eq.trans (b := vals 8) (by kernel_rfl) (hd 8 (by kernel_rfl))) (Eq.trans (b := vals 9) (by kernel_rfl) (hd 9 (by kernel_rfl))) (run_idx 48 Try.underlying48 (by kernel_rfl) _ _ _ _ _ _ (by omega) (by omega)) rfl)⟩
            · exact Free.ob_guard _ rfl 7 22 true rfl rfl fun vals wq hC hd => ⟨Eq.trans (b := vals 7) (by kernel_rfl) (hd 7 (by kernel_rfl)), (by exact Free.d_load rfl (Eq.trans (b := vals 10) (by kernel_rfl) (hd 10 (by kernel_rfl))) (by have hcc := HX.out wq hC; go_simp) rfl)⟩
            · exact Free.ob_guard _ rfl 7 22 true rfl rfl fun vals wq hC hd => ⟨Eq.trans (b := vals 7) (by kernel_rfl) (hd 7 (by kernel_rfl)), (by exact d_fieldP (cx := .pointer (some ⟨h0, 0, none⟩)) rfl (by kernel_rfl) (by go_simp) rfl)⟩
            · exact Free.ob_guard _ rfl 7 22 true rfl rfl fun vals wq hC hd => ⟨Eq.trans (b := vals 7) (by kernel_rfl) (hd 7 (by kernel_rfl)), (by exact Free.d_load rfl (Eq.trans (b := vals 12) (by kernel_rfl) (hd 12 (by kernel_rfl))) (by have hcc := HF1.out wq hC; go_simp) rfl)⟩
            · exact Free.ob_guard _ rfl 7 22 true rfl rfl fun vals wq hC hd => ⟨Eq.trans (b := vals 7) (by kernel_rfl) (hd 7 (by kernel_rfl)), (by exact Free.d_bin rfl (Eq.trans (b := vals 11) (by kernel_rfl) (hd 11 (by kernel_rfl))) (Eq.trans (b := vals 13) (by kernel_rfl) (hd 13 (by kernel_rfl))) (by go_simp) (by go_simp) rfl)⟩
            · exact Free.ob_plain _ rfl rfl fun vals wq hC hd => (by exact Free.d_pick rfl (Eq.trans (b := vals 7) (by kernel_rfl) (hd 7 (by kernel_rfl))) (Eq.trans (b := vals 14) (by kernel_rfl) (hd 14 (by kernel_rfl))) rfl)
          · intro vals wq hC hd
            have e0 : vals 0 = (.slice (some ⟨b, off, none⟩) n1 c1) := hd 0 (by decide)
            have e1 : vals 1 = (.int .i64 (k : Int)) := hd 1 (by decide)
            have e2 : vals 2 = (.pointer (some ⟨b, off + k, none⟩)) := hd 2 (by decide)
            have e3 : vals 3 = (.int .i64 z) := hd 3 (by decide)
            have e4 : vals 4 = (.pointer (some ⟨h0, 0, none⟩)) := hd 4 (by decide)
            have e5 : vals 5 = (.int .i64 f) := hd 5 (by decide)
            have e6 : vals 6 = (.bool true) := hd 6 (by decide)
            have e7 : vals 7 = (.bool true) := hd 7 (by decide)
            have e8 : vals 8 = (.slice (some ⟨b, off, none⟩) n1 c1) := hd 8 (by decide)
            have e9 : vals 9 = (.int .i64 (k : Int)) := hd 9 (by decide)
            have e10 : vals 10 = (.pointer (some ⟨b, off + k, none⟩)) := hd 10 (by decide)
            have e11 : vals 11 = (.int .i64 z) := hd 11 (by decide)
            have e12 : vals 12 = (.pointer (some ⟨h0, 1, none⟩)) := hd 12 (by decide)
            have e13 : vals 13 = (.int .i64 t) := hd 13 (by decide)
            have e14 : vals 14 = (.bool true) := hd 14 (by decide)
            have e15 : vals 15 = (.bool true) := hd 15 (by decide)
            simp only [Free.frameOf, List.range, List.range.loop, List.foldl, Free.dstOf, List.getElem?_toArray, List.getElem?_cons_zero, List.getElem?_cons_succ, Option.bind_some, Act.put, List.setIfInBounds_toArray, List.set_cons_zero, List.set_cons_succ, e0, e1, e2, e3, e4, e5, e6, e7, e8, e9, e10, e11, e12, e13, e14, e15]
            refine wpList_nil ?_
            clear hd e0 e1 e2 e3 e4 e5 e6 e7 e8 e9 e10 e11 e12 e13 e14 e15
            have HBQ := Lib.hid (bt HB.out hC)
            have hown2 := hown.keep hC
            have HRQ := Lib.hid (HR.out.belowS hC (Nat.le_refl _))
            have x0 := HX.out wq hC
            have hlow := HRQ.out.lt
            clear hC
            go_wp2_with (at_builtin; refine wl_appZ1 rfl (.tmp 31) (.tmp 36) rfl rfl hown2 z rfl (by omega) (by omega) hlow ?_; intro A4 n4 c4 w4 ho4 hb4 _)
            go_roundw
            case rel => exact ⟨A4, n4, c4, k + 1, rfl, by go_num, by omega, by rw [HN.out]; exact ho4, HBQ.out.trans (hb4.mono (by have := HH.out; omega)), HRQ.out.below hb4 (Nat.lt_succ_self _)⟩
            case measure => simp [intOf]; omega
        · have HN := Lib.hid (filt_no HZZ.out (show q z = false by rw [HQ.out, decide_eq_false g2, Bool.and_false]))
          go_wp2_with fail
          refine Free.wp_free_l 16 (fun W => Below wr.heap.size wr W) [Free.kc (.slice (some ⟨b, off, none⟩) n1 c1), Free.kc (.int .i64 (k : Int)), Free.kc (.pointer (some ⟨b, off + k, none⟩)), Free.kc (.int .i64 z), Free.kc (.pointer (some ⟨h0, 0, none⟩)), Free.kc (.int .i64 f), Free.kc (.bool true), Free.kc (.bool true), Free.kc (.slice (some ⟨b, off, none⟩) n1 c1), Free.kc (.int .i64 (k : Int)), Free.kc (.pointer (some ⟨b, off + k, none⟩)), Free.kc (.int .i64 z), Free.kc (.pointer (some ⟨h0, 1, none⟩)), Free.kc (.int .i64 t), Free.kc (.bool false), Free.kc (.bool false)] (by kernel_rfl) (by kernel_rfl) (by decide) (Below.refl _ _).drew (fun w w' h g => bt h g) ?_ ?_
          · refine Free.forall_succ (Free.forall_succ (Free.forall_succ (Free.forall_succ (Free.forall_succ (Free.forall_succ (Free.forall_succ (Free.forall_succ (Free.forall_succ (Free.forall_succ (Free.forall_succ (Free.forall_succ (Free.forall_succ (Free.forall_succ (Free.forall_succ (Free.forall_succ (Free.forall_zero) ?_) ?_) ?_) ?_) ?_) ?_) ?_) ?_) ?_) ?_) ?_) ?_) ?_) ?_) ?_) ?_
            · exact Free.ob_plain _ rfl rfl fun vals wq hC hd => (by exact Free.d_move rfl (by kernel_rfl) rfl)
            · exact Free.ob_plain _ rfl rfl fun vals wq hC hd => (by exact Free.d_move rfl (by kernel_rfl) rfl)
            · exact Free.ob_plain _ rfl rfl fun vals wq hC hd => (by exact Free.d_indexAddr rfl (Eq.trans (b := vals 0) (by kernel_rfl) (hd 0 (by kernel_rfl))) (Eq.trans (b := vals 1) (by kernel_rfl) (hd 1 (by kernel_rfl))) (run_idx 48 Try.underlying48 (by kernel_rfl) _ _ _ _ _ _ (by omega) (by omega)) rfl)
            · exact Free.ob_plain _ rfl rfl fun vals wq hC hd => (by exact Free.d_load rfl (Eq.trans (b := vals 2) (by kernel_rfl) (hd 2 (by kernel_rfl))) (by have hcc := HX.out wq hC; go_simp) rfl)
            · exact Free.ob_plain _ rfl rfl fun vals wq hC hd => (by exact d_fieldP (cx := .pointer (some ⟨h0, 0, none⟩)) rfl (by kernel_rfl) (by go_simp) rfl)
            · exact Free.ob_plain _ rfl rfl fun vals wq hC hd => (by exact Free.d_load rfl (Eq.trans (b := vals 4) (by kernel_rfl) (hd 4 (by kernel_rfl))) (by have hcc := HF0.out wq hC; go_simp) rfl)
            · exact Free.ob_plain _ rfl rfl fun vals wq hC hd => (by exact Free.d_bin rfl (Eq.trans (b := vals 3) (by kernel_rfl) (hd 3 (by kernel_rfl))) (Eq.trans (b := vals 5) (by kernel_rfl) (hd 5 (by kernel_rfl))) (by go_simp) (by go_simp) rfl)
            · exact Free.ob_plain _ rfl rfl fun vals wq hC hd => (by exact Free.d_move rfl (Eq.trans (b := vals 6) (by kernel_rfl) (hd 6 (by kernel_rfl))) rfl)
            · exact Free.ob_guard _ rfl 7 22 true rfl rfl fun vals wq hC hd => ⟨Eq.trans (b := vals 7) (by kernel_rfl) (hd 7 (by kernel_rfl)), (by exact Free.d_move rfl (by kernel_rfl) rfl)⟩
            · exact Free.ob_guard _ rfl 7 22 true rfl rfl fun vals wq hC hd => ⟨Eq.trans (b := vals 7) (by kernel_rfl) (hd 7 (by kernel_rfl)), (by exact Free.d_move rfl (by kernel_rfl) rfl)⟩
            · exact Free.ob_guard _ rfl 7 22 true rfl rfl fun vals wq hC hd => ⟨Eq.trans (b := vals 7) (by kernel_rfl) (hd 7 (by kernel_rfl)), (by exact Free.d_indexAddr rfl (Eq.trans (b := vals 8) (by kernel_rfl) (hd 8 (by kernel_rfl))) (Eq.trans (b := vals 9) (by kernel_rfl) (hd 9 (by kernel_rfl))) (run_idx 48 Try.underlying48 (by kernel_rfl) _ _ _ _ _ _ (by omega) (by omega)) rfl)⟩
            · exact Free.ob_guard _ rfl 7 22 true rfl rfl fun vals wq hC hd => ⟨Eq.trans (b := vals 7) (by kernel_rfl) (hd 7 (by kernel_rfl)), (by exact Free.d_load rfl (Eq.trans (b := vals 10) (by kernel_rfl) (hd 10 (by kernel_rfl))) (by have hcc := HX.out wq hC; go_simp) rfl)⟩
            · exact Free.ob_guard _ rfl 7 22 true rfl rfl fun vals wq hC hd => ⟨Eq.trans (b := vals 7) (by kernel_rfl) (hd 7 (by kernel_rfl)), (by exact d_fieldP (cx := .pointer (some ⟨h0, 0, none⟩)) rfl (by kernel_rfl) (by go_simp) rfl)⟩
            · exact Free.ob_guard _ rfl 7 22 true rfl rfl fun vals wq hC hd => ⟨Eq.trans (b := vals 7) (by kernel_rfl) (hd 7 (by kernel_rfl)), (by exact Free.d_load rfl (Eq.trans (b := vals 12) (by kernel_rfl) (hd 12 (by kernel_rfl))) (by have hcc := HF1.out wq hC; go_simp) rfl)⟩
            · exact Free.ob_guard _ rfl 7 22 true rfl rfl fun vals wq hC hd => ⟨Eq.trans (b := vals 7) (by kernel_rfl) (hd 7 (by kernel_rfl)), (by exact Free.d_bin rfl (Eq.trans (b := vals 11) (by kernel_rfl) (hd 11 (by kernel_rfl))) (Eq.trans (b := vals 13) (by kernel_rfl) (hd 13 (by kernel_rfl))) (by go_simp) (by go_simp) rfl)⟩
            · exact Free.ob_plain _ rfl rfl fun vals wq hC hd => (by exact Free.d_pick rfl (Eq.trans (b := vals 7) (by kernel_rfl) (hd 7 (by kernel_rfl))) (Eq.trans (b := vals 14) (by kernel_rfl) (hd 14 (by kernel_rfl))) rfl)
          · intro vals wq hC hd
            have e0 : vals 0 = (.slice (some ⟨b, off, none⟩) n1 c1) := hd 0 (by decide)
            have e1 : vals 1 = (.int .i64 (k : Int)) := hd 1 (by decide)
            have e2 : vals 2 = (.pointer (some ⟨b, off + k, none⟩)) := hd 2 (by decide)
            have e3 : vals 3 = (.int .i64 z) := hd 3 (by decide)
            have e4 : vals 4 = (.pointer (some ⟨h0, 0, none⟩)) := hd 4 (by decide)
            have e5 : vals 5 = (.int .i64 f) := hd 5 (by decide)
            have e6 : vals 6 = (.bool true) := hd 6 (by decide)
            have e7 : vals 7 = (.bool true) := hd 7 (by decide)
            have e8 : vals 8 = (.slice (some ⟨b, off, none⟩) n1 c1) := hd 8 (by decide)
            have e9 : vals 9 = (.int .i64 (k : Int)) := hd 9 (by decide)
            have e10 : vals 10 = (.pointer (some ⟨b, off + k, none⟩)) := hd 10 (by decide)
            have e11 : vals 11 = (.int .i64 z) := hd 11 (by decide)
            have e12 : vals 12 = (.pointer (some ⟨h0, 1, none⟩)) := hd 12 (by decide)
            have e13 : vals 13 = (.int .i64 t) := hd 13 (by decide)
            have e14 : vals 14 = (.bool false) := hd 14 (by decide)
            have e15 : vals 15 = (.bool false) := hd 15 (by decide)
            simp only [Free.frameOf, List.range, List.range.loop, List.foldl, Free.dstOf, List.getElem?_toArray, List.getElem?_cons_zero, List.getElem?_cons_succ, Option.bind_some, Act.put, List.setIfInBounds_toArray, List.set_cons_zero, List.set_cons_succ, e0, e1, e2, e3, e4, e5, e6, e7, e8, e9, e10, e11, e12, e13, e14, e15]
            refine wpList_nil ?_
            clear hd e0 e1 e2 e3 e4 e5 e6 e7 e8 e9 e10 e11 e12 e13 e14 e15
            have HBQ := Lib.hid (bt HB.out hC)
            have hown2 := hown.keep hC
            have HRQ := Lib.hid (HR.out.belowS hC (Nat.le_refl _))
            clear hC
            go_wp2
            go_roundw
            case rel => exact ⟨Al, nl, cl, k + 1, rfl, by go_num, by omega, by rw [HN.out]; exact hown2, HBQ.out, HRQ.out⟩
            case measure => simp [intOf]; omega
      · have HN := Lib.hid (filt_no HZZ.out (show q z = false by rw [HQ.out, decide_eq_false g1, Bool.false_and]))
        go_wp2_with fail
        refine Free.wp_free_l 16 (fun W => Below wr.heap.size wr W) [Free.kc (.slice (some ⟨b, off, none⟩) n1 c1), Free.kc (.int .i64 (k : Int)), Free.kc (.pointer (some ⟨b, off + k, none⟩)), Free.kc (.int .i64 z), Free.kc (.pointer (some ⟨h0, 0, none⟩)), Free.kc (.int .i64 f), Free.kc (.bool false), Free.kc (.bool false), Free.kc (undef), Free.kc (undef), Free.kc (undef), Free.kc (undef), Free.kc (undef), Free.kc (undef), Free.kc (undef), Free.kc (.bool false)] (by kernel_rfl) (by kernel_rfl) (by decide) (Below.refl _ _).drew (fun w w' h g => bt h g) ?_ ?_
        · refine Free.forall_succ (Free.forall_succ (Free.forall_succ (Free.forall_succ (Free.forall_succ (Free.forall_succ (Free.forall_succ (Free.forall_succ (Free.forall_succ (Free.forall_succ (Free.forall_succ (Free.forall_succ (Free.forall_succ (Free.forall_succ (Free.forall_succ (Free.forall_succ (Free.forall_zero) ?_) ?_) ?_) ?_) ?_) ?_) ?_) ?_) ?_) ?_) ?_) ?_) ?_) ?_) ?_) ?_
          · exact Free.ob_plain _ rfl rfl fun vals wq hC hd => (by exact Free.d_move rfl (by kernel_rfl) rfl)
          · exact Free.ob_plain _ rfl rfl fun vals wq hC hd => (by exact Free.d_move rfl (by kernel_rfl) rfl)
          · exact Free.ob_plain _ rfl rfl fun vals wq hC hd => (by exact Free.d_indexAddr rfl (Eq.trans (b := vals 0) (by kernel_rfl) (hd 0 (by kernel_rfl))) (Eq.trans (b := vals 1) (by kernel_rfl) (hd 1 (by kernel_rfl))) (run_idx 48 Try.underlying48 (by kernel_rfl) _ _ _ _ _ _ (by omega) (by omega)) rfl)
          · exact Free.ob_plain _ rfl rfl fun vals wq hC hd => (by exact Free.d_load rfl (Eq.trans (b := vals 2) (by kernel_rfl) (hd 2 (by kernel_rfl))) (by have hcc := HX.out wq hC; go_simp) rfl)
          · exact Free.ob_plain _ rfl rfl fun vals wq hC hd => (by exact d_fieldP (cx := .pointer (some ⟨h0, 0, none⟩)) rfl (by kernel_rfl) (by go_simp) rfl)
          · exact Free.ob_plain _ rfl rfl fun vals wq hC hd => (by exact Free.d_load rfl (Eq.trans (b := vals 4) (by kernel_rfl) (hd 4 (by kernel_rfl))) (by have hcc := HF0.out wq hC; go_simp) rfl)
          · exact Free.ob_plain _ rfl rfl fun vals wq hC hd => (by exact Free.d_bin rfl (Eq.trans (b := vals 3) (by kernel_rfl) (hd 3 (by kernel_rfl))) (Eq.trans (b := vals 5) (by kernel_rfl) (hd 5 (by kernel_rfl))) (by go_simp) (by go_simp) rfl)
          · exact Free.ob_plain _ rfl rfl fun vals wq hC hd => (by exact Free.d_move rfl (Eq.trans (b := vals 6) (by kernel_rfl) (hd 6 (by kernel_rfl))) rfl)
          · exact Free.ob_skip _ rfl 7 22 true rfl rfl fun vals wq hC hd => ⟨.inl (Eq.trans (b := vals 7) (by kernel_rfl) (hd 7 (by kernel_rfl))), rfl⟩
          · exact Free.ob_skip _ rfl 7 22 true rfl rfl fun vals wq hC hd => ⟨.inl (Eq.trans (b := vals 7) (by kernel_rfl) (hd 7 (by kernel_rfl))), rfl⟩
          · exact Free.ob_skip _ rfl 7 22 true rfl rfl fun vals wq hC hd => ⟨.inl (Eq.trans (b := vals 7) (by kernel_rfl) (hd 7 (by kernel_rfl))), rfl⟩
          · exact Free.ob_skip _ rfl 7 22 true rfl rfl fun vals wq hC hd => ⟨.inl (Eq.trans (b := vals 7) (by kernel_rfl) (hd 7 (by kernel_rfl))), rfl⟩
          · exact Free.ob_skip _ rfl 7 22 true rfl rfl fun vals wq hC hd => ⟨.inl (Eq.trans (b := vals 7) (by kernel_rfl) (hd 7 (by kernel_rfl))), rfl⟩
          · exact Free.ob_skip _ rfl 7 22 true rfl rfl fun vals wq hC hd => ⟨.inl (Eq.trans (b := vals 7) (by kernel_rfl) (hd 7 (by kernel_rfl))), rfl⟩
          · exact Free.ob_skip _ rfl 7 22 true rfl rfl fun vals wq hC hd => ⟨.inl (Eq.trans (b := vals 7) (by kernel_rfl) (hd 7 (by kernel_rfl))), rfl⟩
          · exact Free.ob_plain _ rfl rfl fun vals wq hC hd => (by exact Free.d_pick rfl (Eq.trans (b := vals 7) (by kernel_rfl) (hd 7 (by kernel_rfl))) rfl rfl)
        · intro vals wq hC hd
          have e0 : vals 0 = (.slice (some ⟨b, off, none⟩) n1 c1) := hd 0 (by decide)
          have e1 : vals 1 = (.int .i64 (k : Int)) := hd 1 (by decide)
          have e2 : vals 2 = (.pointer (some ⟨b, off + k, none⟩)) := hd 2 (by decide)
          have e3 : vals 3 = (.int .i64 z) := hd 3 (by decide)
          have e4 : vals 4 = (.pointer (some ⟨h0, 0, none⟩)) := hd 4 (by decide)
          have e5 : vals 5 = (.int .i64 f) := hd 5 (by decide)
          have e6 : vals 6 = (.bool false) := hd 6 (by decide)
          have e7 : vals 7 = (.bool false) := hd 7 (by decide)
          have e8 : vals 8 = (undef) := hd 8 (by decide)
          have e9 : vals 9 = (undef) := hd 9 (by decide)
          have e10 : vals 10 = (undef) := hd 10 (by decide)
          have e11 : vals 11 = (undef) := hd 11 (by decide)
          have e12 : vals 12 = (undef) := hd 12 (by decide)
          have e13 : vals 13 = (undef) := hd 13 (by decide)
          have e14 : vals 14 = (undef) := hd 14 (by decide)
          have e15 : vals 15 = (.bool false) := hd 15 (by decide)
          simp only [Free.frameOf, List.range, List.range.loop, List.foldl, Free.dstOf, List.getElem?_toArray, List.getElem?_cons_zero, List.getElem?_cons_succ, Option.bind_some, Act.put, List.setIfInBounds_toArray, List.set_cons_zero, List.set_cons_succ, e0, e1, e2, e3, e4, e5, e6, e7, e8, e9, e10, e11, e12, e13, e14, e15]
          refine wpList_nil ?_
          clear hd e0 e1 e2 e3 e4 e5 e6 e7 e8 e9 e10 e11 e12 e13 e14 e15
          have HBQ := Lib.hid (bt HB.out hC)
          have hown2 := hown.keep hC
          have HRQ := Lib.hid (HR.out.belowS hC (Nat.le_refl _))
          clear hC
          go_wp2
          go_roundw
          case rel => exact ⟨Al, nl, cl, k + 1, rfl, by go_num, by omega, by rw [HN.out]; exact hown2, HBQ.out, HRQ.out⟩
          case measure => simp [intOf]; omega
    · obtain rfl : k = n1 := by omega
      have HF := Lib.hid (show (gl.take k).filter q = gl.filter q by rw [List.take_of_length_le (by rw [hz.len]; exact Nat.le_refl _)])
      go_wp2
      go_ret
      exact ⟨Al, nl, cl, rfl, by rw [← HF.out]; exact hown.base (by have := HH.out; omega), HB.out⟩
end Go.Proofs.Ytkkliblndglniaa
