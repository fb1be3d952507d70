/- CodeBack: the walk of the law. -/
import Derived.Test.YtkkliblndglniaaCodeK
namespace Go.Proofs.Ytkkliblndglniaa
set_option linter.unusedVariables false
open Go.RowKit

def ReadListIs (n : Nat) (l : List UInt8) (at_ : Int) (ls : List (List UInt8)) (w : World) (e : Ending) (w' : World) : Prop := ∃ A c A2 n2 c2, Own8 w' w.heap.size A n c l ∧ Below w.heap.size w w' ∧ OwnS w' w.heap.size A2 n2 c2 ls ∧ e = .returned (.tuple #[rv A n c at_ 0, .slice A2 n2 c2])
theorem back_plain (v : Nat) (s : List UInt8) (l : List (List UInt8)) (rest : List UInt8) (hv : v ≤ 4611686018427387904) (hs : s.length ≤ 1000) (hl : l.length ≤ 50) (hls : ∀ x ∈ l, x.length ≤ 1000) :
    ∃ (a b : Nat), a = (Code.num v).length ∧ b = a + (Code.text s).length ∧ Code.getNum ((((Code.num v ++ Code.text s) ++ Code.list l) ++ rest).drop 0) = .ok (v, a) ∧
      Code.getText 1000 ((((Code.num v ++ Code.text s) ++ Code.list l) ++ rest).drop a) = .ok (s, (Code.text s).length) ∧
      Code.getList 50 1000 ((((Code.num v ++ Code.text s) ++ Code.list l) ++ rest).drop b) = .ok (l, (Code.list l).length) := by
  refine ⟨_, _, rfl, rfl, ?_, ?_, ?_⟩
  · rw [List.drop_zero, List.append_assoc, List.append_assoc]
    exact Code.getNum_num v _ hv
  · rw [List.append_assoc, List.append_assoc, List.drop_left]
    exact Code.getText_text 1000 s _ (by omega) (by omega)
  · rw [List.append_assoc, ← List.length_append, List.drop_left]
    exact Code.getList_list 50 1000 l rest (by omega) (by omega) (fun x hx => by have := hls x hx; omega)
theorem greatS_no {ls : List (List UInt8)} (h : greatS ls = false) : (∀ s ∈ ls, s.length ≤ 1000) ∧ ls.length ≤ 50 := by
  unfold greatS at h
  rw [Bool.or_eq_false_iff] at h
  refine ⟨fun s hs => ?_, by simpa using h.2⟩
  have := List.any_eq_false.1 h.1 s hs
  simpa using this
theorem flat_len (l : List (List UInt8)) (hls : ∀ x ∈ l, x.length ≤ 1000) : (l.flatMap Code.text).length ≤ 1009 * l.length := by
  induction l with
  | nil => simp
  | cons x t ih =>
    have h1 := ih (fun y hy => hls y (by simp [hy]))
    have h2 := text_len x (by have := hls x (by simp); omega)
    have h3 := hls x (by simp)
    rw [List.flatMap_cons, List.length_append, List.length_cons]; omega
set_option maxRecDepth 100000 in
set_option maxHeartbeats 16000000 in
theorem back_any (v : Int) (s : List UInt8) (hws : s.length ≤ maxLen) (A : Option Addr) (n c : Nat) (ls : List (List UInt8)) (B : Option Addr) (m k : Nat) (r : List UInt8) (w : World) (hr : Rd w w.heap.size A (ls.map sv)) (hn : ls.length = n) (hc : n ≤ c) (hm : c ≤ maxLen) (hwf : ∀ x ∈ ls, x.length ≤ maxLen)
    (hr2 : Rd w w.heap.size B (r.map bv)) (hn2 : r.length = m) (hk : m ≤ k) (hk2 : k ≤ maxLen) (hv : -9223372036854775808 ≤ v ∧ v ≤ 9223372036854775807) :
    Calls Try.prog 5 #[.int .i64 v, sv s, .slice A n c, .slice B m k] w (RetB true w) := by
  have hS : Ss w A n c ls := ⟨hr, hn, hc, hm⟩
  have hR : Bs w B m k r := ⟨hr2, hn2, hk, hk2⟩
  have hG := great2_any A n c ls w hS hwf
  have HN := Lib.hid (And.intro hn hn2)
  rw [maxLen_eq] at hm hk2 hws
  obtain ⟨ns, hns⟩ : ∃ x, s.length = x := ⟨_, rfl⟩
  have z := strLen s
  rw [hns] at z hws
  have HS := Lib.hid hns
  obtain ⟨v1, v2⟩ := hv
  clear hr hn hwf hr2 hn2 hns
  have skip : ∀ (hbad : greatS ls = true ∨ 1000 < ns ∨ 100 < m ∨ v < 0 ∨ 4611686018427387904 < v), Calls Try.prog 5 #[.int .i64 v, sv s, .slice A n c, .slice B m k] w (RetB true w) := by
    intro hbad
    cases hg : greatS ls with
    | true =>
      rw [hg] at hG
      have HG := Lib.hid hG
      clear hG hg hbad
      go_enter Try.func5, Try.ntmps5
      go_wp2_with fail
      refine HG.out.mono ?_
      rintro e w0 ⟨rfl, rfl⟩
      go_wp2_with fail
      refine (knows2_any _).mono ?_
      rintro e w1 ⟨rfl, hb1⟩
      go_wp2
      go_ret
      exact ⟨rfl, hb1⟩
    | false =>
      rw [hg] at hG hbad
      have HG := Lib.hid hG
      have hbad2 : 1000 < ns ∨ 100 < m ∨ v < 0 ∨ 4611686018427387904 < v := by
        rcases hbad with h | h
        · cases h
        · exact h
      clear hG hg hbad
      rcases (show 1000 < ns ∨ (ns ≤ 1000 ∧ 100 < m) ∨ (ns ≤ 1000 ∧ m ≤ 100 ∧ v < 0) ∨ (ns ≤ 1000 ∧ m ≤ 100 ∧ 0 ≤ v ∧ 4611686018427387904 < v) by omega) with h1 | ⟨h1, h2⟩ | ⟨h1, h2, h3⟩ | ⟨h1, h2, h3, h4⟩
      all_goals
        clear hbad2
        go_enter Try.func5, Try.ntmps5
        go_wp2_with fail
        refine HG.out.mono ?_
        rintro e w0 ⟨rfl, rfl⟩
        go_wp2_with fail
        refine (knows2_any _).mono ?_
        rintro e w1 ⟨rfl, hb1⟩
        go_wp2
        go_ret
        exact ⟨rfl, hb1⟩
  by_cases hbad : greatS ls = true ∨ 1000 < ns ∨ 100 < m ∨ v < 0 ∨ 4611686018427387904 < v
  · exact skip hbad
  · clear skip
    have hg : greatS ls = false := by
      cases h : greatS ls with
      | false => rfl
      | true => exact absurd (.inl h) hbad
    have h1 : ns ≤ 1000 := Nat.le_of_not_lt fun h => hbad (.inr (.inl h))
    have h2 : m ≤ 100 := Nat.le_of_not_lt fun h => hbad (.inr (.inr (.inl h)))
    have h3 : 0 ≤ v := Int.not_lt.1 fun h => hbad (.inr (.inr (.inr (.inl h))))
    have h4 : v ≤ 4611686018427387904 := Int.not_lt.1 fun h => hbad (.inr (.inr (.inr (.inr h))))
    rw [hg] at hG
    obtain ⟨hls, hln⟩ := greatS_no hg
    obtain ⟨x, rfl⟩ : ∃ x : Nat, v = (x : Int) := ⟨v.toNat, by omega⟩
    have HG := Lib.hid hG
    have hn50 : n ≤ 50 := by have := HN.out.1; omega
    obtain ⟨a, b, ha, hb, g1, g2, g3⟩ := back_plain x s ls r (by omega) (by rw [HS.out]; exact h1) hln hls
    obtain ⟨D, hD⟩ : ∃ D, ((Code.num x ++ Code.text s) ++ Code.list ls) ++ r = D := ⟨_, rfl⟩
    obtain ⟨E, hE⟩ : ∃ E, (Code.num x ++ Code.text s) ++ Code.list ls = E := ⟨_, rfl⟩
    rw [hD] at g1 g2 g3
    have la : a ≤ 9 := by rw [ha]; exact Code.num_len9 x (by omega)
    have lt : (Code.text s).length ≤ 1009 := by have := text_len s (by rw [HS.out]; omega); rw [HS.out] at this; omega
    have ll : (Code.list ls).length ≤ 60000 := by
      have h5 := flat_len ls hls
      have h6 := Code.num_len9 ls.length (by omega)
      unfold Code.list; rw [List.length_append]; omega
    obtain ⟨q, hq⟩ : ∃ q, E.length = q := ⟨_, rfl⟩
    have hqb : q = b + (Code.list ls).length := by rw [← hq, ← hE, List.length_append, List.length_append, ← ha, hb]
    have hDl : D.length = q + m := by rw [← hD, hE, List.length_append, hq, HN.out.2]
    have c1 := fun (W : World) => (show Calls Try.prog 12 #[.slice none 0 0, .int .i64 (x : Int)] W (NumPost ([] ++ Code.num x) W) from num_any none 0 0 [] x W (Bs.nil W) (by omega) (by omega))
    rw [List.nil_append] at c1
    have c3 := fun (W : World) (A : Option Addr) (c : Nat) (h : Bs W A (q + m) c D) => (show Calls Try.prog 19 #[rv A (q + m) c 0 0] W (ReadNumPost D (q + m) 0 W) from readNum_any A (q + m) c 0 D W h (by omega) (by omega))
    unfold ReadNumPost at c3
    rw [g1] at c3
    have c4 := fun (W : World) (A : Option Addr) (c : Nat) (h : Bs W A (q + m) c D) => (show Calls Try.prog 20 #[rv A (q + m) c (a : Int) 0, .int .i64 1000] W (ReadTextPost D (q + m) a 1000 W) from readText_any A (q + m) c a 1000 D W h (by omega) (by omega) (by omega) (by omega))
    unfold ReadTextPost at c4
    rw [g2] at c4
    have c5 := fun (W : World) (A : Option Addr) (c : Nat) (h : Bs W A (q + m) c D) => (show Calls Try.prog 21 #[rv A (q + m) c (b : Int) 0, .int .i64 50, .int .i64 1000] W (ReadListPost D (q + m) b 50 1000 W) from readList_any A (q + m) c b 50 1000 D W h (by omega) (by omega) (by omega) (by omega) (by omega) (by omega))
    unfold ReadListPost at c5
    rw [g3] at c5
    have c6 := fun (W : World) (A2 : Option Addr) (n2 c2 : Nat) (h : Ss W A2 n2 c2 ls) (h' : Ss W A n c ls) => rsame_any A2 n2 c2 ls A n c ls W h h'
    rw [show decide (ls = ls) = true by simp] at c6
    have hab : b = a + (Code.text s).length := hb
    obtain ⟨tl, htl⟩ : ∃ t, (Code.text s).length = t := ⟨_, rfl⟩
    obtain ⟨kl, hkl⟩ : ∃ t, (Code.list ls).length = t := ⟨_, rfl⟩
    rw [htl] at hab lt c4
    rw [hkl] at hqb ll c5
    have hsame : ((str s).toList == (str s).toList) = true := by simp
    have C1 := Lib.hid c1
    have C3 := Lib.hid c3
    have C4 := Lib.hid c4
    have C5 := Lib.hid c5
    have C6 := Lib.hid c6
    have HLS := Lib.hid hls
    have HE := Lib.hid hE
    have HD := Lib.hid (And.intro (show E ++ r = D by rw [← hE]; exact hD) (And.intro hq hDl))
    subst hab hqb
    clear c1 c3 c4 c5 c6 hls hE hD hbad hG hg ha hb g1 g2 g3 htl hkl hq hDl hln
    go_enter Try.func5, Try.ntmps5
    go_wp2_with fail
    refine HG.out.mono ?_
    rintro e w0 ⟨rfl, rfl⟩
    go_wp2_with fail
    refine (C1.out _).mono ?_
    rintro e w1 ⟨A1, n1, c1, rfl, ho1, hb1⟩
    have HB1 := Lib.hid hb1
    have hn1 : n1 ≤ 9 := by rw [← ho1.len]; exact Code.num_len9 x (by omega)
    clear hb1
    go_wp2_with fail
    refine (text_any A1 n1 c1 _ s _ ho1.bs (by omega) (by rw [HS.out]; omega)).mono ?_
    rintro e w2 ⟨A2, n2, c2, rfl, ho2, hb2⟩
    have HB2 := Lib.hid (bt HB1.out hb2)
    have hn2 : n2 ≤ 1018 := by have h := ho2.len; have h2 := text_len s (by rw [HS.out]; omega); have h3 := ho1.len; rw [HS.out] at h2; rw [List.length_append] at h; omega
    clear hb2
    go_wp2_with fail
    refine (list_any A2 n2 c2 _ A n c ls _ ho2.bs (by omega) (hS.keep HB2.out) (by omega) (fun y hy => by have := HLS.out y hy; omega)).mono ?_
    rintro e w3 ⟨A3, n3, c3, rfl, ho3, hb3⟩
    have HB3 := Lib.hid (bt HB2.out hb3)
    rw [HE.out] at ho3
    have hn3 : n3 = a + tl + kl := by rw [← ho3.len]; exact HD.out.2.1
    subst hn3
    have hb3e : Below w3.heap.size w3 (w3.alloc (.cells #[] 5)) := (Below.refl _ w3).alloc (Nat.le_refl _) _
    go_wp2_with (first
      | (at_builtin; refine wl_app8 rfl (.tmp 50) (.tmp 51) rfl rfl (Own8.empty w3 (Nat.le_refl _)) rfl (ho3.bs.keep hb3e) (by omega) hb3e.size ?_; intro A4 n4 c4 w4 ho4 hb4 _; have hb34 := hb3e.trans hb4; have hn4 : n4 ≤ 70000 := (by have h := ho4.len; rw [List.nil_append, HD.out.2.1] at h; omega))
      | (at_builtin; refine wl_app8 rfl (.tmp 52) (.tmp 53) rfl rfl ho4 rfl (hR.keep (bt HB3.out hb34)) (by omega) hb34.size ?_; intro A5 n5 c5 w5 ho5 hb5 _; have hb35 := hb34.trans hb5))
    rw [List.nil_append, HD.out.1] at ho5
    have hn5 : n5 = a + tl + kl + m := by rw [← ho5.len]; exact HD.out.2.2
    subst hn5
    have HB5 := Lib.hid (bt HB3.out hb35)
    clear hb3e hb34 hb35 hb5 hb4 hb3
    refine (C3.out _ A5 c5 ho5.bs).mono ?_
    rintro e w6 ⟨A6, c6, ho6, hb6, he⟩
    subst he
    have hb6a := (Below.refl w6.heap.size w6).alloc (Nat.le_refl _) (.cells #[.slice A6 (a + tl + kl + m) c6, .int .i64 ((a : Nat) : Int), .int .i64 0] 37)
    have R6 := Lib.hid (row_new w6 #[.slice A6 (a + tl + kl + m) c6, .int .i64 ((a : Nat) : Int), .int .i64 0] 37)
    have HW6 := Lib.hid (show w.heap.size ≤ w6.heap.size from (bt HB5.out hb6).size)
    have HB6 := Lib.hid (bt HB5.out (bt hb6 hb6a))
    have HB6a := Lib.hid hb6a
    clear hb6 hb6a
    have C5' : Hid (∀ (W : World) (A : Option Addr) (c : Nat), Bs W A (a + tl + kl + m) c D → Calls Try.prog 21 #[rv A (a + tl + kl + m) c ((a : Int) + (tl : Int)) 0, .int .i64 50, .int .i64 1000] W fun e w' => ∃ A c, Own8 w' W.heap.size A (a + tl + kl + m) c D ∧ Below W.heap.size W w' ∧ ReadListRet W.heap.size w' A (a + tl + kl + m) c (a + tl) e (Except.ok (ls, kl))) := Lib.hid fun W A c h => by
      have h := C5.out W A c h
      rw [Int.natCast_add] at h
      exact h
    go_wp2_with fail
    refine (C4.out _ A6 c6 (ho6.bs.keep HB6a.out)).mono ?_
    rintro e w7 ⟨A7, c7, ho7, hb7, he⟩
    subst he
    have HB7 := Lib.hid (bt HB6.out hb7)
    have ho7' := ho7.base (show w6.heap.size + 1 ≤ _ by unfold World.alloc; simp)
    have hr7 := R6.out.belowS hb7 (Nat.le_refl _)
    have R7 := Lib.hid hr7
    have x0 := hr7.cellQ 0 _ rfl
    have x1 := hr7.cellQ 1 _ rfl
    have x2 := hr7.cellQ 2 _ rfl
    have y0 := hr7.frozen 0
    have y1 := hr7.frozen 1
    have y2 := hr7.frozen 2
    clear hb7 hr7 ho7
    go_wp2_with fail
    generalize hwd : World.setCell (World.setCell (World.setCell w7 _ _) _ _) _ _ = w8
    have hsf : setFrom w6.heap.size w7 0 [.slice A7 (a + tl + kl + m) c7, .int .i64 ((a : Int) + (tl : Int)), .int .i64 0] = w8 := by rw [← hwd]; rfl
    have hb := below_setFrom HW6.out [.slice A7 (a + tl + kl + m) c7, .int .i64 ((a : Int) + (tl : Int)), .int .i64 0] 0 HB7.out
    have hr := R7.out.all [.slice A7 (a + tl + kl + m) c7, .int .i64 ((a : Int) + (tl : Int)), .int .i64 0] rfl
    have ho : Own8 w8 (w6.heap.size + 1) A7 (a + tl + kl + m) c7 D := by rw [← hsf]; exact ⟨own_setFrom ho7'.own (Nat.lt_succ_self _) _ 0, ho7'.len, ho7'.cap, ho7'.max⟩
    rw [hsf] at hb hr
    have HB8 := Lib.hid hb
    have R8 := Lib.hid hr
    have ho8 := ho
    clear hb hr ho hsf hwd x0 x1 x2 y0 y1 y2
    refine (C5'.out _ A7 c7 ho8.bs).mono ?_
    rintro e w9 ⟨A9, c9, ho9, hb9, A10, n10, c10, he, hos⟩
    subst he
    have HB9 := Lib.hid (bt HB8.out hb9)
    have ho9' := ho9.base (show w6.heap.size + 1 ≤ _ from R8.out.lt)
    have hos' := hos.base (show w6.heap.size + 1 ≤ _ from R8.out.lt)
    have hr9 := R8.out.belowS hb9 (Nat.le_refl _)
    have R9 := Lib.hid hr9
    have x0 := hr9.cellQ 0 _ rfl
    have x1 := hr9.cellQ 1 _ rfl
    have x2 := hr9.cellQ 2 _ rfl
    have y0 := hr9.frozen 0
    have y1 := hr9.frozen 1
    have y2 := hr9.frozen 2
    clear hb9 hr9 ho9 hos
    go_wp2_with fail
    generalize hwd : World.setCell (World.setCell (World.setCell w9 _ _) _ _) _ _ = w11
    have hsf : setFrom w6.heap.size w9 0 [.slice A9 (a + tl + kl + m) c9, .int .i64 ((a : Int) + (tl : Int) + (kl : Int)), .int .i64 0] = w11 := by rw [← hwd]; rfl
    have hb := below_setFrom HW6.out [.slice A9 (a + tl + kl + m) c9, .int .i64 ((a : Int) + (tl : Int) + (kl : Int)), .int .i64 0] 0 HB9.out
    have hr := R9.out.all [.slice A9 (a + tl + kl + m) c9, .int .i64 ((a : Int) + (tl : Int) + (kl : Int)), .int .i64 0] rfl
    have ho : Own8 w11 (w6.heap.size + 1) A9 (a + tl + kl + m) c9 D := by rw [← hsf]; exact ⟨own_setFrom ho9'.own (Nat.lt_succ_self _) _ 0, ho9'.len, ho9'.cap, ho9'.max⟩
    rw [hsf] at hb hr
    have hos2 : OwnS w11 (w6.heap.size + 1) A10 n10 c10 ls := by rw [← hsf]; exact ⟨own_setFrom hos'.own (Nat.lt_succ_self _) _ 0, hos'.len, hos'.cap, hos'.max⟩
    have HB11 := Lib.hid hb
    have R11 := Lib.hid hr
    have ho11 := ho
    clear hb hr ho hsf hwd x0 x1 x2 y0 y1 y2
    refine (C6.out _ A10 n10 c10 hos2.ss (hS.keep HB11.out)).mono ?_
    rintro e w12 ⟨rfl, hb12⟩
    have HB12 := Lib.hid (bt HB11.out hb12)
    have hr12 := R11.out.belowS hb12 (Nat.le_refl _)
    have x0 := hr12.cellQ 0 _ rfl
    have x1 := hr12.cellQ 1 _ rfl
    have x2 := hr12.cellQ 2 _ rfl
    clear hb12 hr12
    have hdone := fun W => done_ok A9 (a + tl + kl + m) c9 (a + tl + kl) W (by omega) ho11.cap ho11.max
    have HDN := Lib.hid hdone
    clear hdone
    by_cases hm0 : m = 0
    · have b1 : ((m : Int) == 0) = true := beq_iff_eq.2 (by omega)
      have HDN2 : Hid (∀ W, Calls Try.prog 23 #[rv A9 (a + tl + kl + m) c9 ((a : Int) + (tl : Int) + (kl : Int)) 0] W (fun e w' => e = .returned (.int .i64 0) ∧ Below W.heap.size W w')) := Lib.hid fun W => by
        have h := HDN.out W
        rw [if_neg (by omega), Int.natCast_add, Int.natCast_add] at h
        exact h
      clear hm0
      go_wp2_with fail
      refine (HDN2.out _).mono ?_
      rintro e w13 ⟨rfl, hb13⟩
      have HB13 := Lib.hid (bt HB12.out hb13)
      clear hb13 x0 x1 x2
      go_wp2_with fail
      refine (knows2_any _).mono ?_
      rintro e w14 ⟨rfl, hb14⟩
      have HB14 := Lib.hid (bt HB13.out hb14)
      clear hb14
      go_wp2
      go_ret
      exact ⟨rfl, HB14.out⟩
    · have b1 : ((m : Int) == 0) = false := beq_eq_false_iff_ne.2 (by omega)
      have HDN2 : Hid (∀ W, Calls Try.prog 23 #[rv A9 (a + tl + kl + m) c9 ((a : Int) + (tl : Int) + (kl : Int)) 0] W (fun e w' => e = .returned (.int .i64 2) ∧ Below W.heap.size W w')) := Lib.hid fun W => by
        have h := HDN.out W
        rw [if_pos (by omega), Int.natCast_add, Int.natCast_add] at h
        exact h
      clear hm0
      go_wp2_with fail
      refine (HDN2.out _).mono ?_
      rintro e w13 ⟨rfl, hb13⟩
      have HB13 := Lib.hid (bt HB12.out hb13)
      clear hb13 x0 x1 x2
      go_wp2_with fail
      refine (knows2_any _).mono ?_
      rintro e w14 ⟨rfl, hb14⟩
      have HB14 := Lib.hid (bt HB13.out hb14)
      clear hb14
      go_wp2
      go_ret
      exact ⟨rfl, HB14.out⟩
end Go.Proofs.Ytkkliblndglniaa
