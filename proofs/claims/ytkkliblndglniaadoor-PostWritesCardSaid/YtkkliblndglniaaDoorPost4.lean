/- Both, Either, But, In; the document's examples of layer 9 (knows). No statement of the seat is proved here. -/
import Derived.Test.YtkkliblndglniaaDoorPost2
import Derived.Test.YtkkliblndglniaaDoorPost3
namespace Go.Proofs.YtkkliblndglniaaDoor
set_option linter.unusedVariables false
open Go.RowKit

theorem keep_both (w : World) : KeepF 24 #[] Post.kBoth w where
  fn := ⟨_, Tryd.func24, by kernel_rfl, by kernel_rfl⟩
  call := fun W n x y h1 h2 _ => by
    rw [Array.append_empty]
    cases x <;> cases y
    all_goals
      go_enter Tryd.func24, Tryd.ntmps24
      go_wp2
      go_ret
      exact ⟨rfl, rfl⟩
theorem both_any (A : Option Addr) (n c : Nat) (la : List Int) (B : Option Addr) (m k : Nat) (lb : List Int) (w : World) (ha : Zs w A n c la) (hb : Zs w B m k lb) :
    Calls Tryd.prog 14 #[.slice A n c, .slice B m k] w (PickPost (Post.pick Post.kBoth la lb) w) := by
  have hc := pick_any 24 #[] Post.kBoth A n c la B m k lb w ha hb (keep_both w)
  have HC := Lib.hid hc
  clear hc ha hb
  go_enter Tryd.func14, Tryd.ntmps14
  go_wp2_with fail
  refine HC.out.mono ?_
  rintro e w1 ⟨A1, n1, c1, rfl, ho1, hb1⟩
  go_wp2
  go_ret
  exact ⟨A1, n1, c1, rfl, ho1, hb1⟩
theorem keep_either (w : World) : KeepF 25 #[] Post.kEither w where
  fn := ⟨_, Tryd.func25, by kernel_rfl, by kernel_rfl⟩
  call := fun W n x y h1 h2 _ => by
    rw [Array.append_empty]
    cases x <;> cases y
    all_goals
      go_enter Tryd.func25, Tryd.ntmps25
      go_wp2
      go_ret
      exact ⟨rfl, rfl⟩
theorem either_any (A : Option Addr) (n c : Nat) (la : List Int) (B : Option Addr) (m k : Nat) (lb : List Int) (w : World) (ha : Zs w A n c la) (hb : Zs w B m k lb) :
    Calls Tryd.prog 15 #[.slice A n c, .slice B m k] w (PickPost (Post.pick Post.kEither la lb) w) := by
  have hc := pick_any 25 #[] Post.kEither A n c la B m k lb w ha hb (keep_either w)
  have HC := Lib.hid hc
  clear hc ha hb
  go_enter Tryd.func15, Tryd.ntmps15
  go_wp2_with fail
  refine HC.out.mono ?_
  rintro e w1 ⟨A1, n1, c1, rfl, ho1, hb1⟩
  go_wp2
  go_ret
  exact ⟨A1, n1, c1, rfl, ho1, hb1⟩
theorem keep_but (w : World) : KeepF 26 #[] Post.kBut w where
  fn := ⟨_, Tryd.func26, by kernel_rfl, by kernel_rfl⟩
  call := fun W n x y h1 h2 _ => by
    rw [Array.append_empty]
    cases x <;> cases y
    all_goals
      go_enter Tryd.func26, Tryd.ntmps26
      go_wp2
      go_ret
      exact ⟨rfl, rfl⟩
theorem but_any (A : Option Addr) (n c : Nat) (la : List Int) (B : Option Addr) (m k : Nat) (lb : List Int) (w : World) (ha : Zs w A n c la) (hb : Zs w B m k lb) :
    Calls Tryd.prog 16 #[.slice A n c, .slice B m k] w (PickPost (Post.pick Post.kBut la lb) w) := by
  have hc := pick_any 26 #[] Post.kBut A n c la B m k lb w ha hb (keep_but w)
  have HC := Lib.hid hc
  clear hc ha hb
  go_enter Tryd.func16, Tryd.ntmps16
  go_wp2_with fail
  refine HC.out.mono ?_
  rintro e w1 ⟨A1, n1, c1, rfl, ho1, hb1⟩
  go_wp2
  go_ret
  exact ⟨A1, n1, c1, rfl, ho1, hb1⟩
theorem knows9_plain : Post.right [0, 3, 4] = true ∧ Post.write [0, 3, 4] = [3, 0, 2, 0] ∧ Post.pick Post.kBoth [0, 3, 4] [3, 5] = [3] ∧ (Post.pick Post.kEither [0, 3, 4] [3, 5]).length = 4 ∧ Post.pick Post.kBut [0, 3, 4] [3, 5] = [0, 4] := by
  have g1 : Post.good [0, 3, 4] = [0, 3, 4] := by decide
  have g2 : Post.good [3, 5] = [3, 5] := by decide
  refine ⟨by decide, ?_, ?_, ?_, ?_⟩
  · unfold Post.write Post.gapsFrom Post.gapsFrom Post.gapsFrom Post.gapsFrom
    rw [Code.num_lt (by decide), Code.num_lt (by decide), Code.num_lt (by decide), Code.num_lt (by decide)]
    rfl
  all_goals
    unfold Post.pick
    rw [g1, g2]
    simp [Post.pickM, Post.ifs, Post.kBoth, Post.kEither, Post.kBut]
theorem wf_small (l : List Int) (h : ∀ z ∈ l, 0 ≤ z ∧ z ≤ 1000) : ∀ z ∈ l, -9223372036854775808 ≤ z ∧ z ≤ 9223372036854775807 := fun z hz => by have := h z hz; omega
set_option maxRecDepth 100000 in
set_option maxHeartbeats 16000000 in
theorem knows9_any (w : World) : Calls Tryd.prog 5 #[] w (RetB true w) := by
  obtain ⟨p1, p2, p3, p4, p5⟩ := knows9_plain
  obtain ⟨D, hD⟩ : ∃ D : List Int, [0, 3, 4] = D := ⟨_, rfl⟩
  obtain ⟨E, hE⟩ : ∃ D : List Int, [3, 5] = D := ⟨_, rfl⟩
  obtain ⟨F, hF⟩ : ∃ D : List Int, [3] = D := ⟨_, rfl⟩
  obtain ⟨G, hG⟩ : ∃ D : List Int, [0, 4] = D := ⟨_, rfl⟩
  obtain ⟨L, hL⟩ : ∃ D : List UInt8, [3, 0, 2, 0] = D := ⟨_, rfl⟩
  have nD : ∀ W : World, Zs (W.alloc (.cells #[.int .i64 0, .int .i64 3, .int .i64 4] 3)) (some ⟨W.heap.size, 0, none⟩) 3 3 D := fun W => (OwnZ.new W D [.int .i64 0, .int .i64 3, .int .i64 4] (Nat.le_refl _) (by rw [← hD]; rfl) (by rw [← hD]; rfl) (by decide) (wf_small D (by rw [← hD]; decide))).zs
  have nE : ∀ W : World, Zs (W.alloc (.cells #[.int .i64 3, .int .i64 5] 3)) (some ⟨W.heap.size, 0, none⟩) 2 2 E := fun W => (OwnZ.new W E [.int .i64 3, .int .i64 5] (Nat.le_refl _) (by rw [← hE]; rfl) (by rw [← hE]; rfl) (by decide) (wf_small E (by rw [← hE]; decide))).zs
  have nF : ∀ W : World, Zs (W.alloc (.cells #[.int .i64 3] 3)) (some ⟨W.heap.size, 0, none⟩) 1 1 F := fun W => (OwnZ.new W F [.int .i64 3] (Nat.le_refl _) (by rw [← hF]; rfl) (by rw [← hF]; rfl) (by decide) (wf_small F (by rw [← hF]; decide))).zs
  have nG : ∀ W : World, Zs (W.alloc (.cells #[.int .i64 0, .int .i64 4] 3)) (some ⟨W.heap.size, 0, none⟩) 2 2 G := fun W => (OwnZ.new W G [.int .i64 0, .int .i64 4] (Nat.le_refl _) (by rw [← hG]; rfl) (by rw [← hG]; rfl) (by decide) (wf_small G (by rw [← hG]; decide))).zs
  have bl : ∀ (W : World) (o : Obj), Below W.heap.size W (W.alloc o) := fun W o => (Below.refl _ W).alloc (Nat.le_refl _) o
  have e1 : ((str L).toList == [3, 0, 2, 0]) = true := by rw [str_toList, ← hL]; rfl
  rw [hD] at p1 p2 p3 p4 p5
  rw [hL] at p2
  rw [hE] at p3 p4 p5
  rw [hF] at p3
  rw [hG] at p5
  have c1 := fun (W : World) (A : Option Addr) (h : Zs W A 3 3 D) => write_yes A 3 3 D W h p1
  unfold WritePost at c1
  rw [p2] at c1
  have c2 := fun (W : World) (A : Option Addr) (n c : Nat) (h : Bs W A n c L) (hn : n ≤ 1000000000) => read_any A n c L W h hn
  have hrd := Post.read_write p1
  rw [p2] at hrd
  unfold ReadPost at c2
  rw [hrd] at c2
  have c3 := fun (W : World) (A : Option Addr) (n c : Nat) (B : Option Addr) (m k : Nat) (h : Zs W A n c D) (h2 : Zs W B m k D) => sameZ_any A n c D B m k D W h h2
  rw [decide_eq_true (rfl : D = D)] at c3
  have c3F := fun (W : World) (A : Option Addr) (n c : Nat) (B : Option Addr) (m k : Nat) (h : Zs W A n c F) (h2 : Zs W B m k F) => sameZ_any A n c F B m k F W h h2
  rw [decide_eq_true (rfl : F = F)] at c3F
  have c3G := fun (W : World) (A : Option Addr) (n c : Nat) (B : Option Addr) (m k : Nat) (h : Zs W A n c G) (h2 : Zs W B m k G) => sameZ_any A n c G B m k G W h h2
  rw [decide_eq_true (rfl : G = G)] at c3G
  have c4 := fun (W : World) (A : Option Addr) (n c : Nat) (B : Option Addr) (m k : Nat) (h : Zs W A n c D) (h2 : Zs W B m k E) => both_any A n c D B m k E W h h2
  rw [p3] at c4
  have c5 := fun (W : World) (A : Option Addr) (n c : Nat) (B : Option Addr) (m k : Nat) (h : Zs W A n c D) (h2 : Zs W B m k E) => either_any A n c D B m k E W h h2
  have c6 := fun (W : World) (A : Option Addr) (n c : Nat) (B : Option Addr) (m k : Nat) (h : Zs W A n c D) (h2 : Zs W B m k E) => but_any A n c D B m k E W h h2
  rw [p5] at c6
  have c7 := fun (W : World) (A : Option Addr) (n c : Nat) (h : Zs W A n c D) => right_any A n c D W h
  rw [p1] at c7
  obtain ⟨V, hV⟩ : ∃ V, Post.pick Post.kEither D E = V := ⟨_, rfl⟩
  rw [hV] at c5 p4
  have ll : L.length = 4 := by rw [← hL]; rfl
  have C1 := Lib.hid c1
  have C2 := Lib.hid c2
  have C3 := Lib.hid c3
  have C3F := Lib.hid c3F
  have C3G := Lib.hid c3G
  have C4 := Lib.hid c4
  have C5 := Lib.hid c5
  have C6 := Lib.hid c6
  have C7 := Lib.hid c7
  have ND := Lib.hid nD
  have NE := Lib.hid nE
  have NF := Lib.hid nF
  have NG := Lib.hid nG
  have BL := Lib.hid bl
  have HL := Lib.hid (And.intro ll p4)
  clear c1 c2 c3 c3F c3G c4 c5 c6 c7 nD nE nF nG bl hD hE hF hG hL hV p1 p2 p3 p4 p5 ll hrd
  go_enter Tryd.func5, Tryd.ntmps5
  go_wp2_with fail
  refine (C1.out _ _ (ND.out w)).mono ?_
  rintro e w1 ⟨A1, n1, c1, rfl, ho1, hb1⟩
  obtain rfl : n1 = 4 := by rw [← ho1.len]; exact HL.out.1
  have HB1 := Lib.hid (bt (BL.out w _) hb1)
  clear hb1
  go_wp2_with fail
  refine (C2.out _ _ _ _ ho1.bs (by omega)).mono ?_
  rintro e w2 ⟨⟨A2, n2, c2, he, hz2⟩, hb2⟩
  subst he
  have HB2 := Lib.hid (bt HB1.out hb2)
  have q2 := hz2.zs
  have s1 := run_str (P := Tryd.prog) (w := w2) 25 9 5 Tryd.underlying25 Tryd.underlying5 Tryd.underlying9 A1 4 c1 _ L (ho1.bs.keep hb2).rd (ho1.bs.keep hb2).len
  clear hb2 hz2
  go_wp2_with fail
  refine (C3.out _ _ _ _ _ _ _ (q2.keep (BL.out w2 _)) (ND.out w2)).mono ?_
  rintro e w3 ⟨rfl, hb3⟩
  have hb3' := bt (BL.out w2 _) hb3
  have q3 := q2.keep hb3'
  have HB3 := Lib.hid (bt HB2.out hb3')
  clear hb3 hb3' s1
  go_wp2_with fail
  refine (C4.out _ _ _ _ _ _ _ (q3.keep (BL.out w3 _)) (NE.out w3)).mono ?_
  rintro e w4 ⟨A4, n4, c4, rfl, ho4, hb4⟩
  have hb4' := bt (BL.out w3 _) hb4
  have q4 := q3.keep hb4'
  have z4 := ho4.zs
  have HB4 := Lib.hid (bt HB3.out hb4')
  clear hb4 hb4' ho4
  go_wp2_with fail
  refine (C3F.out _ _ _ _ _ _ _ (z4.keep (BL.out w4 _)) (NF.out w4)).mono ?_
  rintro e w5 ⟨rfl, hb5⟩
  have hb5' := bt (BL.out w4 _) hb5
  have q5 := q4.keep hb5'
  have HB5 := Lib.hid (bt HB4.out hb5')
  clear hb5 hb5'
  go_wp2_with fail
  refine (C5.out _ _ _ _ _ _ _ (q5.keep (BL.out w5 _)) (NE.out w5)).mono ?_
  rintro e w6 ⟨A6, n6, c6, rfl, ho6, hb6⟩
  obtain rfl : n6 = 4 := by rw [← ho6.len]; exact HL.out.2
  have hb6' := bt (BL.out w5 _) hb6
  have q6 := q5.keep hb6'
  have HB6 := Lib.hid (bt HB5.out hb6')
  clear hb6 hb6' ho6
  go_wp2_with fail
  refine (C6.out _ _ _ _ _ _ _ (q6.keep (BL.out w6 _)) (NE.out w6)).mono ?_
  rintro e w7 ⟨A7, n7, c7, rfl, ho7, hb7⟩
  have hb7' := bt (BL.out w6 _) hb7
  have q7 := q6.keep hb7'
  have z7 := ho7.zs
  have HB7 := Lib.hid (bt HB6.out hb7')
  clear hb7 hb7' ho7
  go_wp2_with fail
  refine (C3G.out _ _ _ _ _ _ _ (z7.keep (BL.out w7 _)) (NG.out w7)).mono ?_
  rintro e w8 ⟨rfl, hb8⟩
  have hb8' := bt (BL.out w7 _) hb8
  have q8 := q7.keep hb8'
  have HB8 := Lib.hid (bt HB7.out hb8')
  clear hb8 hb8'
  go_wp2_with fail
  refine (C7.out _ _ _ _ q8).mono ?_
  rintro e w9 ⟨rfl, rfl⟩
  go_wp2
  go_ret
  exact ⟨rfl, HB8.out⟩
end Go.Proofs.YtkkliblndglniaaDoor
