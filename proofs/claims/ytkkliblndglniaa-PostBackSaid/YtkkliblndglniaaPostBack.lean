/- PostBack: the walk of the law. -/
import Derived.Test.YtkkliblndglniaaPost4
import Derived.OpenShut
namespace Go.Proofs.Ytkkliblndglniaa
set_option linter.unusedVariables false
open Go.RowKit

set_option maxRecDepth 100000 in
set_option maxHeartbeats 16000000 in
theorem postback_any (A : Option Addr) (n c : Nat) (l : List Int) (B : Option Addr) (m k : Nat) (b : List UInt8) (w : World) (hr : Rd w w.heap.size A (l.map iv)) (hn : l.length = n) (hc : n ≤ c) (hm : c ≤ maxLen) (hwf : ∀ z ∈ l, (Lit.int .i64 z).wf = true)
    (hr2 : Rd w w.heap.size B (b.map bv)) (hn2 : b.length = m) (hk : m ≤ k) (hk2 : k ≤ maxLen) :
    Calls Try.prog 7 #[.slice A n c, .slice B m k] w (RetB true w) := by
  have hZ : Zs w A n c l := ⟨hr, hn, hc, hm, fun z hz => Go.bounds_i64 (hwf z hz)⟩
  have hB : Bs w B m k b := ⟨hr2, hn2, hk, hk2⟩
  rw [maxLen_eq] at hm hk2
  clear hr hn hwf hr2 hn2
  by_cases h1 : 300 < n
  · have G := Lib.hid (decide_eq_true h1)
    go_enter Try.func7, Try.ntmps7
    go_wp2_with fail
    refine (great9_any A n c w hc hm).mono ?_
    rintro e w0 ⟨rfl, rfl⟩
    rw [G.out]
    go_wp2_with fail
    refine (knows9_any _).mono ?_
    rintro e w1 ⟨rfl, hb1⟩
    have HB1 := Lib.hid hb1
    clear hb1
    go_wp2
    go_ret
    exact ⟨rfl, HB1.out⟩
  · have G := Lib.hid (decide_eq_false h1)
    by_cases h2 : 3000 < m
    · go_enter Try.func7, Try.ntmps7
      go_wp2_with fail
      refine (great9_any A n c w hc hm).mono ?_
      rintro e w0 ⟨rfl, rfl⟩
      rw [G.out]
      go_wp2_with fail
      refine (knows9_any _).mono ?_
      rintro e w1 ⟨rfl, hb1⟩
      have HB1 := Lib.hid hb1
      clear hb1
      go_wp2
      go_ret
      exact ⟨rfl, HB1.out⟩
    · have hb0 : ∀ W : World, Below W.heap.size W (W.alloc (.cells #[] 5)) := fun W => (Below.refl _ W).alloc (Nat.le_refl _) _
      have BL := Lib.hid hb0
      clear hb0
      cases hrl : Post.right l with
      | true =>
        have HR := Lib.hid hrl
        have HPL := Lib.hid (Post.read_write hrl)
        have hwl := Post.write_len hrl
        obtain ⟨X, hX⟩ : ∃ X, Post.write l = X := ⟨_, rfl⟩
        rw [hX] at hwl
        have HX := Lib.hid hX
        clear hrl hX
        go_enter Try.func7, Try.ntmps7
        go_wp2_with fail
        refine (great9_any A n c w hc hm).mono ?_
        rintro e w0 ⟨rfl, rfl⟩
        rw [G.out]
        go_wp2_with fail
        refine (write_yes A n c l w hZ HR.out).mono ?_
        rintro e w1 ⟨A1, n1, c1, rfl, ho1, hb1⟩
        rw [HX.out] at ho1
        have HB1 := Lib.hid hb1
        have hn1 : n1 ≤ 10000 := by have := ho1.len; omega
        clear hb1
        go_wp2_with fail
        have hrd := read_any A1 n1 c1 X w1 ho1.bs (by omega)
        unfold ReadPost at hrd
        have hpl := HPL.out
        rw [HX.out] at hpl
        rw [hpl] at hrd
        refine hrd.mono ?_
        rintro e w2 ⟨⟨A2, n2, c2, he, hz2⟩, hb2⟩
        subst he
        have HB2 := Lib.hid (bt HB1.out hb2)
        clear hb2 hrd hpl
        go_wp2_with fail
        refine (sameZ_any A n c l A2 n2 c2 l _ (hZ.keep HB2.out) hz2.zs).mono ?_
        rintro e w3 ⟨rfl, hb3⟩
        have HB3 := Lib.hid (bt HB2.out hb3)
        rw [decide_eq_true (rfl : l = l)]
        clear hb3
        have hw9 := (BL.out w3)
        go_wp2_with (at_builtin; refine wl_app8 rfl (.tmp 42) (.tmp 43) rfl rfl (Own8.empty w3 (Nat.le_refl _)) rfl ((hB.keep HB3.out).keep hw9) (by omega) hw9.size ?_; intro A4 n4 c4 w4 ho4 hb4 _)
        rw [List.nil_append] at ho4
        have hn4 : n4 = m := by rw [← ho4.len]; exact hB.len
        subst hn4
        have HB4 := Lib.hid (bt HB3.out (hw9.trans hb4))
        clear hw9 hb4
        have hread := read_any A4 n4 c4 b w4 ho4.bs (by omega)
        unfold ReadPost at hread
        cases hpr : Post.read b with
        | error x =>
          rw [hpr] at hread
          refine hread.mono ?_
          rintro e w5 ⟨⟨he, hx⟩, hb5⟩
          subst he
          have b1 : ((x : Int) == 0) = false := beq_eq_false_iff_ne.2 (by omega)
          have HB5 := Lib.hid (bt HB4.out hb5)
          have HX := Lib.hid (And.intro hx hpr)
          have HRD := Lib.hid hread
          clear hb5 hx hpr hread
          go_wp2_with fail
          refine (knows9_any _).mono ?_
          rintro e w6 ⟨rfl, hb6⟩
          have HB6 := Lib.hid (bt HB5.out hb6)
          clear hb6
          go_wp2
          go_ret
          exact ⟨rfl, HB6.out⟩
        | ok zs =>
          rw [hpr] at hread
          refine hread.mono ?_
          rintro e w5 ⟨⟨A5, n5, c5, he, hz5⟩, hb5⟩
          subst he
          obtain ⟨hrz, hwz⟩ := Post.read_ok hpr
          have HB5 := Lib.hid (bt HB4.out hb5)
          have HP := Lib.hid (And.intro hrz hwz)
          have HRD := Lib.hid (And.intro hread hpr)
          clear hb5 hrz hwz hpr hread
          go_wp2_with fail
          refine (write_yes A5 n5 c5 zs _ hz5.zs HP.out.1).mono ?_
          rintro e w6 ⟨A6, n6, c6, rfl, ho6, hb6⟩
          have HB6 := Lib.hid (bt HB5.out hb6)
          have hz6 := hz5.keep hb6
          rw [HP.out.2] at ho6
          have q1 := run_str (P := Try.prog) (w := w6) 23 9 5 Try.underlying23 Try.underlying5 Try.underlying9 A6 n6 c6 _ b ho6.bs.rd ho6.len
          have q2 := run_str (P := Try.prog) (w := w6) 23 9 5 Try.underlying23 Try.underlying5 Try.underlying9 B n4 k _ b (hB.keep HB6.out).rd hB.len
          clear hb6
          go_wp2_with fail
          refine (right_any A5 n5 c5 zs _ hz6.zs).mono ?_
          rintro e w7 ⟨rfl, rfl⟩
          rw [HP.out.1]
          clear q1 q2
          go_wp2_with fail
          refine (knows9_any _).mono ?_
          rintro e w8 ⟨rfl, hb8⟩
          have HB8 := Lib.hid (bt HB6.out hb8)
          clear hb8
          go_wp2
          go_ret
          exact ⟨rfl, HB8.out⟩
      | false =>
        have HR := Lib.hid hrl
        clear hrl
        go_enter Try.func7, Try.ntmps7
        go_wp2_with fail
        refine (great9_any A n c w hc hm).mono ?_
        rintro e w0 ⟨rfl, rfl⟩
        rw [G.out]
        go_wp2_with fail
        refine (write_no A n c l w hZ HR.out).mono ?_
        rintro e w1 ⟨rfl, rfl⟩
        have HB3 := Lib.hid (Below.refl w.heap.size w)
        have hw9 := (BL.out w)
        go_wp2_with (at_builtin; refine wl_app8 rfl (.tmp 42) (.tmp 43) rfl rfl (Own8.empty w (Nat.le_refl _)) rfl ((hB.keep HB3.out).keep hw9) (by omega) hw9.size ?_; intro A4 n4 c4 w4 ho4 hb4 _)
        rw [List.nil_append] at ho4
        have hn4 : n4 = m := by rw [← ho4.len]; exact hB.len
        subst hn4
        have HB4 := Lib.hid (bt HB3.out (hw9.trans hb4))
        clear hw9 hb4
        have hread := read_any A4 n4 c4 b w4 ho4.bs (by omega)
        unfold ReadPost at hread
        cases hpr : Post.read b with
        | error x =>
          rw [hpr] at hread
          refine hread.mono ?_
          rintro e w5 ⟨⟨he, hx⟩, hb5⟩
          subst he
          have b1 : ((x : Int) == 0) = false := beq_eq_false_iff_ne.2 (by omega)
          have HB5 := Lib.hid (bt HB4.out hb5)
          have HX := Lib.hid (And.intro hx hpr)
          have HRD := Lib.hid hread
          clear hb5 hx hpr hread
          go_wp2_with fail
          refine (knows9_any _).mono ?_
          rintro e w6 ⟨rfl, hb6⟩
          have HB6 := Lib.hid (bt HB5.out hb6)
          clear hb6
          go_wp2
          go_ret
          exact ⟨rfl, HB6.out⟩
        | ok zs =>
          rw [hpr] at hread
          refine hread.mono ?_
          rintro e w5 ⟨⟨A5, n5, c5, he, hz5⟩, hb5⟩
          subst he
          obtain ⟨hrz, hwz⟩ := Post.read_ok hpr
          have HB5 := Lib.hid (bt HB4.out hb5)
          have HP := Lib.hid (And.intro hrz hwz)
          have HRD := Lib.hid (And.intro hread hpr)
          clear hb5 hrz hwz hpr hread
          go_wp2_with fail
          refine (write_yes A5 n5 c5 zs _ hz5.zs HP.out.1).mono ?_
          rintro e w6 ⟨A6, n6, c6, rfl, ho6, hb6⟩
          have HB6 := Lib.hid (bt HB5.out hb6)
          have hz6 := hz5.keep hb6
          rw [HP.out.2] at ho6
          have q1 := run_str (P := Try.prog) (w := w6) 23 9 5 Try.underlying23 Try.underlying5 Try.underlying9 A6 n6 c6 _ b ho6.bs.rd ho6.len
          have q2 := run_str (P := Try.prog) (w := w6) 23 9 5 Try.underlying23 Try.underlying5 Try.underlying9 B n4 k _ b (hB.keep HB6.out).rd hB.len
          clear hb6
          go_wp2_with fail
          refine (right_any A5 n5 c5 zs _ hz6.zs).mono ?_
          rintro e w7 ⟨rfl, rfl⟩
          rw [HP.out.1]
          clear q1 q2
          go_wp2_with fail
          refine (knows9_any _).mono ?_
          rintro e w8 ⟨rfl, hb8⟩
          have HB8 := Lib.hid (bt HB6.out hb8)
          clear hb8
          go_wp2
          go_ret
          exact ⟨rfl, HB8.out⟩
end Go.Proofs.Ytkkliblndglniaa
