/- TreeBinds: the walk of the law. -/
import Derived.Test.YtoiilhbjlfdfpaaDoorTree13
import Derived.OpenShut
namespace Go.Proofs.YtoiilhbjlfdfpaaDoor
set_option linter.unusedVariables false
open Go.RowKit

/-- []byte(s), as a run: a new row that reads as the string's bytes. -/
theorem run_bytes8 {P : Program} (w : World) (src dst e : TypeId) (hs : P.underlying src = some .string) (hd : P.underlying dst = some (.slice e)) (he : P.underlying e = some (.int .u8)) (l : List UInt8) (hl : l.length ≤ maxLen) :
    ∃ A c w', (convert src dst (.string (str l))).run P w = .ok (.slice A l.length c) w' ∧ Rd w' w'.heap.size A (l.map bv) ∧ l.length ≤ c ∧ c ≤ maxLen ∧ Below w.heap.size w w' := by
  have hrun := run_bytes_of_string (P := P) w src dst e (str l) hs hd he
  have hge := grownCap_ge w (str l).size 0 e
  have hle := grownCap_le_maxLen w (str l).size 0 e (by rw [str_size]; exact hl)
  generalize grownCap w (str l).size 0 e = cap at hge hle hrun
  rw [str_size] at hge hrun
  refine ⟨_, _, _, hrun, (fun _ => ⟨w.heap.size, 0, rfl, by unfold World.alloc World.drew; simp, fun j v hv => ?_⟩), hge, hle, (Below.refl _ w).drew.alloc (Nat.le_refl _) _⟩
  rw [List.getElem?_map] at hv
  have hj : j < l.length := by
    rcases Nat.lt_or_ge j l.length with h1 | h1
    · exact h1
    · rw [List.getElem?_eq_none h1] at hv; cases hv
  have hb := bytesRow_at (str l) cap j (by simpa [str] using hj)
  rw [Nat.zero_add]
  show (w.drew.alloc _).cell? ⟨w.drew.heap.size, j, none⟩ = _
  rw [cell_of_row _ _ _ _ _ _ (heap_alloc_new w.drew _), hb]
  rw [List.getElem?_eq_getElem hj] at hv
  injection hv with hv
  rw [← hv]
  rfl
theorem wys_small {d : List UInt8} (hd : d.length = 32) : ∀ (S : List Bool) (p : List (List UInt8)), (∀ s ∈ p, s.length = 32) → p.length = S.length → ∀ s ∈ wys d S p, s.length ≤ 1000
  | [], p, hp, hl, s, hs => by cases hs
  | b :: S, p, hp, hl, s, hs => by
    rcases List.eq_nil_or_concat p with rfl | ⟨p', x, rfl⟩
    · simp at hl
    rw [List.concat_eq_append] at hp hl hs
    have hp' : ∀ s ∈ p', s.length = 32 := fun s hs => hp s (List.mem_append.2 (.inl hs))
    have hx : x.length = 32 := hp x (by simp)
    have l1 : p'.length = S.length := by simpa using hl
    have hA := clb_32 hd S p'
    rw [wys_snoc, List.mem_append, List.mem_singleton] at hs
    rcases hs with hs | rfl
    · exact wys_small hd S p' hp' l1 s hs
    · split <;> simp [hA, hx]
/-- What the loop knows: no step before this one seals a clash. -/
def NoClash (U V : List (List UInt8)) (k : Nat) : Prop := ∀ j u v, j < k → U[j]? = some u → V[j]? = some v → clashB u v = false
theorem NoClash.next {U V : List (List UInt8)} {k : Nat} {u v : List UInt8} (h : NoClash U V k) (hu : U[k]? = some u) (hv : V[k]? = some v) (hc : clashB u v = false) : NoClash U V (k + 1) := fun j x y hj hx hy => by
  by_cases e : j = k
  · subst e
    rw [hu] at hx
    rw [hv] at hy
    injection hx with hx
    injection hy with hy
    rw [← hx, ← hy]; exact hc
  · exact h j x y (by omega) hx hy
set_option maxRecDepth 100000 in
set_option maxHeartbeats 16000000 in
theorem treebinds_any (a : List UInt8) (ha : a.length ≤ maxLen) (b : List UInt8) (hb : b.length ≤ maxLen) (i n : Int) (A : Option Addr) (m c : Nat) (p : List (List UInt8)) (B : Option Addr) (m2 c2 : Nat) (q : List (List UInt8)) (w : World)
    (hr : Rd w w.heap.size A (p.map sv)) (hn : p.length = m) (hc : m ≤ c) (hm : c ≤ maxLen) (hwf : ∀ s ∈ p, s.length ≤ maxLen)
    (hr2 : Rd w w.heap.size B (q.map sv)) (hn2 : q.length = m2) (hc2 : m2 ≤ c2) (hm2 : c2 ≤ maxLen) (hwf2 : ∀ s ∈ q, s.length ≤ maxLen) (ht : Tabs w)
    (hi : -9223372036854775808 ≤ i ∧ i ≤ 9223372036854775807) (hi' : -9223372036854775808 ≤ n ∧ n ≤ 9223372036854775807) :
    Calls Tryd.prog 9 #[sv a, sv b, .int .i64 i, .int .i64 n, .slice A m c, .slice B m2 c2] w (RetB true w) := by
  have hS : Ss w A m c p := ⟨hr, hn, hc, hm⟩
  have hS2 : Ss w B m2 c2 q := ⟨hr2, hn2, hc2, hm2⟩
  have g := great6_any A m c p w hS hwf
  have g2 := great6_any B m2 c2 q w hS2 hwf2
  rw [maxLen_eq] at hm hm2 ha hb
  have HT := Lib.hid ht
  obtain ⟨hi1, hi2⟩ := hi
  obtain ⟨hi3, hi4⟩ := hi'
  have z := strLen a
  have z2 := strLen b
  cases hg : Tree.great p with
  | true =>
    rw [hg] at g
    have G := Lib.hid g
    clear g hg g2 hS hS2 hr hwf hr2 hwf2 ht
    go_enter Tryd.func9, Tryd.ntmps9
    go_wp2_with fail
    refine (G.out).mono ?_
    rintro e wz ⟨rfl, rfl⟩
    go_wp2_with fail
    refine (knows6_any w (HT.out.below (Below.refl w.heap.size w))).mono ?_
    rintro e w1 ⟨rfl, hb1⟩
    have HB1 := Lib.hid (bt (Below.refl w.heap.size w) hb1)
    clear hb1
    go_wp2
    go_ret
    exact ⟨rfl, HB1.out⟩
  | false =>
  cases hg2 : Tree.great q with
  | true =>
    rw [hg] at g
    have G := Lib.hid g
    rw [hg2] at g2
    have G2 := Lib.hid g2
    clear g hg g2 hg2 hS hS2 hr hwf hr2 hwf2 ht
    go_enter Tryd.func9, Tryd.ntmps9
    go_wp2_with fail
    refine (G.out).mono ?_
    rintro e wz ⟨rfl, rfl⟩
    go_wp2_with fail
    refine (G2.out).mono ?_
    rintro e wz ⟨rfl, rfl⟩
    go_wp2_with fail
    refine (knows6_any w (HT.out.below (Below.refl w.heap.size w))).mono ?_
    rintro e w1 ⟨rfl, hb1⟩
    have HB1 := Lib.hid (bt (Below.refl w.heap.size w) hb1)
    clear hb1
    go_wp2
    go_ret
    exact ⟨rfl, HB1.out⟩
  | false =>
    rw [hg] at g
    have G := Lib.hid g
    rw [hg2] at g2
    have G2 := Lib.hid g2
    have hm100 : m ≤ 100 := by rw [← hn]; exact (Tree.great_no hg).2
    have hm200 : m2 ≤ 100 := by rw [← hn2]; exact (Tree.great_no hg2).2
    have HS := Lib.hid hS
    have HS2 := Lib.hid hS2
    have HW := Lib.hid hwf
    have HW2 := Lib.hid hwf2
    clear g hg g2 hg2 hr hwf hr2 hwf2 ht
    by_cases ha32 : a.length = 32
    case neg =>
      obtain ⟨la, hla⟩ : ∃ la, a.length = la := ⟨_, rfl⟩
      rw [hla] at z ha ha32
      have b1 : ((la : Int) == 32) = false := beq_eq_false_iff_ne.2 (by omega)
      have b2 : ¬ (la : Int) = 32 := by omega
      clear hla hS hS2
      go_enter Tryd.func9, Tryd.ntmps9
      go_wp2_with fail
      refine (G.out).mono ?_
      rintro e wz ⟨rfl, rfl⟩
      go_wp2_with fail
      refine (G2.out).mono ?_
      rintro e wz ⟨rfl, rfl⟩
      go_wp2_with fail
      refine (knows6_any w (HT.out.below (Below.refl w.heap.size w))).mono ?_
      rintro e w1 ⟨rfl, hb1⟩
      have HB1 := Lib.hid (bt (Below.refl w.heap.size w) hb1)
      clear hb1
      go_wp2
      go_ret
      exact ⟨rfl, HB1.out⟩
    by_cases hb32 : b.length = 32
    case neg =>
      obtain ⟨lb, hlb⟩ : ∃ la, b.length = la := ⟨_, rfl⟩
      rw [hlb] at z2 hb hb32
      rw [ha32] at z
      have b1 : ((lb : Int) == 32) = false := beq_eq_false_iff_ne.2 (by omega)
      have b2 : ¬ (lb : Int) = 32 := by omega
      clear hlb hS hS2
      go_enter Tryd.func9, Tryd.ntmps9
      go_wp2_with fail
      refine (G.out).mono ?_
      rintro e wz ⟨rfl, rfl⟩
      go_wp2_with fail
      refine (G2.out).mono ?_
      rintro e wz ⟨rfl, rfl⟩
      go_wp2_with fail
      refine (knows6_any w (HT.out.below (Below.refl w.heap.size w))).mono ?_
      rintro e w1 ⟨rfl, hb1⟩
      have HB1 := Lib.hid (bt (Below.refl w.heap.size w) hb1)
      clear hb1
      go_wp2
      go_ret
      exact ⟨rfl, HB1.out⟩
    rw [ha32] at z
    rw [hb32] at z2
    by_cases hbad : ¬ a.length = 32 ∨ n < 1 ∨ 1099511627776 < n ∨ i < 0 ∨ n ≤ i
    · have CA := Lib.hid (climb_arg a i n A m c w (by rw [maxLen_eq]; exact ha) hi1 hi2 hi3 hi4 hbad)
      have CB := Lib.hid (climb_arg b i n B m2 c2 w (by rw [maxLen_eq]; exact hb) hi1 hi2 hi3 hi4 (by rw [ha32] at hbad; rw [hb32]; exact hbad))
      clear hbad hS hS2 ha32 hb32
      go_enter Tryd.func9, Tryd.ntmps9
      go_wp2_with fail
      refine (G.out).mono ?_
      rintro e wz ⟨rfl, rfl⟩
      go_wp2_with fail
      refine (G2.out).mono ?_
      rintro e wz ⟨rfl, rfl⟩
      go_wp2_with fail
      refine (CA.out).mono ?_
      rintro e wz ⟨rfl, rfl⟩
      go_wp2_with fail
      refine (CB.out).mono ?_
      rintro e wz ⟨rfl, rfl⟩
      go_wp2_with fail
      refine (knows6_any w (HT.out.below (Below.refl w.heap.size w))).mono ?_
      rintro e w1 ⟨rfl, hb1⟩
      have HB1 := Lib.hid (bt (Below.refl w.heap.size w) hb1)
      clear hb1
      go_wp2
      go_ret
      exact ⟨rfl, HB1.out⟩
    · have b2 : ¬ n < 1 := fun h => hbad (.inr (.inl h))
      have b3 : ¬ 1099511627776 < n := fun h => hbad (.inr (.inr (.inl h)))
      have b4 : ¬ i < 0 := fun h => hbad (.inr (.inr (.inr (.inl h))))
      have b5 : ¬ n ≤ i := fun h => hbad (.inr (.inr (.inr (.inr h))))
      obtain ⟨j, rfl⟩ : ∃ j : Nat, i = (j : Int) := ⟨i.toNat, by omega⟩
      obtain ⟨n', rfl⟩ : ∃ j : Nat, n = (j : Int) := ⟨n.toNat, by omega⟩
      have hjn : j < n' := by omega
      have hn40 : n' ≤ 1099511627776 := by omega
      have hlog := Tree.sides_log 40 j n' (by rw [show (2 : Nat) ^ 40 = 1099511627776 by decide]; exact hn40) hjn
      clear hbad
      by_cases hP : m = (Tree.sides j n').length ∧ Tree.all32 p = true
      case neg =>
        have CA := Lib.hid (climb_proof a j n' A m c p w ha32 hjn hn40 hS HW.out (by
          by_cases h : m = (Tree.sides j n').length
          · exact .inr (Bool.eq_false_iff.2 fun h2 => hP ⟨h, h2⟩)
          · exact .inl h))
        by_cases hQ : m2 = (Tree.sides j n').length ∧ Tree.all32 q = true
        · have CB := Lib.hid (fun (W : World) (hW : Below w.heap.size w W) => climb_yes b j n' B m2 c2 q W hb32 hjn hn40 (HS2.out.keep hW) (Tree.all32_iff.1 hQ.2) (HT.out.below hW) hQ.1)
          obtain ⟨Y, hY⟩ : ∃ Y, tclimb b j n' q = Y := ⟨_, rfl⟩
          rw [hY] at CB
          clear hP hQ hY hS hS2 ha32 hb32 hlog
          go_enter Tryd.func9, Tryd.ntmps9
          go_wp2_with fail
          refine (G.out).mono ?_
          rintro e wz ⟨rfl, rfl⟩
          go_wp2_with fail
          refine (G2.out).mono ?_
          rintro e wz ⟨rfl, rfl⟩
          go_wp2_with fail
          refine (CA.out).mono ?_
          rintro e w1 ⟨rfl, hb1⟩
          have HB1 := Lib.hid (bt (Below.refl w.heap.size w) hb1)
          clear hb1
          go_wp2_with fail
          refine (CB.out w1 HB1.out).mono ?_
          rintro e w2 ⟨rfl, hb2⟩
          have HB2 := Lib.hid (bt HB1.out hb2)
          clear hb2
          go_wp2_with fail
          refine (knows6_any w2 (HT.out.below HB2.out)).mono ?_
          rintro e w3 ⟨rfl, hb3⟩
          have HB3 := Lib.hid (bt HB2.out hb3)
          clear hb3
          go_wp2
          go_ret
          exact ⟨rfl, HB3.out⟩
        · have CB := Lib.hid (fun (W : World) (hW : Below w.heap.size w W) => climb_proof b j n' B m2 c2 q W hb32 hjn hn40 (HS2.out.keep hW) HW2.out (by
            by_cases h : m2 = (Tree.sides j n').length
            · exact .inr (Bool.eq_false_iff.2 fun h2 => hQ ⟨h, h2⟩)
            · exact .inl h))
          clear hP hQ hS hS2 ha32 hb32 hlog
          go_enter Tryd.func9, Tryd.ntmps9
          go_wp2_with fail
          refine (G.out).mono ?_
          rintro e wz ⟨rfl, rfl⟩
          go_wp2_with fail
          refine (G2.out).mono ?_
          rintro e wz ⟨rfl, rfl⟩
          go_wp2_with fail
          refine (CA.out).mono ?_
          rintro e w1 ⟨rfl, hb1⟩
          have HB1 := Lib.hid (bt (Below.refl w.heap.size w) hb1)
          clear hb1
          go_wp2_with fail
          refine (CB.out w1 HB1.out).mono ?_
          rintro e w2 ⟨rfl, hb2⟩
          have HB2 := Lib.hid (bt HB1.out hb2)
          clear hb2
          go_wp2_with fail
          refine (knows6_any w2 (HT.out.below HB2.out)).mono ?_
          rintro e w3 ⟨rfl, hb3⟩
          have HB3 := Lib.hid (bt HB2.out hb3)
          clear hb3
          go_wp2
          go_ret
          exact ⟨rfl, HB3.out⟩
      case pos =>
        obtain ⟨hP1, hP2⟩ := hP
        have hp32 := Tree.all32_iff.1 hP2
        obtain ⟨X, hX⟩ : ∃ X, tclimb a j n' p = X := ⟨_, rfl⟩
        have ca := climb_yes a j n' A m c p w ha32 hjn hn40 hS hp32 HT.out hP1
        rw [hX] at ca
        have CA := Lib.hid ca
        clear ca
        by_cases hQ : m2 = (Tree.sides j n').length ∧ Tree.all32 q = true
        case neg =>
          have CB := Lib.hid (fun (W : World) (hW : Below w.heap.size w W) => climb_proof b j n' B m2 c2 q W hb32 hjn hn40 (HS2.out.keep hW) HW2.out (by
            by_cases h : m2 = (Tree.sides j n').length
            · exact .inr (Bool.eq_false_iff.2 fun h2 => hQ ⟨h, h2⟩)
            · exact .inl h))
          clear hP1 hP2 hp32 hX hQ hS hS2 ha32 hb32 hlog
          go_enter Tryd.func9, Tryd.ntmps9
          go_wp2_with fail
          refine (G.out).mono ?_
          rintro e wz ⟨rfl, rfl⟩
          go_wp2_with fail
          refine (G2.out).mono ?_
          rintro e wz ⟨rfl, rfl⟩
          go_wp2_with fail
          refine (CA.out).mono ?_
          rintro e w1 ⟨rfl, hb1⟩
          have HB1 := Lib.hid (bt (Below.refl w.heap.size w) hb1)
          clear hb1
          go_wp2_with fail
          refine (CB.out w1 HB1.out).mono ?_
          rintro e w2 ⟨rfl, hb2⟩
          have HB2 := Lib.hid (bt HB1.out hb2)
          clear hb2
          go_wp2_with fail
          refine (knows6_any w2 (HT.out.below HB2.out)).mono ?_
          rintro e w3 ⟨rfl, hb3⟩
          have HB3 := Lib.hid (bt HB2.out hb3)
          clear hb3
          go_wp2
          go_ret
          exact ⟨rfl, HB3.out⟩
        obtain ⟨hQ1, hQ2⟩ := hQ
        have hq32 := Tree.all32_iff.1 hQ2
        obtain ⟨Y, hY⟩ : ∃ Y, tclimb b j n' q = Y := ⟨_, rfl⟩
        have cb := fun (W : World) (hW : Below w.heap.size w W) => climb_yes b j n' B m2 c2 q W hb32 hjn hn40 (HS2.out.keep hW) hq32 (HT.out.below hW) hQ1
        rw [hY] at cb
        have CB := Lib.hid cb
        clear cb
        by_cases hab : a = b
        · have e1 : ((str a).toList == (str b).toList) = true := by rw [strEq]; exact decide_eq_true hab
          clear hP1 hP2 hp32 hX hQ1 hQ2 hq32 hY hS hS2 ha32 hb32 hlog hab
          go_enter Tryd.func9, Tryd.ntmps9
          go_wp2_with fail
          refine (G.out).mono ?_
          rintro e wz ⟨rfl, rfl⟩
          go_wp2_with fail
          refine (G2.out).mono ?_
          rintro e wz ⟨rfl, rfl⟩
          go_wp2_with fail
          refine (CA.out).mono ?_
          rintro e w1 ⟨rfl, hb1⟩
          have HB1 := Lib.hid (bt (Below.refl w.heap.size w) hb1)
          clear hb1
          go_wp2_with fail
          refine (CB.out w1 HB1.out).mono ?_
          rintro e w2 ⟨rfl, hb2⟩
          have HB2 := Lib.hid (bt HB1.out hb2)
          clear hb2
          go_wp2_with fail
          refine (knows6_any w2 (HT.out.below HB2.out)).mono ?_
          rintro e w3 ⟨rfl, hb3⟩
          have HB3 := Lib.hid (bt HB2.out hb3)
          clear hb3
          go_wp2
          go_ret
          exact ⟨rfl, HB3.out⟩
        have e1 : ((str a).toList == (str b).toList) = false := by rw [strEq]; exact decide_eq_false hab
        by_cases hXY : X = Y
        case neg =>
          have e2 : ((str X).toList != (str Y).toList) = true := by rw [strne]; exact decide_eq_true hXY
          have e3 : ((str X).toList == (str Y).toList) = false := by rw [strEq]; exact decide_eq_false hXY
          have e4 : ¬ (str X).toList = (str Y).toList := fun h => by rw [h] at e3; simp at e3
          clear hP1 hP2 hp32 hX hQ1 hQ2 hq32 hY hS hS2 ha32 hb32 hlog hab
          go_enter Tryd.func9, Tryd.ntmps9
          go_wp2_with fail
          refine (G.out).mono ?_
          rintro e wz ⟨rfl, rfl⟩
          go_wp2_with fail
          refine (G2.out).mono ?_
          rintro e wz ⟨rfl, rfl⟩
          go_wp2_with fail
          refine (CA.out).mono ?_
          rintro e w1 ⟨rfl, hb1⟩
          have HB1 := Lib.hid (bt (Below.refl w.heap.size w) hb1)
          clear hb1
          go_wp2_with fail
          refine (CB.out w1 HB1.out).mono ?_
          rintro e w2 ⟨rfl, hb2⟩
          have HB2 := Lib.hid (bt HB1.out hb2)
          clear hb2
          go_wp2_with fail
          refine (knows6_any w2 (HT.out.below HB2.out)).mono ?_
          rintro e w3 ⟨rfl, hb3⟩
          have HB3 := Lib.hid (bt HB2.out hb3)
          clear hb3
          go_wp2
          go_ret
          exact ⟨rfl, HB3.out⟩
        obtain rfl : X = Y := hXY
        have e2 : ((str X).toList != (str X).toList) = false := by simp
        have hclash := wys_clash (Tree.sides j n') a b p q ha32 hb32 hp32 hq32 (by omega) (by omega) hab (by rw [show Tree.clb tnd tnil a (Tree.sides j n') p = X from hX, show Tree.clb tnd tnil b (Tree.sides j n') q = X from hY])
        obtain ⟨t, hst⟩ : ∃ t, (Tree.sides j n').length = t := ⟨_, rfl⟩
        have ST := Lib.hid (fun W => rsteps_any n' j n' W (Nat.le_refl _) hjn hn40)
        rw [hst] at ST
        obtain ⟨U, hU⟩ : ∃ U, wys a (Tree.sides j n') p = U := ⟨_, rfl⟩
        obtain ⟨V, hV⟩ : ∃ U, wys b (Tree.sides j n') q = U := ⟨_, rfl⟩
        have lU : U.length = t := by rw [← hU, wys_len, hst]
        have lV : V.length = t := by rw [← hV, wys_len, hst]
        have WU := Lib.hid (show ∀ W, Below w.heap.size w W → Calls Tryd.prog 32 #[sv a, .int .i64 (j : Int), .int .i64 (n' : Int), .slice A m c] W (OwnSPost W.heap.size U W) from fun W hW => by
          have h := ways_any n' a j n' A c p W (Nat.le_refl _) (by omega) hjn hn40 hp32 (by omega) (by rw [hn]; exact HS.out.keep hW)
          rw [hn, hU] at h
          exact h)
        have WV := Lib.hid (show ∀ W, Below w.heap.size w W → Calls Tryd.prog 32 #[sv b, .int .i64 (j : Int), .int .i64 (n' : Int), .slice B m2 c2] W (OwnSPost W.heap.size V W) from fun W hW => by
          have h := ways_any n' b j n' B c2 q W (Nat.le_refl _) (by omega) hjn hn40 hq32 (by omega) (by rw [hn2]; exact HS2.out.keep hW)
          rw [hn2, hV] at h
          exact h)
        unfold OwnSPost at WU WV
        have hsmall : (∀ s ∈ U, s.length ≤ 1000) ∧ (∀ s ∈ V, s.length ≤ 1000) := ⟨by rw [← hU]; exact wys_small ha32 _ p hp32 (by omega), by rw [← hV]; exact wys_small hb32 _ q hq32 (by omega)⟩
        rw [hU, hV] at hclash
        have HCL := Lib.hid hclash
        have HSM := Lib.hid hsmall
        have hmt : m = t := by omega
        have hmt2 : m2 = t := by omega
        clear hP1 hP2 hp32 hX hQ1 hQ2 hq32 hY hS hS2 hab hclash hst hU hV hsmall ha32 hb32
        obtain rfl : t = m := hmt.symm
        obtain rfl : t = m2 := hmt2.symm
        go_enter Tryd.func9, Tryd.ntmps9
        go_wp2_with fail
        refine (G.out).mono ?_
        rintro e wz ⟨rfl, rfl⟩
        go_wp2_with fail
        refine (G2.out).mono ?_
        rintro e wz ⟨rfl, rfl⟩
        go_wp2_with fail
        refine (CA.out).mono ?_
        rintro e w1 ⟨rfl, hb1⟩
        have HB1 := Lib.hid (bt (Below.refl w.heap.size w) hb1)
        clear hb1
        go_wp2_with fail
        refine (CB.out w1 HB1.out).mono ?_
        rintro e w2 ⟨rfl, hb2⟩
        have HB2 := Lib.hid (bt HB1.out hb2)
        clear hb2
        go_wp2_with fail
        refine (ST.out w2).mono ?_
        rintro e wz ⟨rfl, rfl⟩
        go_wp2_with fail
        refine (WU.out w2 HB2.out).mono ?_
        rintro e w3 ⟨AU, nU, cU, rfl, ho3, hb3⟩
        have HB3 := Lib.hid (bt HB2.out hb3)
        have hcapU := ho3.cap
        have hmaxU := ho3.max
        rw [maxLen_eq] at hmaxU
        have HU := Lib.hid ho3
        clear hb3 ho3
        go_wp2_with fail
        refine (WV.out w3 HB3.out).mono ?_
        rintro e w4 ⟨AV, nV, cV, rfl, ho4, hb4⟩
        replace HU := Lib.hid (HU.out.keep hb4)
        have HB4 := Lib.hid (bt HB3.out hb4)
        have hcapV := ho4.cap
        have hmaxV := ho4.max
        rw [maxLen_eq] at hmaxV
        have HV := Lib.hid ho4
        clear hb4 ho4
        have hUl := HU.out.len
        have hVl := HV.out.len
        obtain ⟨gU, hgU⟩ : ∃ g, 0 < t → AU = some ⟨g, 0, none⟩ := by
          by_cases h : 0 < t
          · obtain ⟨g, h1, _⟩ := HU.out.form (by omega)
            exact ⟨g, fun _ => h1⟩
          · exact ⟨0, fun h' => absurd h' h⟩
        obtain ⟨gV, hgV⟩ : ∃ g, 0 < t → AV = some ⟨g, 0, none⟩ := by
          by_cases h : 0 < t
          · obtain ⟨g, h1, _⟩ := HV.out.form (by omega)
            exact ⟨g, fun _ => h1⟩
          · exact ⟨0, fun h' => absurd h' h⟩
        obtain rfl : t = nU := by omega
        obtain rfl : t = nV := by omega
        have HG := Lib.hid (And.intro hgU hgV)
        have HLL := Lib.hid (And.intro lU lV)
        clear hgU hgV hUl hVl lU lV
        go_wp2
        go_loopw [19] (fun vi wr => ∃ k : Nat, k ≤ t ∧ vi = .int .i64 k ∧ NoClash U V k ∧ Below w4.heap.size w4 wr) (fun vi _ => t - (intOf vi).toNat)
        case atStart => exact ⟨0, by omega, rfl, (fun j u v h => by omega), Below.refl _ _⟩
        case round =>
          obtain ⟨k, hk, rfl, hnc, hbel⟩ := hrel
          have HBR := Lib.hid hbel
          have HNC := Lib.hid hnc
          clear hbel hnc
          by_cases hlt : k < t
          · obtain ⟨u, hu⟩ : ∃ x, U[k]? = some x := ⟨_, List.getElem?_eq_getElem (by have := HLL.out.1; omega)⟩
            obtain ⟨v, hv⟩ : ∃ x, V[k]? = some x := ⟨_, List.getElem?_eq_getElem (by have := HLL.out.2; omega)⟩
            obtain rfl := HG.out.1 (by omega)
            obtain rfl := HG.out.2 (by omega)
            have XU := Lib.hid (show ∀ W, Below wr.heap.size wr W → W.cell? ⟨gU, k, none⟩ = some (sv u) from fun W hW => (HU.out.keep (bt HBR.out hW)).cell hu)
            have XV := Lib.hid (show ∀ W, Below wr.heap.size wr W → W.cell? ⟨gV, k, none⟩ = some (sv v) from fun W hW => (HV.out.keep (bt HBR.out hW)).cell hv)
            have HL := Lib.hid (show u.length ≤ 1000 ∧ v.length ≤ 1000 from ⟨HSM.out.1 u (List.mem_of_getElem? hu), HSM.out.2 v (List.mem_of_getElem? hv)⟩)
            have HUV := Lib.hid (And.intro hu hv)
            clear hu hv
            cases hcb : clashB u v with
            | true =>
              have HCB := Lib.hid hcb
              clear hcb
              go_wp2_with fail
              refine Free.wp_free_l 10 (fun W => Below wr.heap.size wr W) [Free.kc (.slice (some ⟨gU, 0, none⟩) t cU), Free.kc (.int .i64 (k : Int)), Free.kc (.pointer (some ⟨gU, k, none⟩)), Free.kc (sv u), Free.kr (u.length) (u.map bv), Free.kc (.slice (some ⟨gV, 0, none⟩) t cV), Free.kc (.int .i64 (k : Int)), Free.kc (.pointer (some ⟨gV, k, none⟩)), Free.kc (sv v), Free.kr (v.length) (v.map bv)] (by kernel_rfl) (by kernel_rfl) (by decide) (Below.refl _ _).drew (fun w w' h g => bt h g) ?_ ?_
              · refine Free.forall_succ (Free.forall_succ (Free.forall_succ (Free.forall_succ (Free.forall_succ (Free.forall_succ (Free.forall_succ (Free.forall_succ (Free.forall_succ (Free.forall_succ (Free.forall_zero) ?_) ?_) ?_) ?_) ?_) ?_) ?_) ?_) ?_) ?_
                · exact Free.ob_plain _ rfl rfl fun vals wq hC hd => (by exact Free.d_move rfl (by kernel_rfl) rfl)
                · exact Free.ob_plain _ rfl rfl fun vals wq hC hd => (by exact Free.d_move rfl (by kernel_rfl) rfl)
                · exact Free.ob_plain _ rfl rfl fun vals wq hC hd => (by exact Free.d_indexAddr rfl (Eq.trans (b := vals 0) (by kernel_rfl) (hd 0 (by kernel_rfl))) (Eq.trans (b := vals 1) (by kernel_rfl) (hd 1 (by kernel_rfl))) (run_idx0 22 Tryd.underlying22 (by kernel_rfl) gU t cU k _ (by omega) (by omega)) rfl)
                · exact Free.ob_plain _ rfl rfl fun vals wq hC hd => (by exact Free.d_load rfl (Eq.trans (b := vals 2) (by kernel_rfl) (hd 2 (by kernel_rfl))) (by have hcc := XU.out wq hC; go_simp) rfl)
                · exact Free.ob_plain _ rfl rfl fun vals wq hC hd => (by exact (by obtain ⟨A', c', w', hrun, hrd, hc1, hc2, hbl⟩ := run_bytes8 (P := Tryd.prog) wq 9 50 5 Tryd.underlying9 Tryd.underlying50 Tryd.underlying5 u (by have := HL.out; rw [maxLen_eq]; omega); exact Free.d_conv rfl (Eq.trans (b := vals 3) (by kernel_rfl) (hd 3 (by kernel_rfl))) hrun hbl ⟨A', c', rfl, hrd, hc1, hc2⟩))
                · exact Free.ob_plain _ rfl rfl fun vals wq hC hd => (by exact Free.d_move rfl (by kernel_rfl) rfl)
                · exact Free.ob_plain _ rfl rfl fun vals wq hC hd => (by exact Free.d_move rfl (by kernel_rfl) rfl)
                · exact Free.ob_plain _ rfl rfl fun vals wq hC hd => (by exact Free.d_indexAddr rfl (Eq.trans (b := vals 5) (by kernel_rfl) (hd 5 (by kernel_rfl))) (Eq.trans (b := vals 6) (by kernel_rfl) (hd 6 (by kernel_rfl))) (run_idx0 22 Tryd.underlying22 (by kernel_rfl) gV t cV k _ (by omega) (by omega)) rfl)
                · exact Free.ob_plain _ rfl rfl fun vals wq hC hd => (by exact Free.d_load rfl (Eq.trans (b := vals 7) (by kernel_rfl) (hd 7 (by kernel_rfl))) (by have hcc := XV.out wq hC; go_simp) rfl)
                · exact Free.ob_plain _ rfl rfl fun vals wq hC hd => (by exact (by obtain ⟨A', c', w', hrun, hrd, hc1, hc2, hbl⟩ := run_bytes8 (P := Tryd.prog) wq 9 50 5 Tryd.underlying9 Tryd.underlying50 Tryd.underlying5 v (by have := HL.out; rw [maxLen_eq]; omega); exact Free.d_conv rfl (Eq.trans (b := vals 8) (by kernel_rfl) (hd 8 (by kernel_rfl))) hrun hbl ⟨A', c', rfl, hrd, hc1, hc2⟩))
              · intro vals wq hC hd
                have e0 : vals 0 = (.slice (some ⟨gU, 0, none⟩) t cU) := hd 0 (by decide)
                have e1 : vals 1 = (.int .i64 (k : Int)) := hd 1 (by decide)
                have e2 : vals 2 = (.pointer (some ⟨gU, k, none⟩)) := hd 2 (by decide)
                have e3 : vals 3 = (sv u) := hd 3 (by decide)
                obtain ⟨A4, k4, e4, rd4, le4, mx4⟩ := hd 4 (by decide)
                have e5 : vals 5 = (.slice (some ⟨gV, 0, none⟩) t cV) := hd 5 (by decide)
                have e6 : vals 6 = (.int .i64 (k : Int)) := hd 6 (by decide)
                have e7 : vals 7 = (.pointer (some ⟨gV, k, none⟩)) := hd 7 (by decide)
                have e8 : vals 8 = (sv v) := hd 8 (by decide)
                obtain ⟨A9, k9, e9, rd9, le9, mx9⟩ := hd 9 (by decide)
                simp only [Free.frameOf, List.range, List.range.loop, List.foldl, Free.dstOf, List.getElem?_toArray, List.getElem?_cons_zero, List.getElem?_cons_succ, Option.bind_some, Act.put, List.setIfInBounds_toArray, List.set_cons_zero, List.set_cons_succ, e0, e1, e2, e3, e4, e5, e6, e7, e8, e9]
                clear hd e0 e1 e2 e3 e4 e5 e6 e7 e8 e9
                have HQ := Lib.hid (And.intro (And.intro rd4 rd9) (And.intro (And.intro le4 mx4) (And.intro le9 mx9)))
                have HBQ := Lib.hid (bt HBR.out hC)
                clear hC rd4 rd9
                rw [maxLen_eq] at mx4 mx9
                go_wp2_with fail
                refine (is_any A4 u.length k4 A9 v.length k9 u v wq HQ.out.1.1 rfl HQ.out.2.1.1 HQ.out.2.1.2 (by have := HL.out.1; omega) HQ.out.1.2 rfl HQ.out.2.2.1 HQ.out.2.2.2 (by have := HL.out.2; omega) (HT.out.below (bt HB4.out HBQ.out))).mono ?_
                rintro e w8 ⟨rfl, hb8⟩
                rw [HCB.out]
                have HB8 := Lib.hid (bt HB4.out (bt HBQ.out hb8))
                clear hb8
                go_wp2_with fail
                refine (knows6_any w8 (HT.out.below HB8.out)).mono ?_
                rintro e w9 ⟨rfl, hb9⟩
                have HB9 := Lib.hid (bt HB8.out hb9)
                clear hb9
                go_wp2
                go_ret
                exact ⟨rfl, HB9.out⟩
            | false =>
              have HCB := Lib.hid hcb
              clear hcb
              go_wp2_with fail
              refine Free.wp_free_l 10 (fun W => Below wr.heap.size wr W) [Free.kc (.slice (some ⟨gU, 0, none⟩) t cU), Free.kc (.int .i64 (k : Int)), Free.kc (.pointer (some ⟨gU, k, none⟩)), Free.kc (sv u), Free.kr (u.length) (u.map bv), Free.kc (.slice (some ⟨gV, 0, none⟩) t cV), Free.kc (.int .i64 (k : Int)), Free.kc (.pointer (some ⟨gV, k, none⟩)), Free.kc (sv v), Free.kr (v.length) (v.map bv)] (by kernel_rfl) (by kernel_rfl) (by decide) (Below.refl _ _).drew (fun w w' h g => bt h g) ?_ ?_
              · refine Free.forall_succ (Free.forall_succ (Free.forall_succ (Free.forall_succ (Free.forall_succ (Free.forall_succ (Free.forall_succ (Free.forall_succ (Free.forall_succ (Free.forall_succ (Free.forall_zero) ?_) ?_) ?_) ?_) ?_) ?_) ?_) ?_) ?_) ?_
                · exact Free.ob_plain _ rfl rfl fun vals wq hC hd => (by exact Free.d_move rfl (by kernel_rfl) rfl)
                · exact Free.ob_plain _ rfl rfl fun vals wq hC hd => (by exact Free.d_move rfl (by kernel_rfl) rfl)
                · exact Free.ob_plain _ rfl rfl fun vals wq hC hd => (by exact Free.d_indexAddr rfl (Eq.trans (b := vals 0) (by kernel_rfl) (hd 0 (by kernel_rfl))) (Eq.trans (b := vals 1) (by kernel_rfl) (hd 1 (by kernel_rfl))) (run_idx0 22 Tryd.underlying22 (by kernel_rfl) gU t cU k _ (by omega) (by omega)) rfl)
                · exact Free.ob_plain _ rfl rfl fun vals wq hC hd => (by exact Free.d_load rfl (Eq.trans (b := vals 2) (by kernel_rfl) (hd 2 (by kernel_rfl))) (by have hcc := XU.out wq hC; go_simp) rfl)
                · exact Free.ob_plain _ rfl rfl fun vals wq hC hd => (by exact (by obtain ⟨A', c', w', hrun, hrd, hc1, hc2, hbl⟩ := run_bytes8 (P := Tryd.prog) wq 9 50 5 Tryd.underlying9 Tryd.underlying50 Tryd.underlying5 u (by have := HL.out; rw [maxLen_eq]; omega); exact Free.d_conv rfl (Eq.trans (b := vals 3) (by kernel_rfl) (hd 3 (by kernel_rfl))) hrun hbl ⟨A', c', rfl, hrd, hc1, hc2⟩))
                · exact Free.ob_plain _ rfl rfl fun vals wq hC hd => (by exact Free.d_move rfl (by kernel_rfl) rfl)
                · exact Free.ob_plain _ rfl rfl fun vals wq hC hd => (by exact Free.d_move rfl (by kernel_rfl) rfl)
                · exact Free.ob_plain _ rfl rfl fun vals wq hC hd => (by exact Free.d_indexAddr rfl (Eq.trans (b := vals 5) (by kernel_rfl) (hd 5 (by kernel_rfl))) (Eq.trans (b := vals 6) (by kernel_rfl) (hd 6 (by kernel_rfl))) (run_idx0 22 Tryd.underlying22 (by kernel_rfl) gV t cV k _ (by omega) (by omega)) rfl)
                · exact Free.ob_plain _ rfl rfl fun vals wq hC hd => (by exact Free.d_load rfl (Eq.trans (b := vals 7) (by kernel_rfl) (hd 7 (by kernel_rfl))) (by have hcc := XV.out wq hC; go_simp) rfl)
                · exact Free.ob_plain _ rfl rfl fun vals wq hC hd => (by exact (by obtain ⟨A', c', w', hrun, hrd, hc1, hc2, hbl⟩ := run_bytes8 (P := Tryd.prog) wq 9 50 5 Tryd.underlying9 Tryd.underlying50 Tryd.underlying5 v (by have := HL.out; rw [maxLen_eq]; omega); exact Free.d_conv rfl (Eq.trans (b := vals 8) (by kernel_rfl) (hd 8 (by kernel_rfl))) hrun hbl ⟨A', c', rfl, hrd, hc1, hc2⟩))
              · intro vals wq hC hd
                have e0 : vals 0 = (.slice (some ⟨gU, 0, none⟩) t cU) := hd 0 (by decide)
                have e1 : vals 1 = (.int .i64 (k : Int)) := hd 1 (by decide)
                have e2 : vals 2 = (.pointer (some ⟨gU, k, none⟩)) := hd 2 (by decide)
                have e3 : vals 3 = (sv u) := hd 3 (by decide)
                obtain ⟨A4, k4, e4, rd4, le4, mx4⟩ := hd 4 (by decide)
                have e5 : vals 5 = (.slice (some ⟨gV, 0, none⟩) t cV) := hd 5 (by decide)
                have e6 : vals 6 = (.int .i64 (k : Int)) := hd 6 (by decide)
                have e7 : vals 7 = (.pointer (some ⟨gV, k, none⟩)) := hd 7 (by decide)
                have e8 : vals 8 = (sv v) := hd 8 (by decide)
                obtain ⟨A9, k9, e9, rd9, le9, mx9⟩ := hd 9 (by decide)
                simp only [Free.frameOf, List.range, List.range.loop, List.foldl, Free.dstOf, List.getElem?_toArray, List.getElem?_cons_zero, List.getElem?_cons_succ, Option.bind_some, Act.put, List.setIfInBounds_toArray, List.set_cons_zero, List.set_cons_succ, e0, e1, e2, e3, e4, e5, e6, e7, e8, e9]
                clear hd e0 e1 e2 e3 e4 e5 e6 e7 e8 e9
                have HQ := Lib.hid (And.intro (And.intro rd4 rd9) (And.intro (And.intro le4 mx4) (And.intro le9 mx9)))
                have HBQ := Lib.hid (bt HBR.out hC)
                clear hC rd4 rd9
                rw [maxLen_eq] at mx4 mx9
                go_wp2_with fail
                refine (is_any A4 u.length k4 A9 v.length k9 u v wq HQ.out.1.1 rfl HQ.out.2.1.1 HQ.out.2.1.2 (by have := HL.out.1; omega) HQ.out.1.2 rfl HQ.out.2.2.1 HQ.out.2.2.2 (by have := HL.out.2; omega) (HT.out.below (bt HB4.out HBQ.out))).mono ?_
                rintro e w8 ⟨rfl, hb8⟩
                rw [HCB.out]
                have HB8 := Lib.hid (bt HBQ.out hb8)
                clear hb8
                go_wp2
                go_roundw
                case rel => exact ⟨k + 1, by omega, by go_num, (HNC.out.next HUV.out.1 HUV.out.2 HCB.out), HB8.out⟩
                case measure => simp [intOf]; omega
          · exfalso
            obtain ⟨k2, u, v, g1, g2, g3⟩ := HCL.out
            have hk2 := (List.getElem?_eq_some_iff.1 g1).1
            have := HNC.out k2 u v (by have := HLL.out.1; omega) g1 g2
            rw [g3] at this
            cases this
end Go.Proofs.YtoiilhbjlfdfpaaDoor
