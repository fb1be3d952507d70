/- FromHex, of the package that sums. No statement of the seat is proved here. -/
import Derived.Test.YtcnjpcmadkkhfaaDoorShaHex
namespace Go.Proofs.YtcnjpcmadkkhfaaDoor
set_option linter.unusedVariables false
open Go.RowKit

def UnhexPost (s : List UInt8) (w : World) (e : Ending) (w' : World) : Prop :=
  (∃ l t : List UInt8, ∃ n : Int, (Hex.unhex s = some l ∧ t = l ∧ n = 0 ∨ Hex.unhex s = none ∧ t = [] ∧ n = 2) ∧ e = .returned (.tuple #[sv t, .int .i64 n])) ∧ Below w.heap.size w w'
theorem unhex_no {s : List UInt8} {w w' : World} (h : Hex.unhex s = none) (hb : Below w.heap.size w w') : UnhexPost s w (.returned (.tuple #[.string { data := #[] }, .int .i64 2])) w' :=
  ⟨⟨[], [], 2, .inr ⟨h, rfl, rfl⟩, rfl⟩, hb⟩
theorem unhex_yes {s l : List UInt8} {w w' : World} (h : Hex.unhex s = some l) (hb : Below w.heap.size w w') : UnhexPost s w (.returned (.tuple #[sv l, .int .i64 0])) w' :=
  ⟨⟨l, l, 0, .inl ⟨h, rfl, rfl⟩, rfl⟩, hb⟩
theorem unhex_step {s : List UInt8} {i : Nat} {a b : UInt8} (ha : s[i]? = some a) (hb : s[i + 1]? = some b) : Hex.unhex (s.drop i) = match Hex.val a, Hex.val b with
    | some x, some y => (Hex.unhex (s.drop (i + 2))).map (UInt8.ofNat (x * 16 + y) :: ·)
    | _, _ => none := by
  obtain ⟨h1, rfl⟩ := List.getElem?_eq_some_iff.1 ha
  obtain ⟨h2, rfl⟩ := List.getElem?_eq_some_iff.1 hb
  rw [List.drop_eq_getElem_cons h1, List.drop_eq_getElem_cons h2]
  rfl
theorem orShift (x y : Nat) (hx : x < 16) (hy : y < 16) : bits .or .u8 ((x : Int) * 16) (y : Int) = ((UInt8.ofNat (x * 16 + y)).toNat : Int) := by
  have key : ∀ x y : Fin 16, bits .or .u8 ((x.val : Int) * 16) (y.val : Int) = ((UInt8.ofNat (x.val * 16 + y.val)).toNat : Int) := by decide +kernel
  exact key ⟨x, hx⟩ ⟨y, hy⟩
set_option maxRecDepth 100000 in
set_option maxHeartbeats 4000000 in
theorem unhex_any (s : List UInt8) (w : World) (hb : s.length ≤ 1099511627776) : Calls Tryd.prog 19 #[sv s] w (UnhexPost s w) := by
  have hsz := str_size s
  obtain ⟨n, hn⟩ : ∃ n, s.length = n := ⟨_, rfl⟩
  rw [hn] at hsz hb
  have HN := Lib.hid hn
  clear hn
  have tm : ((n : Nat) : Int).tmod 2 = (n : Int) % 2 := Int.tmod_eq_emod_of_nonneg (by omega)
  have td : ((n : Nat) : Int).tdiv 2 = (n : Int) / 2 := Int.tdiv_eq_ediv_of_nonneg (by omega)
  by_cases hodd : (n : Int) % 2 = 0
  · go_enter Tryd.func19, Tryd.ntmps19
    go_wp2_with (first
      | (at_make; refine wl_make rfl _ _ 22 rfl w.heap.size 5 1 1 bytesT .i64 .i64 _ (n / 2) rfl rfl (by omega) (by omega) (by rw [maxLen_eq]; omega) (Nat.le_refl _) ?_; intro w1 hown1 hb1; have HO1 := Lib.hid hown1; have HB1 := Lib.hid hb1; clear hown1 hb1))
    go_loopw [4, 5] (fun v q wr => ∃ (i u : Nat) (o : List UInt8) (A6 : Option Addr) (c6 : Nat), i ≤ n ∧ q = .int .i64 i ∧ i = 2 * u ∧ v = .slice A6 u c6 ∧ u ≤ c6 ∧ c6 ≤ 9223372036854775807 ∧ wr.ownsRow w.heap.size 5 1 (.slice A6 u c6) u (o.map bv) ∧ Hex.unhex s = (Hex.unhex (s.drop i)).map (o ++ ·) ∧ Below w.heap.size w wr) (fun _ q _ => n - (intOf q).toNat)
    case atStart => exact ⟨0, 0, [], _, n / 2, by omega, rfl, rfl, rfl, Nat.zero_le _, by omega, HO1.out, by simp, HB1.out⟩
    clear HO1 HB1 tm td
    case round =>
      obtain ⟨i, u, o, A6, c6, hi, rfl, hu, rfl, hc6, hc6', hown, hun, hbel⟩ := hrel
      have HO := Lib.hid hown
      have HB := Lib.hid hbel
      have HUN := Lib.hid hun
      clear hown hbel hun
      by_cases hlt : i < n
      · have hlt2 : i + 1 < n := by omega
        have hlt3 : (i : Int) + 1 < (n : Int) := by omega
        obtain ⟨a, hai⟩ : ∃ a, s[i]? = some a := ⟨_, List.getElem?_eq_getElem (by have := HN.out; omega)⟩
        obtain ⟨b, hbi⟩ : ∃ b, s[i + 1]? = some b := ⟨_, List.getElem?_eq_getElem (by have := HN.out; omega)⟩
        have HSTEP := Lib.hid (unhex_step hai hbi)
        have ga : (str s)[i]'(by rw [hsz]; exact hlt) = a := by
          have h := str_get hai
          rw [getElem?_pos (str s) i (by rw [hsz]; exact hlt)] at h
          injection h
        have gb : (str s)[i + 1]'(by rw [hsz]; exact hlt2) = b := by
          have h := str_get hbi
          rw [getElem?_pos (str s) (i + 1) (by rw [hsz]; exact hlt2)] at h
          injection h
        have HU := Lib.hid hu
        have hu2 : u ≤ n := by omega
        clear hai hbi hu
        cases hva : Hex.val a with
        | none =>
          have HNO := Lib.hid (show Hex.unhex s = none by rw [HUN.out, HSTEP.out, hva]; rfl)
          have HVA := Lib.hid hva
          clear hva
          go_wp2_with (first | (go_at_call 43; (with_reducible refine (value_any a _).mono ?_); rintro e w2 ⟨⟨v, hv, rfl⟩, rfl⟩; rw [HVA.out]; clear hv))
          go_ret2
          exact unhex_no HNO.out HB.out
        | some x =>
          have HVA := Lib.hid hva
          have HX := Lib.hid (Hex.val_lt hva)
          cases hvb : Hex.val b with
          | none =>
            have HNO := Lib.hid (show Hex.unhex s = none by rw [HUN.out, HSTEP.out, hva, hvb]; rfl)
            have HVB := Lib.hid hvb
            clear hva hvb
            go_wp2_with (first | (go_at_call 43; (with_reducible refine (value_any a _).mono ?_); rintro e w2 ⟨⟨v, hv, rfl⟩, rfl⟩; rw [HVA.out] at hv ⊢; simp only [Option.getD_some] at hv; rw [hv]; clear hv) | (go_at_call 43; (with_reducible refine (value_any b _).mono ?_); rintro e w2 ⟨⟨v, hv, rfl⟩, rfl⟩; rw [HVB.out]; clear hv))
            go_ret2
            exact unhex_no HNO.out HB.out
          | some y =>
            have HVB := Lib.hid hvb
            have HY := Lib.hid (Hex.val_lt hvb)
            have HS2 := Lib.hid (show Hex.unhex s = (Hex.unhex (s.drop (i + 2))).map ((o ++ [UInt8.ofNat (x * 16 + y)]) ++ ·) by
              rw [HUN.out, HSTEP.out, hva, hvb]
              cases Hex.unhex (s.drop (i + 2)) <;> simp)
            have hor := orShift x y HX.out HY.out
            have hx16 : (x : Int) * 16 < 256 := by have := HX.out; omega
            clear hva hvb HSTEP
            go_wp2_with (first
              | (go_at_call 43; (with_reducible refine (value_any a _).mono ?_); rintro e w2 ⟨⟨v, hv, rfl⟩, rfl⟩; rw [HVA.out] at hv ⊢; simp only [Option.getD_some] at hv; rw [hv]; clear hv)
              | (go_at_call 43; (with_reducible refine (value_any b _).mono ?_); rintro e w2 ⟨⟨v, hv, rfl⟩, rfl⟩; rw [HVB.out] at hv ⊢; simp only [Option.getD_some] at hv; rw [hv]; clear hv)
              | (at_builtin; refine wl_app rfl (.tmp 42) (.tmp 47) 22 rfl w.heap.size 5 1 1 bytesT _ u _ rfl (HO.out.alloc _) (_ + 1) (some ⟨_, 0, none⟩) 1 1 [_] rfl (rd_new _ [_] 5 (0, 0)) rfl (by simp [Value.oneCell']) (by rw [maxLen_eq]; omega) (by omega) (Nat.le_trans HB.out.size (by unfold World.alloc; simp)) ?_; intro A3 c3 w3 hown3 hg3 hat3 hb3 hc3 hc3'; have HO3 := Lib.hid hown3; have HB3 := Lib.hid ((HB.out.alloc HB.out.size _).trans hb3); have HC3 := Lib.hid (And.intro hc3 hc3'); clear hown3 hg3 hat3 hb3 hc3 hc3'))
            go_roundw
            case rel =>
              refine ⟨i + 2, u + 1, o ++ [UInt8.ofNat (x * 16 + y)], A3, c3, by omega, by go_num, by have := HU.out; omega, rfl, HC3.out.1, by have := HC3.out.2; rw [maxLen_eq] at this; exact this, own_snoc HO3.out ?_, HS2.out, HB3.out⟩
              first | rfl | (unfold bv; rw [← hor])
            case measure => simp [intOf]; omega
      · have hin : i = n := by omega
        have hfin : Hex.unhex s = some o := by
          rw [HUN.out, hin, List.drop_of_length_le (by rw [HN.out]; exact Nat.le_refl _)]
          simp [Hex.unhex]
        have HF := Lib.hid hfin
        have HR := Lib.hid (And.intro (Rd.of_own HO.out) (show o.length = u by have := HO.out.1; simpa using this))
        clear hfin hin
        go_wp2_with (first
          | (refine wl_str rfl 22 9 (.tmp 49) rfl 5 Tryd.underlying22 Tryd.underlying5 Tryd.underlying9 A6 u c6 rfl _ o HR.out.1 HR.out.2 ?_))
        go_ret2
        exact unhex_yes HF.out HB.out
  · have HNO := Lib.hid (Hex.unhex_odd s.length s (Nat.le_refl _) (by rw [HN.out]; omega))
    go_enter Tryd.func19, Tryd.ntmps19
    go_wp2
    go_ret2
    exact unhex_no HNO.out (Below.refl _ _)
end Go.Proofs.YtcnjpcmadkkhfaaDoor
