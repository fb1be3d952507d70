/- FromHex, of the reference. No statement of the seat is proved here. -/
import Derived.Test.YtcnjpcmadkkhfaaDoorShaRHex
namespace Go.Proofs.YtcnjpcmadkkhfaaDoor
set_option linter.unusedVariables false
open Go.RowKit

/-- One more digit, as the reference reckons it. -/
def rdig (x c : UInt8) : UInt8 := if 97 ≤ c.toNat then x * 16 + c - 97 + 10 else x * 16 + c - 48
def rst (a b : UInt8) : Nat → UInt8
  | 0 => 0
  | 1 => rdig 0 a
  | _ => rdig (rdig 0 a) b
def routs : List UInt8 → List UInt8
  | a :: b :: t => rdig (rdig 0 a) b :: routs t
  | _ => []
theorem rdig_first {a : UInt8} {x : Nat} (h : Hex.val a = some x) : rdig 0 a = UInt8.ofNat x := by
  have key : ∀ n : Fin 256, ∀ x, Hex.val (UInt8.ofNat n.val) = some x → rdig 0 (UInt8.ofNat n.val) = UInt8.ofNat x := by
    have k2 : ∀ n : Fin 256, (match Hex.val (UInt8.ofNat n.val) with | some x => rdig 0 (UInt8.ofNat n.val) == UInt8.ofNat x | none => true) = true := by decide +kernel
    intro n x hx
    have := k2 n
    rw [hx] at this
    simpa using this
  have h1 := key ⟨a.toNat, a.toNat_lt⟩ x
  simp only [UInt8.ofNat_toNat] at h1
  exact h1 h
theorem rdig_next {b : UInt8} {x y : Nat} (hx : x < 16) (h : Hex.val b = some y) : rdig (UInt8.ofNat x) b = UInt8.ofNat (x * 16 + y) := by
  have key : ∀ (m : Fin 16) (n : Fin 256), ∀ y, Hex.val (UInt8.ofNat n.val) = some y → rdig (UInt8.ofNat m.val) (UInt8.ofNat n.val) = UInt8.ofNat (m.val * 16 + y) := by
    have k2 : ∀ (m : Fin 16) (n : Fin 256), (match Hex.val (UInt8.ofNat n.val) with | some y => rdig (UInt8.ofNat m.val) (UInt8.ofNat n.val) == UInt8.ofNat (m.val * 16 + y) | none => true) = true := by decide +kernel
    intro m n y hy
    have := k2 m n
    rw [hy] at this
    simpa using this
  have h1 := key ⟨x, hx⟩ ⟨b.toNat, b.toNat_lt⟩ y
  simp only [UInt8.ofNat_toNat] at h1
  exact h1 h
theorem routs_unhex : ∀ (n : Nat) (s l : List UInt8), s.length ≤ n → Hex.unhex s = some l → routs s = l := by
  intro n
  induction n with
  | zero =>
    intro s l hs h
    have : s = [] := List.eq_nil_of_length_eq_zero (by omega)
    subst this
    injection h with h
  | succ n ih =>
    intro s l hs h
    match s, h with
    | [], h => injection h with h
    | [_], h => cases h
    | a :: b :: t, h =>
      rw [Hex.unhex] at h
      cases ha : Hex.val a with
      | none => rw [ha] at h; cases h
      | some x =>
        cases hb : Hex.val b with
        | none => rw [ha, hb] at h; cases h
        | some y =>
          rw [ha, hb] at h
          cases ht : Hex.unhex t with
          | none => rw [ht] at h; cases h
          | some r =>
            rw [ht] at h
            injection h with h
            subst h
            show rdig (rdig 0 a) b :: routs t = _
            rw [rdig_first ha, rdig_next (Hex.val_lt ha) hb, ih t r (by simp at hs; omega) ht]
theorem routs_step {s : List UInt8} {i : Nat} {a b : UInt8} (ha : s[i]? = some a) (hb : s[i + 1]? = some b) : routs (s.drop i) = rst a b 2 :: routs (s.drop (i + 2)) := by
  obtain ⟨h1, rfl⟩ := List.getElem?_eq_some_iff.1 ha
  obtain ⟨h2, rfl⟩ := List.getElem?_eq_some_iff.1 hb
  rw [List.drop_eq_getElem_cons h1, List.drop_eq_getElem_cons h2]
  rfl
theorem rdig_hi (x c : UInt8) (h : 97 ≤ c.toNat) : ((rdig x c).toNat : Int) = ((x.toNat : Int) * 16 + (c.toNat : Int) - 87) % 256 := by
  have h1 := x.toNat_lt
  have h2 := c.toNat_lt
  unfold rdig
  rw [if_pos h, UInt8.toNat_add, UInt8.toNat_sub, UInt8.toNat_add, UInt8.toNat_mul]
  simp only [UInt8.reduceToNat]
  omega
theorem rdig_lo (x c : UInt8) (h : ¬ 97 ≤ c.toNat) : ((rdig x c).toNat : Int) = ((x.toNat : Int) * 16 + (c.toNat : Int) - 48) % 256 := by
  have h1 := x.toNat_lt
  have h2 := c.toNat_lt
  unfold rdig
  rw [if_neg h, UInt8.toNat_sub, UInt8.toNat_add, UInt8.toNat_mul]
  simp only [UInt8.reduceToNat]
  omega
def RUnPost (s : List UInt8) (w : World) (e : Ending) (w' : World) : Prop :=
  (∃ t : List UInt8, ∃ b : Bool, (Hex.unhex s = some t ∧ b = true ∨ Hex.unhex s = none ∧ t = [] ∧ b = false) ∧ e = .returned (.tuple #[sv t, .bool b])) ∧ Below w.heap.size w w'
theorem run_no {s : List UInt8} {w w' : World} (h : Hex.unhex s = none) (hb : Below w.heap.size w w') : RUnPost s w (.returned (.tuple #[.string { data := #[] }, .bool false])) w' := ⟨⟨[], false, .inr ⟨h, rfl, rfl⟩, rfl⟩, hb⟩
theorem run_yes {s l : List UInt8} {w w' : World} (h : Hex.unhex s = some l) (hb : Below w.heap.size w w') : RUnPost s w (.returned (.tuple #[sv l, .bool true])) w' := ⟨⟨l, true, .inl ⟨h, rfl⟩, rfl⟩, hb⟩
set_option maxRecDepth 100000 in
set_option maxHeartbeats 4000000 in
theorem runhex_any (s : List UInt8) (w : World) (hb : s.length ≤ 1099511627776) : Calls Tryd.prog 20 #[sv s] w (RUnPost s w) := by
  have hsz := str_size s
  obtain ⟨n, hn⟩ : ∃ n, s.length = n := ⟨_, rfl⟩
  rw [hn] at hsz hb
  have HN := Lib.hid hn
  clear hn
  have tm : ((n : Nat) : Int).tmod 2 = (n : Int) % 2 := Int.tmod_eq_emod_of_nonneg (by omega)
  by_cases hodd : (n : Int) % 2 = 1
  · have HNO := Lib.hid (Hex.unhex_odd s.length s (Nat.le_refl _) (by rw [HN.out]; omega))
    go_enter Tryd.func20, Tryd.ntmps20
    go_wp2
    go_ret2
    exact run_no HNO.out (Below.refl _ _)
  · have hev : n % 2 = 0 := by omega
    have hne : ((n : Int) % 2 == 1) = false := by simpa using hodd
    go_enter Tryd.func20, Tryd.ntmps20
    go_wp2
    go_loopw [4, 5] (fun v q wr => ∃ (i u : Nat) (o : List UInt8) (A6 : Option Addr) (c6 : Nat), i ≤ n ∧ q = .int .i64 i ∧ i = 2 * u ∧ v = .slice A6 u c6 ∧ u ≤ c6 ∧ c6 ≤ 9223372036854775807 ∧ wr.ownsRow w.heap.size 5 1 (.slice A6 u c6) u (o.map bv) ∧ routs s = o ++ routs (s.drop i) ∧ Below w.heap.size w wr) (fun _ q _ => n - (intOf q).toNat)
    case atStart => exact ⟨0, 0, [], none, 0, by omega, rfl, rfl, rfl, Nat.le_refl _, by omega, own_nil _ _ _ _, rfl, Below.refl _ _⟩
    clear tm hodd
    case round =>
      obtain ⟨i, u, o, A6, c6, hi, rfl, hu, rfl, hc6, hc6', hown, hun, hbel⟩ := hrel
      have HO := Lib.hid hown
      have HB := Lib.hid hbel
      have HUN := Lib.hid hun
      clear hown hbel hun
      by_cases hlt : i < n
      · have hlt2 : i + 1 < n := by omega
        have hlt3 : (i : Int) + 1 < (n : Int) := by omega
        obtain ⟨a, hai⟩ : ∃ a, s[i]? = some a := ⟨_, List.getElem?_eq_getElem (by have := HN.out; omega)⟩
        obtain ⟨b, hbi⟩ : ∃ b, s[i + 1]? = some b := ⟨_, List.getElem?_eq_getElem (by have := HN.out; omega)⟩
        have HSTEP := Lib.hid (routs_step hai hbi)
        have ga : (str s)[i]'(by rw [hsz]; exact hlt) = a := by
          have h := str_get hai
          rw [getElem?_pos (str s) i (by rw [hsz]; exact hlt)] at h
          injection h
        have gb : (str s)[i + 1]'(by rw [hsz]; exact hlt2) = b := by
          have h := str_get hbi
          rw [getElem?_pos (str s) (i + 1) (by rw [hsz]; exact hlt2)] at h
          injection h
        have HU := Lib.hid hu
        have hu2 : u ≤ n := by omega
        clear hai hbi hu
        go_wp2_with fail
        go_loopw [6, 7] (fun v q wz => ∃ k : Nat, k ≤ 2 ∧ q = .int .i64 k ∧ v = .int .u8 ((rst a b k).toNat : Int) ∧ Below wr.heap.size wr wz) (fun _ q _ => 2 - (intOf q).toNat)
        case atStart => exact ⟨0, by omega, rfl, rfl, Below.refl _ _⟩
        case round =>
          obtain ⟨k, hk2, rfl, rfl, hbz⟩ := hrel
          have HBZ := Lib.hid hbz
          clear hbz
          have la := a.toNat_lt
          have lb := b.toNat_lt
          by_cases hk : k < 2
          · rcases (show k = 0 ∨ k = 1 by omega) with rfl | rfl
            · have r0 : ((rst a b 0).toNat : Int) = 0 := rfl
              by_cases h97 : 97 ≤ a.toNat
              · have HV := Lib.hid (show ((rst a b (0 + 1)).toNat : Int) = _ from rdig_hi 0 a h97)
                go_wp2
                go_roundw
                case rel => exact ⟨0 + 1, by omega, rfl, by rw [HV.out]; congr 1; simp only [UInt8.reduceToNat]; omega, HBZ.out⟩
                case measure => simp [intOf]
              · have HV := Lib.hid (show ((rst a b (0 + 1)).toNat : Int) = _ from rdig_lo 0 a h97)
                go_wp2
                go_roundw
                case rel => exact ⟨0 + 1, by omega, rfl, by rw [HV.out]; congr 1; simp only [UInt8.reduceToNat]; omega, HBZ.out⟩
                case measure => simp [intOf]
            · obtain ⟨x, hx⟩ : ∃ x, rst a b 1 = x := ⟨_, rfl⟩
              rw [hx]
              have lx := x.toNat_lt
              by_cases h97 : 97 ≤ b.toNat
              · have HV := Lib.hid (show ((rst a b (1 + 1)).toNat : Int) = ((x.toNat : Int) * 16 + (b.toNat : Int) - 87) % 256 by rw [← hx]; exact rdig_hi (rst a b 1) b h97)
                clear hx
                go_wp2
                go_roundw
                case rel => exact ⟨1 + 1, by omega, rfl, by rw [HV.out]; congr 1; omega, HBZ.out⟩
                case measure => simp [intOf]
              · have HV := Lib.hid (show ((rst a b (1 + 1)).toNat : Int) = ((x.toNat : Int) * 16 + (b.toNat : Int) - 48) % 256 by rw [← hx]; exact rdig_lo (rst a b 1) b h97)
                clear hx
                go_wp2
                go_roundw
                case rel => exact ⟨1 + 1, by omega, rfl, by rw [HV.out]; congr 1; omega, HBZ.out⟩
                case measure => simp [intOf]
          · have HS2 := Lib.hid (show routs s = (o ++ [rst a b k]) ++ routs (s.drop (i + 2)) by rw [HUN.out, HSTEP.out, show k = 2 by omega]; simp)
            have HOK := Lib.hid (own_keep HO.out HBZ.out (Nat.le_refl _))
            have HBQ := Lib.hid (HB.out.trans (HBZ.out.mono HB.out.size))
            clear ga gb la lb
            go_wp2_with (first
              | (at_builtin; refine wl_app rfl (.tmp 41) (.tmp 43) 22 rfl w.heap.size 5 1 1 bytesT _ u _ rfl (HOK.out.alloc _) (_ + 1) (some ⟨_, 0, none⟩) 1 1 [_] rfl (rd_new _ [_] 5 (0, 0)) rfl (by simp [Value.oneCell']) (by rw [maxLen_eq]; omega) (by omega) (Nat.le_trans HBQ.out.size (by unfold World.alloc; simp)) ?_; intro A3 c3 w3 hown3 hg3 hat3 hb3 hc3 hc3'; have HO3 := Lib.hid hown3; have HB3 := Lib.hid ((HBQ.out.alloc HBQ.out.size _).trans hb3); have HC3 := Lib.hid (And.intro hc3 hc3'); clear hown3 hg3 hat3 hb3 hc3 hc3'))
            go_roundw
            case rel => exact ⟨i + 2, u + 1, o ++ [rst a b k], A3, c3, by omega, by go_num, by have := HU.out; omega, rfl, HC3.out.1, by have := HC3.out.2; rw [maxLen_eq] at this; exact this, own_snoc HO3.out rfl, HS2.out, HB3.out⟩
            case measure => simp [intOf]; omega
      · have hin : i = n := by omega
        have hro : routs s = o := by
          rw [HUN.out, hin, List.drop_of_length_le (by rw [HN.out]; exact Nat.le_refl _)]
          simp [routs]
        have HR := Lib.hid (And.intro (Rd.of_own HO.out) (show o.length = u by have := HO.out.1; simpa using this))
        have hol : o.length ≤ 1099511627776 := by have := HR.out.2; omega
        clear hin
        cases hun : Hex.unhex s with
        | none =>
          have hne : Hex.hex o ≠ s := fun h => by
            have := Hex.unhex_hex o
            rw [h, hun] at this
            cases this
          obtain ⟨H, hH⟩ : ∃ H, Hex.hex o = H := ⟨_, rfl⟩
          rw [hH] at hne
          have q : ((str H).toList == (str s).toList) = false := by
            rw [str_toList, str_toList]; simpa using hne
          have HNO := Lib.hid hun
          have C := Lib.hid (fun W => show Calls Tryd.prog 22 #[sv o] W (fun e w' => e = .returned (sv H) ∧ Below W.heap.size W w') from hH ▸ rhex_any o W hol)
          clear hne hH hun hro
          go_wp2_with (first
            | (refine wl_str rfl 22 9 (.tmp 45) rfl 5 Tryd.underlying22 Tryd.underlying5 Tryd.underlying9 A6 u c6 rfl _ o HR.out.1 HR.out.2 ?_)
            | (go_at_call 22; refine (C.out _).mono ?_; rintro e w2 ⟨rfl, hb2⟩; have HB2 := Lib.hid (bt HB.out hb2); clear hb2))
          go_ret2
          exact run_no HNO.out HB2.out
        | some l =>
          have hol2 : o = l := by rw [← hro]; exact routs_unhex s.length s l (Nat.le_refl _) hun
          have hH : Hex.hex o = s := by rw [hol2]; exact Hex.hex_unhex s.length s l (Nat.le_refl _) hun
          have q : ((str s).toList == (str s).toList) = true := by simp
          have HYES := Lib.hid (show Hex.unhex s = some o by rw [hol2]; exact hun)
          have C := Lib.hid (fun W => show Calls Tryd.prog 22 #[sv o] W (fun e w' => e = .returned (sv s) ∧ Below W.heap.size W w') from by have h := rhex_any o W hol; unfold HexPost at h; rw [hH] at h; exact h)
          clear hH hun hro hol2
          go_wp2_with (first
            | (refine wl_str rfl 22 9 (.tmp 45) rfl 5 Tryd.underlying22 Tryd.underlying5 Tryd.underlying9 A6 u c6 rfl _ o HR.out.1 HR.out.2 ?_)
            | (go_at_call 22; refine (C.out _).mono ?_; rintro e w2 ⟨rfl, hb2⟩; have HB2 := Lib.hid (bt HB.out hb2); have HR2 := Lib.hid (HR.out.1.below' hb2 (Nat.le_refl _)); clear hb2)
            | (refine wl_str rfl 22 9 (.tmp 50) rfl 5 Tryd.underlying22 Tryd.underlying5 Tryd.underlying9 A6 u c6 rfl _ o HR2.out HR.out.2 ?_))
          go_ret2
          exact run_yes HYES.out HB2.out
end Go.Proofs.YtcnjpcmadkkhfaaDoor
