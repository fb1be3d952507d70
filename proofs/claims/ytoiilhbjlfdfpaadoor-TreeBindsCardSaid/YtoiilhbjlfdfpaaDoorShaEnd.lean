/- End, of the package that sums. No statement of the seat is proved here. -/
import Derived.Test.YtoiilhbjlfdfpaaDoorShaAdd2
namespace Go.Proofs.YtoiilhbjlfdfpaaDoor
set_option linter.unusedVariables false
open Go.RowKit

def endS (s : Sha.St) (N : Int) (n : Nat) : Sha.St := if vld N n then s else Sha.begin_
def endR (rest : List UInt8) (N : Int) (n : Nat) : List UInt8 := if vld N n then rest else []
def endN (N : Int) (n : Nat) : Int := if vld N n then N else 0
def EndPost (s : Sha.St) (rest : List UInt8) (N : Int) (w : World) (e : Ending) (w' : World) : Prop :=
  e = .returned (sv (Sha.end_ (endS s N rest.length) (endR rest N rest.length) (endN N rest.length).toNat)) ∧ Below w.heap.size w w'
structure ERel (s1 : Sha.St) (A1 : Option Addr) (n1 c1 : Nat) (r1 : List UInt8) (N1 : Int) (w wx : World) : Prop where
  below : Below w.heap.size w wx
  box : TRow wx w.heap.size s1 (.slice A1 n1 c1) N1
  rd : Rd wx w.heap.size A1 (r1.map bv)
  len : r1.length = n1
  cap : n1 ≤ c1
  max : c1 ≤ maxLen
  small : n1 < 64
  lo : 0 ≤ N1
  hi : N1 ≤ 1099511627776
/-- The tail so far. -/
structure LRel (T : List UInt8) (v : Value) (wx wr : World) : Prop where
  below : Below wx.heap.size wx wr
  own : wr.ownsRow wx.heap.size 5 1 v T.length (T.map bv)

theorem lenBytes_take (N i : Nat) (h : i < 8) : (Sha.lenBytes N).take (i + 1) = (Sha.lenBytes N).take i ++ [UInt8.ofNat (N * 8 / 2 ^ (56 - 8 * i) % 256)] := by
  rw [List.take_add_one]
  congr 1
  simp [Sha.lenBytes, h]
theorem bv_ofNat (x : Nat) (h : x < 256) : bv (UInt8.ofNat x) = .int .u8 (x : Int) := by
  unfold bv
  rw [UInt8.toNat_ofNat']
  congr 2
  omega
theorem own_snoc {w : World} {B : Nat} {e : TypeId} {v : Value} {n : Nat} {xs : List UInt8} {y : Value} {b : UInt8} (h : w.ownsRow B e 1 v n (xs.map bv ++ [y])) (hy : y = bv b) : w.ownsRow B e 1 v n ((xs ++ [b]).map bv) := by
  subst hy
  rw [List.map_append]; exact h
theorem own_snocs {w : World} {B : Nat} {e : TypeId} {v : Value} {n : Nat} {xs ys : List UInt8} {zs : List Value} (h : w.ownsRow B e 1 v n (xs.map bv ++ zs)) (hy : zs = ys.map bv) : w.ownsRow B e 1 v n ((xs ++ ys).map bv) := by
  subst hy
  rw [List.map_append]; exact h
theorem bv_u8 (y : UInt32) : bv y.toUInt8 = .int .u8 (nv y % 256) := by
  simp [bv, nv]
theorem wb_list (x : UInt32) (a b c d : Int) (ha : a = nv x / 16777216 % 256) (hb : b = nv x / 65536 % 256) (hc : c = nv x / 256 % 256) (hd : d = nv x % 256) :
    [Value.int .u8 a, .int .u8 b, .int .u8 c, .int .u8 d] = (Sha.wordBytes x).map bv := by
  subst ha; subst hb; subst hc; subst hd
  have h1 := nv_shr x 24 (by decide) 16777216 (by decide)
  have h2 := nv_shr x 16 (by decide) 65536 (by decide)
  have h3 := nv_shr x 8 (by decide) 256 (by decide)
  simp only [Sha.wordBytes, List.map_cons, List.map_nil, bv_u8]
  rw [h1, h2, h3]
  rfl
theorem idx8 (p : Sha.St) (w : World) (v : Value) (i : Nat) (hi : i < 8) (hv : (ac p)[i]? = some v) : (Instr.index 68 (av p) (.int .i64 (i : Int))).run Tryd.prog w = .ok v w := by
  rcases (show i = 0 ∨ i = 1 ∨ i = 2 ∨ i = 3 ∨ i = 4 ∨ i = 5 ∨ i = 6 ∨ i = 7 by omega) with rfl | rfl | rfl | rfl | rfl | rfl | rfl | rfl <;>
  · injection hv with hv
    subst hv
    have h1 := run_sizeOf_of (P := Tryd.prog) (w := w) 67 1 (by kernel_rfl)
    simp [Instr.index, asIntOf, run_underlying Tryd.underlying68, part, h1, ac]
theorem zeros_lt (n j : Nat) (h : n < 64) (hj : j ≤ Sha.zeros n) (h2 : ¬ ((n + 1 + j : Nat) : Int) % 64 = 56) : j + 1 ≤ Sha.zeros n := by
  unfold Sha.zeros at *; omega
theorem zeros_eq (n j : Nat) (h : n < 64) (hj : j ≤ Sha.zeros n) (h2 : ((n + 1 + j : Nat) : Int) % 64 = 56) : j = Sha.zeros n := by
  unfold Sha.zeros at *; omega
theorem zeros_le (n : Nat) : Sha.zeros n < 64 := by unfold Sha.zeros; omega

set_option maxRecDepth 100000 in
set_option maxHeartbeats 4000000 in
theorem end_any (s : Sha.St) (A : Option Addr) (n c : Nat) (rest : List UInt8) (N : Int) (w : World)
    (hA : Rd w w.heap.size A (rest.map bv)) (hn : rest.length = n) (hc : n ≤ c) (hm : c ≤ maxLen) (hRL : RoundsLie w) (hBL : BeginLies w) :
    Calls Tryd.prog 51 #[tv s (.slice A n c) N] w (EndPost s rest N w) := by
  have HV := Lib.hid (fun w => valid_any s A n c N w hc hm)
  rw [maxLen_eq] at hm
  go_enter Tryd.func51, Tryd.ntmps51
  go_upto_region 1 with fail
  rename_i K1 h1 K h
  have key : ∀ (s1 : Sha.St) (A1 : Option Addr) (n1 c1 : Nat) (r1 : List UInt8) (N1 : Int) (u11 u12 u13 u14 : Value) (wx : World), ERel s1 A1 n1 c1 r1 N1 w wx → s1 = endS s N rest.length → r1 = endR rest N rest.length → N1 = endN N rest.length →
      K1 { tmps := #[tv s (.slice A n c) N, .pointer (some ⟨w.heap.size, 0, none⟩), .string { data := #[] }, undef, undef, undef, undef, undef, undef, undef, undef, u11, u12, u13, u14, undef, undef, undef, undef, undef, undef, undef, undef, undef, undef, undef, undef, undef, undef, undef, undef, undef, undef, undef, undef, undef, undef, undef, undef, undef, undef, undef, undef, undef, undef, undef, undef, undef, undef, undef, undef, undef, undef, undef, undef, undef, undef, undef, undef, undef, undef, undef, undef, undef, undef, undef, undef, undef, undef, undef, undef, undef, undef, undef], defers := [] } wx := by
    clear h K HV
    intro s1 A1 n1 c1 r1 N1 u11 u12 u13 u14 wx hx e1 e2 e3
    have HX := Lib.hid hx
    have HE := Lib.hid (And.intro e1 (And.intro e2 e3))
    have hs := hx.small
    have hlo := hx.lo
    have hhi := hx.hi
    have hcap := hx.cap
    have hmax := hx.max
    rw [maxLen_eq] at hmax
    obtain ⟨c0, c1', c2, c3, c4, c5, c6, c7, c8, c9⟩ := hx.box.ten
    have HRB := Lib.hid hRL
    obtain ⟨nn, hnn⟩ := Int.eq_ofNat_of_zero_le hlo
    have HNN := Lib.hid hnn
    clear hx e1 e2 e3 hRL hBL hA hn hc hm hnn
    refine h1 _ _ ?_
    clear h1
    clear c0 c1' c2 c3 c4 c5 c6 c7 c9
    go_wp2_with (first
      | (at_builtin; refine wl_app rfl (.const (.slice none 0 0)) (.tmp 16) 50 rfl wx.heap.size 5 1 1 bytesT _ 0 [] rfl (own_nil _ _ _ _) w.heap.size A1 n1 c1 (r1.map bv) rfl HX.out.rd (by simpa using HX.out.len) (by simp [bv, Value.oneCell']) (by rw [maxLen_eq]; omega) (by omega) (Nat.le_refl _) ?_; intro A2 c2 w2 hown2 hg2 hat2 hb2 hc2 hc2'; simp only [Nat.zero_add, List.nil_append] at hown2 hc2; have HO2 := Lib.hid hown2; have HB2 := Lib.hid hb2; clear hown2 hg2 hat2 hb2 hc2 hc2' c8)
      | (at_builtin; refine wl_app rfl (.tmp 18) (.tmp 19) 50 rfl wx.heap.size 5 1 1 bytesT _ n1 _ rfl (HO2.out.alloc _) (w2.heap.size + 1) (some ⟨w2.heap.size, 0, none⟩) 1 1 ([128].map bv) rfl (rd_new w2 ([128].map bv) 5 (0, 0)) rfl (by simp [bv, Value.oneCell']) (by rw [maxLen_eq]; omega) (by omega) (Nat.le_trans HB2.out.size (by unfold World.alloc; simp)) ?_; intro A3 c3 w3 hown3 hg3 hat3 hb3 hc3 hc3'; rw [← List.map_append] at hown3; have HO3 := Lib.hid hown3; have HB3 := Lib.hid ((HB2.out.alloc HB2.out.size _).trans hb3); clear hown3 hg3 hat3 hb3))
    have hc3a := hc3
    have hc3b := hc3'
    rw [maxLen_eq] at hc3b
    have hz := zeros_le n1
    clear hc3 hc3' HB2 HO2
    go_loopw [3] (fun v wr => ∃ (j t : Nat) (A' : Option Addr) (c' : Nat), t = n1 + 1 + j ∧ v = .slice A' t c' ∧ t ≤ c' ∧ c' ≤ 9223372036854775807 ∧ j ≤ Sha.zeros n1 ∧ wr.ownsRow wx.heap.size 5 1 (.slice A' t c') t ((r1 ++ [128] ++ List.replicate j 0).map bv) ∧ Below wx.heap.size wx wr) (fun v _ => match v with | .slice _ n _ => 200 - n | _ => 0)
    case atStart => exact ⟨0, n1 + 1, A3, c3, rfl, rfl, hc3a, hc3b, Nat.zero_le _, by simpa using HO3.out, HB3.out⟩
    clear hc3a hc3b HO3 HB3
    case round =>
      obtain ⟨j, t, A', c', ht, rfl, hc', hc'', hj, hown, hbel⟩ := hrel
      have HO := Lib.hid hown
      have HB := Lib.hid hbel
      have htm : ((t : Nat) : Int).tmod 64 = (t : Int) % 64 := Int.tmod_eq_emod_of_nonneg (by omega)
      have ht2 : t ≤ 128 := by omega
      by_cases h56 : (t : Int) % 64 = 56
      · have hje : j = Sha.zeros n1 := zeros_eq n1 j hs hj (by rw [← ht]; exact h56)
        have HJ := Lib.hid hje
        have HT := Lib.hid ht
        have d9 := (TRow.ten (Row.belowS HX.out.box hbel (Nat.le_refl _))).c9
        rw [HNN.out] at d9
        have hnb : (nn : Int) ≤ 1099511627776 := by have := HNN.out; omega
        have hnb2 : (nn : Int) * 8 ≤ 8796093022208 := by omega
        have HT0 := Lib.hid (show wr.ownsRow wx.heap.size 5 1 (.slice A' t c') t ((r1 ++ [128] ++ List.replicate (Sha.zeros n1) 0 ++ (Sha.lenBytes nn).take 0).map bv) by rw [← hje]; simpa using hown)
        clear hown hbel hje ht hj HO hlo hhi
        go_wp2
        go_loopw [3, 32] (fun v i wz => ∃ (k u : Nat) (A2 : Option Addr) (c2 : Nat), k ≤ 8 ∧ i = .int .i64 k ∧ u = t + k ∧ v = .slice A2 u c2 ∧ u ≤ c2 ∧ c2 ≤ 9223372036854775807 ∧ wz.ownsRow wx.heap.size 5 1 (.slice A2 u c2) u ((r1 ++ [128] ++ List.replicate (Sha.zeros n1) 0 ++ (Sha.lenBytes nn).take k).map bv) ∧ Below wx.heap.size wx wz) (fun _ i _ => 8 - (intOf i).toNat)
        case atStart => exact ⟨0, t, A', c', by omega, rfl, rfl, rfl, hc', hc'', HT0.out, HB.out⟩
        clear HT0
        case round =>
          obtain ⟨k, u, A2, c2, hk8, rfl, hu, rfl, hc2, hc2', hown, hbel⟩ := hrel
          have HO := Lib.hid hown
          have HB2 := Lib.hid hbel
          have HU := Lib.hid hu
          have hu2 : u ≤ 136 := by omega
          clear hown hbel hu
          by_cases hk : k < 8
          · have hlb := lenBytes_take nn k hk
            have HLB := Lib.hid hlb
            clear hlb
            rcases (show k = 0 ∨ k = 1 ∨ k = 2 ∨ k = 3 ∨ k = 4 ∨ k = 5 ∨ k = 6 ∨ k = 7 by omega) with rfl | rfl | rfl | rfl | rfl | rfl | rfl | rfl
            · go_wp2_with (first
                | (at_builtin; refine wl_app rfl (.tmp 35) (.tmp 42) 50 rfl wx.heap.size 5 1 1 bytesT _ u _ rfl (HO.out.alloc _) (_ + 1) (some ⟨_, 0, none⟩) 1 1 [_] rfl (rd_new _ [_] 5 (0, 0)) rfl (by simp [Value.oneCell']) (by rw [maxLen_eq]; omega) (by omega) (Nat.le_trans HB2.out.size (by unfold World.alloc; simp)) ?_; intro A3 c3 w3 hown3 hg3 hat3 hb3 hc3 hc3'; have HO3 := Lib.hid hown3; have HB3 := Lib.hid ((HB2.out.alloc HB2.out.size _).trans hb3); have HC3 := Lib.hid (And.intro hc3 hc3'); clear hown3 hg3 hat3 hb3 hc3 hc3'))
              go_roundw
              case rel =>
                refine ⟨0 + 1, u + 1, A3, c3, by omega, rfl, by have := HU.out; omega, rfl, HC3.out.1, by have := HC3.out.2; rw [maxLen_eq] at this; exact this, ?_, HB3.out⟩
                rw [HLB.out, ← List.append_assoc]
                refine own_snoc HO3.out ?_
                rw [bv_ofNat _ (Nat.mod_lt _ (by decide))]
                congr 1
                all_goals (try simp only [Nat.reduceMul, Nat.reduceSub, Nat.reducePow])
                all_goals (try omega)
              case measure => simp [intOf]
            · go_wp2_with (first
                | (at_builtin; refine wl_app rfl (.tmp 35) (.tmp 42) 50 rfl wx.heap.size 5 1 1 bytesT _ u _ rfl (HO.out.alloc _) (_ + 1) (some ⟨_, 0, none⟩) 1 1 [_] rfl (rd_new _ [_] 5 (0, 0)) rfl (by simp [Value.oneCell']) (by rw [maxLen_eq]; omega) (by omega) (Nat.le_trans HB2.out.size (by unfold World.alloc; simp)) ?_; intro A3 c3 w3 hown3 hg3 hat3 hb3 hc3 hc3'; have HO3 := Lib.hid hown3; have HB3 := Lib.hid ((HB2.out.alloc HB2.out.size _).trans hb3); have HC3 := Lib.hid (And.intro hc3 hc3'); clear hown3 hg3 hat3 hb3 hc3 hc3'))
              go_roundw
              case rel =>
                refine ⟨1 + 1, u + 1, A3, c3, by omega, rfl, by have := HU.out; omega, rfl, HC3.out.1, by have := HC3.out.2; rw [maxLen_eq] at this; exact this, ?_, HB3.out⟩
                rw [HLB.out, ← List.append_assoc]
                refine own_snoc HO3.out ?_
                rw [bv_ofNat _ (Nat.mod_lt _ (by decide))]
                congr 1
                all_goals (try simp only [Nat.reduceMul, Nat.reduceSub, Nat.reducePow])
                all_goals (try omega)
              case measure => simp [intOf]
            · go_wp2_with (first
                | (at_builtin; refine wl_app rfl (.tmp 35) (.tmp 42) 50 rfl wx.heap.size 5 1 1 bytesT _ u _ rfl (HO.out.alloc _) (_ + 1) (some ⟨_, 0, none⟩) 1 1 [_] rfl (rd_new _ [_] 5 (0, 0)) rfl (by simp [Value.oneCell']) (by rw [maxLen_eq]; omega) (by omega) (Nat.le_trans HB2.out.size (by unfold World.alloc; simp)) ?_; intro A3 c3 w3 hown3 hg3 hat3 hb3 hc3 hc3'; have HO3 := Lib.hid hown3; have HB3 := Lib.hid ((HB2.out.alloc HB2.out.size _).trans hb3); have HC3 := Lib.hid (And.intro hc3 hc3'); clear hown3 hg3 hat3 hb3 hc3 hc3'))
              go_roundw
              case rel =>
                refine ⟨2 + 1, u + 1, A3, c3, by omega, rfl, by have := HU.out; omega, rfl, HC3.out.1, by have := HC3.out.2; rw [maxLen_eq] at this; exact this, ?_, HB3.out⟩
                rw [HLB.out, ← List.append_assoc]
                refine own_snoc HO3.out ?_
                rw [bv_ofNat _ (Nat.mod_lt _ (by decide))]
                congr 1
                all_goals (try simp only [Nat.reduceMul, Nat.reduceSub, Nat.reducePow])
                all_goals (try omega)
              case measure => simp [intOf]
            · go_wp2_with (first
                | (at_builtin; refine wl_app rfl (.tmp 35) (.tmp 42) 50 rfl wx.heap.size 5 1 1 bytesT _ u _ rfl (HO.out.alloc _) (_ + 1) (some ⟨_, 0, none⟩) 1 1 [_] rfl (rd_new _ [_] 5 (0, 0)) rfl (by simp [Value.oneCell']) (by rw [maxLen_eq]; omega) (by omega) (Nat.le_trans HB2.out.size (by unfold World.alloc; simp)) ?_; intro A3 c3 w3 hown3 hg3 hat3 hb3 hc3 hc3'; have HO3 := Lib.hid hown3; have HB3 := Lib.hid ((HB2.out.alloc HB2.out.size _).trans hb3); have HC3 := Lib.hid (And.intro hc3 hc3'); clear hown3 hg3 hat3 hb3 hc3 hc3'))
              go_roundw
              case rel =>
                refine ⟨3 + 1, u + 1, A3, c3, by omega, rfl, by have := HU.out; omega, rfl, HC3.out.1, by have := HC3.out.2; rw [maxLen_eq] at this; exact this, ?_, HB3.out⟩
                rw [HLB.out, ← List.append_assoc]
                refine own_snoc HO3.out ?_
                rw [bv_ofNat _ (Nat.mod_lt _ (by decide))]
                congr 1
                all_goals (try simp only [Nat.reduceMul, Nat.reduceSub, Nat.reducePow])
                all_goals (try omega)
              case measure => simp [intOf]
            · go_wp2_with (first
                | (at_builtin; refine wl_app rfl (.tmp 35) (.tmp 42) 50 rfl wx.heap.size 5 1 1 bytesT _ u _ rfl (HO.out.alloc _) (_ + 1) (some ⟨_, 0, none⟩) 1 1 [_] rfl (rd_new _ [_] 5 (0, 0)) rfl (by simp [Value.oneCell']) (by rw [maxLen_eq]; omega) (by omega) (Nat.le_trans HB2.out.size (by unfold World.alloc; simp)) ?_; intro A3 c3 w3 hown3 hg3 hat3 hb3 hc3 hc3'; have HO3 := Lib.hid hown3; have HB3 := Lib.hid ((HB2.out.alloc HB2.out.size _).trans hb3); have HC3 := Lib.hid (And.intro hc3 hc3'); clear hown3 hg3 hat3 hb3 hc3 hc3'))
              go_roundw
              case rel =>
                refine ⟨4 + 1, u + 1, A3, c3, by omega, rfl, by have := HU.out; omega, rfl, HC3.out.1, by have := HC3.out.2; rw [maxLen_eq] at this; exact this, ?_, HB3.out⟩
                rw [HLB.out, ← List.append_assoc]
                refine own_snoc HO3.out ?_
                rw [bv_ofNat _ (Nat.mod_lt _ (by decide))]
                congr 1
                all_goals (try simp only [Nat.reduceMul, Nat.reduceSub, Nat.reducePow])
                all_goals (try omega)
              case measure => simp [intOf]
            · go_wp2_with (first
                | (at_builtin; refine wl_app rfl (.tmp 35) (.tmp 42) 50 rfl wx.heap.size 5 1 1 bytesT _ u _ rfl (HO.out.alloc _) (_ + 1) (some ⟨_, 0, none⟩) 1 1 [_] rfl (rd_new _ [_] 5 (0, 0)) rfl (by simp [Value.oneCell']) (by rw [maxLen_eq]; omega) (by omega) (Nat.le_trans HB2.out.size (by unfold World.alloc; simp)) ?_; intro A3 c3 w3 hown3 hg3 hat3 hb3 hc3 hc3'; have HO3 := Lib.hid hown3; have HB3 := Lib.hid ((HB2.out.alloc HB2.out.size _).trans hb3); have HC3 := Lib.hid (And.intro hc3 hc3'); clear hown3 hg3 hat3 hb3 hc3 hc3'))
              go_roundw
              case rel =>
                refine ⟨5 + 1, u + 1, A3, c3, by omega, rfl, by have := HU.out; omega, rfl, HC3.out.1, by have := HC3.out.2; rw [maxLen_eq] at this; exact this, ?_, HB3.out⟩
                rw [HLB.out, ← List.append_assoc]
                refine own_snoc HO3.out ?_
                rw [bv_ofNat _ (Nat.mod_lt _ (by decide))]
                congr 1
                all_goals (try simp only [Nat.reduceMul, Nat.reduceSub, Nat.reducePow])
                all_goals (try omega)
              case measure => simp [intOf]
            · go_wp2_with (first
                | (at_builtin; refine wl_app rfl (.tmp 35) (.tmp 42) 50 rfl wx.heap.size 5 1 1 bytesT _ u _ rfl (HO.out.alloc _) (_ + 1) (some ⟨_, 0, none⟩) 1 1 [_] rfl (rd_new _ [_] 5 (0, 0)) rfl (by simp [Value.oneCell']) (by rw [maxLen_eq]; omega) (by omega) (Nat.le_trans HB2.out.size (by unfold World.alloc; simp)) ?_; intro A3 c3 w3 hown3 hg3 hat3 hb3 hc3 hc3'; have HO3 := Lib.hid hown3; have HB3 := Lib.hid ((HB2.out.alloc HB2.out.size _).trans hb3); have HC3 := Lib.hid (And.intro hc3 hc3'); clear hown3 hg3 hat3 hb3 hc3 hc3'))
              go_roundw
              case rel =>
                refine ⟨6 + 1, u + 1, A3, c3, by omega, rfl, by have := HU.out; omega, rfl, HC3.out.1, by have := HC3.out.2; rw [maxLen_eq] at this; exact this, ?_, HB3.out⟩
                rw [HLB.out, ← List.append_assoc]
                refine own_snoc HO3.out ?_
                rw [bv_ofNat _ (Nat.mod_lt _ (by decide))]
                congr 1
                all_goals (try simp only [Nat.reduceMul, Nat.reduceSub, Nat.reducePow])
                all_goals (try omega)
              case measure => simp [intOf]
            · go_wp2_with (first
                | (at_builtin; refine wl_app rfl (.tmp 35) (.tmp 42) 50 rfl wx.heap.size 5 1 1 bytesT _ u _ rfl (HO.out.alloc _) (_ + 1) (some ⟨_, 0, none⟩) 1 1 [_] rfl (rd_new _ [_] 5 (0, 0)) rfl (by simp [Value.oneCell']) (by rw [maxLen_eq]; omega) (by omega) (Nat.le_trans HB2.out.size (by unfold World.alloc; simp)) ?_; intro A3 c3 w3 hown3 hg3 hat3 hb3 hc3 hc3'; have HO3 := Lib.hid hown3; have HB3 := Lib.hid ((HB2.out.alloc HB2.out.size _).trans hb3); have HC3 := Lib.hid (And.intro hc3 hc3'); clear hown3 hg3 hat3 hb3 hc3 hc3'))
              go_roundw
              case rel =>
                refine ⟨7 + 1, u + 1, A3, c3, by omega, rfl, by have := HU.out; omega, rfl, HC3.out.1, by have := HC3.out.2; rw [maxLen_eq] at this; exact this, ?_, HB3.out⟩
                rw [HLB.out, ← List.append_assoc]
                refine own_snoc HO3.out ?_
                rw [bv_ofNat _ (Nat.mod_lt _ (by decide))]
                congr 1
                all_goals (try simp only [Nat.reduceMul, Nat.reduceSub, Nat.reducePow])
                all_goals (try omega)
              case measure => simp [intOf]
          · obtain rfl : k = 8 := by omega
            have hu3 : u = t + 8 := HU.out
            have hul : (r1 ++ [128] ++ List.replicate (Sha.zeros n1) 0 ++ (Sha.lenBytes nn).take 8).length = u := by
              have := HO.out.1
              simpa using this
            have htl : r1 ++ [128] ++ List.replicate (Sha.zeros n1) 0 ++ (Sha.lenBytes nn).take 8 = Sha.tail r1 nn := by
              have : (Sha.lenBytes nn).take 8 = Sha.lenBytes nn := rfl
              rw [this]; unfold Sha.tail; rw [HX.out.len]
            have HOT := HO.out
            rw [htl] at hul HOT
            have HR := Lib.hid (Rd.of_own HOT)
            have HUL := Lib.hid hul
            have hRLz := HRB.out.below (HX.out.below.trans (HB2.out.mono HX.out.below.size)) (Nat.le_refl _)
            have HRZ := Lib.hid hRLz
            obtain ⟨q0, q1, q2, q3, q4, q5, q6, q7, _, _⟩ := TRow.ten (Row.belowS HX.out.box HB2.out (Nat.le_refl _))
            clear hul htl HOT hRLz hu3
            go_wp2_with (first
              | (go_at_call 66; refine (process_any s1 A2 c2 (Sha.tail r1 nn) u HUL.out hc2 (by rw [maxLen_eq]; exact hc2') _ HR.out HRZ.out).mono ?_; rintro e w4 ⟨A4, c4, rfl, hr4, hc4, hc4', hb4⟩; have HB4 := Lib.hid (HB2.out.trans (hb4.mono HB2.out.size)); obtain ⟨p, hp⟩ : ∃ p, Sha.proc s1 (Sha.tail r1 nn) = p := ⟨_, rfl⟩; rw [hp]; have HP := Lib.hid hp; clear hp hr4 hc4 hc4' hb4 q0 q1 q2 q3 q4 q5 q6 q7)
              | (at_make; refine wl_make rfl _ _ 50 rfl wx.heap.size 5 1 1 bytesT .i64 .i64 _ 32 rfl rfl rfl (by omega) (by rw [maxLen_eq]; omega) (Nat.le_trans HB4.out.size (by unfold World.alloc; simp)) ?_; intro w5 hown5 hb5; have HO5 := Lib.hid hown5; have HB5 := Lib.hid ((HB4.out.alloc HB4.out.size _).trans (hb5.mono (Nat.le_trans HB4.out.size (by unfold World.alloc; simp)))); have hr8 : Row w5 w4.heap.size (ac p.1) 68 := (row_new w4 (ac p.1) _).belowS hb5 (Nat.le_refl _); obtain ⟨z0, z1, z2, z3, z4, z5, z6, z7⟩ := Box.eight hr8; clear hown5 hb5 hr8))
            have h5 : (32 : Int) ≤ 9223372036854775807 := by decide
            go_loopw [8, 54] (fun v i wz => ∃ (k u : Nat) (A2 : Option Addr) (c2 : Nat), k ≤ 8 ∧ i = .int .i64 k ∧ u = 4 * k ∧ v = .slice A2 u c2 ∧ u ≤ c2 ∧ c2 ≤ 9223372036854775807 ∧ wz.ownsRow wx.heap.size 5 1 (.slice A2 u c2) u (((p.1.list.take k).flatMap Sha.wordBytes).map bv) ∧ Below wx.heap.size wx wz) (fun _ i _ => 8 - (intOf i).toNat)
            case atStart => exact ⟨0, 0, some ⟨w4.heap.size + 1, 0, none⟩, 32, by omega, rfl, rfl, rfl, by omega, by omega, by simpa using HO5.out, HB5.out⟩
            clear HO5 HB5 z0 z1 z2 z3 z4 z5 z6 z7 h5
            case round =>
              obtain ⟨k, u, A2, c2, hk8, rfl, hu, rfl, hc2, hc2', hown, hbel⟩ := hrel
              have HO := Lib.hid hown
              have HB2 := Lib.hid hbel
              have HU := Lib.hid hu
              have hu2 : u ≤ 32 := by omega
              clear hown hbel hu
              by_cases hk : k < 8
              · rcases (show k = 0 ∨ k = 1 ∨ k = 2 ∨ k = 3 ∨ k = 4 ∨ k = 5 ∨ k = 6 ∨ k = 7 by omega) with rfl | rfl | rfl | rfl | rfl | rfl | rfl | rfl
                · go_wp2_with (first
                    | (refine wl_index rfl 68 (.tmp 53) (.tmp 54) rfl (ac p.1) _ (.int .u32 (nv p.1.a)) rfl rfl (idx8 p.1 _ _ 0 (by decide) rfl) ?_)
                    | (at_builtin; refine wl_app rfl (.tmp 57) (.tmp 69) 50 rfl wx.heap.size 5 1 1 bytesT _ u _ rfl (HO.out.alloc _) (_ + 1) (some ⟨_, 0, none⟩) 4 4 [_, _, _, _] rfl (rd_new _ [_, _, _, _] 5 (0, 0)) rfl (by simp [Value.oneCell']) (by rw [maxLen_eq]; omega) (by omega) (Nat.le_trans HB2.out.size (by unfold World.alloc; simp)) ?_; intro A3 c3 w3 hown3 hg3 hat3 hb3 hc3 hc3'; have HO3 := Lib.hid hown3; have HB3 := Lib.hid ((HB2.out.alloc HB2.out.size _).trans hb3); have HC3 := Lib.hid (And.intro hc3 hc3'); clear hown3 hg3 hat3 hb3 hc3 hc3'))
                  go_roundw
                  case rel =>
                    refine ⟨0 + 1, u + 4, A3, c3, by omega, rfl, by have := HU.out; omega, rfl, HC3.out.1, by have := HC3.out.2; rw [maxLen_eq] at this; exact this, ?_, HB3.out⟩
                    rw [show p.1.list.take (0 + 1) = p.1.list.take 0 ++ [p.1.a] from rfl, List.flatMap_append, List.flatMap_singleton]
                    have n0 := nv_lo p.1.a
                    have n1 := nv_hi p.1.a
                    exact own_snocs HO3.out (wb_list p.1.a _ _ _ _ (by omega) (by omega) (by omega) (by omega))
                  case measure => simp [intOf]
                · go_wp2_with (first
                    | (refine wl_index rfl 68 (.tmp 53) (.tmp 54) rfl (ac p.1) _ (.int .u32 (nv p.1.b)) rfl rfl (idx8 p.1 _ _ 1 (by decide) rfl) ?_)
                    | (at_builtin; refine wl_app rfl (.tmp 57) (.tmp 69) 50 rfl wx.heap.size 5 1 1 bytesT _ u _ rfl (HO.out.alloc _) (_ + 1) (some ⟨_, 0, none⟩) 4 4 [_, _, _, _] rfl (rd_new _ [_, _, _, _] 5 (0, 0)) rfl (by simp [Value.oneCell']) (by rw [maxLen_eq]; omega) (by omega) (Nat.le_trans HB2.out.size (by unfold World.alloc; simp)) ?_; intro A3 c3 w3 hown3 hg3 hat3 hb3 hc3 hc3'; have HO3 := Lib.hid hown3; have HB3 := Lib.hid ((HB2.out.alloc HB2.out.size _).trans hb3); have HC3 := Lib.hid (And.intro hc3 hc3'); clear hown3 hg3 hat3 hb3 hc3 hc3'))
                  go_roundw
                  case rel =>
                    refine ⟨1 + 1, u + 4, A3, c3, by omega, rfl, by have := HU.out; omega, rfl, HC3.out.1, by have := HC3.out.2; rw [maxLen_eq] at this; exact this, ?_, HB3.out⟩
                    rw [show p.1.list.take (1 + 1) = p.1.list.take 1 ++ [p.1.b] from rfl, List.flatMap_append, List.flatMap_singleton]
                    have n0 := nv_lo p.1.b
                    have n1 := nv_hi p.1.b
                    exact own_snocs HO3.out (wb_list p.1.b _ _ _ _ (by omega) (by omega) (by omega) (by omega))
                  case measure => simp [intOf]
                · go_wp2_with (first
                    | (refine wl_index rfl 68 (.tmp 53) (.tmp 54) rfl (ac p.1) _ (.int .u32 (nv p.1.c)) rfl rfl (idx8 p.1 _ _ 2 (by decide) rfl) ?_)
                    | (at_builtin; refine wl_app rfl (.tmp 57) (.tmp 69) 50 rfl wx.heap.size 5 1 1 bytesT _ u _ rfl (HO.out.alloc _) (_ + 1) (some ⟨_, 0, none⟩) 4 4 [_, _, _, _] rfl (rd_new _ [_, _, _, _] 5 (0, 0)) rfl (by simp [Value.oneCell']) (by rw [maxLen_eq]; omega) (by omega) (Nat.le_trans HB2.out.size (by unfold World.alloc; simp)) ?_; intro A3 c3 w3 hown3 hg3 hat3 hb3 hc3 hc3'; have HO3 := Lib.hid hown3; have HB3 := Lib.hid ((HB2.out.alloc HB2.out.size _).trans hb3); have HC3 := Lib.hid (And.intro hc3 hc3'); clear hown3 hg3 hat3 hb3 hc3 hc3'))
                  go_roundw
                  case rel =>
                    refine ⟨2 + 1, u + 4, A3, c3, by omega, rfl, by have := HU.out; omega, rfl, HC3.out.1, by have := HC3.out.2; rw [maxLen_eq] at this; exact this, ?_, HB3.out⟩
                    rw [show p.1.list.take (2 + 1) = p.1.list.take 2 ++ [p.1.c] from rfl, List.flatMap_append, List.flatMap_singleton]
                    have n0 := nv_lo p.1.c
                    have n1 := nv_hi p.1.c
                    exact own_snocs HO3.out (wb_list p.1.c _ _ _ _ (by omega) (by omega) (by omega) (by omega))
                  case measure => simp [intOf]
                · go_wp2_with (first
                    | (refine wl_index rfl 68 (.tmp 53) (.tmp 54) rfl (ac p.1) _ (.int .u32 (nv p.1.d)) rfl rfl (idx8 p.1 _ _ 3 (by decide) rfl) ?_)
                    | (at_builtin; refine wl_app rfl (.tmp 57) (.tmp 69) 50 rfl wx.heap.size 5 1 1 bytesT _ u _ rfl (HO.out.alloc _) (_ + 1) (some ⟨_, 0, none⟩) 4 4 [_, _, _, _] rfl (rd_new _ [_, _, _, _] 5 (0, 0)) rfl (by simp [Value.oneCell']) (by rw [maxLen_eq]; omega) (by omega) (Nat.le_trans HB2.out.size (by unfold World.alloc; simp)) ?_; intro A3 c3 w3 hown3 hg3 hat3 hb3 hc3 hc3'; have HO3 := Lib.hid hown3; have HB3 := Lib.hid ((HB2.out.alloc HB2.out.size _).trans hb3); have HC3 := Lib.hid (And.intro hc3 hc3'); clear hown3 hg3 hat3 hb3 hc3 hc3'))
                  go_roundw
                  case rel =>
                    refine ⟨3 + 1, u + 4, A3, c3, by omega, rfl, by have := HU.out; omega, rfl, HC3.out.1, by have := HC3.out.2; rw [maxLen_eq] at this; exact this, ?_, HB3.out⟩
                    rw [show p.1.list.take (3 + 1) = p.1.list.take 3 ++ [p.1.d] from rfl, List.flatMap_append, List.flatMap_singleton]
                    have n0 := nv_lo p.1.d
                    have n1 := nv_hi p.1.d
                    exact own_snocs HO3.out (wb_list p.1.d _ _ _ _ (by omega) (by omega) (by omega) (by omega))
                  case measure => simp [intOf]
                · go_wp2_with (first
                    | (refine wl_index rfl 68 (.tmp 53) (.tmp 54) rfl (ac p.1) _ (.int .u32 (nv p.1.e)) rfl rfl (idx8 p.1 _ _ 4 (by decide) rfl) ?_)
                    | (at_builtin; refine wl_app rfl (.tmp 57) (.tmp 69) 50 rfl wx.heap.size 5 1 1 bytesT _ u _ rfl (HO.out.alloc _) (_ + 1) (some ⟨_, 0, none⟩) 4 4 [_, _, _, _] rfl (rd_new _ [_, _, _, _] 5 (0, 0)) rfl (by simp [Value.oneCell']) (by rw [maxLen_eq]; omega) (by omega) (Nat.le_trans HB2.out.size (by unfold World.alloc; simp)) ?_; intro A3 c3 w3 hown3 hg3 hat3 hb3 hc3 hc3'; have HO3 := Lib.hid hown3; have HB3 := Lib.hid ((HB2.out.alloc HB2.out.size _).trans hb3); have HC3 := Lib.hid (And.intro hc3 hc3'); clear hown3 hg3 hat3 hb3 hc3 hc3'))
                  go_roundw
                  case rel =>
                    refine ⟨4 + 1, u + 4, A3, c3, by omega, rfl, by have := HU.out; omega, rfl, HC3.out.1, by have := HC3.out.2; rw [maxLen_eq] at this; exact this, ?_, HB3.out⟩
                    rw [show p.1.list.take (4 + 1) = p.1.list.take 4 ++ [p.1.e] from rfl, List.flatMap_append, List.flatMap_singleton]
                    have n0 := nv_lo p.1.e
                    have n1 := nv_hi p.1.e
                    exact own_snocs HO3.out (wb_list p.1.e _ _ _ _ (by omega) (by omega) (by omega) (by omega))
                  case measure => simp [intOf]
                · go_wp2_with (first
                    | (refine wl_index rfl 68 (.tmp 53) (.tmp 54) rfl (ac p.1) _ (.int .u32 (nv p.1.f)) rfl rfl (idx8 p.1 _ _ 5 (by decide) rfl) ?_)
                    | (at_builtin; refine wl_app rfl (.tmp 57) (.tmp 69) 50 rfl wx.heap.size 5 1 1 bytesT _ u _ rfl (HO.out.alloc _) (_ + 1) (some ⟨_, 0, none⟩) 4 4 [_, _, _, _] rfl (rd_new _ [_, _, _, _] 5 (0, 0)) rfl (by simp [Value.oneCell']) (by rw [maxLen_eq]; omega) (by omega) (Nat.le_trans HB2.out.size (by unfold World.alloc; simp)) ?_; intro A3 c3 w3 hown3 hg3 hat3 hb3 hc3 hc3'; have HO3 := Lib.hid hown3; have HB3 := Lib.hid ((HB2.out.alloc HB2.out.size _).trans hb3); have HC3 := Lib.hid (And.intro hc3 hc3'); clear hown3 hg3 hat3 hb3 hc3 hc3'))
                  go_roundw
                  case rel =>
                    refine ⟨5 + 1, u + 4, A3, c3, by omega, rfl, by have := HU.out; omega, rfl, HC3.out.1, by have := HC3.out.2; rw [maxLen_eq] at this; exact this, ?_, HB3.out⟩
                    rw [show p.1.list.take (5 + 1) = p.1.list.take 5 ++ [p.1.f] from rfl, List.flatMap_append, List.flatMap_singleton]
                    have n0 := nv_lo p.1.f
                    have n1 := nv_hi p.1.f
                    exact own_snocs HO3.out (wb_list p.1.f _ _ _ _ (by omega) (by omega) (by omega) (by omega))
                  case measure => simp [intOf]
                · go_wp2_with (first
                    | (refine wl_index rfl 68 (.tmp 53) (.tmp 54) rfl (ac p.1) _ (.int .u32 (nv p.1.g)) rfl rfl (idx8 p.1 _ _ 6 (by decide) rfl) ?_)
                    | (at_builtin; refine wl_app rfl (.tmp 57) (.tmp 69) 50 rfl wx.heap.size 5 1 1 bytesT _ u _ rfl (HO.out.alloc _) (_ + 1) (some ⟨_, 0, none⟩) 4 4 [_, _, _, _] rfl (rd_new _ [_, _, _, _] 5 (0, 0)) rfl (by simp [Value.oneCell']) (by rw [maxLen_eq]; omega) (by omega) (Nat.le_trans HB2.out.size (by unfold World.alloc; simp)) ?_; intro A3 c3 w3 hown3 hg3 hat3 hb3 hc3 hc3'; have HO3 := Lib.hid hown3; have HB3 := Lib.hid ((HB2.out.alloc HB2.out.size _).trans hb3); have HC3 := Lib.hid (And.intro hc3 hc3'); clear hown3 hg3 hat3 hb3 hc3 hc3'))
                  go_roundw
                  case rel =>
                    refine ⟨6 + 1, u + 4, A3, c3, by omega, rfl, by have := HU.out; omega, rfl, HC3.out.1, by have := HC3.out.2; rw [maxLen_eq] at this; exact this, ?_, HB3.out⟩
                    rw [show p.1.list.take (6 + 1) = p.1.list.take 6 ++ [p.1.g] from rfl, List.flatMap_append, List.flatMap_singleton]
                    have n0 := nv_lo p.1.g
                    have n1 := nv_hi p.1.g
                    exact own_snocs HO3.out (wb_list p.1.g _ _ _ _ (by omega) (by omega) (by omega) (by omega))
                  case measure => simp [intOf]
                · go_wp2_with (first
                    | (refine wl_index rfl 68 (.tmp 53) (.tmp 54) rfl (ac p.1) _ (.int .u32 (nv p.1.h)) rfl rfl (idx8 p.1 _ _ 7 (by decide) rfl) ?_)
                    | (at_builtin; refine wl_app rfl (.tmp 57) (.tmp 69) 50 rfl wx.heap.size 5 1 1 bytesT _ u _ rfl (HO.out.alloc _) (_ + 1) (some ⟨_, 0, none⟩) 4 4 [_, _, _, _] rfl (rd_new _ [_, _, _, _] 5 (0, 0)) rfl (by simp [Value.oneCell']) (by rw [maxLen_eq]; omega) (by omega) (Nat.le_trans HB2.out.size (by unfold World.alloc; simp)) ?_; intro A3 c3 w3 hown3 hg3 hat3 hb3 hc3 hc3'; have HO3 := Lib.hid hown3; have HB3 := Lib.hid ((HB2.out.alloc HB2.out.size _).trans hb3); have HC3 := Lib.hid (And.intro hc3 hc3'); clear hown3 hg3 hat3 hb3 hc3 hc3'))
                  go_roundw
                  case rel =>
                    refine ⟨7 + 1, u + 4, A3, c3, by omega, rfl, by have := HU.out; omega, rfl, HC3.out.1, by have := HC3.out.2; rw [maxLen_eq] at this; exact this, ?_, HB3.out⟩
                    rw [show p.1.list.take (7 + 1) = p.1.list.take 7 ++ [p.1.h] from rfl, List.flatMap_append, List.flatMap_singleton]
                    have n0 := nv_lo p.1.h
                    have n1 := nv_hi p.1.h
                    exact own_snocs HO3.out (wb_list p.1.h _ _ _ _ (by omega) (by omega) (by omega) (by omega))
                  case measure => simp [intOf]
              · obtain rfl : k = 8 := by omega
                have HLN := HO.out.1
                have hql : p.1.list.take 8 = p.1.list := rfl
                have hrd := Rd.of_own HO.out
                rw [hql] at hrd
                have hend : (p.1.list.flatMap Sha.wordBytes) = Sha.end_ (endS s N rest.length) (endR rest N rest.length) (endN N rest.length).toNat := by
                  obtain ⟨x1, x2, x3⟩ := HE.out
                  rw [← x1, ← x2, ← x3, HNN.out]
                  unfold Sha.end_ Sha.St.bytes
                  rw [Int.toNat_natCast, HP.out]
                have HEND := Lib.hid hend
                have HRD := Lib.hid hrd
                have hlen : (p.1.list.flatMap Sha.wordBytes).length = u := by have := HU.out; rw [this]; rfl
                have HLEN := Lib.hid hlen
                have HB9 := Lib.hid (HX.out.below.trans (HB2.out.mono HX.out.below.size))
                clear hrd hql hend hlen HLN
                go_wp2_with (first
                  | (refine wl_str rfl 50 9 (.tmp 72) rfl 5 Tryd.underlying50 Tryd.underlying5 Tryd.underlying9 A2 u c2 rfl _ (p.1.list.flatMap Sha.wordBytes) HRD.out HLEN.out ?_))
                go_ret
                exact ⟨by rw [← HEND.out]; rfl, HB9.out⟩
      · have hj2 := zeros_lt n1 j hs hj (by rw [← ht]; exact h56)
        have HT := Lib.hid ht
        have HJ2 := Lib.hid hj2
        clear hown hbel hj ht hj2
        go_wp2_with (first
          | (at_builtin; refine wl_app rfl (.tmp 25) (.tmp 26) 50 rfl wx.heap.size 5 1 1 bytesT _ t _ rfl (HO.out.alloc _) (wr.heap.size + 1) (some ⟨wr.heap.size, 0, none⟩) 1 1 ([0].map bv) rfl (rd_new wr ([0].map bv) 5 (0, 0)) rfl (by simp [bv, Value.oneCell']) (by rw [maxLen_eq]; omega) (by omega) (Nat.le_trans HB.out.size (by unfold World.alloc; simp)) ?_; intro A3 c3 w3 hown3 hg3 hat3 hb3 hc3 hc3'; rw [← List.map_append] at hown3; have HO3 := Lib.hid hown3; have HB3 := Lib.hid ((HB.out.alloc HB.out.size _).trans hb3); have HC3 := Lib.hid (And.intro hc3 hc3'); clear hown3 hg3 hat3 hb3 hc3 hc3'))
        go_roundw
        case rel => exact ⟨j + 1, t + 1, A3, c3, by have := HT.out; omega, rfl, HC3.out.1, by have := HC3.out.2; rw [maxLen_eq] at this; exact this, HJ2.out, by have h := HO3.out; rw [List.append_assoc, ← List.replicate_succ'] at h; exact h, HB3.out⟩
        case measure => simp; omega
  clear h1
  have hbox : TRow (w.alloc (.cells (tc s (.slice A n c) N).toArray 70)) w.heap.size s (.slice A n c) N := row_new w _ _
  have hbl : Below w.heap.size w (w.alloc (.cells (tc s (.slice A n c) N).toArray 70)) := (Below.refl _ w).alloc (Nat.le_refl _) _
  have HBX := Lib.hid (And.intro hbox hbl)
  clear hbox hbl
  generalize hW : World.alloc w _ = W0
  have hbx : TRow W0 w.heap.size s (.slice A n c) N := by rw [← hW]; exact HBX.out.1
  have hbl : Below w.heap.size w W0 := by rw [← hW]; exact HBX.out.2
  have HW := Lib.hid (And.intro hbx hbl)
  have HBL := Lib.hid (hBL.below hbl (Nat.le_refl _))
  have HKEY := Lib.hid key
  have HA := Lib.hid (And.intro hA hn)
  obtain ⟨c0, c1, c2, c3, c4, c5, c6, c7, c8, c9⟩ := hbx.ten
  clear hW hbx hbl hBL hRL hA hn key HBX
  by_cases hv : vld N n = true
  · have hv' : 0 ≤ N ∧ N ≤ 1099511627776 ∧ (n : Int) = N % 64 := by
      have := hv
      unfold vld at this
      exact of_decide_eq_true this
    have HVV := Lib.hid (And.intro hv hv')
    clear hv hv'
    go_wp2_with (go_at_call 65; refine (HV.out _).mono ?_; rintro e w1 ⟨rfl, hb1⟩; rw [HVV.out.1]; have HB1 := Lib.hid hb1; clear hb1 c0 c1 c2 c3 c4 c5 c6 c7 c8 c9)
    obtain ⟨hbx, hbl⟩ := HW.out
    obtain ⟨hv, v1, v2, v3⟩ := HVV.out
    have htk : vld N rest.length = true := by rw [HA.out.2]; exact hv
    refine HKEY.out s A n c rest N _ _ _ _ w1 ?_ (by unfold endS; rw [htk]; rfl) (by unfold endR; rw [htk]; rfl) (by unfold endN; rw [htk]; rfl)
    have hb := HB1.out
    exact ⟨hbl.trans (hb.mono hbl.size), Row.belowS hbx hb (Nat.le_refl _), HA.out.1.below (hbl.trans (hb.mono hbl.size)), HA.out.2, hc, by rw [maxLen_eq]; exact hm, by omega, v1, v2⟩
  · have hv' : vld N n = false := by simpa using hv
    have HVV := Lib.hid hv'
    clear hv hv'
    have new : ∀ w1 : World, Below W0.heap.size W0 w1 → ∀ w2 : World, Below w1.heap.size w1 w2 → TRow w2 w.heap.size s (.slice A n c) N ∧
        ∀ (u11 u12 u13 u14 : Value), K1 { tmps := #[tv s (.slice A n c) N, .pointer (some ⟨w.heap.size, 0, none⟩), .string { data := #[] }, undef, undef, undef, undef, undef, undef, undef, undef, u11, u12, u13, u14, undef, undef, undef, undef, undef, undef, undef, undef, undef, undef, undef, undef, undef, undef, undef, undef, undef, undef, undef, undef, undef, undef, undef, undef, undef, undef, undef, undef, undef, undef, undef, undef, undef, undef, undef, undef, undef, undef, undef, undef, undef, undef, undef, undef, undef, undef, undef, undef, undef, undef, undef, undef, undef, undef, undef, undef, undef, undef, undef], defers := [] } (setFrom w.heap.size w2 0 (tc Sha.begin_ (.slice none 0 0) 0)) := by
      intro w1 hb1 w2 hb2
      obtain ⟨hbx, hbl⟩ := HW.out
      have hb02 : Below W0.heap.size W0 w2 := hb1.trans (hb2.mono hb1.size)
      have hbox2 := Row.belowS hbx hb02 (Nat.le_refl _)
      have htk : vld N rest.length = false := by rw [HA.out.2]; exact HVV.out
      refine ⟨hbox2, fun u11 u12 u13 u14 => HKEY.out Sha.begin_ none 0 0 [] 0 u11 u12 u13 u14 _ ?_ (by unfold endS; rw [htk]; rfl) (by unfold endR; rw [htk]; rfl) (by unfold endN; rw [htk]; rfl)⟩
      exact ⟨below_setFrom (Nat.le_refl _) _ 0 (hbl.trans (hb02.mono hbl.size)), Row.all hbox2 _ rfl, Rd.nil, rfl, Nat.le_refl _, Nat.zero_le _, by decide, by decide, by decide⟩
    have HNEW := Lib.hid new
    clear new
    go_wp2_with (first
      | (go_at_call 65; refine (HV.out _).mono ?_; rintro e w1 ⟨rfl, hb1⟩; rw [HVV.out]; have HB1 := Lib.hid hb1; clear hb1 c0 c1 c2 c3 c4 c5 c6 c7 c8 c9)
      | (go_at_call 53; refine (new_any w1 (HBL.out.below HB1.out (Nat.le_refl _))).mono ?_; rintro e w2 ⟨rfl, hb2⟩; obtain ⟨hrow, HFIN⟩ := HNEW.out w1 HB1.out w2 hb2; obtain ⟨y0, y1, y2, y3, y4, y5, y6, y7, y8, y9⟩ := hrow.ten; have z := hrow.frozen; have z0 := z 0; have z1 := z 1; have z2 := z 2; have z3 := z 3; have z4 := z 4; have z5 := z 5; have z6 := z 6; have z7 := z 7; have z8 := z 8; have z9 := z 9; have HFI := Lib.hid HFIN; clear HFIN hrow z hb2))
    have hk := HFI.out
    simp only [tc, setFrom, Nat.zero_add, Nat.reduceAdd] at hk
    exact hk _ _ _ _
end Go.Proofs.YtoiilhbjlfdfpaaDoor
