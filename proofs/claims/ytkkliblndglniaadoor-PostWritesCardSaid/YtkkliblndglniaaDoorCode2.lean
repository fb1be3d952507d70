/- Numbers and texts are read: inside, start, getNum, getText. No statement of the seat is proved here. -/
import Derived.Test.YtkkliblndglniaaDoorCode1
import Derived.WalkMore
namespace Go.Proofs.YtkkliblndglniaaDoor
set_option linter.unusedVariables false
open Go.RowKit

/-- A reader, as a value. -/
abbrev rv (A : Option Addr) (n c : Nat) (at_ e : Int) : Value := .agg #[.slice A n c, .int .i64 at_, .int .i64 e]
theorem inside_any (A : Option Addr) (n c at_ : Nat) (e : Int) (w : World) (hat : at_ ≤ n) (hc : n ≤ c) (hm : c ≤ maxLen) : Calls Tryd.prog 35 #[rv A n c (at_ : Int) e] w (RetB true w) := by
  rw [maxLen_eq] at hm
  go_enter Tryd.func35, Tryd.ntmps35
  go_wp2
  go_ret
  exact ⟨rfl, (Below.refl _ w).alloc (Nat.le_refl _) _⟩
def GetNumRet (at_ : Nat) (e : Ending) : Except Nat (Nat × Nat) → Prop
  | .ok (v, k) => e = .returned (.tuple #[.int .i64 (v : Int), .int .i64 ((at_ + k : Nat) : Int), .int .i64 0])
  | .error x => e = .returned (.tuple #[.int .i64 0, .int .i64 0, .int .i64 (x : Int)])
def GetNumPost (l : List UInt8) (at_ : Nat) (w : World) (e : Ending) (w' : World) : Prop := GetNumRet at_ e (Code.getNum (l.drop at_)) ∧ w = w'
theorem or_acc (acc y k : Nat) (ha : acc < 128 ^ k) (hy : y < 128) (hk : k ≤ 8) : bits .or .i64 (acc : Int) ((y * 128 ^ k : Nat) : Int) = ((acc + y * 128 ^ k : Nat) : Int) := by
  have e : (128 : Nat) ^ k = 2 ^ (7 * k) := by rw [Nat.pow_mul]
  have h8 : (128 : Nat) ^ k ≤ 128 ^ 8 := Nat.pow_le_pow_right (by omega) hk
  have h9 : y * 128 ^ k ≤ 127 * 128 ^ 8 := Nat.mul_le_mul (by omega) h8
  rw [Bit.i64_or _ _ (by omega) (by omega)]
  congr 1
  rw [Nat.or_comm, Nat.mul_comm, e]
  rw [e] at ha
  rw [← Nat.two_pow_add_eq_or_of_lt ha]
  omega
theorem shl_acc (y k : Nat) (hy : y < 128) (hk : k ≤ 8) : IntKind.i64.wrap ((y : Int) * 2 ^ (7 * k)) = ((y * 128 ^ k : Nat) : Int) := by
  have e : (128 : Nat) ^ k = 2 ^ (7 * k) := by rw [Nat.pow_mul]
  have h8 : (128 : Nat) ^ k ≤ 128 ^ 8 := Nat.pow_le_pow_right (by omega) hk
  have h9 : y * 128 ^ k ≤ 127 * 128 ^ 8 := Nat.mul_le_mul (by omega) h8
  have e2 : (y : Int) * 2 ^ (7 * k) = ((y * 128 ^ k : Nat) : Int) := by rw [e]; push_cast; rfl
  rw [e2]
  exact wrap_id _ (by omega) (by omega)
/-- Where the reading of a number is. -/
structure ScanRel (l : List UInt8) (at_ k acc : Nat) : Prop where
  eq : Code.scan (l.drop at_) 0 0 = Code.scan (l.drop (at_ + k)) k acc
  lt : acc < 128 ^ k
  le : k ≤ 9
theorem ScanRel.step {l : List UInt8} {at_ k acc : Nat} {b : UInt8} (h : ScanRel l at_ k acc) (hb : l[at_ + k]? = some b) (hk : k < 9) (hge : ¬ b.toNat < 128) : ScanRel l at_ (k + 1) (acc + b.toNat % 128 * 128 ^ k) := by
  obtain ⟨hlt, hbb⟩ := List.getElem?_eq_some_iff.1 hb
  refine ⟨?_, ?_, by omega⟩
  · rw [h.eq, List.drop_eq_getElem_cons hlt, hbb, Code.scan, if_neg (by omega), if_neg hge, Nat.add_assoc]
  · have h1 := h.lt
    rw [Nat.pow_succ]
    have h2 : b.toNat % 128 ≤ 127 := by omega
    have h3 : b.toNat % 128 * 128 ^ k ≤ 127 * 128 ^ k := Nat.mul_le_mul_right _ h2
    omega
theorem ScanRel.last {l : List UInt8} {at_ k acc : Nat} {b : UInt8} (h : ScanRel l at_ k acc) (hb : l[at_ + k]? = some b) (hk : k < 9) (hlt : b.toNat < 128) : Code.getNum (l.drop at_) = Code.fin (.ok (acc + b.toNat * 128 ^ k, k + 1, b)) := by
  obtain ⟨hl, hbb⟩ := List.getElem?_eq_some_iff.1 hb
  unfold Code.getNum
  rw [h.eq, List.drop_eq_getElem_cons hl, hbb, Code.scan, if_neg (by omega), if_pos hlt]
theorem ScanRel.full {l : List UInt8} {at_ acc : Nat} (h : ScanRel l at_ 9 acc) : Code.getNum (l.drop at_) = .error 2 := by
  unfold Code.getNum
  rw [h.eq]
  cases l.drop (at_ + 9) <;> rfl
theorem ScanRel.none {l : List UInt8} {at_ k acc : Nat} (h : ScanRel l at_ k acc) (hk : k < 9) (hl : l.length ≤ at_ + k) : Code.getNum (l.drop at_) = .error 4 := by
  unfold Code.getNum
  rw [h.eq, List.drop_eq_nil_of_le hl, Code.scan, if_neg (by omega)]
  rfl
theorem getNum_ret {l : List UInt8} {at_ : Nat} {w : World} {e : Ending} {r : Except Nat (Nat × Nat)} (h : Code.getNum (l.drop at_) = r) (he : GetNumRet at_ e r) : GetNumPost l at_ w e w := ⟨by rw [h]; exact he, rfl⟩
set_option maxRecDepth 100000 in
set_option maxHeartbeats 8000000 in
theorem getNum_any (A : Option Addr) (n c at_ : Nat) (l : List UInt8) (w : World) (h : Bs w A n c l) (hat : at_ ≤ n) (hn : n ≤ 140737488355328) :
    Calls Tryd.prog 34 #[.slice A n c, .int .i64 (at_ : Int)] w (GetNumPost l at_ w) := by
  have hc := h.cap
  have hm := h.max
  rw [maxLen_eq] at hm
  go_enter Tryd.func34, Tryd.ntmps34
  go_wp2
  go_step3
  go_wp2
  go_step3
  go_wp2
  go_loop [7, 8] (fun vv vn => ∃ (k acc : Nat), vv = .int .i64 acc ∧ vn = .int .i64 k ∧ at_ + k ≤ n ∧ ScanRel l at_ k acc) (fun _ vn => 10 - (intOf vn).toNat)
  case atStart => exact ⟨0, 0, rfl, rfl, hat, rfl, by decide, by omega⟩
  case round =>
    obtain ⟨k, acc, rfl, rfl, hk, hr⟩ := hrel
    have hk9 := hr.le
    by_cases h9 : k = 9
    · have b1 : ((k : Int) == 9) = true := beq_iff_eq.2 (by omega)
      have hfin := Lib.hid (show Code.getNum (l.drop at_) = .error 2 by subst h9; exact hr.full)
      clear h9
      go_wp2
      go_ret3
      exact getNum_ret hfin.out rfl
    · have b1 : ((k : Int) == 9) = false := beq_eq_false_iff_ne.2 (by omega)
      by_cases hend : at_ + k = n
      · have b2 : ((k : Int) == (n : Int) - (at_ : Int)) = true := beq_iff_eq.2 (by omega)
        have hfin := Lib.hid (hr.none (by omega) (by have := h.len; omega))
        clear hend h9
        go_wp2
        go_ret3
        exact getNum_ret hfin.out rfl
      · have b2 : ((k : Int) == (n : Int) - (at_ : Int)) = false := beq_eq_false_iff_ne.2 (by omega)
        obtain ⟨b, off, rfl, hb, hcell⟩ := h.rd (fun e => by
          have h2 := h.len
          have h3 : l = [] := by simpa using e
          rw [h3] at h2
          simp at h2; omega)
        obtain ⟨x, hx⟩ : ∃ x, l[at_ + k]? = some x := ⟨_, List.getElem?_eq_getElem (by have := h.len; omega)⟩
        have x0 : w.cell? ⟨b, off + (at_ + k), none⟩ = some (Value.int .u8 (x.toNat : Int)) := hcell (at_ + k) (bv x) (by rw [List.getElem?_map, hx]; rfl)
        have hx8 := x.toNat_lt
        have f1 : bits .and .u8 (x.toNat : Int) 127 = ((x.toNat % 128 : Nat) : Int) := by rw [Bit.mask8 7 x.toNat 127 128 (by omega) (by omega) (by omega) rfl rfl]; simp
        obtain ⟨y, hy⟩ : ∃ y, x.toNat % 128 = y := ⟨_, rfl⟩
        obtain ⟨Z, hZ⟩ : ∃ Z, y * 128 ^ k = Z := ⟨_, rfl⟩
        have hy8 : y < 128 := by omega
        have f2 : wrap64 ((y : Int) * 2 ^ (7 * k)) = (Z : Int) := by
          have e := shl_acc y k hy8 (by omega)
          rw [IntKind.wrap_i64, hZ] at e
          unfold wrap64
          exact e
        have f3 : bits .or .i64 (acc : Int) (Z : Int) = (acc : Int) + (Z : Int) := by rw [← Int.natCast_add, ← hZ]; exact or_acc acc y k hr.lt hy8 (by omega)
        rw [hy] at f1
        have HX := Lib.hid (And.intro hx (And.intro hy hZ))
        have HC := Lib.hid hcell
        clear hx hy hZ hcell
        have hZ63 : (acc : Int) + (Z : Int) ≤ 9223372036854775807 := by
          have h1 := hr.lt
          obtain ⟨_, _, e⟩ := HX.out
          have h8 : (128 : Nat) ^ k ≤ 128 ^ 8 := Nat.pow_le_pow_right (by omega) (by omega)
          have h9 : y * 128 ^ k ≤ 127 * 128 ^ k := Nat.mul_le_mul_right _ (by omega)
          omega
        by_cases hlt : x.toNat < 128
        · have hfin := hr.last HX.out.1 (by omega) hlt
          rw [show x.toNat * 128 ^ k = Z by rw [← HX.out.2.2, ← HX.out.2.1, Nat.mod_eq_of_lt hlt]] at hfin
          have HE := Lib.hid (show ((0 < k ∧ x.toNat = 0) ∨ 4611686018427387904 < acc + Z) → Code.getNum (l.drop at_) = .error 2 from fun hbad => by
            rw [hfin]; unfold Code.fin; simp only
            rw [if_pos]
            rcases hbad with ⟨h1, h2⟩ | h1
            · exact .inl ⟨by omega, UInt8.toNat_inj.mp (by rw [h2]; rfl)⟩
            · exact .inr h1)
          have HO := Lib.hid (show ¬ ((0 < k ∧ x.toNat = 0) ∨ 4611686018427387904 < acc + Z) → Code.getNum (l.drop at_) = .ok (acc + Z, k + 1) from fun hbad => by
            rw [hfin]; unfold Code.fin; simp only
            rw [if_neg]
            rintro (⟨h1, h2⟩ | h1)
            · exact hbad (.inl ⟨by omega, by rw [h2]; rfl⟩)
            · exact hbad (.inr h1))
          clear hfin
          by_cases hz : x.toNat = 0
          · have bz : ((x.toNat : Int) == 0) = true := beq_iff_eq.2 (by omega)
            by_cases hk0 : 0 < k
            · have hfin := Lib.hid (HE.out (.inl ⟨hk0, hz⟩))
              clear HE HO hz
              go_wp2
              (try rw [Exit.noGoto_ret])
              go_ret3
              exact getNum_ret hfin.out rfl
            · by_cases hmax : 4611686018427387904 < acc + Z
              · have hfin := Lib.hid (HE.out (.inr hmax))
                clear HE HO hz
                go_wp2
                (try rw [Exit.noGoto_ret])
                go_ret3
                exact getNum_ret hfin.out rfl
              · have hfin := Lib.hid (HO.out (fun h => h.elim (fun h => hk0 h.1) hmax))
                clear HE HO hz
                go_wp2
                (try rw [Exit.noGoto_ret])
                go_ret3
                exact getNum_ret hfin.out (by unfold GetNumRet; simp)
          · have bz : ((x.toNat : Int) == 0) = false := beq_eq_false_iff_ne.2 (by omega)
            by_cases hmax : 4611686018427387904 < acc + Z
            · have hfin := Lib.hid (HE.out (.inr hmax))
              clear HE HO
              by_cases hk0 : 0 < k
              all_goals
                go_wp2
                (try rw [Exit.noGoto_ret])
                go_ret3
                exact getNum_ret hfin.out rfl
            · have hfin := Lib.hid (HO.out (fun h => h.elim (fun h => hz h.2) hmax))
              clear HE HO
              by_cases hk0 : 0 < k
              all_goals
                go_wp2
                (try rw [Exit.noGoto_ret])
                go_ret3
                exact getNum_ret hfin.out (by unfold GetNumRet; simp)
        · have hnext := Lib.hid (show ScanRel l at_ (k + 1) (acc + Z) by
            have h1 := hr.step HX.out.1 (by omega) hlt
            rw [show x.toNat % 128 * 128 ^ k = Z by rw [← HX.out.2.2, ← HX.out.2.1]] at h1
            exact h1)
          go_wp2
          go_round
          case rel => exact ⟨k + 1, acc + Z, by simp, by go_num, by omega, hnext.out⟩
          case measure => simp [intOf]; omega
end Go.Proofs.YtkkliblndglniaaDoor
