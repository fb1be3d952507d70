/- Split (the tree's and the reference's), digests, Right, Great, node. No statement of the seat is proved here. -/
import Derived.Test.YtfgpaepdlmnhaaaDoorMTreeP
import Derived.Test.YtfgpaepdlmnhaaaDoorMCode
import Derived.Test.YtfgpaepdlmnhaaaDoorMSealA
namespace Go.Proofs.YtfgpaepdlmnhaaaDoor
set_option maxRecDepth 100000
set_option linter.unusedVariables false
open Go.RowKit

/-- Where a number of leaves is split; 0 where it is not. -/
def Tree.spz (n : Int) : Nat := if n < 2 then 0 else if 1099511627776 < n then 0 else Tree.sp n.toNat
theorem Tree.spz_in {n : Nat} (h : 2 ≤ n) (h2 : n ≤ 1099511627776) : Tree.spz (n : Int) = Tree.sp n := by
  unfold Tree.spz
  rw [if_neg (by omega), if_neg (by omega), Int.toNat_natCast]
def Tree.all32 (l : List (List UInt8)) : Bool := l.all fun s => decide (s.length = 32)
def Tree.great (l : List (List UInt8)) : Bool := l.any (fun s => decide (100 < s.length)) || decide (100 < l.length)
theorem Tree.great_no {l : List (List UInt8)} (h : Tree.great l = false) : (∀ s ∈ l, s.length ≤ 100) ∧ l.length ≤ 100 := by
  unfold Tree.great at h
  rw [Bool.or_eq_false_iff, List.any_eq_false, decide_eq_false_iff_not] at h
  exact ⟨fun s hs => by have := h.1 s hs; rw [decide_eq_true_eq] at this; omega, by omega⟩
theorem Tree.all32_iff {l : List (List UInt8)} : Tree.all32 l = true ↔ ∀ s ∈ l, s.length = 32 := by
  unfold Tree.all32
  rw [List.all_eq_true]
  exact ⟨fun h s hs => of_decide_eq_true (h s hs), fun h s hs => decide_eq_true (h s hs)⟩
set_option maxRecDepth 100000 in
set_option maxHeartbeats 4000000 in
theorem split_any (n : Int) (w : World) (h1 : -9223372036854775808 ≤ n) (h2 : n ≤ 9223372036854775807) :
    Calls Tryd.prog 110 #[.int .i64 n] w fun e w' => e = .returned (.int .i64 (Tree.spz n : Int)) ∧ w = w' := by
  by_cases hlo : n < 2
  · have HF := Lib.hid (show Tree.spz n = 0 by unfold Tree.spz; rw [if_pos hlo])
    go_enter Tryd.func110, Tryd.ntmps110
    go_wp2
    go_ret
    exact ⟨by rw [HF.out]; rfl, rfl⟩
  · by_cases hhi : 1099511627776 < n
    · have HF := Lib.hid (show Tree.spz n = 0 by unfold Tree.spz; rw [if_neg hlo, if_pos hhi])
      go_enter Tryd.func110, Tryd.ntmps110
      go_wp2
      go_ret
      exact ⟨by rw [HF.out]; rfl, rfl⟩
    · obtain ⟨m, rfl⟩ : ∃ m : Nat, n = (m : Int) := ⟨n.toNat, by omega⟩
      have hm2 : 2 ≤ m := by omega
      have hmh : m ≤ 1099511627776 := by omega
      have HF := Lib.hid (Tree.spz_in hm2 hmh)
      have HS := Lib.hid (show Tree.sf m 1 m = Tree.sp m by unfold Tree.sp; rw [if_neg (by omega)])
      clear h1 h2
      go_enter Tryd.func110, Tryd.ntmps110
      go_wp2
      go_loop [3] (fun v => ∃ k f : Nat, v = .int .i64 k ∧ 1 ≤ k ∧ k < m ∧ m ≤ k + f ∧ Hid (Tree.sf f k m = Tree.sp m)) (fun v => m - (intOf v).toNat)
      case atStart => exact ⟨1, m, rfl, by omega, by omega, by omega, HS⟩
      case round =>
        obtain ⟨k, f, rfl, hk1, hkm, hf, hs⟩ := hrel
        by_cases hlt : 2 * k < m
        · have HN : Hid (∃ g, m ≤ 2 * k + g ∧ Tree.sf g (2 * k) m = Tree.sp m) := Lib.hid (by
            match f, hf, hs with
            | 0, hf, hs => omega
            | g + 1, hf, hs =>
              refine ⟨g, by omega, ?_⟩
              have := hs.out
              rw [Tree.sf, if_pos hlt] at this
              exact this)
          have c1 : (2 : Int) * (k : Int) < (m : Int) := by omega
          clear hf hs
          go_wp2
          go_round
          case rel => obtain ⟨g, a, b⟩ := HN.out; exact ⟨2 * k, g, by go_num, by omega, hlt, a, Lib.hid b⟩
          case measure => simp [intOf]; omega
        · have HR := Lib.hid (show Tree.sp m = k by
            rw [← hs.out]
            match f with
            | 0 => rfl
            | g + 1 => rw [Tree.sf, if_neg hlt])
          have c1 : ¬ (2 : Int) * (k : Int) < (m : Int) := by omega
          clear hs
          go_wp2
          go_ret
          exact ⟨by rw [HF.out, HR.out]; rfl, rfl⟩
set_option maxHeartbeats 4000000 in
theorem digests_any (B : Option Addr) (m k0 : Nat) (ls : List (List UInt8)) (w : World) (hs : Ss w B m k0 ls) (hwf : ∀ s ∈ ls, s.length ≤ maxLen) :
    Calls Tryd.prog 109 #[.slice B m k0] w fun e w' => e = .returned (.bool (Tree.all32 ls)) ∧ w = w' := by
  have hm := hs.max
  have hcap := hs.cap
  rw [maxLen_eq] at hm
  have HW := Lib.hid hwf
  clear hwf
  go_enter Tryd.func109, Tryd.ntmps109
  go_wp2
  go_loop [7] (fun vi => ∃ k : Nat, k ≤ m ∧ vi = .int .i64 k ∧ Hid (∀ j s, j < k → ls[j]? = some s → s.length = 32)) (fun vi => m - (intOf vi).toNat)
  case atStart => exact ⟨0, by omega, rfl, Lib.hid (fun j s h => by omega)⟩
  case round =>
    obtain ⟨k, hk, rfl, hr⟩ := hrel
    by_cases hlt : k < m
    · obtain ⟨b, off, rfl, hb, hcell, s, hks⟩ := hs.at hlt
      have x0 := hcell k s hks
      have hsl := HW.out s (mem_at hks)
      rw [maxLen_eq] at hsl
      have z := strLen s
      obtain ⟨q, hq⟩ : ∃ q, s.length = q := ⟨_, rfl⟩
      rw [hq] at hsl z
      have HQ := Lib.hid hq
      have HK := Lib.hid hks
      clear hcell hks hq
      by_cases hbig : ¬ q = 32
      · have hfin := Lib.hid (show Tree.all32 ls = false by
          refine Bool.eq_false_iff.2 fun h => ?_
          have := Tree.all32_iff.1 h s (mem_at HK.out)
          rw [HQ.out] at this
          exact hbig this)
        have b1 : ((q : Int) == 32) = false := beq_eq_false_iff_ne.2 (by omega)
        go_wp2
        go_ret
        exact ⟨by rw [hfin.out]; rfl, rfl⟩
      · have hnext := Lib.hid (show ∀ j s, j < k + 1 → ls[j]? = some s → s.length = 32 from fun j t hj ht => by
          by_cases e : j = k
          · subst e
            have := HK.out
            rw [ht] at this
            injection this with this
            rw [this, HQ.out]; omega
          · exact hr.out j t (by omega) ht)
        have b1 : (q : Int) = 32 := by omega
        have b2 : ((q : Int) == 32) = true := by rw [b1]; rfl
        go_wp2
        go_round
        case rel => exact ⟨k + 1, by omega, by go_num, hnext⟩
        case measure => simp [intOf]; omega
    · obtain rfl : k = m := by omega
      have hall : ∀ s ∈ ls, s.length = 32 := fun s hsm => by
        obtain ⟨j, hj, e⟩ := List.getElem_of_mem hsm
        exact hr.out j s (by have := hs.len; omega) (by rw [← e]; exact List.getElem?_eq_getElem hj)
      have hfin := Lib.hid (Tree.all32_iff.2 hall)
      clear hall
      go_wp2
      go_ret
      exact ⟨by rw [hfin.out]; rfl, rfl⟩
set_option maxHeartbeats 4000000 in
theorem right6_any (B : Option Addr) (m k0 : Nat) (ls : List (List UInt8)) (w : World) (hs : Ss w B m k0 ls) (hwf : ∀ s ∈ ls, s.length ≤ maxLen) :
    Calls Tryd.prog 102 #[.slice B m k0] w fun e w' => e = .returned (.bool (Tree.all32 ls)) ∧ w = w' := by
  have hm := hs.max
  have hcap := hs.cap
  rw [maxLen_eq] at hm
  have HW := Lib.hid hwf
  clear hwf
  go_enter Tryd.func102, Tryd.ntmps102
  go_wp2
  go_loop [3] (fun vi => ∃ k : Nat, k ≤ m ∧ vi = .int .i64 k ∧ Hid (∀ j s, j < k → ls[j]? = some s → s.length = 32)) (fun vi => m - (intOf vi).toNat)
  case atStart => exact ⟨0, by omega, rfl, Lib.hid (fun j s h => by omega)⟩
  case round =>
    obtain ⟨k, hk, rfl, hr⟩ := hrel
    by_cases hlt : k < m
    · obtain ⟨b, off, rfl, hb, hcell, s, hks⟩ := hs.at hlt
      have x0 := hcell k s hks
      have hsl := HW.out s (mem_at hks)
      rw [maxLen_eq] at hsl
      have z := strLen s
      obtain ⟨q, hq⟩ : ∃ q, s.length = q := ⟨_, rfl⟩
      rw [hq] at hsl z
      have HQ := Lib.hid hq
      have HK := Lib.hid hks
      clear hcell hks hq
      by_cases hbig : ¬ q = 32
      · have hfin := Lib.hid (show Tree.all32 ls = false by
          refine Bool.eq_false_iff.2 fun h => ?_
          have := Tree.all32_iff.1 h s (mem_at HK.out)
          rw [HQ.out] at this
          exact hbig this)
        have b1 : ((q : Int) == 32) = false := beq_eq_false_iff_ne.2 (by omega)
        go_wp2
        go_ret
        exact ⟨by rw [hfin.out]; rfl, rfl⟩
      · have hnext := Lib.hid (show ∀ j s, j < k + 1 → ls[j]? = some s → s.length = 32 from fun j t hj ht => by
          by_cases e : j = k
          · subst e
            have := HK.out
            rw [ht] at this
            injection this with this
            rw [this, HQ.out]; omega
          · exact hr.out j t (by omega) ht)
        have b1 : (q : Int) = 32 := by omega
        have b2 : ((q : Int) == 32) = true := by rw [b1]; rfl
        go_wp2
        go_round
        case rel => exact ⟨k + 1, by omega, by go_num, hnext⟩
        case measure => simp [intOf]; omega
    · obtain rfl : k = m := by omega
      have hall : ∀ s ∈ ls, s.length = 32 := fun s hsm => by
        obtain ⟨j, hj, e⟩ := List.getElem_of_mem hsm
        exact hr.out j s (by have := hs.len; omega) (by rw [← e]; exact List.getElem?_eq_getElem hj)
      have hfin := Lib.hid (Tree.all32_iff.2 hall)
      clear hall
      go_wp2
      go_ret
      exact ⟨by rw [hfin.out]; rfl, rfl⟩
set_option maxHeartbeats 4000000 in
theorem great6_any (B : Option Addr) (m k0 : Nat) (ls : List (List UInt8)) (w : World) (hs : Ss w B m k0 ls) (hwf : ∀ s ∈ ls, s.length ≤ maxLen) :
    Calls Tryd.prog 17 #[.slice B m k0] w fun e w' => e = .returned (.bool (Tree.great ls)) ∧ w = w' := by
  have hm := hs.max
  have hcap := hs.cap
  rw [maxLen_eq] at hm
  have HW := Lib.hid hwf
  clear hwf
  go_enter Tryd.func17, Tryd.ntmps17
  go_wp2
  go_loop [3] (fun vi => ∃ k : Nat, k ≤ m ∧ vi = .int .i64 k ∧ Hid (∀ j s, j < k → ls[j]? = some s → s.length ≤ 100)) (fun vi => m - (intOf vi).toNat)
  case atStart => exact ⟨0, by omega, rfl, Lib.hid (fun j s h => by omega)⟩
  case round =>
    obtain ⟨k, hk, rfl, hr⟩ := hrel
    by_cases hlt : k < m
    · obtain ⟨b, off, rfl, hb, hcell, s, hks⟩ := hs.at hlt
      have x0 := hcell k s hks
      have hsl := HW.out s (mem_at hks)
      rw [maxLen_eq] at hsl
      have z := strLen s
      obtain ⟨q, hq⟩ : ∃ q, s.length = q := ⟨_, rfl⟩
      rw [hq] at hsl z
      have HQ := Lib.hid hq
      have HK := Lib.hid hks
      clear hcell hks hq
      by_cases hbig : 100 < q
      · have hfin := Lib.hid (show Tree.great ls = true by
          unfold Tree.great
          rw [Bool.or_eq_true]
          exact .inl (List.any_eq_true.2 ⟨s, mem_at HK.out, by rw [HQ.out]; exact decide_eq_true hbig⟩))
        go_wp2
        go_ret
        exact ⟨by rw [hfin.out]; rfl, rfl⟩
      · have hnext := Lib.hid (show ∀ j s, j < k + 1 → ls[j]? = some s → s.length ≤ 100 from fun j t hj ht => by
          by_cases e : j = k
          · subst e
            have := HK.out
            rw [ht] at this
            injection this with this
            rw [this, HQ.out]; omega
          · exact hr.out j t (by omega) ht)
        go_wp2
        go_round
        case rel => exact ⟨k + 1, by omega, by go_num, hnext⟩
        case measure => simp [intOf]; omega
    · obtain rfl : k = m := by omega
      have hall : ∀ s ∈ ls, s.length ≤ 100 := fun s hsm => by
        obtain ⟨j, hj, e⟩ := List.getElem_of_mem hsm
        exact hr.out j s (by have := hs.len; omega) (by rw [← e]; exact List.getElem?_eq_getElem hj)
      have hfin := Lib.hid (show Tree.great ls = decide (100 < k) by
        unfold Tree.great
        have : ls.any (fun s => decide (100 < s.length)) = false := List.any_eq_false.2 fun s hsm => by rw [decide_eq_true_eq]; have := hall s hsm; omega
        rw [this, Bool.false_or, hs.len])
      clear hall
      have hd := Lib.hid (dec_nat 100 k)
      go_wp2
      go_ret
      exact ⟨by rw [hfin.out, ← hd.out]; rfl, rfl⟩
abbrev tnd (a b : List UInt8) : List UInt8 := seal_ 1 (a ++ b)
def StrPost (s : List UInt8) (w : World) (e : Ending) (w' : World) : Prop := e = .returned (sv s) ∧ Below w.heap.size w w'
theorem tnode_any (l r : List UInt8) (w : World) (hl : l.length = 32) (hr : r.length = 32) (ht : Tabs w) :
    Calls Tryd.prog 122 #[sv l, sv r] w (StrPost (tnd l r) w) := by
  have HT := Lib.hid (node_any l r w hl hr ht)
  clear ht hl hr
  go_enter Tryd.func122, Tryd.ntmps122
  go_wp2_with fail
  refine HT.out.mono ?_
  rintro e w1 ⟨rfl, hb⟩
  go_wp2
  go_ret
  exact ⟨rfl, hb⟩
end Go.Proofs.YtfgpaepdlmnhaaaDoor
