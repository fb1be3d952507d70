/- Bytes and Of, of the reference's layer 3. No statement of the seat is proved here. -/
import Derived.Test.YtoiilhbjlfdfpaaDoorSeal3
namespace Go.Proofs.YtoiilhbjlfdfpaaDoor
set_option linter.unusedVariables false
open Go.RowKit

set_option maxRecDepth 100000 in
set_option maxHeartbeats 4000000 in
theorem rbytes_any (kd : UInt8) (A : Option Addr) (n c : Nat) (l : List UInt8) (w : World) (hr : Rd w w.heap.size A (l.map bv)) (hn : l.length = n) (hc : n ≤ c) (hm : c ≤ maxLen) (hs : n ≤ 1000000) :
    Calls Tryd.prog 70 #[.int .i64 (kd.toNat : Int), .slice A n c] w (JoinPost kd l w) := by
  rw [maxLen_eq] at hm
  have HR := Lib.hid (And.intro hr hn)
  have hk0 := kd.toNat_lt
  clear hr hn
  go_enter Tryd.func70, Tryd.ntmps70
  go_wp2
  go_loopw [5, 6] (fun v i wr => ∃ (k u : Nat) (A6 : Option Addr) (c6 : Nat), k ≤ n ∧ i = .int .i64 k ∧ u = k + 1 ∧ v = .slice A6 u c6 ∧ u ≤ c6 ∧ c6 ≤ 9223372036854775807 ∧ wr.ownsRow w.heap.size 5 1 (.slice A6 u c6) u ((kd :: l.take k).map bv) ∧ Below w.heap.size w wr) (fun _ i _ => n - (intOf i).toNat)
  case atStart => exact ⟨0, 1, _, 1, by omega, rfl, rfl, rfl, Nat.le_refl _, by omega, own_new w [bv kd] 5 1 1 rfl (by decide) (Nat.le_refl _), (Below.refl _ w).alloc (Nat.le_refl _) _⟩
  case round =>
    obtain ⟨k, u, A6, c6, hk, rfl, hu, rfl, hc6, hc6', hown, hbel⟩ := hrel
    have HO := Lib.hid hown
    have HB := Lib.hid hbel
    have HU := Lib.hid hu
    have hu2 : u ≤ n + 1 := by omega
    clear hown hbel hu
    by_cases hlt : k < n
    · obtain ⟨b, off, rfl, hb, hcell⟩ := HR.out.1 (fun h => by
        have h2 : l = [] := by simpa using h
        have h3 := HR.out.2
        rw [h2] at h3
        simp at h3; omega)
      obtain ⟨x, hx⟩ : ∃ x, l[k]? = some x := ⟨_, List.getElem?_eq_getElem (by rw [HR.out.2]; exact hlt)⟩
      have x0 : _ = some (Value.int .u8 (x.toNat : Int)) := (HB.out.cell (p := ⟨b, off + k, none⟩) hb).trans (hcell k (bv x) (by rw [List.getElem?_map, hx]; rfl))
      have HX := Lib.hid hx
      clear hcell hx
      go_wp2_with (first
        | (at_builtin; refine wl_app rfl (.tmp 16) (.tmp 21) 50 rfl w.heap.size 5 1 1 bytesT _ u _ rfl (HO.out.alloc _) (_ + 1) (some ⟨_, 0, none⟩) 1 1 [bv x] rfl (rd_new _ [bv x] 5 (0, 0)) rfl (by simp [bv, Value.oneCell']) (by rw [maxLen_eq]; omega) (by omega) (Nat.le_trans HB.out.size (by unfold World.alloc; simp)) ?_; intro A3 c3 w3 hown3 hg3 hat3 hb3 hd3 hd3'; have HO3 := Lib.hid hown3; have HB3 := Lib.hid ((HB.out.alloc HB.out.size _).trans hb3); have HC3 := Lib.hid (And.intro hd3 hd3'); clear hown3 hg3 hat3 hb3 hd3 hd3'))
      go_roundw
      case rel => exact ⟨k + 1, u + 1, A3, c3, by omega, by go_num, by have := HU.out; omega, rfl, HC3.out.1, by have := HC3.out.2; rw [maxLen_eq] at this; exact this, by rw [List.take_add_one, HX.out, Option.toList_some, ← List.cons_append]; exact own_snoc HO3.out rfl, HB3.out⟩
      case measure => simp [intOf]; omega
    · obtain rfl : k = n := by omega
      have ht : l.take k = l := List.take_of_length_le (by rw [HR.out.2]; exact Nat.le_refl _)
      have hfin := HO.out
      rw [ht] at hfin
      have HF := Lib.hid hfin
      clear ht hfin
      go_wp2
      go_ret
      exact ⟨A6, c6, by rw [HR.out.2, ← HU.out]; rfl, by rw [HR.out.2, ← HU.out]; exact HF.out, by rw [HR.out.2, ← HU.out]; exact hc6, by rw [maxLen_eq]; exact hc6', HB.out⟩
set_option maxHeartbeats 4000000 in
theorem rof_any (kd : UInt8) (A : Option Addr) (n c : Nat) (l : List UInt8) (w : World) (hr : Rd w w.heap.size A (l.map bv)) (hn : l.length = n) (hc : n ≤ c) (hm : c ≤ maxLen) (hs : n ≤ 1000000) :
    Calls Tryd.prog 61 #[.int .i64 (kd.toNat : Int), .slice A n c] w (SealPost kd l w) := by
  have HR := Lib.hid (And.intro hr (And.intro hn hm))
  clear hr hn hm
  go_enter Tryd.func61, Tryd.ntmps61
  go_wp2_with fail
  refine (rbytes_any kd A n c l w HR.out.1 HR.out.2.1 hc HR.out.2.2 hs).mono ?_
  rintro e w1 ⟨A1, c1, rfl, ho, h1, h2, hb⟩
  have HO := Lib.hid (And.intro ho (And.intro h1 (And.intro h2 hb)))
  clear ho h1 h2 hb
  go_wp2_with fail
  refine Calls.mono (show Calls Tryd.prog 49 #[.slice A1 (l.length + 1) c1] w1 (RSumPost (kd :: l) w1) from rsum_any A1 (l.length + 1) c1 (kd :: l) w1 (Rd.of_own HO.out.1) rfl HO.out.2.1 HO.out.2.2.1 (by rw [HR.out.2.1]; omega)) ?_
  rintro e w2 ⟨rfl, hb2⟩
  have HB2 := Lib.hid (bt HO.out.2.2.2 hb2)
  clear hb2
  go_wp2
  go_ret
  exact ⟨rfl, HB2.out⟩
theorem str_append (a b : List UInt8) : str a ++ str b = str (a ++ b) := by
  apply ByteArray.ext
  simp [str, ByteArray.data_append]
set_option maxHeartbeats 4000000 in
theorem rnode_any (l r : List UInt8) (w : World) (hl : l.length ≤ 100000) (hr : r.length ≤ 100000) :
    Calls Tryd.prog 47 #[sv l, sv r] w (SealPost 1 (l ++ r) w) := by
  have hap := str_append l r
  have z1 := str_size l
  have z2 := str_size r
  go_enter Tryd.func47, Tryd.ntmps47
  go_wp2_with (first
    | (refine wl_bytes rfl 9 50 (.tmp 7) rfl 5 Tryd.underlying9 Tryd.underlying50 Tryd.underlying5 (l ++ r) rfl (by rw [maxLen_eq, List.length_append]; omega) ?_; intro A1 c1 w1 hr1 hc1 hc1' hb1; have H1 := Lib.hid (And.intro hr1 (And.intro hc1 (And.intro hc1' hb1))); clear hr1 hc1 hc1' hb1))
  refine Calls.mono (show Calls Tryd.prog 61 #[.int .i64 ((1 : UInt8).toNat : Int), .slice A1 (l.length + r.length) c1] w1 (SealPost 1 (l ++ r) w1) from rof_any 1 A1 (l.length + r.length) c1 (l ++ r) w1 H1.out.1 (by rw [List.length_append]) (by have h := H1.out.2.1; rw [List.length_append] at h; exact h) H1.out.2.2.1 (by omega)) ?_
  rintro e w2 ⟨rfl, hb2⟩
  have HB2 := Lib.hid (bt H1.out.2.2.2 hb2)
  clear hb2
  go_wp2
  go_ret
  exact ⟨rfl, HB2.out⟩
end Go.Proofs.YtoiilhbjlfdfpaaDoor
