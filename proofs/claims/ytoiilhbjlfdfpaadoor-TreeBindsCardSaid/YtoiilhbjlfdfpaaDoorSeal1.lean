/- join, of the package seal: a kind's byte and the parts, one behind the other. No statement of the seat is proved here. -/
import Derived.Test.YtoiilhbjlfdfpaaDoorShaKnows
import Derived.Test.YtoiilhbjlfdfpaaDoorPieces
namespace Go.Proofs.YtoiilhbjlfdfpaaDoor
set_option linter.unusedVariables false
open Go.RowKit

def flatP (f : Nat → Piece) (n : Nat) : List UInt8 := (List.range n).flatMap fun i => (f i).l
theorem flatP_succ (f : Nat → Piece) (n : Nat) : flatP f (n + 1) = flatP f n ++ (f n).l := by
  unfold flatP
  rw [List.range_succ, List.flatMap_append, List.flatMap_singleton]
def JoinPost (kd : UInt8) (l : List UInt8) (w : World) (e : Ending) (w' : World) : Prop :=
  ∃ A c, e = .returned (.slice A (l.length + 1) c) ∧ w'.ownsRow w.heap.size 5 1 (.slice A (l.length + 1) c) (l.length + 1) ((kd :: l).map bv) ∧ l.length + 1 ≤ c ∧ c ≤ maxLen ∧ Below w.heap.size w w'
set_option maxRecDepth 100000 in
set_option maxHeartbeats 4000000 in
theorem join_any (kd : UInt8) (A : Option Addr) (n c : Nat) (f : Nat → Piece) (w : World) (hr : RowsAt w A n f) (hc : n ≤ c) (hm : c ≤ maxLen) (hn : n ≤ 4) (hl : ∀ i, i < n → (f i).n ≤ 1000000) :
    Calls Tryd.prog 64 #[.int .u8 (kd.toNat : Int), .slice A n c] w (JoinPost kd (flatP f n) w) := by
  rw [maxLen_eq] at hm
  have HR := Lib.hid hr
  have HL := Lib.hid hl
  have hk0 := kd.toNat_lt
  clear hr hl
  go_enter Tryd.func64, Tryd.ntmps64
  go_wp2
  go_loopw [5, 12] (fun v i wr => ∃ (k u : Nat) (A6 : Option Addr) (c6 : Nat), k ≤ n ∧ i = .int .i64 k ∧ u = (flatP f k).length + 1 ∧ u ≤ 1000000 * k + 1 ∧ v = .slice A6 u c6 ∧ u ≤ c6 ∧ c6 ≤ 9223372036854775807 ∧ wr.ownsRow w.heap.size 5 1 (.slice A6 u c6) u ((kd :: flatP f k).map bv) ∧ Below w.heap.size w wr) (fun _ i _ => n - (intOf i).toNat)
  case atStart => exact ⟨0, 1, _, 1, by omega, rfl, rfl, by omega, rfl, Nat.le_refl _, by omega, own_new w [bv kd] 5 1 1 rfl (by decide) (Nat.le_refl _), (Below.refl _ w).alloc (Nat.le_refl _) _⟩
  case round =>
    obtain ⟨k, u, A6, c6, hk, rfl, hu, hub, rfl, hc6, hc6', hown, hbel⟩ := hrel
    have HO := Lib.hid hown
    have HB := Lib.hid hbel
    have HU := Lib.hid hu
    clear hown hbel hu
    by_cases hlt : k < n
    · obtain ⟨b, off, rfl, hb, hrows⟩ := HR.out (by omega)
      obtain ⟨hcell, hpc⟩ := hrows k hlt
      have hxn := HL.out k hlt
      obtain ⟨x, hx⟩ : ∃ x, f k = x := ⟨_, rfl⟩
      rw [hx] at hcell hpc hxn
      have HX := Lib.hid hx
      have HP := Lib.hid hpc
      have x0 := (HB.out.cell (p := ⟨b, off + k, none⟩) hb).trans hcell
      clear hrows hcell hpc hx
      go_wp2_with (first
        | (at_builtin; refine wl_app rfl (.tmp 16) (.tmp 17) 50 rfl w.heap.size 5 1 1 bytesT _ u _ rfl HO.out w.heap.size x.a x.n x.c (x.l.map bv) rfl (HP.out.rd.below' HB.out (Nat.le_refl _)) (by simpa using HP.out.len) (one_bv _) (by rw [maxLen_eq]; omega) (by omega) HB.out.size ?_; intro A3 c3 w3 hown3 hg3 hat3 hb3 hd3 hd3'; rw [← List.map_append] at hown3; have HO3 := Lib.hid hown3; have HB3 := Lib.hid (HB.out.trans hb3); have HC3 := Lib.hid (And.intro hd3 hd3'); clear hown3 hg3 hat3 hb3 hd3 hd3'))
      go_roundw
      case rel => exact ⟨k + 1, u + x.n, A3, c3, by omega, by go_num, by rw [flatP_succ, HX.out, List.length_append, HP.out.len, HU.out]; omega, by omega, rfl, HC3.out.1, by have := HC3.out.2; rw [maxLen_eq] at this; exact this, by rw [flatP_succ, HX.out]; exact HO3.out, HB3.out⟩
      case measure => simp [intOf]; omega
    · obtain rfl : k = n := by omega
      go_wp2
      go_ret
      refine ⟨A6, c6, by rw [← HU.out]; rfl, by rw [← HU.out]; exact HO.out, by rw [← HU.out]; exact hc6, by rw [maxLen_eq]; exact hc6', HB.out⟩
end Go.Proofs.YtoiilhbjlfdfpaaDoor
