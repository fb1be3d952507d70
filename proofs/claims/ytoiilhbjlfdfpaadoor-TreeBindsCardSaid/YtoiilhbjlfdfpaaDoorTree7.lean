/- descend and Climb, of the tree. No statement of the seat is proved here. -/
import Derived.Test.YtoiilhbjlfdfpaaDoorTree6
namespace Go.Proofs.YtoiilhbjlfdfpaaDoor
set_option linter.unusedVariables false
open Go.RowKit

/-- A slice of truths that is the call's own. -/
structure OwnF (w : World) (B : Nat) (A : Option Addr) (n c : Nat) (l : List Bool) : Prop where
  own : w.ownsRow B 4 1 (.slice A n c) n (l.map Value.bool)
  len : l.length = n
  cap : n ≤ c
  max : c ≤ maxLen
section
variable {w w' : World} {B B' n c : Nat} {A : Option Addr} {l : List Bool}
theorem OwnF.keep (h : OwnF w B A n c l) (hb : Below w.heap.size w w') : OwnF w' B A n c l := ⟨own_keep h.own hb (Nat.le_refl _), h.len, h.cap, h.max⟩
theorem OwnF.nil (w : World) (B : Nat) : OwnF w B none 0 0 [] := ⟨own_nil _ _ _ _, rfl, Nat.le_refl _, Nat.zero_le _⟩
theorem info_bool : (Tryd.prog.info? 4).map (fun i => (i.zero, i.size, i.bytes)) = some (some (.bool false), 1, 1) := by kernel_rfl
theorem boolsT : ElemT Tryd.prog 62 4 1 1 := ElemT.mk' Tryd.underlying62 info_bool rfl (by omega)
theorem OwnF.at (h : OwnF w B A n c l) {k : Nat} {s : Bool} (hs : l[k]? = some s) : ∃ b off, A = some ⟨b, off, none⟩ ∧ b < w.heap.size ∧ w.cell? ⟨b, off + k, none⟩ = some (.bool s) := by
  obtain ⟨b, off, hA, hb, hc⟩ := Rd.of_own h.own (fun e => by
    have h3 : l = [] := by simpa using e
    rw [h3] at hs
    simp at hs)
  exact ⟨b, off, hA, hb, hc k (.bool s) (by rw [List.getElem?_map, hs]; rfl)⟩
end
section
variable {ops : Array Oper} {rest : List Oper} {o : Oper} {a : Act} {Q : Exit → Act → World → Prop} {w : World}
/-- append(v, s): one truth. -/
theorem wl_appF1 (hgd : o.guard = none) (s x : Operand) (ho : o.op = .call { callee := .builtin .append, args := #[s, x], argTypes := #[62, 62] })
    {w0 : World} {B : Nat} {A : Option Addr} {n c : Nat} {l : List Bool} (hs : a.eval s = .slice A n c) (h1 : OwnF w0 B A n c l)
    (hx : a.eval x = .slice (some ⟨w0.heap.size, 0, none⟩) 1 1) (b : Bool) (hsz : n ≤ 1000000000000) (hB : B ≤ w0.heap.size)
    (h : ∀ A' n' c' w', OwnF w' B A' n' c' (l ++ [b]) → Below B w0 w' → wpList Tryd.prog ops Q rest (a.put o.dst (.slice A' n' c')) w') : wpList Tryd.prog ops Q (o :: rest) a (w0.alloc (.cells #[.bool b] 4)) := by
  have hb0 : Below w0.heap.size w0 (w0.alloc (.cells #[.bool b] 4)) := (Below.refl _ w0).alloc (Nat.le_refl _) _
  refine wl_app hgd s x 62 ho B 4 1 1 boolsT _ n _ hs (h1.keep hb0).own (w0.heap.size + 1) (some ⟨w0.heap.size, 0, none⟩) 1 1 [.bool b] hx (rd_new w0 [.bool b] 4 (0, 0)) rfl (by simp [Value.oneCell']) (by rw [maxLen_eq]; omega) (by omega) (Nat.le_trans hB hb0.size) fun A' c' w' g1 g2 _ g4 g5 g6 => ?_
  exact h A' (n + 1) c' w' ⟨by rw [List.map_append]; exact g1, by rw [List.length_append, h1.len]; rfl, g5, g6⟩ ((hb0.mono hB).trans g4)
end
def OwnFPost (B : Nat) (l : List Bool) (w : World) (e : Ending) (w' : World) : Prop := ∃ A n c, e = .returned (.slice A n c) ∧ OwnF w' B A n c l ∧ Below B w w'
set_option maxRecDepth 100000 in
set_option maxHeartbeats 8000000 in
theorem descend_any (i n : Nat) (w : World) (hi : i < n) (hn : n ≤ 1099511627776) : Calls Tryd.prog 45 #[.int .i64 (i : Int), .int .i64 (n : Int)] w (OwnFPost w.heap.size (Tree.sides i n) w) := by
  have hlog := Tree.sides_log 40 i n (by rw [show (2 : Nat) ^ 40 = 1099511627776 by decide]; exact hn) hi
  obtain ⟨S, hS⟩ : ∃ S, Tree.sides i n = S := ⟨_, rfl⟩
  rw [hS] at hlog ⊢
  have HS := Lib.hid hS
  clear hS
  go_enter Tryd.func45, Tryd.ntmps45
  go_wp2
  go_loopw [0, 1, 5] (fun vi vn vs wr => ∃ (x m : Nat) (A' : Option Addr) (n' c' : Nat) (acc : List Bool), vi = .int .i64 x ∧ vn = .int .i64 m ∧ vs = .slice A' n' c' ∧ x < m ∧ m ≤ n ∧ n' ≤ 40 ∧ OwnF wr w.heap.size A' n' c' acc ∧ Below w.heap.size w wr ∧ Hid (acc ++ Tree.sides x m = S)) (fun _ vn _ _ => (intOf vn).toNat)
  case atStart => exact ⟨i, n, none, 0, 0, [], rfl, rfl, rfl, hi, Nat.le_refl _, by omega, OwnF.nil _ _, Below.refl _ _, Lib.hid HS.out⟩
  case round =>
    obtain ⟨x, m, A', n', c', acc, rfl, rfl, rfl, hxm, hmn, hn', hown, hbel, heq⟩ := hrel
    by_cases h1 : 1 < m
    · obtain ⟨k0, hk⟩ : ∃ k0, Tree.sp m = k0 := ⟨_, rfl⟩
      have kp := Tree.sp_pos (n := m) (by omega)
      have kl := Tree.sp_lt (n := m) (by omega)
      rw [hk] at kp kl
      have HSP := Lib.hid (show Tree.spz (m : Int) = k0 by rw [Tree.spz_in (by omega) (by omega), hk])
      have hsplit := fun (w : World) => split_any (m : Int) w (by omega) (by omega)
      by_cases hlt : x < k0
      · have hsd := Tree.sides_left (i := x) (n := m) (by omega) (by rw [hk]; exact hlt)
        rw [hk] at hsd
        have HN := Lib.hid (show (acc ++ [false]) ++ Tree.sides x k0 = S by rw [List.append_assoc, ← heq.out, hsd]; rfl)
        have hl9 : n' + 1 ≤ 40 := by
          have := congrArg List.length HN.out
          rw [List.length_append, List.length_append, hown.len] at this
          simp at this; omega
        have hci : (x : Int) < (k0 : Int) := by omega
        clear hsd hk heq
        go_wp2_with fail
        refine (hsplit wr).mono ?_
        rintro e w1 ⟨rfl, rfl⟩
        rw [HSP.out]
        go_wp2_with (at_builtin; refine wl_appF1 rfl (.tmp 14) (.tmp 15) rfl rfl hown rfl false (by omega) hbel.size ?_; intro A1 n1 c1 w1 ho1 hb1)
        have hn1 : n1 ≤ 40 := by have := ho1.len; rw [List.length_append, hown.len] at this; simp at this; omega
        go_roundw
        case rel => exact ⟨x, k0, A1, n1, c1, _, rfl, rfl, rfl, hlt, by omega, hn1, ho1, hbel.trans hb1, Lib.hid HN.out⟩
        case measure => simp [intOf]; omega
      · have hsd := Tree.sides_right (i := x) (n := m) (by omega) (by rw [hk]; exact hlt)
        rw [hk] at hsd
        have HN := Lib.hid (show (acc ++ [true]) ++ Tree.sides (x - k0) (m - k0) = S by rw [List.append_assoc, ← heq.out, hsd]; rfl)
        have hl9 : n' + 1 ≤ 40 := by
          have := congrArg List.length HN.out
          rw [List.length_append, List.length_append, hown.len] at this
          simp at this; omega
        have hci : ¬ (x : Int) < (k0 : Int) := by omega
        clear hsd hk heq
        go_wp2_with fail
        refine (hsplit wr).mono ?_
        rintro e w1 ⟨rfl, rfl⟩
        rw [HSP.out]
        go_wp2_with (at_builtin; refine wl_appF1 rfl (.tmp 18) (.tmp 19) rfl rfl hown rfl true (by omega) hbel.size ?_; intro A1 n1 c1 w1 ho1 hb1)
        have hn1 : n1 ≤ 40 := by have := ho1.len; rw [List.length_append, hown.len] at this; simp at this; omega
        go_roundw
        case rel => exact ⟨x - k0, m - k0, A1, n1, c1, _, by go_num, by go_num, rfl, by omega, by omega, hn1, ho1, hbel.trans hb1, Lib.hid HN.out⟩
        case measure => simp [intOf]; omega
    · have HF := Lib.hid (show acc = S by have := heq.out; rw [Tree.sides_small (by omega), List.append_nil] at this; exact this)
      go_wp2
      go_ret
      exact ⟨A', n', c', rfl, by rw [← HF.out]; exact hown, hbel⟩
end Go.Proofs.YtoiilhbjlfdfpaaDoor
