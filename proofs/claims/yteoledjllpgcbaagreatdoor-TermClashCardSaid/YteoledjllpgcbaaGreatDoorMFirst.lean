/- MFirst: several texts of this claim in one file. No statement of the seat is proved here. -/
import Derived.Test.YteoledjllpgcbaaGreatDoorMCode
import Derived.Test.YteoledjllpgcbaaGreatDoorMPostA
import Derived.Test.YteoledjllpgcbaaGreatDoorMSealA
import Derived.Test.YteoledjllpgcbaaGreatDoorMHeadD
import Derived.Test.YteoledjllpgcbaaGreatDoorMTreeA
import Derived.Test.YteoledjllpgcbaaGreatDoorMReplyE
namespace Go.Proofs.YteoledjllpgcbaaGreatDoor.Code
set_option maxRecDepth 100000
set_option maxHeartbeats 64000000
set_option linter.unusedVariables false
def lead : List UInt8 → Nat
 | [] => 0
 | c :: t => if c.toNat < 128 then 0 else lead t + 1
def vals : List UInt8 → Nat
 | [] => 0
 | c :: t => c.toNat % 128 + 128 * vals t
theorem lead_le : ∀ b : List UInt8, lead b ≤ b.length
 | [] => Nat.le_refl _
 | c :: t => by
  have := lead_le t
  rw [lead]
  split <;> simp <;> omega
theorem lead_at : ∀ (b : List UInt8) (k : Nat) (c : UInt8), b[k]? = some c → k ≤ lead b → (c.toNat < 128 ↔ lead b = k)
 | [], k, c, h, _ => by simp at h
 | d :: t, 0, c, h, _ => by
  simp only [List.getElem?_cons_zero, Option.some.injEq] at h
  subst h
  rw [lead]
  split <;> simp_all
 | d :: t, k + 1, c, h, hk => by
  rw [List.getElem?_cons_succ] at h
  rw [lead] at hk ⊢
  split at hk
  · omega
  ·
   rename_i hd
   rw [if_neg hd]
   have := lead_at t k c h (by omega)
   rw [this]
   omega
theorem vals_lt : ∀ l : List UInt8, vals l < 128 ^ l.length
 | [] => by simp [vals]
 | c :: t => by
  have := vals_lt t
  rw [vals, List.length_cons, Nat.pow_succ]
  have : c.toNat % 128 < 128 := Nat.mod_lt _ (by omega)
  omega
theorem vals_le {l : List UInt8} {k : Nat} (h : l.length ≤ k) : vals l < 128 ^ k := Nat.lt_of_lt_of_le (vals_lt l) (Nat.pow_le_pow_right (by omega) h)
theorem scan_far : ∀ (b : List UInt8) (n v : Nat), n ≤ 9 → 9 ≤ n + lead b → scan b n v = .error 2
 | [], n, v, h, h2 => by
  have : n = 9 := by simp [lead] at h2; omega
  rw [scan, if_pos this]
 | c :: t, n, v, h, h2 => by
  rw [scan]
  split
  · rfl
  ·
   rw [lead] at h2
   split at h2
   · omega
   ·
    rename_i hc
    rw [if_neg hc]
    exact scan_far t (n + 1) _ (by omega) (by omega)
theorem scan_end : ∀ (b : List UInt8) (n v : Nat), n + lead b < 9 → lead b = b.length → scan b n v = .error 4
 | [], n, v, h, _ => by rw [scan, if_neg (by simp [lead] at h; omega)]
 | c :: t, n, v, h, h2 => by
  rw [lead] at h h2
  split at h2
  · simp at h2
  ·
   rename_i hc
   rw [if_neg hc] at h
   rw [scan, if_neg (by omega), if_neg hc]
   exact scan_end t (n + 1) _ (by omega) (by simpa using h2)
theorem scan_hit : ∀ (b : List UInt8) (n v : Nat), n + lead b < 9 → lead b < b.length → ∃ c, scan b n v = .ok (v + vals (b.take (lead b + 1)) * 128 ^ n, n + lead b + 1, c)
 | [], n, v, _, h => by simp at h
 | c :: t, n, v, h, h2 => by
  by_cases hc : c.toNat < 128
  ·
   refine ⟨c, ?_⟩
   rw [scan, if_neg (by omega), if_pos hc, lead, if_pos hc]
   simp only [Nat.zero_add, List.take_succ_cons, List.take_zero, vals, Nat.mul_zero, Nat.add_zero]
   rw [Nat.mod_eq_of_lt hc]
  ·
   rw [lead, if_neg hc] at h h2
   obtain ⟨d, hd⟩ := scan_hit t (n + 1) (v + c.toNat % 128 * 128 ^ n) (by omega) (by simpa using h2)
   refine ⟨d, ?_⟩
   rw [scan, if_neg (by omega), if_neg hc, hd, lead, if_neg hc, List.take_succ_cons, vals]
   congr 2
   ·
    rw [Nat.pow_succ, Nat.add_mul, Nat.add_assoc]
    congr 2
    rw [Nat.mul_comm 128, Nat.mul_assoc, Nat.mul_comm 128]
   · congr 1; omega
theorem first_far {b : List UInt8} (h : 9 ≤ lead b) : getNum b = .error 2 := by
 unfold getNum
 rw [scan_far b 0 0 (by omega) (by omega)]
 rfl
theorem first_end {b : List UInt8} (h : lead b < 9) (h2 : lead b = b.length) : getNum b = .error 4 := by
 unfold getNum
 rw [scan_end b 0 0 (by omega) h2]
 rfl
theorem first_hit {b : List UInt8} (h : lead b < 9) (h2 : lead b < b.length) : (getNum b = .error 2 ∧ (4611686018427387904 < vals (b.take (lead b + 1)) ∨ num (vals (b.take (lead b + 1))) ≠ b.take (lead b + 1))) ∨
  (getNum b = .ok (vals (b.take (lead b + 1)), lead b + 1) ∧ vals (b.take (lead b + 1)) ≤ 4611686018427387904 ∧ num (vals (b.take (lead b + 1))) = b.take (lead b + 1)) := by
 obtain ⟨c, hc⟩ := scan_hit b 0 0 (by omega) h2
 have he : getNum b = if (1 < lead b + 1 ∧ c = 0) ∨ 4611686018427387904 < vals (b.take (lead b + 1)) then .error 2 else .ok (vals (b.take (lead b + 1)), lead b + 1) := by
  unfold getNum fin
  rw [hc]
  simp
 by_cases hbad : (1 < lead b + 1 ∧ c = 0) ∨ 4611686018427387904 < vals (b.take (lead b + 1))
 ·
  rw [if_pos hbad] at he
  refine .inl ⟨he, ?_⟩
  refine Classical.byContradiction fun hno => ?_
  have h3 : vals (b.take (lead b + 1)) ≤ 4611686018427387904 := by
   refine Classical.byContradiction fun h => hno (.inl (by omega))
  have h4 : num (vals (b.take (lead b + 1))) = b.take (lead b + 1) := Classical.byContradiction fun h => hno (.inr h)
  have h5 := getNum_num (vals (b.take (lead b + 1))) (b.drop (lead b + 1)) h3
  rw [h4, List.take_append_drop, he] at h5
  cases h5
 ·
  rw [if_neg hbad] at he
  have := getNum_ok he
  exact .inr ⟨he, this.2.1, this.1.symm⟩
theorem vals_step {b : List UInt8} {j : Nat} {c : UInt8} {m : Nat} (h : b[j]? = some c) (hj : j < m) : vals ((b.take m).drop j) = c.toNat % 128 + 128 * vals ((b.take m).drop (j + 1)) := by
 have h1 : (b.take m)[j]? = some c := by rw [List.getElem?_take_of_lt hj]; exact h
 obtain ⟨hl, he⟩ := List.getElem?_eq_some_iff.1 h1
 rw [List.drop_eq_getElem_cons hl, he, vals]
end Go.Proofs.YteoledjllpgcbaaGreatDoor.Code
namespace Go.Proofs.YteoledjllpgcbaaGreatDoor
set_option maxRecDepth 100000
set_option maxHeartbeats 64000000
set_option linter.unusedVariables false
open Go.RowKit
theorem Bs.at {w : World} {A : Option Addr} {n c : Nat} {l : List UInt8} (h : Bs w A n c l) {k : Nat} (hk : k < n) : ∃ b off x, A = some ⟨b, off, none⟩ ∧ b < w.heap.size ∧ l[k]? = some x ∧ ∀ W, Below w.heap.size w W → W.cell? ⟨b, off + k, none⟩ = some (.int .u8 (x.toNat : Int)) := by
 have hk' : k < l.length := by rw [h.len]; exact hk
 obtain ⟨b, off, e, hb, hc⟩ := h.rd (by intro e; (have : l = [] := by simpa using e); rw [this] at hk'; simp at hk')
 refine ⟨b, off, l[k], e, hb, List.getElem?_eq_getElem hk', fun W hW => ?_⟩
 rw [hW.cell (p := ⟨b, off + k, none⟩) hb]
 exact hc k _ (by rw [List.getElem?_map, List.getElem?_eq_getElem hk']; rfl)
section
variable {w : World} {A : Option Addr} {n c : Nat} {l : List UInt8}
theorem run_cut8_hi (h : Bs w A n c l) (k : Nat) (hk : k ≤ n) :
  ∃ A', (Instr.sliceAt 28 (.slice A n c) none (some (.int .i64 (k : Int))) none).run Tryz.prog w = .ok (.slice A' k c) w ∧ Bs w A' k c (l.take k) := by
 have hu' : Tryz.prog.underlying 28 = some (.slice (Tryz.prog.elem 28)) := by kernel_rfl
 have hr1 := run_slice_h (P := Tryz.prog) w 28 A n c hu' .i64 (k : Int) (by omega) (by have := h.cap; omega)
 rw [show Tryz.prog.elem 28 = 5 by kernel_rfl, run_sizeOf_of 5 1 (by kernel_rfl), Result.andThen_ok] at hr1
 refine ⟨_, by rw [run_sliceAt_slice w 28 _ _ _ _ hu', hr1]; simp only [Int.toNat_natCast]; rfl, ?_, by rw [List.length_take, h.len]; omega, Nat.le_trans hk h.cap, h.max⟩
 rw [List.map_take]
 split
 · exact h.rd.take _
 ·
  have := (h.rd.take k).drop 0
  simpa using this
theorem run_cut8_lo (h : Bs w A n c l) (k : Nat) (hk : k ≤ n) :
  ∃ A', (Instr.sliceAt 28 (.slice A n c) (some (.int .i64 (k : Int))) none none).run Tryz.prog w = .ok (.slice A' (n - k) (c - k)) w ∧ Bs w A' (n - k) (c - k) (l.drop k) := by
 have hu' : Tryz.prog.underlying 28 = some (.slice (Tryz.prog.elem 28)) := by kernel_rfl
 have hcut := rd_cut (i := k) h.rd (by rw [List.length_map]; exact h.len) h.cap
 have hr1 := run_slice_l (P := Tryz.prog) w 28 A n c hu' .i64 (k : Int) (by omega) (by omega)
 rw [show Tryz.prog.elem 28 = 5 by kernel_rfl, run_sizeOf_of 5 1 (by kernel_rfl), Result.andThen_ok] at hr1
 refine ⟨_, by rw [run_sliceAt_slice w 28 _ _ _ _ hu', hr1]; simp only [Int.toNat_natCast]; rfl, ?_, by rw [List.length_drop, h.len], by have := h.cap; omega, by have := h.max; omega⟩
 rw [List.map_drop]
 exact hcut
end
def FirstV : Except Nat (Nat × Nat) → Value
 | .ok (v, k) => .tuple #[.int .i64 (v : Int), .int .i64 (k : Int), .int .i64 0]
 | .error x => .tuple #[.int .i64 0, .int .i64 0, .int .i64 (x : Int)]
def FirstPost (r : Except Nat (Nat × Nat)) (w : World) (e : Ending) (w' : World) : Prop := e = .returned (FirstV r) ∧ Below w.heap.size w w'
theorem rfirst2_any (A : Option Addr) (n c : Nat) (l : List UInt8) (w : World) (h : Bs w A n c l) : Calls Tryz.prog 99 #[.slice A n c] w (FirstPost (Code.getNum l) w) := by
 have hcp := h.cap
 have hmx := h.max
 rw [maxLen_eq] at hmx
 have HS := Lib.hid h
 have HLN := Lib.hid h.len
 clear h
 go_enter Tryz.func99, Tryz.ntmps99
 go_wp2
 go_loop [5] (fun vi => ∃ k : Nat, vi = .int .i64 (k : Int) ∧ k ≤ n ∧ k ≤ 9 ∧ Hid (k ≤ Code.lead l)) (fun vi => 9 - (intOf vi).toNat)
 case atStart => exact ⟨0, rfl, by omega, by omega, Lib.hid (Nat.zero_le _)⟩
 case round =>
  obtain ⟨k, rfl, hk, hk9, HK⟩ := hrel
  by_cases hkn : k < n
  ·
   by_cases h9 : k < 9
   ·
    obtain ⟨b, off, x, rfl, hb, hx, hcs⟩ := HS.out.at hkn
    have x0 := hcs w (Below.refl _ _)
    have HAT := Lib.hid (Code.lead_at l k x hx HK.out)
    have HX := Lib.hid hx
    have hx8 : x.toNat < 256 := x.toNat_lt
    obtain ⟨q, hq⟩ : ∃ q, x.toNat = q := ⟨_, rfl⟩
    rw [hq] at x0 HAT hx8
    clear hcs hx hq
    by_cases hsm : q < 128
    ·
     have HL := Lib.hid (HAT.out.1 hsm)
     have g1 : ¬ (128 : Int) ≤ (q : Int) := by omega
     have g2 : ((k : Int) == 9) = false := beq_eq_false_iff_ne.2 (by omega)
     have g3 : ((k : Int) == (n : Int)) = false := beq_eq_false_iff_ne.2 (by omega)
     have g4 : ¬ (k : Int) = 9 := by omega
     have g5 : ¬ (k : Int) = (n : Int) := by omega
     have g6 : ¬ k = 9 := by omega
     have g7 : ¬ k = n := by omega
     go_upto_region 8 with fail
     clear g1 g2 g3 g4 g5 g6 g7 x0
     go_wp2
     go_loop [6, 7] (fun va vi => ∃ (j : Nat) (a : Int) (V : Nat), va = .int .i64 (V : Int) ∧ vi = .int .i64 a ∧ j ≤ k + 1 ∧ Hid (a + 1 = (j : Int)) ∧ Hid (Code.vals ((l.take (k + 1)).drop j) = V)) (fun _ vi => (intOf vi + 1).toNat)
     case atStart => exact ⟨k + 1, (k : Int), 0, rfl, rfl, by omega, Lib.hid (by omega), Lib.hid (by rw [List.drop_of_length_le (by rw [List.length_take]; omega)]; rfl)⟩
     case round =>
      obtain ⟨j, a, V, rfl, rfl, hj, HA, HV⟩ := hrel
      cases j with
      | zero =>
       obtain rfl : a = -1 := by have := HA.out; omega
       have hV0 : Code.vals (l.take (Code.lead l + 1)) = V := by rw [HL.out, ← HV.out, List.drop_zero]
       have hhit := Code.first_hit (b := l) (by rw [HL.out]; exact h9) (by rw [HL.out, HLN.out]; exact hkn)
       rw [hV0, HL.out] at hhit
       have HH := Lib.hid hhit
       have hbig : V < 9223372036854775808 := by
        rw [← HV.out]
        exact Code.vals_le (k := 9) (by rw [List.length_drop, List.length_take]; omega)
       clear hV0 hhit
       go_upto_region 13 with fail
       by_cases hv : 4611686018427387904 < V
       ·
        have HG := Lib.hid (show Code.getNum l = .error 2 by
         rcases HH.out with h | h
         · exact h.1
         · omega)
        have hv' : (4611686018427387904 : Int) < (V : Int) := by omega
        go_wp2_with fail
        refine Free.wp_free_l 13 (fun W => Below w.heap.size w W) [Free.kc (.int .i64 (V : Int)), Free.kc (.bool true), Free.kc (.bool true), Free.kc (undef), Free.kc (undef), Free.kc (undef), Free.kc (undef), Free.kc (undef), Free.kc (undef), Free.kc (undef), Free.kc (undef), Free.kc (undef), Free.kc (.bool true)] (by kernel_rfl) (by kernel_rfl) (by decide) (bel_drew _ _) (fun W W' h g => bt h g) ?_ ?_
        ·
         iterate 13 refine Free.forall_succ ?_ ?_
         all_goals first | exact Free.forall_zero | (refine Free.op fun vals wq hC hd => ?_) | skip
         · exact Free.dm
         · exact Free.d_bin rfl (Free.tr 0 hd) (show _ = (.int .i64 4611686018427387904 : Value) from rfl) (by go_simp) (by go_simp) rfl
         · exact Free.d_move rfl (Free.tr 1 hd) rfl
         · exact Free.skl 2 47 false
         · exact Free.skl 2 47 false
         · exact Free.skl 2 47 false
         · exact Free.skl 2 47 false
         · exact Free.skl 2 47 false
         · exact Free.skl 2 47 false
         · exact Free.skl 2 47 false
         · exact Free.skl 2 47 false
         · exact Free.skl 2 47 false
         · exact Free.d_pick rfl (Eq.trans (b := vals 2) (by kernel_rfl) (hd 2 (by kernel_rfl))) rfl rfl
        ·
         intro vals wq hC hd
         refine Free.go hd ?_
         rintro _ rfl _ rfl _ rfl _ rfl _ rfl _ rfl _ rfl _ rfl _ rfl _ rfl _ rfl _ rfl _ rfl
         simp only [Free.All, Free.fl, Act.put, Free.sa, Free.s0, Free.s1]
         refine wpList_nil ?_
         clear hd
         have HQ9 := Lib.hid hC
         clear hC
         go_wp2
         go_ret3
         exact ⟨by rw [HG.out]; rfl, HQ9.out⟩
       ·
        have hv' : ¬ (4611686018427387904 : Int) < (V : Int) := by omega
        have QN := Lib.hid (fun W => (rnum_any V V W (Nat.le_refl _) (by omega)).mono fun e w2 h => h.krB)
        unfold KrB at QN
        obtain ⟨m, hm⟩ : ∃ m, k + 1 = m := ⟨_, rfl⟩
        rw [hm] at HH
        have HM := Lib.hid hm
        have hmn : m ≤ n := by omega
        clear hm
        by_cases hq : Code.num V = l.take m
        ·
         have HQ := Lib.hid hq
         have HG := Lib.hid (show Code.getNum l = .ok (V, m) by
          rcases HH.out with h | h
          ·
           rcases h.2 with g | g
           · omega
           · exact absurd hq g
          · exact h.1)
         clear hq
         go_wp2_with fail
         refine Free.wp_free_l 13 (fun W => Below w.heap.size w W) [Free.kc (.int .i64 (V : Int)), Free.kc (.bool false), Free.kc (.bool false), Free.kc (.int .i64 (V : Int)), Free.kr ((Code.num V).length) ((Code.num V).map bv), Free.kc (sv (Code.num V)), Free.kc (.slice (some ⟨b, off, none⟩) n c), Free.kc (.int .i64 (k : Int)), Free.kc (.int .i64 (m : Int)), Free.kr (m) ((l.take m).map bv), Free.kc (sv (l.take m)), Free.kc (.bool false), Free.kc (.bool false)] (by kernel_rfl) (by kernel_rfl) (by decide) (bel_drew _ _) (fun W W' h g => bt h g) ?_ ?_
         ·
          iterate 13 refine Free.forall_succ ?_ ?_
          all_goals first | exact Free.forall_zero | (refine Free.op fun vals wq hC hd => ?_) | skip
          · exact Free.dm
          · exact Free.d_bin rfl (Free.tr 0 hd) (show _ = (.int .i64 4611686018427387904 : Value) from rfl) (by go_simp) (by go_simp) rfl
          · exact Free.d_move rfl (Free.tr 1 hd) rfl
          · refine Free.og 2 47 false fun vals wq hC hd => ?_; exact Free.d_move rfl (by kernel_rfl) rfl
          · refine Free.og 2 47 false fun vals wq hC hd => ?_; exact Free.d_call Tryz.func88 rfl rfl rfl rfl (Free.arg1 (Free.tr 3 hd)) (QN.out wq)
          · refine Free.og 2 47 false fun vals wq hC hd => ?_; obtain ⟨A4, k4, e4, rd4, le4, mx4⟩ := hd 4 (by kernel_rfl); exact Free.d_conv rfl (Eq.trans (b := vals 4) (by kernel_rfl) e4) (run_str (P := Tryz.prog) 28 9 5 Tryz.underlying28 Tryz.underlying5 Tryz.underlying9 A4 _ k4 _ (Code.num V) rd4 rfl) (Below.refl _ _) rfl
          · refine Free.og 2 47 false fun vals wq hC hd => ?_; exact Free.d_move rfl (by kernel_rfl) rfl
          · refine Free.og 2 47 false fun vals wq hC hd => ?_; exact Free.d_move rfl (by kernel_rfl) rfl
          · refine Free.og 2 47 false fun vals wq hC hd => ?_; exact Free.d_bin rfl (Free.tr 7 hd) (show _ = (.int .i64 1 : Value) from rfl) (by go_simp) (by have hmm := HM.out; first | (go_simp; done) | (go_simp; rw [IntWalk.i64_in _ (by omega)]; first | done | (congr 2; omega))) rfl
          · refine Free.og 2 47 false fun vals wq hC hd => ?_; obtain ⟨A', hrun, hss⟩ := run_cut8_hi (HS.out.keep hC) m hmn; exact Free.d_slice rfl (Free.tr 6 hd) rfl (show _ = some (Value.int .i64 (m : Int)) from congrArg some (Free.tr 8 hd)) rfl hrun ⟨A', c, rfl, hss.rd, hss.cap, hss.max⟩
          · refine Free.og 2 47 false fun vals wq hC hd => ?_; obtain ⟨A9, k9, e9, rd9, le9, mx9⟩ := hd 9 (by kernel_rfl); exact Free.d_conv rfl (Eq.trans (b := vals 9) (by kernel_rfl) e9) (run_str (P := Tryz.prog) 28 9 5 Tryz.underlying28 Tryz.underlying5 Tryz.underlying9 A9 _ k9 _ (l.take m) rd9 (by rw [List.length_take, HLN.out]; omega)) (Below.refl _ _) rfl
          · refine Free.og 2 47 false fun vals wq hC hd => ?_; exact Free.d_bin rfl (Free.tr 5 hd) (Free.tr 10 hd) (by go_simp) (by rw [run_neq_str' 9]; rw [decide_eq_true HQ.out]; rfl) rfl
          · exact Free.d_pick rfl (Eq.trans (b := vals 2) (by kernel_rfl) (hd 2 (by kernel_rfl))) (Eq.trans (b := vals 11) (by kernel_rfl) (hd 11 (by kernel_rfl))) rfl
         ·
          intro vals wq hC hd
          refine Free.go hd ?_
          rintro _ rfl _ rfl _ rfl _ rfl _ ⟨A4, k4, rfl, rd4, le4, mx4⟩ _ rfl _ rfl _ rfl _ rfl _ ⟨A9, k9, rfl, rd9, le9, mx9⟩ _ rfl _ rfl _ rfl
          simp only [Free.All, Free.fl, Act.put, Free.sa, Free.s0, Free.s1]
          refine wpList_nil ?_
          clear hd
          have HQ9 := Lib.hid hC
          clear hC
          have hmm := HM.out
          have hkm : (k : Int) + 1 = (m : Int) := by omega
          clear hmm
          go_wp2
          go_ret3
          refine ⟨?_, HQ9.out⟩
          rw [HG.out]
          first | rfl | (simp [FirstV, hkm])
        ·
         have HQ := Lib.hid hq
         have HG := Lib.hid (show Code.getNum l = .error 2 by
          rcases HH.out with h | h
          · exact h.1
          · exact absurd h.2.2 hq)
         clear hq
         go_wp2_with fail
         refine Free.wp_free_l 13 (fun W => Below w.heap.size w W) [Free.kc (.int .i64 (V : Int)), Free.kc (.bool false), Free.kc (.bool false), Free.kc (.int .i64 (V : Int)), Free.kr ((Code.num V).length) ((Code.num V).map bv), Free.kc (sv (Code.num V)), Free.kc (.slice (some ⟨b, off, none⟩) n c), Free.kc (.int .i64 (k : Int)), Free.kc (.int .i64 (m : Int)), Free.kr (m) ((l.take m).map bv), Free.kc (sv (l.take m)), Free.kc (.bool true), Free.kc (.bool true)] (by kernel_rfl) (by kernel_rfl) (by decide) (bel_drew _ _) (fun W W' h g => bt h g) ?_ ?_
         ·
          iterate 13 refine Free.forall_succ ?_ ?_
          all_goals first | exact Free.forall_zero | (refine Free.op fun vals wq hC hd => ?_) | skip
          · exact Free.dm
          · exact Free.d_bin rfl (Free.tr 0 hd) (show _ = (.int .i64 4611686018427387904 : Value) from rfl) (by go_simp) (by go_simp) rfl
          · exact Free.d_move rfl (Free.tr 1 hd) rfl
          · refine Free.og 2 47 false fun vals wq hC hd => ?_; exact Free.d_move rfl (by kernel_rfl) rfl
          · refine Free.og 2 47 false fun vals wq hC hd => ?_; exact Free.d_call Tryz.func88 rfl rfl rfl rfl (Free.arg1 (Free.tr 3 hd)) (QN.out wq)
          · refine Free.og 2 47 false fun vals wq hC hd => ?_; obtain ⟨A4, k4, e4, rd4, le4, mx4⟩ := hd 4 (by kernel_rfl); exact Free.d_conv rfl (Eq.trans (b := vals 4) (by kernel_rfl) e4) (run_str (P := Tryz.prog) 28 9 5 Tryz.underlying28 Tryz.underlying5 Tryz.underlying9 A4 _ k4 _ (Code.num V) rd4 rfl) (Below.refl _ _) rfl
          · refine Free.og 2 47 false fun vals wq hC hd => ?_; exact Free.d_move rfl (by kernel_rfl) rfl
          · refine Free.og 2 47 false fun vals wq hC hd => ?_; exact Free.d_move rfl (by kernel_rfl) rfl
          · refine Free.og 2 47 false fun vals wq hC hd => ?_; exact Free.d_bin rfl (Free.tr 7 hd) (show _ = (.int .i64 1 : Value) from rfl) (by go_simp) (by have hmm := HM.out; first | (go_simp; done) | (go_simp; rw [IntWalk.i64_in _ (by omega)]; first | done | (congr 2; omega))) rfl
          · refine Free.og 2 47 false fun vals wq hC hd => ?_; obtain ⟨A', hrun, hss⟩ := run_cut8_hi (HS.out.keep hC) m hmn; exact Free.d_slice rfl (Free.tr 6 hd) rfl (show _ = some (Value.int .i64 (m : Int)) from congrArg some (Free.tr 8 hd)) rfl hrun ⟨A', c, rfl, hss.rd, hss.cap, hss.max⟩
          · refine Free.og 2 47 false fun vals wq hC hd => ?_; obtain ⟨A9, k9, e9, rd9, le9, mx9⟩ := hd 9 (by kernel_rfl); exact Free.d_conv rfl (Eq.trans (b := vals 9) (by kernel_rfl) e9) (run_str (P := Tryz.prog) 28 9 5 Tryz.underlying28 Tryz.underlying5 Tryz.underlying9 A9 _ k9 _ (l.take m) rd9 (by rw [List.length_take, HLN.out]; omega)) (Below.refl _ _) rfl
          · refine Free.og 2 47 false fun vals wq hC hd => ?_; exact Free.d_bin rfl (Free.tr 5 hd) (Free.tr 10 hd) (by go_simp) (by rw [run_neq_str' 9]; rw [decide_eq_false HQ.out]; rfl) rfl
          · exact Free.d_pick rfl (Eq.trans (b := vals 2) (by kernel_rfl) (hd 2 (by kernel_rfl))) (Eq.trans (b := vals 11) (by kernel_rfl) (hd 11 (by kernel_rfl))) rfl
         ·
          intro vals wq hC hd
          refine Free.go hd ?_
          rintro _ rfl _ rfl _ rfl _ rfl _ ⟨A4, k4, rfl, rd4, le4, mx4⟩ _ rfl _ rfl _ rfl _ rfl _ ⟨A9, k9, rfl, rd9, le9, mx9⟩ _ rfl _ rfl _ rfl
          simp only [Free.All, Free.fl, Act.put, Free.sa, Free.s0, Free.s1]
          refine wpList_nil ?_
          clear hd
          have HQ9 := Lib.hid hC
          clear hC
          go_wp2
          go_ret3
          exact ⟨by rw [HG.out]; rfl, HQ9.out⟩
      | succ m =>
       obtain rfl : a = (m : Int) := by have := HA.out; omega
       obtain ⟨b', off', y, hA', hb', hy, hcs⟩ := HS.out.at (show m < n by omega)
       injection hA' with hA'
       injection hA' with h1 h2
       subst h1 h2
       have y0 := hcs w (Below.refl _ _)
       have hst := Code.vals_step (m := k + 1) hy (by omega)
       rw [HV.out] at hst
       have hy8 : y.toNat < 256 := y.toNat_lt
       obtain ⟨r, hr⟩ : ∃ r, y.toNat = r := ⟨_, rfl⟩
       rw [hr] at y0 hst hy8
       have HST := Lib.hid hst
       have hbig : V < 72057594037927936 := by
        rw [← HV.out]
        exact Code.vals_le (k := 8) (by rw [List.length_drop, List.length_take]; omega)
       have ht : ((r : Int)).tmod 128 = ((r % 128 : Nat) : Int) := by rw [Int.tmod_eq_emod_of_nonneg (by omega)]; omega
       obtain ⟨s, hs⟩ : ∃ s, r % 128 = s := ⟨_, rfl⟩
       rw [hs] at ht HST
       have hs8 : s < 128 := by rw [← hs]; exact Nat.mod_lt _ (by omega)
       have hmn : (m : Int) < (n : Int) := by omega
       clear hcs hy hst hr hs hb'
       go_wp2
       go_round
       case rel => exact ⟨m, (m : Int) - 1, s + 128 * V, by first | go_num | (simp only [Value.int.injEq, true_and]; push_cast; omega), by first | rfl | go_num, by omega, Lib.hid (by omega), Lib.hid HST.out⟩
       case measure => first | (simp [intOf]; done) | (simp [intOf]; omega)
    ·
     have HN := Lib.hid (show k + 1 ≤ Code.lead l from by
      have h1 := HK.out
      have h2 : ¬ Code.lead l = k := fun h => hsm (HAT.out.2 h)
      omega)
     have g1 : (128 : Int) ≤ (q : Int) := by omega
     go_wp2
     go_round
     case rel => exact ⟨k + 1, by go_num, by omega, by omega, HN⟩
     case measure => first | (simp [intOf]; done) | (simp [intOf]; omega)
   ·
    obtain rfl : k = 9 := by omega
    have HG := Lib.hid (Code.first_far HK.out)
    have g1 : ((9 : Nat) : Int) < (n : Int) := by omega
    go_wp2
    go_ret3
    exact ⟨by rw [HG.out]; rfl, Below.refl _ _⟩
  ·
   obtain rfl : k = n := by omega
   by_cases h9 : k = 9
   ·
    subst h9
    have HG := Lib.hid (Code.first_far HK.out)
    go_wp2
    go_ret3
    exact ⟨by rw [HG.out]; rfl, Below.refl _ _⟩
   ·
    have hl : Code.lead l = l.length := by have h1 := Code.lead_le l; have h2 := HK.out; have h3 := HLN.out; omega
    have HG := Lib.hid (Code.first_end (by rw [hl, HLN.out]; omega) hl)
    have g2 : ((k : Int) == 9) = false := beq_eq_false_iff_ne.2 (by omega)
    have g4 : ¬ (k : Int) = 9 := by omega
    clear hl
    go_wp2
    go_ret3
    exact ⟨by rw [HG.out]; rfl, Below.refl _ _⟩
section
variable {ops : Array Oper} {rest : List Oper} {o : Oper} {a : Act} {Q : Exit → Act → World → Prop} {w : World} {A : Option Addr} {n c : Nat} {l : List UInt8}
theorem wl_cut8_lo (hgd : o.guard = none) (x lo : Operand) (ho : o.op = .slice 28 x (some lo) none none) (hx : a.eval x = .slice A n c) (h1 : Bs w A n c l) (k : Nat) (hlo : a.eval lo = .int .i64 (k : Int)) (hk : k ≤ n)
  (h : ∀ A', Bs w A' (n - k) (c - k) (l.drop k) → wpList Tryz.prog ops Q rest (a.put o.dst (.slice A' (n - k) (c - k))) w) : wpList Tryz.prog ops Q (o :: rest) a w := by
 obtain ⟨A', hr, hs⟩ := run_cut8_lo h1 k hk
 exact wl_sl hgd _ x (some lo) none ho hx (congrArg some hlo) rfl hr (h A' hs)
end
theorem rread9_any (A : Option Addr) (n c : Nat) (l : List UInt8) (w : World) (hB : Bs w A n c l) (hn : n ≤ 1000000000) : Calls Tryz.prog 55 #[.slice A n c] w (ReadPost l w) := by
 have hcall := rfirst2_any A n c l w hB
 have hlen := hB.len
 have hcp := hB.cap
 have hmx := hB.max
 rw [maxLen_eq] at hmx
 cases hg : Code.getNum l with
 | error x =>
  have hx := getNum_err hg
  rw [hg] at hcall
  unfold FirstPost FirstV at hcall
  have HC := Lib.hid hcall
  have b1 : ((x : Int) == 0) = false := beq_eq_false_iff_ne.2 (by omega)
  have b2 : ¬ (x : Int) = 0 := by omega
  have HF := Lib.hid (And.intro (show Post.read l = .error x by unfold Post.read Post.parse; rw [hg]) hx)
  clear hcall hg hx hB hlen
  go_enter Tryz.func55, Tryz.ntmps55
  go_wp2_with fail
  (with_reducible refine HC.out.mono ?_)
  rintro e w1 ⟨rfl, hb1⟩
  have HB1 := Lib.hid hb1
  clear hb1 HC
  go_wp2
  go_ret2
  exact read_ret HF.out.1 ⟨rfl, HF.out.2⟩ HB1.out
 | ok r =>
  obtain ⟨many, k⟩ := r
  obtain ⟨_, hmv, hk1, hk, _⟩ := Code.getNum_ok hg
  rw [hg] at hcall
  unfold FirstPost FirstV at hcall
  have HC := Lib.hid hcall
  have HS := Lib.hid hB
  have HLN := Lib.hid hlen
  rw [hlen] at hk
  by_cases hbig : 1000 < many
  ·
   have HF := Lib.hid (show Post.read l = .error 2 by unfold Post.read Post.parse; rw [hg]; simp only; rw [if_pos hbig])
   have hbi : (1000 : Int) < (many : Int) := by omega
   clear hcall hg hB hlen
   go_enter Tryz.func55, Tryz.ntmps55
   go_wp2_with fail
   (with_reducible refine HC.out.mono ?_)
   rintro e w1 ⟨rfl, hb1⟩
   have HB1 := Lib.hid hb1
   clear hb1 HC
   go_wp2
   go_ret2
   exact read_ret HF.out ⟨rfl, by omega⟩ HB1.out
  ·
   have HF := Lib.hid (show ∀ r, Post.readItems many (-1) (l.drop k) = r → Post.read l = (match r with | .ok (zs, m) => if k + m < l.length then .error 2 else .ok zs | .error x => .error x) from fun r hr => by
    unfold Post.read Post.parse; rw [hg]; simp only; rw [if_neg hbig, hr]
    rcases r with x | ⟨zs, m⟩ <;> rfl)
   have hbi : ¬ (1000 : Int) < (many : Int) := by omega
   clear hcall hg hB hlen
   go_enter Tryz.func55, Tryz.ntmps55
   go_wp2_with fail
   (with_reducible refine HC.out.mono ?_)
   rintro e w1 ⟨rfl, hb1⟩
   have HB1 := Lib.hid hb1
   clear hb1 HC
   go_wp2
   go_loopw [5, 7, 8, 9] (fun va vo vn vi wr => ∃ (at' : Nat) (Al : Option Addr) (nl cl i : Nat) (nx : Int) (zs : List Int), va = .int .i64 (at' : Int) ∧ vo = .slice Al nl cl ∧ vn = .int .i64 nx ∧ vi = .int .i64 (i : Int) ∧ i ≤ many ∧ at' ≤ n ∧ nl ≤ 1000 ∧ 0 ≤ nx ∧ nx ≤ 1000 ∧ Hid (ReadRel l many k i (nx - 1) at' zs ∧ OwnZ wr w.heap.size Al nl cl zs ∧ Below w.heap.size w wr)) (fun _ _ _ vi _ => many - (intOf vi).toNat)
   case atStart => exact ⟨k, none, 0, 0, 0, 0, [], rfl, rfl, rfl, rfl, by omega, by omega, by omega, by omega, by omega, Lib.hid ⟨⟨by simp; cases Post.readItems many (-1) (l.drop k) <;> rfl, Nat.le_refl _, by rw [HLN.out]; omega, by omega, rfl⟩, OwnZ.nil _ _, HB1.out⟩⟩
   case round =>
    obtain ⟨at', Al, nl, cl, i, nx, zs, rfl, rfl, rfl, rfl, hi, hat, hnl, hx0, hx1, H⟩ := hrel
    by_cases hlt : i < many
    ·
     go_wp2_with (refine wl_cut8_lo rfl (.tmp 30) (.tmp 31) rfl rfl (HS.out.keep H.out.2.2) at' rfl hat ?_; intro A9 hs9; have HS9 := Lib.hid hs9; clear hs9)
     have hcall := rfirst2_any A9 (n - at') (c - at') (l.drop at') wr HS9.out
     cases hg : Code.getNum (l.drop at') with
     | error x =>
      have hx := getNum_err hg
      rw [hg] at hcall
      unfold FirstPost FirstV at hcall
      have HC := Lib.hid hcall
      have b1 : ((x : Int) == 0) = false := beq_eq_false_iff_ne.2 (by omega)
      have b2 : ¬ (x : Int) = 0 := by omega
      have HFF := Lib.hid (And.intro (HF.out _ (H.out.1.bad hlt hg)) hx)
      clear hcall hg hx
      (with_reducible refine HC.out.mono ?_)
      rintro e w2 ⟨rfl, hb2⟩
      have HB2 := Lib.hid (bt H.out.2.2 hb2)
      clear hb2 HC
      go_wp2
      go_ret2
      exact read_ret HFF.out.1 ⟨rfl, HFF.out.2⟩ HB2.out
     | ok r =>
      obtain ⟨g, q⟩ := r
      obtain ⟨_, hgv, hq1, hq2, _⟩ := Code.getNum_ok hg
      rw [List.length_drop, HLN.out] at hq2
      rw [hg] at hcall
      unfold FirstPost FirstV at hcall
      have HC := Lib.hid hcall
      have HG := Lib.hid hg
      clear hcall hg
      (with_reducible refine HC.out.mono ?_)
      rintro e w2 ⟨rfl, hb2⟩
      have HB2 := Lib.hid (bt H.out.2.2 hb2)
      have HO2 := Lib.hid (H.out.2.1.keep hb2)
      clear hb2 HC
      by_cases hfar : 999 - nx < (g : Int)
      ·
       have HFF := Lib.hid (HF.out _ (H.out.1.far hlt HG.out (by omega)))
       go_wp2
       go_ret2
       exact read_ret HFF.out ⟨rfl, by omega⟩ HB2.out
      ·
       have HST := Lib.hid (H.out.1.step hlt HG.out (by omega))
       have hnl2 : nl + 1 ≤ 1000 := by have a := H.out.2.1.len; have b := H.out.1.len; omega
       go_wp2_with (at_builtin; refine wl_appZ1 rfl (.tmp 44) (.tmp 48) rfl rfl HO2.out (nx + (g : Int)) rfl (by omega) (by omega) HB2.out.size ?_; intro A4 n4 c4 w4 ho4 hb4 _; have HO4 := Lib.hid ho4; have HB4 := Lib.hid (HB2.out.trans hb4); clear ho4 hb4)
       go_roundw
       case rel =>
        refine ⟨at' + q, A4, n4, c4, i + 1, nx + (g : Int) + 1, zs ++ [nx + (g : Int)], by go_num, rfl, by first | rfl | go_num, by go_num, by omega, by omega, ?_, by omega, by omega, Lib.hid ⟨?_, HO4.out, HB4.out⟩⟩
        ·
         have a := HO4.out.len
         have b := H.out.2.1.len
         rw [List.length_append] at a
         simp at a
         omega
        ·
         have h := HST.out
         rw [show nx - 1 + ((g : Int) + 1) = nx + (g : Int) by omega] at h
         rw [show nx + (g : Int) + 1 - 1 = nx + (g : Int) by omega]
         exact h
       case measure => first | (simp [intOf]; done) | (simp [intOf]; omega)
    ·
     obtain rfl : i = many := by omega
     have hall := H.out.1.all
     have hlo := H.out.1.lo
     have hrd := HF.out _ hall
     simp only at hrd
     rw [HLN.out] at hrd
     by_cases hend : at' < n
     ·
      rw [if_pos (by omega)] at hrd
      have HR := Lib.hid hrd
      have hee : (at' : Int) < (n : Int) := by omega
      clear hrd hall
      go_wp2
      go_ret2
      exact read_ret HR.out ⟨rfl, by omega⟩ H.out.2.2
     ·
      rw [if_neg (by omega)] at hrd
      have HR := Lib.hid hrd
      have hee : ¬ (at' : Int) < (n : Int) := by omega
      clear hrd hall
      go_wp2
      go_ret2
      exact read_ret HR.out ⟨_, _, _, rfl, H.out.2.1⟩ H.out.2.2
end Go.Proofs.YteoledjllpgcbaaGreatDoor
