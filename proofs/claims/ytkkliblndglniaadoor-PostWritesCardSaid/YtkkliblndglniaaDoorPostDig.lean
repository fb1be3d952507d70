/- The reference's Write and Digest of postings; Digest. No statement of the seat is proved here. -/
import Derived.Test.YtkkliblndglniaaDoorPost1
import Derived.Test.YtkkliblndglniaaDoorSeal2
import Derived.Test.YtkkliblndglniaaDoorSeal5
namespace Go.Proofs.YtkkliblndglniaaDoor
set_option linter.unusedVariables false
open Go.RowKit

def KrB (l : List UInt8) (w : World) (e : Ending) (w2 : World) : Prop := ∃ v, e = .returned v ∧ (Free.kr l.length (l.map bv)).p v w2 ∧ Below w.heap.size w w2
theorem Ret8.krB {l : List UInt8} {w w2 : World} {e : Ending} (h : Ret8 w.heap.size l w e w2) : KrB l w e w2 := by
  obtain ⟨A, n, c, he, ho, hb⟩ := h
  have hn := ho.len
  subst hn
  exact ⟨_, he, ⟨A, c, rfl, ho.bs.rd, ho.cap, ho.max⟩, hb⟩
set_option maxRecDepth 100000 in
set_option maxHeartbeats 8000000 in
theorem rwrite_any (A : Option Addr) (n c : Nat) (l : List Int) (w : World) (h : Zs w A n c l) (hr : Post.right l = true) : Calls Tryd.prog 10 #[.slice A n c] w (Ret8 w.heap.size (Post.write l) w) := by
  have hn : n ≤ 1000 := by have := Post.right_len hr; rw [h.len] at this; exact this
  have hm := h.max
  have hcap := h.cap
  rw [maxLen_eq] at hm
  have HR := Lib.hid hr
  clear hr
  go_enter Tryd.func10, Tryd.ntmps10
  go_wp2_with fail
  refine (rnum_any n n w (Nat.le_refl _) (by omega)).mono ?_
  rintro e w1 ⟨A1, n1, c1, rfl, ho1, hb1⟩
  have hn1 : n1 ≤ 9 := by rw [← ho1.len]; exact Code.num_len9 n (by omega)
  go_wp2
  go_loopw [3, 4] (fun vb vi wr => ∃ (A' : Option Addr) (n' c' k : Nat) (p : Int) (acc : List UInt8), k ≤ n ∧ vb = .slice A' n' c' ∧ vi = .int .i64 k ∧ -1 ≤ p ∧ p ≤ 999 ∧ Hid ((k = 0 ∧ p = -1) ∨ (0 < k ∧ l[k - 1]? = some p)) ∧ WriteRel w.heap.size l w A' n' c' k p acc wr) (fun _ vi _ => n - (intOf vi).toNat)
  case atStart => exact ⟨A1, n1, c1, 0, -1, _, by omega, rfl, rfl, by omega, by omega, Lib.hid (.inl ⟨rfl, rfl⟩), ho1, by unfold Post.write; rw [h.len]; rfl, HR.out, hb1, by omega⟩
  case round =>
    obtain ⟨A', n', c', k, p, acc, hk, rfl, rfl, hp, hp2, hpk, hr⟩ := hrel
    have hsm := hr.small
    by_cases hlt : k < n
    · obtain ⟨b, off, rfl, hb, hcell, z, hz, hz1, hz2⟩ := h.at hlt
      have HX := Lib.hid (show ∀ W, Below wr.heap.size wr W → W.cell? ⟨b, off + k, none⟩ = some (.int .i64 z) from fun W hW => ((hr.below.trans (hW.mono hr.below.size)).cell (p := ⟨b, off + k, none⟩) hb).trans (hcell k z hz))
      have HC := Lib.hid (And.intro hb hcell)
      obtain ⟨h1, h2, h3, h4⟩ := hr.step hz
      have HN := Lib.hid (And.intro h3 h4)
      obtain ⟨g, hg⟩ : ∃ g : Nat, z - p - 1 = (g : Int) := ⟨(z - p - 1).toNat, by omega⟩
      have HG := Lib.hid hg
      have HZ := Lib.hid hz
      have hgn : g ≤ 1000 := by omega
      clear hcell hz h3 h4
      by_cases hk0 : k = 0
      · subst hk0
        have hpm : p = -1 := by
          rcases hpk.out with h | h
          · exact h.2
          · exact absurd h.1 (Nat.lt_irrefl 0)
        have hzg : z = (g : Int) := by omega
        have x0 : wr.cell? ⟨b, off, none⟩ = some (.int .i64 z) := HX.out wr (Below.refl _ _)
        have HZG := Lib.hid hzg
        clear hg hzg
        go_wp2_with fail
        refine Calls.mono (show Calls Tryd.prog 19 #[.int .i64 z] wr (Ret8 wr.heap.size (Code.num g) wr) from by rw [HZG.out]; exact rnum_any g g wr (Nat.le_refl _) (by omega)) ?_
        rintro e w2 ⟨A2, n2, c2, rfl, ho2, hb2⟩
        have hn2 : n2 ≤ 9 := by rw [← ho2.len]; exact Code.num_len9 g (by omega)
        have hb2' := hb2.mono hr.below.size
        go_wp2_with (at_builtin; refine wl_app8 rfl (.tmp 16) (.tmp 20) rfl rfl (hr.own.keep hb2) rfl ho2.bs (by omega) (hr.below.trans hb2').size ?_; intro A3 n3 c3 w3 ho3 hb3 _)
        have hn3 : n3 ≤ 9 + 9 * (0 + 1) := by have a := ho3.len; have b := hr.own.len; have d := ho2.len; rw [List.length_append] at a; omega
        go_roundw
        case rel => exact ⟨A3, n3, c3, 1, z, _, by omega, rfl, by go_num, by omega, by omega, Lib.hid (.inr ⟨by omega, HZ.out⟩), ho3, by rw [HN.out.2, show (z - p - 1).toNat = g by rw [HG.out]; rfl], HN.out.1, (hr.below.trans hb2').trans hb3, hn3⟩
        case measure => simp [intOf]; omega
      · obtain ⟨j, hj⟩ : ∃ j, j + 1 = k := ⟨k - 1, by omega⟩
        have hpj : l[j]? = some p := by
          rcases hpk.out with h | h
          · exact absurd h.1 hk0
          · have h2 := h.2
            rw [← hj] at h2
            exact h2
        have HY := Lib.hid (show ∀ W, Below wr.heap.size wr W → W.cell? ⟨b, off + j, none⟩ = some (.int .i64 p) from fun W hW => ((hr.below.trans (hW.mono hr.below.size)).cell (p := ⟨b, off + j, none⟩) HC.out.1).trans (HC.out.2 j p hpj))
        have QN := Lib.hid (show ∀ W, Below wr.heap.size wr W → Calls Tryd.prog 19 #[.int .i64 (g : Int)] W (KrB (Code.num g) W) from fun W _ => (rnum_any g g W (Nat.le_refl _) (by omega)).mono fun e w2 h => h.krB)
        unfold KrB at QN
        have g9 := Code.num_len9 g (by omega)
        have b1 : ((k : Int) == 0) = false := beq_eq_false_iff_ne.2 (by omega)
        clear hpj hpk
        go_wp2_with fail
        refine Free.wp_free_l 13 (fun W => Below wr.heap.size wr W) [Free.kc (.slice A' n' c'), Free.kc (.slice (some ⟨b, off, none⟩) n c), Free.kc (.int .i64 (k : Int)), Free.kc (.pointer (some ⟨b, off + k, none⟩)), Free.kc (.int .i64 z), Free.kc (.slice (some ⟨b, off, none⟩) n c), Free.kc (.int .i64 (k : Int)), Free.kc (.int .i64 (j : Int)), Free.kc (.pointer (some ⟨b, off + j, none⟩)), Free.kc (.int .i64 p), Free.kc (.int .i64 (z - p)), Free.kc (.int .i64 (g : Int)), Free.kr ((Code.num g).length) ((Code.num g).map bv)] (by kernel_rfl) (by kernel_rfl) (by decide) (Below.refl _ _).drew (fun w w' h g => bt h g) ?_ ?_
        · refine Free.forall_succ (Free.forall_succ (Free.forall_succ (Free.forall_succ (Free.forall_succ (Free.forall_succ (Free.forall_succ (Free.forall_succ (Free.forall_succ (Free.forall_succ (Free.forall_succ (Free.forall_succ (Free.forall_succ (Free.forall_zero) ?_) ?_) ?_) ?_) ?_) ?_) ?_) ?_) ?_) ?_) ?_) ?_) ?_
          · exact Free.ob_plain _ rfl rfl fun vals wq hC hd => (by exact Free.d_move rfl (by kernel_rfl) rfl)
          · exact Free.ob_plain _ rfl rfl fun vals wq hC hd => (by exact Free.d_move rfl (by kernel_rfl) rfl)
          · exact Free.ob_plain _ rfl rfl fun vals wq hC hd => (by exact Free.d_move rfl (by kernel_rfl) rfl)
          · exact Free.ob_plain _ rfl rfl fun vals wq hC hd => (by exact Free.d_indexAddr rfl (Eq.trans (b := vals 1) (by kernel_rfl) (hd 1 (by kernel_rfl))) (Eq.trans (b := vals 2) (by kernel_rfl) (hd 2 (by kernel_rfl))) (run_idx 22 Tryd.underlying22 (by kernel_rfl) _ _ _ _ _ _ (by omega) (by omega)) rfl)
          · exact Free.ob_plain _ rfl rfl fun vals wq hC hd => (by exact Free.d_load rfl (Eq.trans (b := vals 3) (by kernel_rfl) (hd 3 (by kernel_rfl))) (by have hcc := HX.out wq hC; go_simp) rfl)
          · exact Free.ob_plain _ rfl rfl fun vals wq hC hd => (by exact Free.d_move rfl (by kernel_rfl) rfl)
          · exact Free.ob_plain _ rfl rfl fun vals wq hC hd => (by exact Free.d_move rfl (by kernel_rfl) rfl)
          · exact Free.ob_plain _ rfl rfl fun vals wq hC hd => (by exact Free.d_bin rfl (Eq.trans (b := vals 6) (by kernel_rfl) (hd 6 (by kernel_rfl))) (show _ = (.int .i64 1 : Value) from rfl) (by go_simp) (by first | (go_simp; done) | (go_simp; omega) | (go_simp; rw [IntWalk.i64_in _ (by omega)]; done) | (go_simp; rw [IntWalk.i64_in _ (by omega)]; omega)) rfl)
          · exact Free.ob_plain _ rfl rfl fun vals wq hC hd => (by exact Free.d_indexAddr rfl (Eq.trans (b := vals 5) (by kernel_rfl) (hd 5 (by kernel_rfl))) (Eq.trans (b := vals 7) (by kernel_rfl) (hd 7 (by kernel_rfl))) (run_idx 22 Tryd.underlying22 (by kernel_rfl) _ _ _ _ _ _ (by omega) (by omega)) rfl)
          · exact Free.ob_plain _ rfl rfl fun vals wq hC hd => (by exact Free.d_load rfl (Eq.trans (b := vals 8) (by kernel_rfl) (hd 8 (by kernel_rfl))) (by have hcc := HY.out wq hC; go_simp) rfl)
          · exact Free.ob_plain _ rfl rfl fun vals wq hC hd => (by exact Free.d_bin rfl (Eq.trans (b := vals 4) (by kernel_rfl) (hd 4 (by kernel_rfl))) (Eq.trans (b := vals 9) (by kernel_rfl) (hd 9 (by kernel_rfl))) (by go_simp) (by first | (go_simp; done) | (go_simp; omega) | (go_simp; rw [IntWalk.i64_in _ (by omega)]; done) | (go_simp; rw [IntWalk.i64_in _ (by omega)]; omega)) rfl)
          · exact Free.ob_plain _ rfl rfl fun vals wq hC hd => (by exact Free.d_bin rfl (Eq.trans (b := vals 10) (by kernel_rfl) (hd 10 (by kernel_rfl))) (show _ = (.int .i64 1 : Value) from rfl) (by go_simp) (by first | (go_simp; done) | (go_simp; omega) | (go_simp; rw [IntWalk.i64_in _ (by omega)]; done) | (go_simp; rw [IntWalk.i64_in _ (by omega)]; omega)) rfl)
          · exact Free.ob_plain _ rfl rfl fun vals wq hC hd => (by exact Free.d_call Tryd.func19 (by kernel_rfl) (by kernel_rfl) rfl rfl (Free.arg1 (Eq.trans (b := vals 11) (by kernel_rfl) (hd 11 (by kernel_rfl)))) ((QN.out wq hC).mono fun e w2 h => h))
        · intro vals wq hC hd
          have e0 : vals 0 = (.slice A' n' c') := hd 0 (by decide)
          have e1 : vals 1 = (.slice (some ⟨b, off, none⟩) n c) := hd 1 (by decide)
          have e2 : vals 2 = (.int .i64 (k : Int)) := hd 2 (by decide)
          have e3 : vals 3 = (.pointer (some ⟨b, off + k, none⟩)) := hd 3 (by decide)
          have e4 : vals 4 = (.int .i64 z) := hd 4 (by decide)
          have e5 : vals 5 = (.slice (some ⟨b, off, none⟩) n c) := hd 5 (by decide)
          have e6 : vals 6 = (.int .i64 (k : Int)) := hd 6 (by decide)
          have e7 : vals 7 = (.int .i64 (j : Int)) := hd 7 (by decide)
          have e8 : vals 8 = (.pointer (some ⟨b, off + j, none⟩)) := hd 8 (by decide)
          have e9 : vals 9 = (.int .i64 p) := hd 9 (by decide)
          have e10 : vals 10 = (.int .i64 (z - p)) := hd 10 (by decide)
          have e11 : vals 11 = (.int .i64 (g : Int)) := hd 11 (by decide)
          obtain ⟨A12, k12, e12, rd12, le12, mx12⟩ := hd 12 (by decide)
          simp only [Free.frameOf, List.range, List.range.loop, List.foldl, Free.dstOf, List.getElem?_toArray, List.getElem?_cons_zero, List.getElem?_cons_succ, Option.bind_some, Act.put, List.setIfInBounds_toArray, List.set_cons_zero, List.set_cons_succ, e0, e1, e2, e3, e4, e5, e6, e7, e8, e9, e10, e11, e12]
          clear hd e0 e1 e2 e3 e4 e5 e6 e7 e8 e9 e10 e11 e12
          have hown2 := hr.own.keep hC
          have hbq : Below w.heap.size w wq := hr.below.trans (hC.mono hr.below.size)
          have hbs : Bs wq A12 (Code.num g).length k12 (Code.num g) := ⟨rd12, rfl, le12, mx12⟩
          clear hC rd12 le12 mx12
          refine wl_app8 rfl (.tmp 22) (.tmp 34) rfl rfl hown2 rfl hbs (by omega) hbq.size ?_
          intro A3 n3 c3 w3 ho3 hb3 _
          simp only [Act.put, List.setIfInBounds_toArray, List.set_cons_succ, List.set_cons_zero]
          go_wp2_with fail
          have hn3 : n3 ≤ 9 + 9 * (k + 1) := by have a := ho3.len; have b := hown2.len; rw [List.length_append] at a; omega
          go_roundw
          case rel => exact ⟨A3, n3, c3, k + 1, z, _, by omega, rfl, by go_num, by omega, by omega, Lib.hid (.inr ⟨by omega, HZ.out⟩), ho3, by rw [HN.out.2, show (z - p - 1).toNat = g by rw [HG.out]; rfl], HN.out.1, hbq.trans hb3, hn3⟩
          case measure => simp [intOf]; omega
    · obtain rfl : k = n := by omega
      have HF := Lib.hid (show Post.write l = acc by rw [hr.eq, List.drop_eq_nil_of_le (by rw [h.len]; exact Nat.le_refl _), Post.gapsFrom, List.append_nil])
      go_wp2
      go_ret
      exact ⟨A', n', c', rfl, by rw [HF.out]; exact hr.own, hr.below⟩
theorem rdigest_any (A : Option Addr) (n c : Nat) (l : List Int) (w : World) (h : Zs w A n c l) (hr : Post.right l = true) : Calls Tryd.prog 11 #[.slice A n c] w (SealPost 2 (Post.write l) w) := by
  have hw := Post.write_len hr
  have HR := Lib.hid hr
  clear hr
  go_enter Tryd.func11, Tryd.ntmps11
  go_wp2_with fail
  refine (rwrite_any A n c l w h HR.out).mono ?_
  rintro e w1 ⟨A1, n1, c1, rfl, ho1, hb1⟩
  have hn1 : n1 ≤ 9009 := by rw [← ho1.len]; exact hw
  have HB1 := Lib.hid hb1
  clear hb1 hw
  go_wp2_with fail
  refine Calls.mono (show Calls Tryd.prog 20 #[.int .i64 ((2 : UInt8).toNat : Int), .slice A1 n1 c1] w1 (SealPost 2 (Post.write l) w1) from rof_any 2 A1 n1 c1 _ w1 ho1.bs.rd ho1.len ho1.cap ho1.max (by omega)) ?_
  rintro e w2 ⟨rfl, hb2⟩
  have HB2 := Lib.hid (bt HB1.out hb2)
  clear hb2
  go_wp2
  go_ret
  exact ⟨rfl, HB2.out⟩
def DigPost (l : List UInt8) (z : Int) (w : World) (e : Ending) (w' : World) : Prop := e = .returned (.tuple #[sv l, .int .i64 z]) ∧ Below w.heap.size w w'
theorem digest_yes (A : Option Addr) (n c : Nat) (l : List Int) (w : World) (h : Zs w A n c l) (hr : Post.right l = true) (ht : Tabs w) : Calls Tryd.prog 7 #[.slice A n c] w (DigPost (seal_ 2 (Post.write l)) 0 w) := by
  have hw := Post.write_len hr
  have HR := Lib.hid (And.intro hr ht)
  clear hr ht
  go_enter Tryd.func7, Tryd.ntmps7
  go_wp2_with fail
  refine (write_yes A n c l w h HR.out.1).mono ?_
  rintro e w1 ⟨A1, n1, c1, rfl, ho1, hb1⟩
  have hn1 : n1 ≤ 9009 := by rw [← ho1.len]; exact hw
  have HB1 := Lib.hid hb1
  clear hb1 hw
  go_wp2_with fail
  refine (posts_any A1 n1 c1 _ w1 ho1.bs.rd ho1.len ho1.cap ho1.max (by omega) (HR.out.2.below HB1.out)).mono ?_
  rintro e w2 ⟨rfl, hb2⟩
  have HB2 := Lib.hid (bt HB1.out hb2)
  clear hb2
  go_wp2
  go_ret2
  exact ⟨rfl, HB2.out⟩
theorem digest_no (A : Option Addr) (n c : Nat) (l : List Int) (w : World) (h : Zs w A n c l) (hr : Post.right l = false) : Calls Tryd.prog 7 #[.slice A n c] w (DigPost [] 1 w) := by
  have HR := Lib.hid hr
  clear hr
  go_enter Tryd.func7, Tryd.ntmps7
  go_wp2_with fail
  refine (write_no A n c l w h HR.out).mono ?_
  rintro e w1 ⟨rfl, rfl⟩
  go_wp2
  go_ret2
  exact ⟨rfl, Below.refl _ _⟩
end Go.Proofs.YtkkliblndglniaaDoor
