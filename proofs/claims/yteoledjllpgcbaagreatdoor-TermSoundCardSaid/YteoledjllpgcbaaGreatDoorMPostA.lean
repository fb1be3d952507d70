/- MPostA: several texts of this claim in one file. No statement of the seat is proved here. -/
import Derived.Test.YteoledjllpgcbaaGreatDoorMPostP
import Derived.Test.YteoledjllpgcbaaGreatDoorMSealA
import Derived.Test.YteoledjllpgcbaaGreatDoorCode5
namespace Go.Proofs.YteoledjllpgcbaaGreatDoor
set_option maxRecDepth 100000
set_option maxHeartbeats 64000000
set_option linter.unusedVariables false
open Go.RowKit
def KrB (l : List UInt8) (w : World) (e : Ending) (w2 : World) : Prop := ∃ v, e = .returned v ∧ (Free.kr l.length (l.map bv)).p v w2 ∧ Below w.heap.size w w2
theorem Ret8.krB {l : List UInt8} {w w2 : World} {e : Ending} (h : Ret8 w.heap.size l w e w2) : KrB l w e w2 := by
 obtain ⟨A, n, c, he, ho, hb⟩ := h
 have hn := ho.len
 subst hn
 exact ⟨_, he, ⟨A, c, rfl, ho.bs.rd, ho.cap, ho.max⟩, hb⟩
theorem rwrite_any (A : Option Addr) (n c : Nat) (l : List Int) (w : World) (h : Zs w A n c l) (hr : Post.right l = true) : Calls Tryz.prog 43 #[.slice A n c] w (Ret8 w.heap.size (Post.write l) w) := by
 have hn : n ≤ 1000 := by have := Post.right_len hr; rw [h.len] at this; exact this
 have hm := h.max
 have hcap := h.cap
 rw [maxLen_eq] at hm
 have HR := Lib.hid hr
 clear hr
 go_enter Tryz.func43, Tryz.ntmps43
 go_wp2_with fail
 refine (rnum_any n n w (Nat.le_refl _) (by omega)).mono ?_
 rintro e w1 ⟨A1, n1, c1, rfl, ho1, hb1⟩
 have hn1 : n1 ≤ 9 := by rw [← ho1.len]; exact Code.num_len9 n (by omega)
 go_wp2
 go_loopw [3, 4] (fun vb vi wr => ∃ (A' : Option Addr) (n' c' k : Nat) (p : Int) (acc : List UInt8), k ≤ n ∧ vb = .slice A' n' c' ∧ vi = .int .i64 k ∧ -1 ≤ p ∧ p ≤ 999 ∧ Hid ((k = 0 ∧ p = -1) ∨ (0 < k ∧ l[k - 1]? = some p)) ∧ WriteRel w.heap.size l w A' n' c' k p acc wr) (fun _ vi _ => n - (intOf vi).toNat)
 case atStart => exact ⟨A1, n1, c1, 0, -1, _, by omega, rfl, rfl, by omega, by omega, Lib.hid (.inl ⟨rfl, rfl⟩), ho1, by unfold Post.write; rw [h.len]; rfl, HR.out, hb1, by omega⟩
 case round =>
  obtain ⟨A', n', c', k, p, acc, hk, rfl, rfl, hp, hp2, hpk, hr⟩ := hrel
  have hsm := hr.small
  by_cases hlt : k < n
  ·
   obtain ⟨b, off, rfl, hb, hcell, z, hz, hz1, hz2⟩ := h.at hlt
   have HX := Lib.hid (show ∀ W, Below wr.heap.size wr W → W.cell? ⟨b, off + k, none⟩ = some (.int .i64 z) from fun W hW => ((hr.below.trans (hW.mono hr.below.size)).cell (p := ⟨b, off + k, none⟩) hb).trans (hcell k z hz))
   have HC := Lib.hid (And.intro hb hcell)
   obtain ⟨h1, h2, h3, h4⟩ := hr.step hz
   have HN := Lib.hid (And.intro h3 h4)
   obtain ⟨g, hg⟩ : ∃ g : Nat, z - p - 1 = (g : Int) := ⟨(z - p - 1).toNat, by omega⟩
   have HG := Lib.hid hg
   have HZ := Lib.hid hz
   have hgn : g ≤ 1000 := by omega
   clear hcell hz h3 h4
   by_cases hk0 : k = 0
   ·
    subst hk0
    have hpm : p = -1 := by
     rcases hpk.out with h | h
     · exact h.2
     · exact absurd h.1 (Nat.lt_irrefl 0)
    have hzg : z = (g : Int) := by omega
    have x0 : wr.cell? ⟨b, off, none⟩ = some (.int .i64 z) := HX.out wr (Below.refl _ _)
    have HZG := Lib.hid hzg
    clear hg hzg
    go_wp2_with fail
    refine Calls.mono (show Calls Tryz.prog 88 #[.int .i64 z] wr (Ret8 wr.heap.size (Code.num g) wr) from by rw [HZG.out]; exact rnum_any g g wr (Nat.le_refl _) (by omega)) ?_
    rintro e w2 ⟨A2, n2, c2, rfl, ho2, hb2⟩
    have hn2 : n2 ≤ 9 := by rw [← ho2.len]; exact Code.num_len9 g (by omega)
    have hb2' := hb2.mono hr.below.size
    go_wp2_with (at_builtin; refine wl_app8 rfl (.tmp 16) (.tmp 20) rfl rfl (hr.own.keep hb2) rfl ho2.bs (by omega) (hr.below.trans hb2').size ?_; intro A3 n3 c3 w3 ho3 hb3 _)
    have hn3 : n3 ≤ 9 + 9 * (0 + 1) := by have a := ho3.len; have b := hr.own.len; have d := ho2.len; rw [List.length_append] at a; omega
    go_roundw
    case rel => exact ⟨A3, n3, c3, 1, z, _, by omega, rfl, by go_num, by omega, by omega, Lib.hid (.inr ⟨by omega, HZ.out⟩), ho3, by rw [HN.out.2, show (z - p - 1).toNat = g by rw [HG.out]; rfl], HN.out.1, (hr.below.trans hb2').trans hb3, hn3⟩
    case measure => simp [intOf]; omega
   ·
    obtain ⟨j, hj⟩ : ∃ j, j + 1 = k := ⟨k - 1, by omega⟩
    have hpj : l[j]? = some p := by
     rcases hpk.out with h | h
     · exact absurd h.1 hk0
     ·
      have h2 := h.2
      rw [← hj] at h2
      exact h2
    have HY := Lib.hid (show ∀ W, Below wr.heap.size wr W → W.cell? ⟨b, off + j, none⟩ = some (.int .i64 p) from fun W hW => ((hr.below.trans (hW.mono hr.below.size)).cell (p := ⟨b, off + j, none⟩) HC.out.1).trans (HC.out.2 j p hpj))
    have QN := Lib.hid (show ∀ W, Below wr.heap.size wr W → Calls Tryz.prog 88 #[.int .i64 (g : Int)] W (KrB (Code.num g) W) from fun W _ => (rnum_any g g W (Nat.le_refl _) (by omega)).mono fun e w2 h => h.krB)
    unfold KrB at QN
    have g9 := Code.num_len9 g (by omega)
    have b1 : ((k : Int) == 0) = false := beq_eq_false_iff_ne.2 (by omega)
    clear hpj hpk
    go_wp2_with fail
    refine Free.wp_free_l 13 (fun W => Below wr.heap.size wr W) [Free.kc (.slice A' n' c'), Free.kc (.slice (some ⟨b, off, none⟩) n c), Free.kc (.int .i64 (k : Int)), Free.kc (.pointer (some ⟨b, off + k, none⟩)), Free.kc (.int .i64 z), Free.kc (.slice (some ⟨b, off, none⟩) n c), Free.kc (.int .i64 (k : Int)), Free.kc (.int .i64 (j : Int)), Free.kc (.pointer (some ⟨b, off + j, none⟩)), Free.kc (.int .i64 p), Free.kc (.int .i64 (z - p)), Free.kc (.int .i64 (g : Int)), Free.kr ((Code.num g).length) ((Code.num g).map bv)] (by kernel_rfl) (by kernel_rfl) (by decide) (Below.refl _ _).drew (fun w w' h g => bt h g) ?_ ?_
    ·
     iterate 13 refine Free.forall_succ ?_ ?_
     all_goals first | exact Free.forall_zero | (refine Free.op fun vals wq hC hd => ?_) | skip
     · exact Free.dm
     · exact Free.dm
     · exact Free.dm
     · exact Free.d_indexAddr rfl (Free.tr 1 hd) (Free.tr 2 hd) (run_idx 43 Tryz.underlying43 (by kernel_rfl) _ _ _ _ _ _ (by omega) (by omega)) rfl
     · exact Free.d_load rfl (Free.tr 3 hd) (by have hcc := HX.out wq hC; go_simp) rfl
     · exact Free.dm
     · exact Free.dm
     · exact Free.d_bin rfl (Free.tr 6 hd) (show _ = (.int .i64 1 : Value) from rfl) (by go_simp) (by first | (go_simp; done) | (go_simp; omega) | (go_simp; rw [IntWalk.i64_in _ (by omega)]; done) | (go_simp; rw [IntWalk.i64_in _ (by omega)]; omega)) rfl
     · exact Free.d_indexAddr rfl (Free.tr 5 hd) (Free.tr 7 hd) (run_idx 43 Tryz.underlying43 (by kernel_rfl) _ _ _ _ _ _ (by omega) (by omega)) rfl
     · exact Free.d_load rfl (Free.tr 8 hd) (by have hcc := HY.out wq hC; go_simp) rfl
     · exact Free.d_bin rfl (Free.tr 4 hd) (Free.tr 9 hd) (by go_simp) (by first | (go_simp; done) | (go_simp; omega) | (go_simp; rw [IntWalk.i64_in _ (by omega)]; done) | (go_simp; rw [IntWalk.i64_in _ (by omega)]; omega)) rfl
     · exact Free.d_bin rfl (Free.tr 10 hd) (show _ = (.int .i64 1 : Value) from rfl) (by go_simp) (by first | (go_simp; done) | (go_simp; omega) | (go_simp; rw [IntWalk.i64_in _ (by omega)]; done) | (go_simp; rw [IntWalk.i64_in _ (by omega)]; omega)) rfl
     · exact Free.d_call Tryz.func88 (by kernel_rfl) (by kernel_rfl) rfl rfl (Free.arg1 (Free.tr 11 hd)) ((QN.out wq hC).mono fun e w2 h => h)
    ·
     intro vals wq hC hd
     refine Free.go hd ?_
     rintro _ rfl _ rfl _ rfl _ rfl _ rfl _ rfl _ rfl _ rfl _ rfl _ rfl _ rfl _ rfl _ ⟨A12, k12, rfl, rd12, le12, mx12⟩
     simp only [Free.All, Free.fl, Act.put, Free.sa, Free.s0, Free.s1]
     clear hd
     have hown2 := hr.own.keep hC
     have hbq : Below w.heap.size w wq := hr.below.trans (hC.mono hr.below.size)
     have hbs : Bs wq A12 (Code.num g).length k12 (Code.num g) := ⟨rd12, rfl, le12, mx12⟩
     clear hC rd12 le12 mx12
     refine wl_app8 rfl (.tmp 22) (.tmp 34) rfl rfl hown2 rfl hbs (by omega) hbq.size ?_
     intro A3 n3 c3 w3 ho3 hb3 _
     simp only [Act.put, List.setIfInBounds_toArray, List.set_cons_succ, List.set_cons_zero]
     go_wp2_with fail
     have hn3 : n3 ≤ 9 + 9 * (k + 1) := by have a := ho3.len; have b := hown2.len; rw [List.length_append] at a; omega
     go_roundw
     case rel => exact ⟨A3, n3, c3, k + 1, z, _, by omega, rfl, by go_num, by omega, by omega, Lib.hid (.inr ⟨by omega, HZ.out⟩), ho3, by rw [HN.out.2, show (z - p - 1).toNat = g by rw [HG.out]; rfl], HN.out.1, hbq.trans hb3, hn3⟩
     case measure => simp [intOf]; omega
  ·
   obtain rfl : k = n := by omega
   have HF := Lib.hid (show Post.write l = acc by rw [hr.eq, List.drop_eq_nil_of_le (by rw [h.len]; exact Nat.le_refl _), Post.gapsFrom, List.append_nil])
   go_wp2
   go_ret
   exact ⟨A', n', c', rfl, by rw [HF.out]; exact hr.own, hr.below⟩
theorem rdigest_any (A : Option Addr) (n c : Nat) (l : List Int) (w : World) (h : Zs w A n c l) (hr : Post.right l = true) : Calls Tryz.prog 85 #[.slice A n c] w (SealPost 2 (Post.write l) w) := by
 have hw := Post.write_len hr
 have HR := Lib.hid hr
 clear hr
 go_enter Tryz.func85, Tryz.ntmps85
 go_wp2_with fail
 refine (rwrite_any A n c l w h HR.out).mono ?_
 rintro e w1 ⟨A1, n1, c1, rfl, ho1, hb1⟩
 have hn1 : n1 ≤ 9009 := by rw [← ho1.len]; exact hw
 have HB1 := Lib.hid hb1
 clear hb1 hw
 go_wp2_with fail
 refine Calls.mono (show Calls Tryz.prog 56 #[.int .i64 ((2 : UInt8).toNat : Int), .slice A1 n1 c1] w1 (SealPost 2 (Post.write l) w1) from rof_any 2 A1 n1 c1 _ w1 ho1.bs.rd ho1.len ho1.cap ho1.max (by omega)) ?_
 rintro e w2 ⟨rfl, hb2⟩
 have HB2 := Lib.hid (bt HB1.out hb2)
 clear hb2
 go_wp2
 go_ret
 exact ⟨rfl, HB2.out⟩
def DigPost (l : List UInt8) (z : Int) (w : World) (e : Ending) (w' : World) : Prop := e = .returned (.tuple #[sv l, .int .i64 z]) ∧ Below w.heap.size w w'
theorem digest_yes (A : Option Addr) (n c : Nat) (l : List Int) (w : World) (h : Zs w A n c l) (hr : Post.right l = true) (ht : Tabs w) : Calls Tryz.prog 67 #[.slice A n c] w (DigPost (seal_ 2 (Post.write l)) 0 w) := by
 have hw := Post.write_len hr
 have HR := Lib.hid (And.intro hr ht)
 clear hr ht
 go_enter Tryz.func67, Tryz.ntmps67
 go_wp2_with fail
 refine (write_yes A n c l w h HR.out.1).mono ?_
 rintro e w1 ⟨A1, n1, c1, rfl, ho1, hb1⟩
 have hn1 : n1 ≤ 9009 := by rw [← ho1.len]; exact hw
 have HB1 := Lib.hid hb1
 clear hb1 hw
 go_wp2_with fail
 refine (posts_any A1 n1 c1 _ w1 ho1.bs.rd ho1.len ho1.cap ho1.max (by omega) (HR.out.2.below HB1.out)).mono ?_
 rintro e w2 ⟨rfl, hb2⟩
 have HB2 := Lib.hid (bt HB1.out hb2)
 clear hb2
 go_wp2
 go_ret2
 exact ⟨rfl, HB2.out⟩
theorem d_fieldP {P : Program} {V : Value → World → Prop} {w : World} {ρ : Operand → Value} {o : Oper} {c : Value} {T : TypeId} {x : Operand} {k : Nat} {cx : Value} (ho : o.op = .fieldAddr T x k) (hx : ρ x = cx) (hr : (Instr.fieldAt T cx k).run P w = .ok c w) (hV : V c w) : Free.Does P V w ρ o := by
 unfold Free.Does; simp only [execOp, ho, hx, Sem.run_bind, hr, Sem.run_pure, Result.andThen_ok]; exact ⟨hV, Below.refl _ _⟩
def ReadRet (B : Nat) (w' : World) (e : Ending) : Except Nat (List Int) → Prop
 | .ok zs => ∃ A n c, e = .returned (.tuple #[.slice A n c, .int .i64 0]) ∧ OwnZ w' B A n c zs
 | .error x => e = .returned (.tuple #[.slice none 0 0, .int .i64 (x : Int)]) ∧ (x = 2 ∨ x = 4)
def ReadPost (l : List UInt8) (w : World) (e : Ending) (w' : World) : Prop := ReadRet w.heap.size w' e (Post.read l) ∧ Below w.heap.size w w'
theorem read_ret {l : List UInt8} {w w' : World} {e : Ending} {r : Except Nat (List Int)} (h : Post.read l = r) (he : ReadRet w.heap.size w' e r) (hb : Below w.heap.size w w') : ReadPost l w e w' := ⟨by rw [h]; exact he, hb⟩
structure ReadRel (l : List UInt8) (many k i : Nat) (p : Int) (at' : Nat) (zs : List Int) : Prop where
 eq : Post.readItems many (-1) (l.drop k) = (match Post.readItems (many - i) p (l.drop at') with
  | .ok (ts, m) => .ok (zs ++ ts, at' - k + m)
  | .error x => .error x)
 lo : k ≤ at'
 hi : at' ≤ l.length
 le : i ≤ many
 len : zs.length = i
theorem ReadRel.bad {l : List UInt8} {many k i : Nat} {p : Int} {at' : Nat} {zs : List Int} (h : ReadRel l many k i p at' zs) (hi : i < many) {x : Nat} (hg : Code.getNum (l.drop at') = .error x) : Post.readItems many (-1) (l.drop k) = .error x := by
 rw [h.eq]
 obtain ⟨q, hq⟩ : ∃ q, many - i = q + 1 := ⟨many - i - 1, by omega⟩
 rw [hq, Post.readItems, hg]
theorem ReadRel.far {l : List UInt8} {many k i : Nat} {p : Int} {at' : Nat} {zs : List Int} (h : ReadRel l many k i p at' zs) (hi : i < many) {g q : Nat} (hg : Code.getNum (l.drop at') = .ok (g, q)) (hf : 998 - p < (g : Int)) : Post.readItems many (-1) (l.drop k) = .error 2 := by
 rw [h.eq]
 obtain ⟨r, hr⟩ : ∃ r, many - i = r + 1 := ⟨many - i - 1, by omega⟩
 rw [hr, Post.readItems, hg]
 simp only
 rw [if_pos hf]
theorem ReadRel.step {l : List UInt8} {many k i : Nat} {p : Int} {at' : Nat} {zs : List Int} (h : ReadRel l many k i p at' zs) (hi : i < many) {g q : Nat} (hg : Code.getNum (l.drop at') = .ok (g, q)) (hf : ¬ 998 - p < (g : Int)) : ReadRel l many k (i + 1) (p + ((g : Int) + 1)) (at' + q) (zs ++ [p + ((g : Int) + 1)]) := by
 obtain ⟨_, _, hq1, hq, _⟩ := Code.getNum_ok hg
 rw [List.length_drop] at hq
 have h1 := h.lo
 have h2 := h.hi
 refine ⟨?_, by omega, by omega, by omega, by rw [List.length_append, h.len]; rfl⟩
 rw [h.eq]
 obtain ⟨r, hr⟩ : ∃ r, many - i = r + 1 := ⟨many - i - 1, by omega⟩
 rw [hr, show many - (i + 1) = r by omega, Post.readItems, hg]
 simp only [List.drop_drop]
 rw [if_neg hf, show p + (g : Int) + 1 = p + ((g : Int) + 1) by omega]
 cases Post.readItems r (p + ((g : Int) + 1)) (l.drop (at' + q)) with
 | error x => rfl
 | ok t =>
  obtain ⟨ts, m⟩ := t
  simp only [List.append_assoc, List.singleton_append]
  congr 2
  omega
theorem ReadRel.all {l : List UInt8} {many k : Nat} {p : Int} {at' : Nat} {zs : List Int} (h : ReadRel l many k many p at' zs) : Post.readItems many (-1) (l.drop k) = .ok (zs, at' - k) := by
 rw [h.eq, Nat.sub_self, Post.readItems]; simp
structure PMem (l : List UInt8) (n h B : Nat) (w wr : World) (A' : Option Addr) (c' at' : Nat) (Al : Option Addr) (nl cl : Nat) (zs : List Int) : Prop where
 own : OwnZ wr (h + 1) Al nl cl zs
 bytes : Own8 wr B A' n c' l
 row : Row wr h #[.slice A' n c', .int .i64 (at' : Int), .int .i64 0] 113
 below : Below w.heap.size w wr
 base : w.heap.size ≤ h
theorem own_setFrom_row {w : World} {B : Nat} {e : TypeId} {size : Nat} {v : Value} {n : Nat} {xs : List Value} (h : w.ownsRow B e size v n xs) {b : Nat} {cs : Array Value} {t : TypeId} (hr : Row w b cs t) (hne : t ≠ e) (vs : List Value) (k : Nat) : (setFrom b w k vs).ownsRow B e size v n xs := by
 refine ⟨h.1, ?_⟩
 rcases h.2 with ⟨rfl, rfl⟩ | ⟨g, cap, cur, rfl, h1, h2, h3⟩
 · exact .inl ⟨rfl, rfl⟩
 ·
  refine .inr ⟨g, cap, cur, rfl, h1, ?_, h3⟩
  have hg : g ≠ b := fun e => by
   subst e
   unfold Row at hr
   rw [hr] at h2
   injection h2 with h2
   injection h2 with _ h2
   exact hne h2
  rw [heap_setFrom hg]; exact h2
theorem read_any (A : Option Addr) (n c : Nat) (l : List UInt8) (w : World) (hB : Bs w A n c l) (hn : n ≤ 1000000000) :
  Calls Tryz.prog 93 #[.slice A n c] w (ReadPost l w) := by
 have hcall := (show Calls Tryz.prog 127 #[rv A n c 0 0] w (ReadNumPost l n 0 w) from readNum_any A n c 0 l w hB (by omega) hn)
 unfold ReadNumPost at hcall
 rw [List.drop_zero] at hcall
 cases hg : Code.getNum l with
 | error x =>
  rw [hg] at hcall
  have hx := getNum_err hg
  have b1 : ((x : Int) == 0) = false := beq_eq_false_iff_ne.2 (by omega)
  have HF := Lib.hid (And.intro (show Post.read l = .error x by unfold Post.read Post.parse; rw [hg]) hx)
  have HC := Lib.hid hcall
  clear hcall hg hx
  go_enter Tryz.func93, Tryz.ntmps93
  go_wp2_with fail
  refine HC.out.mono ?_
  rintro e w1 ⟨A1, c1, ho1, hb1, he⟩
  subst he
  go_wp2_with fail
  obtain ⟨h, hh⟩ : ∃ h, w1.heap.size = h := ⟨_, rfl⟩
  obtain ⟨W0, hW0⟩ : ∃ W, w1.alloc (.cells #[.slice A1 n c1, .int .i64 0, .int .i64 (x : Int)] 113) = W := ⟨_, rfl⟩
  have hrow : Row W0 h #[.slice A1 n c1, .int .i64 0, .int .i64 (x : Int)] 113 := by rw [← hW0, ← hh]; exact row_new w1 _ _
  have HB0 := Lib.hid (show Below w.heap.size w W0 by rw [← hW0]; exact hb1.alloc hb1.size _)
  have HE := Lib.hid (show ∀ W, Below W0.heap.size W0 W → W.cell? ⟨h, 2, none⟩ = some (.int .i64 (x : Int)) from fun W hW => (hrow.belowS hW (Nat.le_refl _)).cellQ 2 _ rfl)
  (try rw [hW0]); (try rw [hh])
  clear hrow hW0 hb1
  refine Free.wp_free_l 4 (fun W => Below W0.heap.size W0 W) [Free.kc (.pointer (some ⟨h, 2, none⟩)), Free.kc (.int .i64 (x : Int)), Free.kc (Value.slice none 0 0), Free.kc (.int .i64 (x : Int))] (by kernel_rfl) (by kernel_rfl) (by decide) (Below.refl _ _).drew (fun w w' h g => bt h g) ?_ ?_
  ·
   iterate 4 refine Free.forall_succ ?_ ?_
   all_goals first | exact Free.forall_zero | (refine Free.op fun vals wq hC hd => ?_) | skip
   · exact d_fieldP (cx := .pointer (some ⟨h, 0, none⟩)) rfl (by kernel_rfl) (by go_simp) rfl
   · exact Free.d_load rfl (Free.tr 0 hd) (by have hcc := HE.out wq hC; go_simp) rfl
   · exact Free.d_assign rfl rfl rfl
   · exact Free.d_assign rfl (Free.tr 1 hd) rfl
  ·
   intro vals wq hC hd
   refine Free.go hd ?_
   rintro _ rfl _ rfl _ rfl _ rfl
   simp only [Free.All, Free.fl, Act.put, Free.sa, Free.s0, Free.s1]
   refine wpList_nil ?_
   clear hd
   have HBQ := Lib.hid (bt HB0.out hC)
   clear hC
   go_wp2
   go_ret2
   exact read_ret HF.out.1 ⟨rfl, HF.out.2⟩ HBQ.out
 | ok r =>
  obtain ⟨many, k⟩ := r
  rw [hg] at hcall
  obtain ⟨_, hmv, hk1, hk, _⟩ := Code.getNum_ok hg
  rw [hB.len] at hk
  have HC := Lib.hid hcall
  by_cases hbig : 1000 < many
  ·
   have HF := Lib.hid (show Post.read l = .error 2 by unfold Post.read Post.parse; rw [hg]; simp only; rw [if_pos hbig])
   clear hcall hg
   go_enter Tryz.func93, Tryz.ntmps93
   go_wp2_with fail
   refine HC.out.mono ?_
   rintro e w1 ⟨A1, c1, ho1, hb1, he⟩
   subst he
   have HB1 := Lib.hid hb1
   clear hb1
   go_wp2
   go_ret2
   exact read_ret HF.out ⟨rfl, by omega⟩ (HB1.out.alloc HB1.out.size _)
  ·
   have HF := Lib.hid (show ∀ r, Post.readItems many (-1) (l.drop k) = r → Post.read l = (match r with | .ok (zs, m) => if k + m < l.length then .error 2 else .ok zs | .error x => .error x) from fun r hr => by
    unfold Post.read Post.parse; rw [hg]; simp only; rw [if_neg hbig, hr]
    rcases r with x | ⟨zs, m⟩ <;> rfl)
   clear hcall hg
   go_enter Tryz.func93, Tryz.ntmps93
   go_wp2_with fail
   refine HC.out.mono ?_
   rintro e w1 ⟨A1, c1, ho1, hb1, he⟩
   subst he
   have hk0 : (((0 + k : Nat)) : Int) = (k : Int) := by simp
   rw [hk0]
   clear hk0
   go_wp2
   obtain ⟨h, hh⟩ : ∃ h, w1.heap.size = h := ⟨_, rfl⟩
   obtain ⟨W0, hW0⟩ : ∃ W, w1.alloc (.cells #[.slice A1 n c1, .int .i64 (k : Int), .int .i64 0] 113) = W := ⟨_, rfl⟩
   have hMem : PMem l n h w.heap.size w W0 A1 c1 k none 0 0 [] := by
    rw [← hW0, ← hh]
    exact ⟨OwnZ.nil _ _, ho1.keep ((Below.refl _ w1).alloc (Nat.le_refl _) _), row_new w1 _ _, hb1.alloc hb1.size _, hb1.size⟩
   (try rw [hW0]); (try rw [hh])
   clear hW0 hh hb1 ho1
   go_loopw [6, 7, 24] (fun vl vp vi wr => ∃ (A' : Option Addr) (c' at' : Nat) (Al : Option Addr) (nl cl i : Nat) (p : Int) (zs : List Int), vl = .slice Al nl cl ∧ vp = .int .i64 p ∧ vi = .int .i64 i ∧ i ≤ many ∧ -1 ≤ p ∧ p ≤ 999 ∧ ReadRel l many k i p at' zs ∧ PMem l n h w.heap.size w wr A' c' at' Al nl cl zs) (fun _ _ vi _ => many - (intOf vi).toNat)
   case atStart => exact ⟨A1, c1, k, none, 0, 0, 0, -1, [], rfl, rfl, rfl, by omega, by omega, by omega, ⟨by simp; cases Post.readItems many (-1) (l.drop k) <;> rfl, Nat.le_refl _, by rw [hB.len]; omega, by omega, rfl⟩, hMem⟩
   clear hMem
   case round =>
    obtain ⟨A', c', at', Al, nl, cl, i, p, zs, rfl, rfl, rfl, hi, hp, hp2, hr, hmem⟩ := hrel
    have hat : at' ≤ n := by have := hr.hi; rw [hB.len] at this; exact this
    have x0 := hmem.row.cellQ 0 _ rfl
    have x1 := hmem.row.cellQ 1 _ rfl
    have x2 := hmem.row.cellQ 2 _ rfl
    by_cases hlt : i < many
    ·
     have hcall := readNum_any A' n c' at' l wr hmem.bytes.bs hat hn
     unfold ReadNumPost at hcall
     have hnl : nl ≤ 1000 := by have a := hmem.own.len; rw [hr.len] at a; omega
     have hb2 := hmem.base
     cases hg : Code.getNum (l.drop at') with
     | error x =>
      rw [hg] at hcall
      have hx := getNum_err hg
      have b1 : ((x : Int) == 0) = false := beq_eq_false_iff_ne.2 (by omega)
      have HFF := Lib.hid (And.intro (HF.out _ (hr.bad hlt hg)) hx)
      have HC2 := Lib.hid hcall
      clear hcall hg hx
      go_wp2_with fail
      refine HC2.out.mono ?_
      rintro e w2 ⟨A2, c2, ho2, hb2', he⟩
      subst he
      have hrow2 := hmem.row.belowS hb2' (Nat.le_refl _)
      have HR2 := Lib.hid hrow2
      have HB2 := Lib.hid (bt hmem.below hb2')
      clear x0 x1 x2 hb2'
      have x0 := hrow2.cellQ 0 _ rfl
      have x1 := hrow2.cellQ 1 _ rfl
      have x2 := hrow2.cellQ 2 _ rfl
      have y0 := hrow2.frozen 0
      have y1 := hrow2.frozen 1
      have y2 := hrow2.frozen 2
      clear hrow2
      go_wp2_with fail
      generalize hwd : World.setCell (World.setCell (World.setCell w2 _ _) _ _) _ _ = W0
      have hsf : setFrom h w2 0 [.slice A2 n c2, .int .i64 (at' : Int), .int .i64 (x : Int)] = W0 := by rw [← hwd]; rfl
      have hrow := HR2.out.all [.slice A2 n c2, .int .i64 (at' : Int), .int .i64 (x : Int)] rfl
      rw [hsf] at hrow
      have HB0 := Lib.hid (show Below w.heap.size w W0 by rw [← hsf]; exact below_setFrom hb2 _ 0 HB2.out)
      have HE := Lib.hid (show ∀ W, Below W0.heap.size W0 W → W.cell? ⟨h, 2, none⟩ = some (.int .i64 (x : Int)) from fun W hW => (hrow.belowS hW (Nat.le_refl _)).cellQ 2 _ rfl)
      clear hrow hsf hwd x0 x1 x2 y0 y1 y2
      refine Free.wp_free_l 4 (fun W => Below W0.heap.size W0 W) [Free.kc (.pointer (some ⟨h, 2, none⟩)), Free.kc (.int .i64 (x : Int)), Free.kc (Value.slice none 0 0), Free.kc (.int .i64 (x : Int))] (by kernel_rfl) (by kernel_rfl) (by decide) (Below.refl _ _).drew (fun w w' h g => bt h g) ?_ ?_
      ·
       iterate 4 refine Free.forall_succ ?_ ?_
       all_goals first | exact Free.forall_zero | (refine Free.op fun vals wq hC hd => ?_) | skip
       · exact d_fieldP (cx := .pointer (some ⟨h, 0, none⟩)) rfl (by kernel_rfl) (by go_simp) rfl
       · exact Free.d_load rfl (Free.tr 0 hd) (by have hcc := HE.out wq hC; go_simp) rfl
       · exact Free.d_assign rfl rfl rfl
       · exact Free.d_assign rfl (Free.tr 1 hd) rfl
      ·
       intro vals wq hC hd
       refine Free.go hd ?_
       rintro _ rfl _ rfl _ rfl _ rfl
       simp only [Free.All, Free.fl, Act.put, Free.sa, Free.s0, Free.s1]
       refine wpList_nil ?_
       clear hd
       have HBQ := Lib.hid (bt HB0.out hC)
       clear hC
       go_wp2
       go_ret2
       exact read_ret HFF.out.1 ⟨rfl, HFF.out.2⟩ HBQ.out
     | ok r =>
      obtain ⟨g, q⟩ := r
      rw [hg] at hcall
      obtain ⟨_, hgv, hq1, hq, _⟩ := Code.getNum_ok hg
      rw [List.length_drop, hB.len] at hq
      have HC2 := Lib.hid hcall
      have HG := Lib.hid hg
      clear hcall hg
      have hrowk := hmem.row
      go_wp2_with fail
      refine HC2.out.mono ?_
      rintro e w2 ⟨A2, c2, ho2, hb2', he⟩
      subst he
      have hrow2 := hmem.row.belowS hb2' (Nat.le_refl _)
      have HR2 := Lib.hid hrow2
      have HB2 := Lib.hid (bt hmem.below hb2')
      have ho2' := ho2.base (show w.heap.size ≤ wr.heap.size from hmem.below.size)
      have hz2 := hmem.own.keep hb2'
      clear x0 x1 x2 hb2' ho2
      have x0 := hrow2.cellQ 0 _ rfl
      have x1 := hrow2.cellQ 1 _ rfl
      have x2 := hrow2.cellQ 2 _ rfl
      have y0 := hrow2.frozen 0
      have y1 := hrow2.frozen 1
      have y2 := hrow2.frozen 2
      clear hrow2 hrowk
      by_cases hfar : 998 - p < (g : Int)
      ·
       have hfar2 : 999 - p - 1 < (g : Int) := by omega
       have HFF := Lib.hid (HF.out _ (hr.far hlt HG.out hfar))
       go_wp2
       go_ret2
       refine read_ret HFF.out ⟨rfl, by omega⟩ ?_
       exact ((HB2.out.setCell hb2 _).setCell hb2 _).setCell hb2 _
      ·
       have hfar2 : ¬ 999 - p - 1 < (g : Int) := by omega
       have hfar3 : (g : Int) ≤ 999 - p - 1 := by omega
       have HN := Lib.hid (hr.step hlt HG.out hfar)
       go_wp2_with (at_builtin; generalize hwd : World.setCell (World.setCell (World.setCell w2 _ _) _ _) _ _ = w3; have hsf : setFrom h w2 0 [.slice A2 n c2, .int .i64 ((at' : Int) + (q : Int)), .int .i64 0] = w3 := (by rw [← hwd]; rfl); have hsz : w3.heap.size = w2.heap.size := (by rw [← hsf, size_setFrom]); have hrow := HR2.out.all [.slice A2 n c2, .int .i64 ((at' : Int) + (q : Int)), .int .i64 0] rfl; have hz3 : OwnZ w3 (h + 1) Al nl cl zs := (by rw [← hsf]; exact ⟨own_setFrom hz2.own (Nat.lt_succ_self _) _ 0, hz2.len, hz2.cap, hz2.max, hz2.wf⟩); have ho3 : Own8 w3 w.heap.size A2 n c2 l := (by rw [← hsf]; exact ⟨own_setFrom_row ho2'.own HR2.out (by decide) _ 0, ho2'.len, ho2'.cap, ho2'.max⟩); have hb3 := below_setFrom hb2 [.slice A2 n c2, .int .i64 ((at' : Int) + (q : Int)), .int .i64 0] 0 HB2.out; rw [hsf] at hrow hb3; clear hwd hsf x0 x1 x2 y0 y1 y2; refine wl_appZ1 rfl (.tmp 45) (.tmp 47) rfl rfl hz3 (p + ((g : Int) + 1)) (congrArg (fun s => Value.slice (some ⟨s, 0, none⟩) 1 1) hsz.symm) (by omega) (by omega) hrow.lt ?_; intro A4 n4 c4 w4 ho4 hb4 hkeep4)
       have hrow4 := hrow.below hb4 (Nat.lt_succ_self _)
       have ho5 : Own8 w4 w.heap.size A2 n c2 l := hkeep4 _ _ _ _ _ ho3
       have HRW := Lib.hid hrow4
       clear hrow4 hrow
       go_roundw
       case rel => exact ⟨A2, c2, at' + q, A4, n4, c4, i + 1, p + ((g : Int) + 1), _, rfl, rfl, by go_num, by omega, by omega, by omega, HN.out, ho4, ho5, by have h := HRW.out; rw [← Int.natCast_add] at h; exact h, hb3.trans (hb4.mono (by omega)), hb2⟩
       case measure => simp [intOf]; omega
    ·
     obtain rfl : i = many := by omega
     have HFF := Lib.hid (HF.out _ hr.all)
     have hlo := hr.lo
     have hbase := hmem.base
     have hz := hmem.own.base (show w.heap.size ≤ h + 1 by omega)
     have hb0 := hmem.below
     have hd := done_ok A' n c' at' wr hat hmem.bytes.cap hmem.bytes.max
     have HZ := Lib.hid hz
     have HB0 := Lib.hid hb0
     have HD := Lib.hid hd
     clear hz hb0 hd
     by_cases hend : at' < n
     ·
      have HF2 := Lib.hid (show Post.read l = .error 2 by rw [HFF.out]; simp only; rw [if_pos (by rw [hB.len]; omega)])
      go_wp2_with fail
      refine HD.out.mono ?_
      rintro e w2 ⟨he, hb2⟩
      rw [if_pos hend] at he
      subst he
      have HB2 := Lib.hid (bt HB0.out hb2)
      clear hb2
      go_wp2
      go_ret2
      exact read_ret HF2.out ⟨rfl, by omega⟩ HB2.out
     ·
      have HF2 := Lib.hid (show Post.read l = .ok zs by rw [HFF.out]; simp only; rw [if_neg (by rw [hB.len]; omega)])
      go_wp2_with fail
      refine HD.out.mono ?_
      rintro e w2 ⟨he, hb2⟩
      rw [if_neg hend] at he
      subst he
      have hz2 := HZ.out.keep hb2
      have HB2 := Lib.hid (bt HB0.out hb2)
      clear hb2
      go_wp2
      go_ret2
      exact read_ret HF2.out ⟨Al, nl, cl, rfl, hz2⟩ HB2.out
end Go.Proofs.YteoledjllpgcbaaGreatDoor
