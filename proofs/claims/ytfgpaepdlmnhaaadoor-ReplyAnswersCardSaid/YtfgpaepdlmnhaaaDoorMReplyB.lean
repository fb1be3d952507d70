/- MReplyB: several texts of this claim in one file. No statement of the seat is proved here. -/
import Derived.Test.YtfgpaepdlmnhaaaDoorMReplyA
namespace Go.Proofs.YtfgpaepdlmnhaaaDoor
set_option maxRecDepth 100000
set_option linter.unusedVariables false
open Go.RowKit
namespace Hd
/-- What was written, and whether a part was bad. -/
structure WS where
  l : By
  bad : Bool
def wNum (s : WS) (v : Int) : WS := if 0 ≤ v ∧ v ≤ 4611686018427387904 then ⟨s.l ++ Code.num v.toNat, s.bad⟩ else ⟨s.l, true⟩
def wText (s : WS) (b : By) (most : Nat) : WS := if most < b.length then ⟨s.l, true⟩ else ⟨s.l ++ Code.text b, s.bad⟩
theorem wNum_len (s : WS) (v : Int) : (wNum s v).l.length ≤ s.l.length + 9 := by
  unfold wNum
  split
  · have := Code.num_len9 v.toNat (by omega)
    rw [List.length_append]
    omega
  · simp
theorem wText_len (s : WS) (b : By) (most : Nat) (hm : most ≤ 1000000) : (wText s b most).l.length ≤ s.l.length + most + 9 := by
  unfold wText
  split
  · simp; omega
  · have := text_len b (by omega)
    rw [List.length_append]
    omega
end Hd
abbrev SWR : List TypeId := [5, 98]
/-- The writer's box, and the bytes till now. -/
structure WW (w : World) (B g : Nat) (s : Hd.WS) : Prop where
  ex : ∃ A n c, Row w g #[.slice A n c, .bool s.bad] 98 ∧ Own8 w B A n c s.l
  b1 : B ≤ g
theorem WW.keep {w w' : World} {B g : Nat} {s : Hd.WS} (h : WW w B g s) (hb : Below w.heap.size w w') : WW w' B g s := by
  obtain ⟨A, n, c, r, ho⟩ := h.ex
  exact ⟨⟨A, n, c, r.belowS hb (Nat.le_refl _), ho.keep hb⟩, h.b1⟩
theorem WW.le {w : World} {B g : Nat} {s : Hd.WS} (h : WW w B g s) : B ≤ w.heap.size := by
  obtain ⟨A, n, c, r, ho⟩ := h.ex
  have h1 := r.lt
  have h2 := h.b1
  omega
def WWPost (B g : Nat) (s : Hd.WS) (w : World) (e : Ending) (w' : World) : Prop := (∃ v, e = .returned v) ∧ WW w' B g s ∧ Below B w w' ∧ KeepTy SWR w w'
/-- The box's two stores. -/
theorem ww_bad {w : World} {B g : Nat} {s : Hd.WS} (h : WW w B g s) : WW (w.setCell ⟨g, 1, none⟩ (.bool true)) B g ⟨s.l, true⟩ ∧ Below B w (w.setCell ⟨g, 1, none⟩ (.bool true)) ∧ KeepTy SWR w (w.setCell ⟨g, 1, none⟩ (.bool true)) := by
  obtain ⟨A, n, c, r, ho⟩ := h.ex
  have k := KeepTy.set (S := [98]) r (by decide) 1 (.bool true)
  exact ⟨⟨⟨A, n, c, r.set 1 _, ho.keepTy (by decide) k⟩, h.b1⟩, (Below.refl B w).setCell (p := ⟨g, 1, none⟩) h.b1 _, k.more (by decide)⟩
theorem ww_put {w w1 w2 : World} {B g : Nat} {A A2 : Option Addr} {n c n2 c2 : Nat} {l l2 : List UInt8} {bad : Bool} (hk : KeepTy SWR w w1) (hb : Below B w w1) (b1 : B ≤ g) (r : Row w1 g #[.slice A n c, .bool bad] 98) (ho : Own8 w1 B A n c l) (ho2 : Own8 w2 B A2 n2 c2 l2) (hg : w1.grownBy w2 (Value.slice A n c).ownBlock) (hb2 : Below B w1 w2) :
    WW (w2.setCell ⟨g, 0, none⟩ (.slice A2 n2 c2)) B g ⟨l2, bad⟩ ∧ Below B w (w2.setCell ⟨g, 0, none⟩ (.slice A2 n2 c2)) ∧ KeepTy SWR w (w2.setCell ⟨g, 0, none⟩ (.slice A2 n2 c2)) := by
  have k1 := KeepTy.grown (S := [5]) ho.own (by decide) hg hb2.size
  have r2 := r.keepTy (by decide) k1
  have k2 := KeepTy.set (S := [98]) r2 (by decide) 0 (.slice A2 n2 c2)
  exact ⟨⟨⟨A2, n2, c2, r2.set 0 _, ho2.keepTy (by decide) k2⟩, b1⟩, (hb.trans hb2).setCell (p := ⟨g, 0, none⟩) b1 _, (hk.trans (k1.more (by decide))).trans (k2.more (by decide))⟩
set_option maxHeartbeats 4000000 in
theorem WW.num {w : World} {B g : Nat} {s s' : Hd.WS} (v : Int) (hlo : -9223372036854775808 ≤ v) (hhi : v ≤ 9223372036854775807) (h : WW w B g s) (hl : s.l.length ≤ 10000000000000) (e : Hd.wNum s v = s') : Calls Tryd.prog 42 #[.pointer (some ⟨g, 0, none⟩), .int .i64 v] w (WWPost B g s' w) := by
  obtain ⟨A, n, c, r, ho⟩ := h.ex
  have hln := ho.len
  have hB := h.le
  have HB1 := Lib.hid h.b1
  have HR := Lib.hid r
  have HO := Lib.hid ho
  unfold Hd.wNum at e
  by_cases hv : 0 ≤ v ∧ v ≤ 4611686018427387904
  · rw [if_pos hv] at e
    subst e
    have C := num_any none 0 0 [] v.toNat w (Bs.nil w) (by omega) (by omega)
    rw [Int.toNat_of_nonneg hv.1, List.nil_append] at C
    have C := Lib.hid C
    unfold NumPost at C
    have hnl := Code.num_len9 v.toNat (by omega)
    clear r ho h hv
    go_enter Tryd.func42, Tryd.ntmps42
    go_wp2_with fail
    (with_reducible refine C.out.mono ?_)
    rintro e w1 ⟨A1, n1, c1, rfl, ho1, hb1⟩
    have r1 := HR.out.belowS hb1 (Nat.le_refl _)
    have HO1 := Lib.hid ho1
    have HO2 := Lib.hid (HO.out.keep hb1)
    have HR1 := Lib.hid r1
    have HBB := Lib.hid hb1
    have hB1 : B ≤ w1.heap.size := by have := hb1.size; omega
    have hln1 := ho1.len
    have x0 := r1.cellQ 0 _ rfl
    have y0 := r1.frozen 0
    clear r1 ho1 hb1 HR HO C
    go_wp2_with (at_builtin; refine wl_app8 rfl (.tmp 20) (.tmp 21) rfl rfl HO2.out rfl HO1.out.bs (by omega) hB1 ?_; intro A3 n3 c3 w3 ho3 hb3 hg3; have HP := Lib.hid (ww_put (KeepTy.of HBB.out) (HBB.out.mono hB) HB1.out HR1.out HO2.out ho3 hg3 hb3); have r3 := HR1.out.keepTy (by decide) (KeepTy.grown (S := [5]) HO2.out.own (by decide) hg3 hb3.size); have x3 := r3.cellQ 0 _ rfl; have y3 := r3.frozen 0; clear x0 y0 r3 ho3 hb3 hg3)
    go_end0
    exact ⟨⟨_, rfl⟩, HP.out⟩
  · rw [if_neg hv] at e
    subst e
    have C := Lib.hid (num_no none 0 0 v w hlo hhi (by omega))
    have HWW := Lib.hid (ww_bad h)
    have hv' : ¬ (0 ≤ v ∧ v ≤ 4611686018427387904) := hv
    clear hv hv' ho h
    have x0 := r.cellQ 0 _ rfl
    have y0 := r.frozen 0
    have x1 := r.cellQ 1 _ rfl
    have y1 := r.frozen 1
    clear r
    go_enter Tryd.func42, Tryd.ntmps42
    go_wp2_with fail
    (with_reducible refine C.out.mono ?_)
    rintro e w1 ⟨rfl, rfl⟩
    clear C
    go_upto_region 3 with fail
    generalize hwd : World.setCell w _ _ = wd
    rw [hwd] at HWW
    have HWD := Lib.hid (show Row wd g #[.slice A n c, .bool true] 98 ∧ Own8 wd B A n c s.l from by
      rw [← hwd]
      exact ⟨HR.out.set 1 _, HO.out.keepTy (by decide) (KeepTy.set (S := [98]) HR.out (by decide) 1 (.bool true))⟩)
    have x2 := HWD.out.1.cellQ 0 _ rfl
    have y2 := HWD.out.1.frozen 0
    have hBd : B ≤ wd.heap.size := HWW.out.1.le
    clear x0 y0 x1 y1 hwd HR HO
    go_wp2_with (at_builtin; refine wl_app8 rfl (.tmp 20) (.tmp 21) rfl rfl HWD.out.2 rfl (Bs.nil _) (by omega) hBd ?_; intro A3 n3 c3 w3 ho3 hb3 hg3; have HP := Lib.hid (ww_put HWW.out.2.2 HWW.out.2.1 HB1.out HWD.out.1 HWD.out.2 ho3 hg3 hb3); have r3 := HWD.out.1.keepTy (by decide) (KeepTy.grown (S := [5]) HWD.out.2.own (by decide) hg3 hb3.size); have x3 := r3.cellQ 0 _ rfl; have y3 := r3.frozen 0; clear x2 y2 r3 ho3 hb3 hg3)
    go_end0
    rw [List.append_nil] at HP
    exact ⟨⟨_, rfl⟩, HP.out⟩
end Go.Proofs.YtfgpaepdlmnhaaaDoor

namespace Go.Proofs.YtfgpaepdlmnhaaaDoor
set_option maxRecDepth 100000
set_option linter.unusedVariables false
open Go.RowKit
theorem Own8.above {w w' : World} {b n c : Nat} {A : Option Addr} {l : List UInt8} (h : Own8 w b A n c l) (hx : FreeP.Above b w w') : Own8 w' b A n c l := by
  refine ⟨⟨h.own.1, ?_⟩, h.len, h.cap, h.max⟩
  rcases h.own.2 with h1 | ⟨g, cap, cur, h1, h2, h3, h4⟩
  · exact .inl h1
  · exact .inr ⟨g, cap, cur, h1, h2, hx.2 g _ h2 h3, h4⟩
def FreeP.x8 (b : Nat) (l : List UInt8) : FreeP.SX [] b := ⟨⟨fun v w => ∃ A n c, v = .slice A n c ∧ Own8 w b A n c l, fun v w w' ⟨A, n, c, h1, h2⟩ g => ⟨A, n, c, h1, h2.keep g⟩, fun v w w' ⟨A, n, c, h1, h2⟩ g => ⟨A, n, c, h1, h2.keepTy (by simp) g⟩⟩, fun v w w' ⟨A, n, c, h1, h2⟩ g => ⟨A, n, c, h1, h2.above g⟩⟩
def FreeP.k8 (B : Nat) (l : List UInt8) : FreeP.SV [] := ⟨fun v w => ∃ A n c, v = .slice A n c ∧ Own8 w B A n c l, fun v w w' ⟨A, n, c, h1, h2⟩ g => ⟨A, n, c, h1, h2.keep g⟩, fun v w w' ⟨A, n, c, h1, h2⟩ g => ⟨A, n, c, h1, h2.keepTy (by simp) g⟩⟩
theorem Own8.blk {w : World} {B n c : Nat} {A : Option Addr} {l : List UInt8} (h : Own8 w B A n c l) : ∀ g, (Value.slice A n c).ownBlock = some g → g < w.heap.size := fun g hg => by
  rcases h.own.2 with ⟨hv, h0⟩ | ⟨b, cap, cur, hv, h1, h2, _⟩
  · rw [hv] at hg; cases hg
  · rw [hv] at hg
    simp only [Value.ownBlock, Option.some.injEq] at hg
    subst hg
    exact heap_ltT h2
/-- What stands in the writing of a text. -/
def WtD (w : World) (B g : Nat) (A : Option Addr) (n c : Nat) (bad : Bool) (l : List UInt8) : Nat → World → Prop
  | 0, W => Row W g #[.slice A n c, .bool bad] 98 ∧ B ≤ W.heap.size ∧ Below B w W ∧ KeepTy SWR w W ∧ Own8 W B A n c l ∧ Below w.heap.size w W
  | 1, W => Row W g #[.slice A n c, .bool bad] 98 ∧ B ≤ W.heap.size ∧ Below B w W ∧ KeepTy SWR w W ∧ Own8 W B A n c l ∧ Below w.heap.size w W
  | _, W => Row W g #[.slice A n c, .bool bad] 98 ∧ B ≤ W.heap.size ∧ Below B w W ∧ KeepTy SWR w W
section
variable {w W W' : World} {B g n c : Nat} {A : Option Addr} {bad : Bool} {l : List UInt8} {k : Nat}
theorem WtD.any (h : WtD w B g A n c bad l k W) : Row W g #[.slice A n c, .bool bad] 98 ∧ B ≤ W.heap.size ∧ Below B w W ∧ KeepTy SWR w W := by
  match k, h with
  | 0, h => exact ⟨h.1, h.2.1, h.2.2.1, h.2.2.2.1⟩
  | 1, h => exact ⟨h.1, h.2.1, h.2.2.1, h.2.2.2.1⟩
  | k + 2, h => exact h
theorem WtD.keep (k : Nat) (h : WtD w B g A n c bad l k W) (hb : Below W.heap.size W W') : WtD w B g A n c bad l k W' := by
  match k, h with
  | 0, h => exact ⟨h.1.belowS hb (Nat.le_refl _), Nat.le_trans h.2.1 hb.size, h.2.2.1.trans (hb.mono h.2.1), h.2.2.2.1.trans (KeepTy.of hb), h.2.2.2.2.1.keep hb, bt h.2.2.2.2.2 hb⟩
  | 1, h => exact ⟨h.1.belowS hb (Nat.le_refl _), Nat.le_trans h.2.1 hb.size, h.2.2.1.trans (hb.mono h.2.1), h.2.2.2.1.trans (KeepTy.of hb), h.2.2.2.2.1.keep hb, bt h.2.2.2.2.2 hb⟩
  | k + 2, h => exact ⟨h.1.belowS hb (Nat.le_refl _), Nat.le_trans h.2.1 hb.size, h.2.2.1.trans (hb.mono h.2.1), h.2.2.2.trans (KeepTy.of hb)⟩
theorem WtD.grown (h : WtD w B g A n c bad l 1 W) {m : Nat} {v : Value} {xs : List Value} (ho : W.ownsRow B 5 1 v m xs) (hg : W.grownBy W' v.ownBlock) (hb : Below B W W') : WtD w B g A n c bad l 2 W' := by
  have k := KeepTy.grown (S := [5]) ho (by decide) hg hb.size
  exact ⟨h.1.keepTy (by decide) k, Nat.le_trans h.2.1 hb.size, h.2.2.1.trans hb, h.2.2.2.1.trans (k.more (by decide))⟩
/-- Ahead of the append. -/
theorem WtD.pre {T : Nat → Bool} (h : FreeP.C2 7 8 (WtD w B g A n c bad l) T W) (h8 : T 8 = false) : Below w.heap.size w W := by
  unfold FreeP.C2 at h
  rw [h8] at h
  cases h7 : T 7 with
  | true => rw [h7] at h; exact h.2.2.2.2.2
  | false => rw [h7] at h; exact h.2.2.2.2.2
end
set_option maxRecDepth 100000 in
set_option maxHeartbeats 8000000 in
theorem WW.text {w : World} {B g : Nat} {s s' : Hd.WS} {A2 : Option Addr} {m c2 : Nat} {lb : List UInt8} (most : Nat) (hm : most ≤ 1000000) (h : WW w B g s) (hl : s.l.length ≤ 10000000000000) (hb : Bs w A2 m c2 lb) (e : Hd.wText s lb most = s') : Calls Tryd.prog 59 #[.pointer (some ⟨g, 0, none⟩), .slice A2 m c2, .int .i64 (most : Int)] w (WWPost B g s' w) := by
  obtain ⟨A, n, c, r, ho⟩ := h.ex
  have hln := ho.len
  have hB := h.le
  have HB1 := Lib.hid h.b1
  have HR := Lib.hid r
  have HO := Lib.hid ho
  have HB2 := Lib.hid hb
  have hlb := hb.len
  unfold Hd.wText at e
  by_cases hv : most < lb.length
  · rw [if_pos hv] at e
    subst e
    have HP := Lib.hid (ww_bad h)
    have hv' : (most : Int) < (m : Int) := by omega
    have x1 := r.cellQ 1 _ rfl
    have y1 := r.frozen 1
    clear r ho h hb hv
    go_enter Tryd.func59, Tryd.ntmps59
    go_wp2
    go_end0
    exact ⟨⟨_, rfl⟩, HP.out⟩
  · rw [if_neg hv] at e
    subst e
    have hv' : ¬ (most : Int) < (m : Int) := by omega
    have htl := text_len lb (by omega)
    have hbl : lb.length ≤ 1000000 := by omega
    clear r ho h hb hv
    go_enter Tryd.func59, Tryd.ntmps59
    go_upto_region 2 with fail
    refine FreeP.wp_free2_l 11 7 8 [] w.heap.size (WtD w B g A n c s.bad s.l) [FreeP.xc (.pointer (some ⟨g, 0, none⟩)), FreeP.xc (.pointer (some ⟨g, 0, none⟩)), FreeP.xc (.pointer (some ⟨g, 0, none⟩)), FreeP.xc (.pointer (some ⟨g, 0, none⟩)), FreeP.xc (.slice A n c), FreeP.xc (.slice A2 m c2), FreeP.xc (sv lb), FreeP.x8 (w.heap.size) ((Code.text lb)), FreeP.xc (.slice none 0 0), FreeP.xc (.pointer (some ⟨g, 0, none⟩)), FreeP.xc (.pointer (some ⟨g, 0, none⟩))] (FreeP.k8 B (s.l ++ Code.text lb)) (by kernel_rfl) (by kernel_rfl) (by decide) (by decide) (by decide) (by decide) (by kernel_rfl) ⟨HR.out.drew, hB, bel_drew _ _, KeepTy.drew _ _, HO.out.keep (bel_drew _ _), bel_drew _ _⟩ (fun k W W' h g => WtD.keep k h g) ?_ ?_
    · refine Free.forall_succ (Free.forall_succ (Free.forall_succ (Free.forall_succ (Free.forall_succ (Free.forall_succ (Free.forall_succ (Free.forall_succ (Free.forall_succ (Free.forall_succ (Free.forall_succ (Free.forall_zero) ?_) ?_) ?_) ?_) ?_) ?_) ?_) ?_) ?_) ?_) ?_
      · exact FreeP.ob2_plain _ rfl rfl (by decide) (by decide) fun T vals wq hb hT hcl hC hd => (by exact Free.d_move rfl (by kernel_rfl) rfl)
      · exact FreeP.ob2_plain _ rfl rfl (by decide) (by decide) fun T vals wq hb hT hcl hC hd => (by exact Free.d_move rfl (by kernel_rfl) rfl)
      · exact FreeP.ob2_plain _ rfl rfl (by decide) (by decide) fun T vals wq hb hT hcl hC hd => (by exact FreeP.d_nilc rfl (Eq.trans (b := vals 1) (by kernel_rfl) (hd 1 (by kernel_rfl))) rfl)
      · exact FreeP.ob2_plain _ rfl rfl (by decide) (by decide) fun T vals wq hb hT hcl hC hd => (by exact d_field (cx := .pointer (some ⟨g, 0, none⟩)) rfl (Eq.trans (b := vals 2) (by kernel_rfl) (hd 2 (by kernel_rfl))) (by go_simp) rfl)
      · exact FreeP.ob2_plain _ rfl rfl (by decide) (by decide) fun T vals wq hb hT hcl hC hd => (by exact Free.d_load (cx := .pointer (some ⟨g, 0, none⟩)) rfl (Eq.trans (b := vals 3) (by kernel_rfl) (hd 3 (by kernel_rfl))) (by obtain ⟨_, hh⟩ := FreeP.C2_or hC; have hcc := (WtD.any hh).1.cellQ 0 _ rfl; go_simp) rfl)
      · exact FreeP.ob2_plain _ rfl rfl (by decide) (by decide) fun T vals wq hb hT hcl hC hd => (by exact Free.d_move rfl (by kernel_rfl) rfl)
      · exact FreeP.ob2_plain _ rfl rfl (by decide) (by decide) fun T vals wq hb hT hcl hC hd => (by exact Free.d_conv rfl (Eq.trans (b := vals 5) (by kernel_rfl) (hd 5 (by kernel_rfl))) (run_str (P := Tryd.prog) 30 9 5 Tryd.underlying30 Tryd.underlying5 Tryd.underlying9 A2 m c2 _ lb (HB2.out.keep (WtD.pre hC (by cases h8 : T 8 with | false => rfl | true => rw [hcl 8 6 h8 (by kernel_rfl)] at hT; cases hT))).rd HB2.out.len) (Below.refl _ _) rfl)
      · exact FreeP.ob2_one _ rfl rfl fun vals wq hC hd => (by exact FreeP.s_callF Tryd.func101 rfl rfl rfl rfl (Free.arg2 rfl (Eq.trans (b := vals 6) (by kernel_rfl) (hd 6 (by kernel_rfl)))) ((text_any none 0 0 [] lb wq (Bs.nil _) (by omega) (by omega)).mono fun e w2 ⟨A7, n7, c7, he, ho, hb⟩ => ⟨_, he, ⟨A7, n7, c7, rfl, by rw [List.nil_append] at ho; exact ho.base hC.2.2.2.2.2.size⟩, KeepTy.of hb, WtD.keep 0 hC hb⟩))
      · exact FreeP.ob2_two _ rfl rfl (by decide) (by kernel_rfl) fun vals wq hC hd => (by obtain ⟨A7, n7, k7, e7, ow7⟩ := hd 7 (by kernel_rfl); exact FreeP.s_app bytesT rfl (Eq.trans (b := vals 4) (by kernel_rfl) (hd 4 (by kernel_rfl))) hC.2.2.2.2.1.own (Eq.trans (b := vals 7) (by kernel_rfl) e7) ow7.bs.rd (by simpa using ow7.bs.len) (one_b _) (by have := ow7.len; rw [maxLen_eq]; omega) (by have := ow7.len; omega) hC.2.1 (fun A9 c9 w9 h1 h2 h3 h4 h5 => ⟨⟨A9, _, c9, rfl, ⟨by rw [← List.map_append] at h1; exact h1, by rw [List.length_append, hC.2.2.2.2.1.len, ow7.len], h4, h5⟩⟩, above_of_grown hC.2.2.2.2.1.own h2 h3.size HO.out.blk, hC.grown hC.2.2.2.2.1.own h2 h3⟩))
      · exact FreeP.ob2_plain _ rfl rfl (by decide) (by decide) fun T vals wq hb hT hcl hC hd => (by exact FreeP.d_nilc rfl (Eq.trans (b := vals 0) (by kernel_rfl) (hd 0 (by kernel_rfl))) rfl)
      · exact FreeP.ob2_plain _ rfl rfl (by decide) (by decide) fun T vals wq hb hT hcl hC hd => (by exact d_field (cx := .pointer (some ⟨g, 0, none⟩)) rfl (Eq.trans (b := vals 9) (by kernel_rfl) (hd 9 (by kernel_rfl))) (by go_simp) rfl)
    · intro vals wq hC hd
      have e0 : vals 0 = (.pointer (some ⟨g, 0, none⟩)) := hd 0 (by decide)
      have e1 : vals 1 = (.pointer (some ⟨g, 0, none⟩)) := hd 1 (by decide)
      have e2 : vals 2 = (.pointer (some ⟨g, 0, none⟩)) := hd 2 (by decide)
      have e3 : vals 3 = (.pointer (some ⟨g, 0, none⟩)) := hd 3 (by decide)
      have e4 : vals 4 = (.slice A n c) := hd 4 (by decide)
      have e5 : vals 5 = (.slice A2 m c2) := hd 5 (by decide)
      have e6 : vals 6 = (sv lb) := hd 6 (by decide)
      obtain ⟨A7, n7, k7, e7, ow7⟩ := hd 7 (by decide)
      obtain ⟨A8, n8, k8, e8, ow8⟩ := hd 8 (by decide)
      have e9 : vals 9 = (.pointer (some ⟨g, 0, none⟩)) := hd 9 (by decide)
      have e10 : vals 10 = (.pointer (some ⟨g, 0, none⟩)) := hd 10 (by decide)
      simp only [Free.frameOf, List.range, List.range.loop, List.foldl, Free.dstOf, List.getElem?_toArray, List.getElem?_cons_zero, List.getElem?_cons_succ, Option.bind_some, Act.put, List.setIfInBounds_toArray, List.set_cons_zero, List.set_cons_succ, e0, e1, e2, e3, e4, e5, e6, e7, e8, e9, e10]
      clear hd e0 e1 e2 e3 e4 e5 e6 e7 e8 e9 e10
      have x0 := hC.1.cellQ 0 _ rfl
      have y0 := hC.1.frozen 0
      have HC := Lib.hid hC
      have HO8 := Lib.hid ow8
      clear hC ow8
      go_wp2
      go_end0
      have k2 := KeepTy.set (S := [98]) HC.out.1 (by decide) 0 (.slice A8 n8 k8)
      exact ⟨⟨_, rfl⟩, ⟨⟨A8, n8, k8, HC.out.1.set 0 _, HO8.out.keepTy (by decide) k2⟩, HB1.out⟩, HC.out.2.2.1.setCell (p := ⟨g, 0, none⟩) HB1.out _, HC.out.2.2.2.trans (k2.more (by decide))⟩
end Go.Proofs.YtfgpaepdlmnhaaaDoor

namespace Go.Proofs.YtfgpaepdlmnhaaaDoor
set_option maxRecDepth 100000
set_option linter.unusedVariables false
open Go.RowKit
namespace Hd
def wEnd (s : WS) : Except Nat By := if s.bad = true then .error 1 else if 1048576 < s.l.length then .error 3 else .ok s.l
def wHead (s : WS) (h : H) : WS := match h.wr with
  | none => ⟨s.l, true⟩
  | some b => wText s b 10000
theorem wHead_len (s : WS) (h : H) : (wHead s h).l.length ≤ s.l.length + 10009 := by
  unfold wHead
  cases h.wr with
  | none => simp
  | some b => exact wText_len s b 10000 (by omega)
def wDigs (s : WS) : List By → WS
  | [] => s
  | d :: ds => if d.length = 32 then wDigs ⟨s.l ++ d, s.bad⟩ ds else ⟨s.l, true⟩
def wPath (s : WS) (L : List By) : WS := if 64 < L.length then ⟨s.l, true⟩ else wDigs (wNum s (L.length : Int)) L
theorem wDigs_len : ∀ (L : List By) (s : WS), (wDigs s L).l.length ≤ s.l.length + 32 * L.length
  | [], s => by simp [wDigs]
  | d :: L, s => by
    unfold wDigs
    split
    · have := wDigs_len L ⟨s.l ++ d, s.bad⟩
      simp only [List.length_append, List.length_cons] at this ⊢
      omega
    · simp
theorem wPath_len (s : WS) (L : List By) : (wPath s L).l.length ≤ s.l.length + 2057 := by
  unfold wPath
  split
  · simp
  · have h1 := wDigs_len L (wNum s (L.length : Int))
    have h2 := wNum_len s (L.length : Int)
    omega
end Hd
def FinPost (B : Nat) (r : Except Nat (List UInt8)) (w : World) (e : Ending) (w' : World) : Prop := w' = w ∧ match r with
  | .ok l => ∃ A n c, e = .returned (.tuple #[.slice A n c, .int .i64 0]) ∧ Own8 w B A n c l
  | .error x => e = .returned (.tuple #[.slice none 0 0, .int .i64 (x : Int)])
set_option maxRecDepth 100000 in
set_option maxHeartbeats 4000000 in
theorem WW.fin {w : World} {B g : Nat} {s : Hd.WS} (h : WW w B g s) : Calls Tryd.prog 44 #[.pointer (some ⟨g, 0, none⟩)] w (FinPost B (Hd.wEnd s) w) := by
  obtain ⟨A, n, c, r, ho⟩ := h.ex
  have hln := ho.len
  have hmx := ho.max
  have hcp := ho.cap
  rw [maxLen_eq] at hmx
  have HO := Lib.hid ho
  have x0 := r.cellQ 0 _ rfl
  have x1 := r.cellQ 1 _ rfl
  clear r ho h
  by_cases hb : s.bad = true
  · have HE := Lib.hid (show Hd.wEnd s = .error 1 by unfold Hd.wEnd; rw [if_pos hb])
    rw [hb] at x1
    clear hb
    go_enter Tryd.func44, Tryd.ntmps44
    go_wp2
    go_ret2
    rw [HE.out]
    exact ⟨rfl, rfl⟩
  · have hb' : s.bad = false := by simpa using hb
    rw [hb'] at x1
    by_cases hl : 1048576 < s.l.length
    · have HE := Lib.hid (show Hd.wEnd s = .error 3 by unfold Hd.wEnd; rw [if_neg hb, if_pos hl])
      have hl' : (1048576 : Int) < (n : Int) := by omega
      clear hb hb' hl hln
      go_enter Tryd.func44, Tryd.ntmps44
      go_wp2
      go_ret2
      rw [HE.out]
      exact ⟨rfl, rfl⟩
    · have HE := Lib.hid (show Hd.wEnd s = .ok s.l by unfold Hd.wEnd; rw [if_neg hb, if_neg hl])
      have hl' : ¬ (1048576 : Int) < (n : Int) := by omega
      clear hb hb' hl hln
      go_enter Tryd.func44, Tryd.ntmps44
      go_wp2
      go_ret2
      rw [HE.out]
      exact ⟨rfl, A, n, c, rfl, HO.out⟩
set_option maxRecDepth 100000 in
set_option maxHeartbeats 8000000 in
theorem WW.head {w : World} {B g : Nat} {s s' : Hd.WS} {A : Option Addr} {n c : Nat} {hh : Hd.H} (h : WW w B g s) (hl : s.l.length ≤ 10000000000000) (hs : ∀ W, Below B w W → Sq sgc 4 W A n c hh.segs) (hrt : ∀ s ∈ hh.segs, s.rt.length ≤ 1000) (hlog : hh.log.length ≤ 1000) (e : Hd.wHead s hh = s') : Calls Tryd.prog 41 #[.pointer (some ⟨g, 0, none⟩), .agg #[.int .i64 hh.size, sv hh.log, .slice A n c]] w (WWPost B g s' w) := by
  have hB := h.le
  have hbz := (Below.refl w.heap.size w).alloc (Nat.le_refl _) (.cells #[.int .i64 hh.size, sv hh.log, .slice A n c] 24)
  have HRZ := Lib.hid (row_new w #[.int .i64 hh.size, sv hh.log, .slice A n c] 24)
  obtain ⟨wz, hwz⟩ : ∃ W, w.alloc (.cells #[.int .i64 hh.size, sv hh.log, .slice A n c] 24) = W := ⟨_, rfl⟩
  have HWZ := Lib.hid hwz
  rw [hwz] at hbz HRZ
  have HBZ := Lib.hid hbz
  have HWW := Lib.hid (h.keep hbz)
  have CW := Lib.hid (hwrite_any A n c hh wz (hs wz (hbz.mono hB)) hrt hlog)
  unfold hdv WPost at CW
  have x0 := HRZ.out.cellQ 0 _ rfl
  have x1 := HRZ.out.cellQ 1 _ rfl
  have x2 := HRZ.out.cellQ 2 _ rfl
  unfold Hd.wHead at e
  clear h hs hrt hlog hwz hbz
  cases ho : hh.wr with
  | none =>
    rw [ho] at CW e
    simp only at e CW
    subst e
    go_enter Tryd.func41, Tryd.ntmps41
    go_upto_region 1 with fail
    rw [HWZ.out]
    go_wp2_with fail
    (with_reducible refine CW.out.mono ?_)
    rintro e w1 ⟨rfl, hb1⟩
    have HW1 := Lib.hid (HWW.out.keep hb1)
    have HB1 := Lib.hid (bt HBZ.out hb1)
    clear hb1 x0 x1 x2
    obtain ⟨A1, n1, c1, r1, ho1⟩ := HW1.out.ex
    have x1 := r1.cellQ 1 _ rfl
    have y1 := r1.frozen 1
    have HP := Lib.hid (ww_bad HW1.out)
    clear r1 ho1
    go_wp2
    go_end0
    exact ⟨⟨_, rfl⟩, HP.out.1, (HB1.out.mono hB).trans HP.out.2.1, (KeepTy.of HB1.out).trans HP.out.2.2⟩
  | some b =>
    rw [ho] at CW e
    simp only at e CW
    have HE := Lib.hid e
    clear e ho
    go_enter Tryd.func41, Tryd.ntmps41
    go_upto_region 1 with fail
    rw [HWZ.out]
    go_wp2_with fail
    (with_reducible refine CW.out.mono ?_)
    rintro e w1 ⟨A1, n1, c1, rfl, ho1, hb1⟩
    have HW1 := Lib.hid (HWW.out.keep hb1)
    have HB1 := Lib.hid (bt HBZ.out hb1)
    have CT := WW.text 10000 (by omega) HW1.out hl ho1.bs HE.out
    rw [show ((10000 : Nat) : Int) = 10000 from rfl] at CT
    have CT := Lib.hid CT
    unfold WWPost at CT
    clear hb1 ho1 x0 x1 x2
    go_wp2_with fail
    (with_reducible refine CT.out.mono ?_)
    rintro e w2 ⟨⟨v, rfl⟩, hw2, hb2, hk2⟩
    have HP := Lib.hid (And.intro hw2 (And.intro hb2 hk2))
    clear hw2 hb2 hk2
    go_wp2
    go_end0
    exact ⟨⟨_, rfl⟩, HP.out.1, (HB1.out.mono hB).trans HP.out.2.1, (KeepTy.of HB1.out).trans HP.out.2.2⟩
/-- What stands in the writing of a path. -/
structure WpC (w W : World) (B g : Nat) (s : Hd.WS) : Prop where
  ww : WW W B g s
  bel : Below B w W
  kp : KeepTy SWR w W
set_option maxRecDepth 100000 in
set_option maxHeartbeats 8000000 in
theorem WW.path {w : World} {B g : Nat} {s s' : Hd.WS} {A : Option Addr} {n c : Nat} {L : List (List UInt8)} (h : WW w B g s) (hl : s.l.length ≤ 1000000000000) (hs : ∀ W, Below B w W → Ss W A n c L) (hL : ∀ d ∈ L, d.length ≤ 1000000) (e : Hd.wPath s L = s') : Calls Tryd.prog 60 #[.pointer (some ⟨g, 0, none⟩), .slice A n c] w (WWPost B g s' w) := by
  have hss := hs w (Below.refl _ _)
  have hln := hss.len
  have hcp := hss.cap
  have hmx := hss.max
  rw [maxLen_eq] at hmx
  have HB1 := Lib.hid h.b1
  unfold Hd.wPath at e
  clear hss
  by_cases h64 : 64 < L.length
  · rw [if_pos h64] at e
    subst e
    have h64' : (64 : Int) < (n : Int) := by omega
    obtain ⟨A1, n1, c1, r1, ho1⟩ := h.ex
    have x1 := r1.cellQ 1 _ rfl
    have y1 := r1.frozen 1
    have HP := Lib.hid (ww_bad h)
    clear r1 ho1 hs h
    go_enter Tryd.func60, Tryd.ntmps60
    go_wp2
    go_end0
    exact ⟨⟨_, rfl⟩, HP.out⟩
  · rw [if_neg h64] at e
    have h64' : ¬ (64 : Int) < (n : Int) := by omega
    obtain ⟨s1, hs1⟩ : ∃ r, Hd.wNum s (L.length : Int) = r := ⟨_, rfl⟩
    rw [hs1] at e
    have hl1 := Hd.wNum_len s (L.length : Int)
    rw [hs1] at hl1
    have C := WW.num (L.length : Int) (by omega) (by omega) h (by omega) hs1
    rw [hln] at C
    have C := Lib.hid C
    unfold WWPost at C
    have HE := Lib.hid e
    have HS := Lib.hid hs
    have HLL := Lib.hid hL
    have HLN := Lib.hid hln
    clear e hs h hs1 hL h64 hln
    go_enter Tryd.func60, Tryd.ntmps60
    go_wp2_with fail
    (with_reducible refine C.out.mono ?_)
    rintro e w1 ⟨⟨v, rfl⟩, hw1, hb1, hk1⟩
    have HC1 := Lib.hid (show WpC w w1 B g s1 from ⟨hw1, hb1, hk1⟩)
    clear hw1 hb1 hk1 C
    go_wp2
    go_loopw [18] (fun vi wr => ∃ (k : Nat) (sk : Hd.WS), vi = .int .i64 (k : Int) ∧ k ≤ n ∧ sk.l.length ≤ s1.l.length + 32 * k ∧ Hid (WpC w wr B g sk ∧ Hd.wDigs sk (L.drop k) = s')) (fun vi _ => n - (intOf vi).toNat)
    case atStart => exact ⟨0, s1, rfl, by omega, by omega, Lib.hid ⟨HC1.out, by simpa using HE.out⟩⟩
    case round =>
      obtain ⟨k, sk, rfl, hk, hskl, HC⟩ := hrel
      have HW := Lib.hid HC.out.1
      have HDG := Lib.hid HC.out.2
      clear HC
      by_cases hlt : k < n
      · obtain ⟨b, off, rfl, hb, hcells, d, hd⟩ := (HS.out wr HW.out.bel).at hlt
        have x0 := hcells k d hd
        have hdl := HLL.out d (List.mem_of_getElem? hd)
        have HDD := Lib.hid (drop_cons hd)
        clear hcells hb hd
        obtain ⟨A1, n1, c1, r1, ho1⟩ := HW.out.ww.ex
        have hn1 := ho1.len
        by_cases h32 : d.length = 32
        · have HD2 := Lib.hid (show Hd.wDigs ⟨sk.l ++ d, sk.bad⟩ (L.drop (k + 1)) = s' by have := HDG.out; rw [HDD.out, Hd.wDigs, if_pos h32] at this; exact this)
          have h32' : (str d).size = 32 := by rw [strLen, h32]
          have x1 := r1.cellQ 0 _ rfl
          have hBr := HW.out.ww.le
          have HO1 := Lib.hid ho1
          have HR1 := Lib.hid r1
          clear r1 ho1
          go_wp2_with (at_builtin; refine wl_appS rfl (.tmp 32) (.tmp 33) rfl rfl HO1.out rfl (by omega) hBr ?_; intro A3 n3 c3 w3 ho3 hb3 hg3; have HP := Lib.hid (ww_put HW.out.kp HW.out.bel HB1.out HR1.out HO1.out ho3 hg3 hb3); have r3 := HR1.out.keepTy (by decide) (KeepTy.grown (S := [5]) HO1.out.own (by decide) hg3 hb3.size); have x3 := r3.cellQ 0 _ rfl; have y3 := r3.frozen 0; clear x0 x1 r3 ho3 hb3 hg3)
          go_roundw
          case rel => exact ⟨k + 1, ⟨sk.l ++ d, sk.bad⟩, by go_num, by omega, by simp only [List.length_append]; omega, Lib.hid ⟨⟨HP.out.1, HP.out.2.1, HP.out.2.2⟩, HD2.out⟩⟩
          case measure => simp [intOf]; omega
        · have HD2 := Lib.hid (show (⟨sk.l, true⟩ : Hd.WS) = s' by have := HDG.out; rw [HDD.out, Hd.wDigs, if_neg h32] at this; exact this)
          have h32' : (((str d).size : Int) == 32) = false := beq_eq_false_iff_ne.2 (by rw [strLen]; omega)
          have h32i : ¬ ((str d).size : Int) = 32 := by rw [strLen]; omega
          have h32j : ¬ (str d).size = 32 := by rw [strLen]; omega
          have x1 := r1.cellQ 1 _ rfl
          have y1 := r1.frozen 1
          have HP := Lib.hid (ww_bad HW.out.ww)
          clear r1 ho1
          go_wp2
          go_end0
          rw [← HD2.out]
          exact ⟨⟨_, rfl⟩, HP.out.1, HW.out.bel.trans HP.out.2.1, HW.out.kp.trans HP.out.2.2⟩
      · obtain rfl : k = n := by omega
        have HF := Lib.hid (show sk = s' by have := HDG.out; rw [← HLN.out, List.drop_length] at this; exact this)
        go_wp2
        go_end0
        rw [← HF.out]
        exact ⟨⟨_, rfl⟩, HW.out.ww, HW.out.bel, HW.out.kp⟩
end Go.Proofs.YtfgpaepdlmnhaaaDoor

namespace Go.Proofs.YtfgpaepdlmnhaaaDoor
set_option maxRecDepth 100000
set_option linter.unusedVariables false
open Go.RowKit
namespace Hd
structure Pg where
  h : H
  at_ : Int
  doc : By
  path : List By
structure Stp where
  old : H
  new : H
  proof : List By
def wrPage (p : Pg) : Except Nat By := wEnd (wPath (wText (wNum (wHead ⟨[2], false⟩ p.h) p.at_) p.doc 2000) p.path)
def wrStep (p : Stp) : Except Nat By := wEnd (wPath (wHead (wHead ⟨[3], false⟩ p.old) p.new) p.proof)
end Hd
def WrPost (r : Except Nat (List UInt8)) (w : World) (e : Ending) (w' : World) : Prop := Below w.heap.size w w' ∧ match r with
  | .ok l => ∃ A n c, e = .returned (.tuple #[.slice A n c, .int .i64 0]) ∧ Own8 w' w.heap.size A n c l
  | .error x => e = .returned (.tuple #[.slice none 0 0, .int .i64 (x : Int)])
/-- What stands between two steps of a writing. -/
structure SwC (w W : World) (B g gp : Nat) (ps : Array Value) (t : TypeId) (s : Hd.WS) : Prop where
  ww : WW W B g s
  row : Row W gp ps t
  bel : Below B w W
theorem SwC.turn {w W W' : World} {B g gp : Nat} {ps : Array Value} {t : TypeId} {s s' : Hd.WS} (h : SwC w W B g gp ps t s) (ht : t ∉ SWR) (hw : WW W' B g s') (hb : Below B W W') (hk : KeepTy SWR W W') : SwC w W' B g gp ps t s' := ⟨hw, h.row.keepTy ht hk, h.bel.trans hb⟩
theorem SwC.start (w : World) (ps : Array Value) (t : TypeId) (k : UInt8) {W : World} (hW : (((w.alloc (.cells ps t)).alloc (.cells #[.int .u8 (k.toNat : Int)] 5)).alloc (.cells #[.slice (some ⟨w.heap.size + 1, 0, none⟩) 1 1, .bool false] 98)) = W) : SwC w W w.heap.size (w.heap.size + 1 + 1) w.heap.size ps t ⟨[k], false⟩ := by
  have hz : ∀ (v : World) (o : Obj), (v.alloc o).heap.size = v.heap.size + 1 := fun v o => by unfold World.alloc; simp
  subst hW
  have h1 : Row (w.alloc (.cells ps t)) w.heap.size ps t := row_new w ps t
  have o1 := Own8.new (w.alloc (.cells ps t)) [k] [.int .u8 (k.toNat : Int)] (B := w.heap.size) (n := 1) (by rw [hz]; omega) rfl rfl (by decide)
  rw [hz] at o1
  have hb2 : Below ((w.alloc (.cells ps t)).alloc (.cells #[.int .u8 (k.toNat : Int)] 5)).heap.size ((w.alloc (.cells ps t)).alloc (.cells #[.int .u8 (k.toNat : Int)] 5)) (((w.alloc (.cells ps t)).alloc (.cells #[.int .u8 (k.toNat : Int)] 5)).alloc (.cells #[.slice (some ⟨w.heap.size + 1, 0, none⟩) 1 1, .bool false] 98)) := (Below.refl _ _).alloc (Nat.le_refl _) _
  have r2 := row_new ((w.alloc (.cells ps t)).alloc (.cells #[.int .u8 (k.toNat : Int)] 5)) #[.slice (some ⟨w.heap.size + 1, 0, none⟩) 1 1, .bool false] 98
  rw [show ((w.alloc (.cells ps t)).alloc (.cells #[.int .u8 (k.toNat : Int)] 5)).heap.size = w.heap.size + 1 + 1 by rw [hz, hz]] at r2
  exact ⟨⟨⟨_, 1, 1, r2, o1.keep hb2⟩, by omega⟩, (h1.alloc _).alloc _, (((Below.refl _ w).alloc (Nat.le_refl _) _).alloc (by rw [hz]; omega) _).alloc (by rw [hz, hz]; omega) _⟩
/-- The end of a writing. -/
theorem SwC.fin {w W : World} {g gp : Nat} {ps : Array Value} {t : TypeId} {s : Hd.WS} {r : Except Nat (List UInt8)} (h : SwC w W w.heap.size g gp ps t s) (e : Hd.wEnd s = r) : Calls Tryd.prog 44 #[.pointer (some ⟨g, 0, none⟩)] W fun e w' => w' = W ∧ WrPost r w e w' ∧ ∃ A n c x, e = .returned (.tuple #[.slice A n c, .int .i64 x]) := by
  subst e
  refine h.ww.fin.mono fun e w' ⟨h1, h2⟩ => ⟨h1, ⟨by rw [h1]; exact h.bel, ?_⟩, ?_⟩
  · rw [h1]
    cases hr : Hd.wEnd s with
    | ok l => rw [hr] at h2; exact h2
    | error x => rw [hr] at h2; exact h2
  · cases hr : Hd.wEnd s with
    | ok l => rw [hr] at h2; obtain ⟨A, n, c, h3, _⟩ := h2; exact ⟨A, n, c, 0, h3⟩
    | error x => rw [hr] at h2; exact ⟨none, 0, 0, _, h2⟩
set_option maxRecDepth 100000 in
set_option maxHeartbeats 8000000 in
theorem wr_page {w : World} {Ah : Option Addr} {nh ch : Nat} {Ad : Option Addr} {nd cd : Nat} {Ap : Option Addr} {np cp : Nat} (p : Hd.Pg) (hs : ∀ W, Below w.heap.size w W → Sq sgc 4 W Ah nh ch p.h.segs) (hrt : ∀ s ∈ p.h.segs, s.rt.length ≤ 1000) (hlog : p.h.log.length ≤ 1000) (h1 : -9223372036854775808 ≤ p.at_) (h2 : p.at_ ≤ 9223372036854775807) (hd : ∀ W, Below w.heap.size w W → Bs W Ad nd cd p.doc) (hp : ∀ W, Below w.heap.size w W → Ss W Ap np cp p.path) (hpl : ∀ d ∈ p.path, d.length ≤ 1000000) : Calls Tryd.prog 18 #[.agg #[.int .i64 p.h.size, sv p.h.log, .slice Ah nh ch, .int .i64 p.at_, .slice Ad nd cd, .slice Ap np cp]] w (WrPost (Hd.wrPage p) w) := by
  obtain ⟨s1, hs1⟩ : ∃ r, Hd.wHead (⟨[2], false⟩ : Hd.WS) p.h = r := ⟨_, rfl⟩
  have hl1 := Hd.wHead_len (⟨[2], false⟩ : Hd.WS) p.h
  rw [hs1] at hl1
  obtain ⟨s2, hs2⟩ : ∃ r, Hd.wNum s1 p.at_ = r := ⟨_, rfl⟩
  have hl2 := Hd.wNum_len s1 p.at_
  rw [hs2] at hl2
  obtain ⟨s3, hs3⟩ : ∃ r, Hd.wText s2 p.doc 2000 = r := ⟨_, rfl⟩
  have hl3 := Hd.wText_len s2 p.doc 2000 (by omega)
  rw [hs3] at hl3
  obtain ⟨s4, hs4⟩ : ∃ r, Hd.wPath s3 p.path = r := ⟨_, rfl⟩
  have hl4 := Hd.wPath_len s3 p.path
  rw [hs4] at hl4
  obtain ⟨rr, hrr⟩ : ∃ r, Hd.wEnd s4 = r := ⟨_, rfl⟩
  have HE := Lib.hid (show Hd.wrPage p = rr by unfold Hd.wrPage; rw [hs1, hs2, hs3, hs4, hrr])
  rw [HE.out]
  obtain ⟨w1, hw1⟩ : ∃ W, (((w.alloc (.cells #[.int .i64 p.h.size, sv p.h.log, .slice Ah nh ch, .int .i64 p.at_, .slice Ad nd cd, .slice Ap np cp] 48)).alloc (.cells #[.int .u8 2] 5)).alloc (.cells #[.slice (some ⟨w.heap.size + 1, 0, none⟩) 1 1, .bool false] 98)) = W := ⟨_, rfl⟩
  have HW1 := Lib.hid hw1
  have HC0 := Lib.hid (SwC.start w #[.int .i64 p.h.size, sv p.h.log, .slice Ah nh ch, .int .i64 p.at_, .slice Ad nd cd, .slice Ap np cp] 48 2 hw1)
  have HS := Lib.hid hs
  have HD := Lib.hid hd
  have HP := Lib.hid hp
  have HS1 := Lib.hid hs1
  have HS2 := Lib.hid hs2
  have HS3 := Lib.hid hs3
  have HS4 := Lib.hid hs4
  have HRR := Lib.hid hrr
  have hl0 : ([2] : List UInt8).length = 1 := rfl
  simp only at hl1 hl2 hl3 hl4
  rw [hl0] at hl1
  clear HE hw1 hs hd hp hrr hs1 hs2 hs3 hs4
  go_enter Tryd.func18, Tryd.ntmps18
  go_upto_region 2 with fail
  rw [HW1.out]
  clear HW1
  have x0 := HC0.out.row.cellQ 0 _ rfl
  have x1 := HC0.out.row.cellQ 1 _ rfl
  have x2 := HC0.out.row.cellQ 2 _ rfl
  have C := WW.head HC0.out.ww (by simp only [List.length_singleton]; omega) (fun W hW => HS.out W (HC0.out.bel.trans hW)) hrt hlog HS1.out
  have C := Lib.hid C
  unfold WWPost at C
  go_wp2_with fail
  (with_reducible refine C.out.mono ?_)
  rintro e w2 ⟨⟨v0, rfl⟩, hw, hb, hk⟩
  have HC1 := Lib.hid (HC0.out.turn (by decide) hw hb hk)
  clear hw hb hk C HC0 x0 x1 x2
  have x3 := HC1.out.row.cellQ 3 _ rfl
  have C := WW.num p.at_ h1 h2 HC1.out.ww (by omega) HS2.out
  have C := Lib.hid C
  unfold WWPost at C
  go_wp2_with fail
  (with_reducible refine C.out.mono ?_)
  rintro e w3 ⟨⟨v1, rfl⟩, hw, hb, hk⟩
  have HC2 := Lib.hid (HC1.out.turn (by decide) hw hb hk)
  clear hw hb hk C HC1 x3
  have x4 := HC2.out.row.cellQ 4 _ rfl
  have C := WW.text 2000 (by omega) HC2.out.ww (by omega) (HD.out _ HC2.out.bel) HS3.out
  rw [show ((2000 : Nat) : Int) = 2000 from rfl] at C
  have C := Lib.hid C
  unfold WWPost at C
  go_wp2_with fail
  (with_reducible refine C.out.mono ?_)
  rintro e w4 ⟨⟨v2, rfl⟩, hw, hb, hk⟩
  have HC3 := Lib.hid (HC2.out.turn (by decide) hw hb hk)
  clear hw hb hk C HC2 x4
  have x5 := HC3.out.row.cellQ 5 _ rfl
  have C := WW.path HC3.out.ww (by omega) (fun W hW => HP.out W (HC3.out.bel.trans hW)) hpl HS4.out
  have C := Lib.hid C
  unfold WWPost at C
  go_wp2_with fail
  (with_reducible refine C.out.mono ?_)
  rintro e w5 ⟨⟨v3, rfl⟩, hw, hb, hk⟩
  have HC4 := Lib.hid (HC3.out.turn (by decide) hw hb hk)
  clear hw hb hk C HC3 x5
  go_wp2_with fail
  (with_reducible refine (HC4.out.fin HRR.out).mono ?_)
  rintro e wf ⟨rfl, hpost, A9, n9, c9, x9, rfl⟩
  have HPP := Lib.hid hpost
  clear hpost
  go_wp2
  go_ret2
  exact HPP.out
set_option maxRecDepth 100000 in
set_option maxHeartbeats 8000000 in
theorem wr_step {w : World} {Ao : Option Addr} {no co : Nat} {An : Option Addr} {nn cn : Nat} {Ap : Option Addr} {np cp : Nat} (p : Hd.Stp) (hs : ∀ W, Below w.heap.size w W → Sq sgc 4 W Ao no co p.old.segs) (hrt : ∀ s ∈ p.old.segs, s.rt.length ≤ 1000) (hlog : p.old.log.length ≤ 1000) (hd : ∀ W, Below w.heap.size w W → Sq sgc 4 W An nn cn p.new.segs) (hrt2 : ∀ s ∈ p.new.segs, s.rt.length ≤ 1000) (hlog2 : p.new.log.length ≤ 1000) (hp : ∀ W, Below w.heap.size w W → Ss W Ap np cp p.proof) (hpl : ∀ d ∈ p.proof, d.length ≤ 1000000) : Calls Tryd.prog 24 #[.agg #[.int .i64 p.old.size, sv p.old.log, .slice Ao no co, .int .i64 p.new.size, sv p.new.log, .slice An nn cn, .slice Ap np cp]] w (WrPost (Hd.wrStep p) w) := by
  obtain ⟨s1, hs1⟩ : ∃ r, Hd.wHead (⟨[3], false⟩ : Hd.WS) p.old = r := ⟨_, rfl⟩
  have hl1 := Hd.wHead_len (⟨[3], false⟩ : Hd.WS) p.old
  rw [hs1] at hl1
  obtain ⟨s2, hs2⟩ : ∃ r, Hd.wHead s1 p.new = r := ⟨_, rfl⟩
  have hl2 := Hd.wHead_len s1 p.new
  rw [hs2] at hl2
  obtain ⟨s3, hs3⟩ : ∃ r, Hd.wPath s2 p.proof = r := ⟨_, rfl⟩
  have hl3 := Hd.wPath_len s2 p.proof
  rw [hs3] at hl3
  obtain ⟨rr, hrr⟩ : ∃ r, Hd.wEnd s3 = r := ⟨_, rfl⟩
  have HE := Lib.hid (show Hd.wrStep p = rr by unfold Hd.wrStep; rw [hs1, hs2, hs3, hrr])
  rw [HE.out]
  obtain ⟨w1, hw1⟩ : ∃ W, (((w.alloc (.cells #[.int .i64 p.old.size, sv p.old.log, .slice Ao no co, .int .i64 p.new.size, sv p.new.log, .slice An nn cn, .slice Ap np cp] 62)).alloc (.cells #[.int .u8 3] 5)).alloc (.cells #[.slice (some ⟨w.heap.size + 1, 0, none⟩) 1 1, .bool false] 98)) = W := ⟨_, rfl⟩
  have HW1 := Lib.hid hw1
  have HC0 := Lib.hid (SwC.start w #[.int .i64 p.old.size, sv p.old.log, .slice Ao no co, .int .i64 p.new.size, sv p.new.log, .slice An nn cn, .slice Ap np cp] 62 3 hw1)
  have HS := Lib.hid hs
  have HD := Lib.hid hd
  have HP := Lib.hid hp
  have HS1 := Lib.hid hs1
  have HS2 := Lib.hid hs2
  have HS3 := Lib.hid hs3
  have HRR := Lib.hid hrr
  have hl0 : ([3] : List UInt8).length = 1 := rfl
  simp only at hl1 hl2 hl3
  rw [hl0] at hl1
  clear HE hw1 hs hd hp hrr hs1 hs2 hs3
  go_enter Tryd.func24, Tryd.ntmps24
  go_upto_region 2 with fail
  rw [HW1.out]
  clear HW1
  have x0 := HC0.out.row.cellQ 0 _ rfl
  have x1 := HC0.out.row.cellQ 1 _ rfl
  have x2 := HC0.out.row.cellQ 2 _ rfl
  have C := WW.head HC0.out.ww (by simp only [List.length_singleton]; omega) (fun W hW => HS.out W (HC0.out.bel.trans hW)) hrt hlog HS1.out
  have C := Lib.hid C
  unfold WWPost at C
  go_wp2_with fail
  (with_reducible refine C.out.mono ?_)
  rintro e w2 ⟨⟨v0, rfl⟩, hw, hb, hk⟩
  have HC1 := Lib.hid (HC0.out.turn (by decide) hw hb hk)
  clear hw hb hk C HC0 x0 x1 x2
  have x3 := HC1.out.row.cellQ 3 _ rfl
  have x4 := HC1.out.row.cellQ 4 _ rfl
  have x5 := HC1.out.row.cellQ 5 _ rfl
  have C := WW.head HC1.out.ww (by omega) (fun W hW => HD.out W (HC1.out.bel.trans hW)) hrt2 hlog2 HS2.out
  have C := Lib.hid C
  unfold WWPost at C
  go_wp2_with fail
  (with_reducible refine C.out.mono ?_)
  rintro e w3 ⟨⟨v1, rfl⟩, hw, hb, hk⟩
  have HC2 := Lib.hid (HC1.out.turn (by decide) hw hb hk)
  clear hw hb hk C HC1 x3 x4 x5
  have x6 := HC2.out.row.cellQ 6 _ rfl
  have C := WW.path HC2.out.ww (by omega) (fun W hW => HP.out W (HC2.out.bel.trans hW)) hpl HS3.out
  have C := Lib.hid C
  unfold WWPost at C
  go_wp2_with fail
  (with_reducible refine C.out.mono ?_)
  rintro e w4 ⟨⟨v2, rfl⟩, hw, hb, hk⟩
  have HC3 := Lib.hid (HC2.out.turn (by decide) hw hb hk)
  clear hw hb hk C HC2 x6
  go_wp2_with fail
  (with_reducible refine (HC3.out.fin HRR.out).mono ?_)
  rintro e wf ⟨rfl, hpost, A9, n9, c9, x9, rfl⟩
  have HPP := Lib.hid hpost
  clear hpost
  go_wp2
  go_ret2
  exact HPP.out
end Go.Proofs.YtfgpaepdlmnhaaaDoor

namespace Go.Proofs.YtfgpaepdlmnhaaaDoor
set_option maxRecDepth 100000
set_option linter.unusedVariables false
open Go.RowKit
namespace Hd
def rdPage (l : By) : Except Nat Pg :=
  if begX l 2 ≠ 0 then .error (begX l 2) else
  let a := stHead l ⟨1, 0⟩
  let b := stNum l a.1
  let c := stText l 2000 b.1
  let d := stPath l c.1
  if doneX l d.1 ≠ 0 then .error (doneX l d.1) else .ok ⟨a.2, (b.2 : Int), c.2, d.2⟩
def rdStep (l : By) : Except Nat Stp :=
  if begX l 3 ≠ 0 then .error (begX l 3) else
  let a := stHead l ⟨1, 0⟩
  let b := stHead l a.1
  let d := stPath l b.1
  if doneX l d.1 ≠ 0 then .error (doneX l d.1) else .ok ⟨a.2, b.2, d.2⟩
end Hd
/-- What stands in the reading of a message: the reader's box, the result's box, the message's box. -/
structure RpC (w W : World) (B g : Nat) (l : List UInt8) (s : Hd.RS) (gr : Nat) (zs : Array Value) (gp : Nat) (ps : Array Value) (t : TypeId) : Prop where
  rd : RRd W B g l s
  rr : Row W gr zs t
  rp : Row W gp ps t
  bel : Below w.heap.size w W
  b0 : w.heap.size ≤ B
  gr0 : w.heap.size ≤ gr
  gp0 : w.heap.size ≤ gp
  ne : gr ≠ gp
  tn : t ∉ [124, 5, 130, 9]
section
variable {w W W' : World} {B g gr gp : Nat} {l : List UInt8} {s s' : Hd.RS} {zs ps : Array Value} {t : TypeId}
theorem RpC.keep (h : RpC w W B g l s gr zs gp ps t) (hb : Below W.heap.size W W') : RpC w W' B g l s gr zs gp ps t :=
  ⟨h.rd.keep hb, h.rr.belowS hb (Nat.le_refl _), h.rp.belowS hb (Nat.le_refl _), bt h.bel hb, h.b0, h.gr0, h.gp0, h.ne, h.tn⟩
theorem RpC.turn (h : RpC w W B g l s gr zs gp ps t) (hr : RRd W' B g l s') (hb : Below B W W') (k : KeepTy SRR W W') : RpC w W' B g l s' gr zs gp ps t := by
  have ht : t ∉ SRR := by have := h.tn; simp only [List.mem_cons, List.not_mem_nil, or_false, not_or] at this ⊢; exact this.1
  exact ⟨hr, h.rr.keepTy ht k, h.rp.keepTy ht k, h.bel.trans (hb.mono h.b0), h.b0, h.gr0, h.gp0, h.ne, h.tn⟩
theorem RpC.setP (h : RpC w W B g l s gr zs gp ps t) (hu : ps.toList.all notU8 = true) (j : Nat) (v : Value) : RpC w (W.setCell ⟨gp, j, none⟩ v) B g l s gr zs gp (ps.setIfInBounds j v) t := by
  have hn := h.tn
  simp only [List.mem_cons, List.not_mem_nil, or_false, not_or] at hn
  exact ⟨RRd.setF h.rd h.rp hn.1 hu hn.2.1 [v] j, h.rr.far gp j v h.ne, h.rp.set j v, h.bel.setCell (p := ⟨gp, j, none⟩) h.gp0 v, h.b0, h.gr0, h.gp0, h.ne, h.tn⟩
/-- The result's box is written. -/
theorem RpC.allR (h : RpC w W B g l s gr zs gp ps t) (vs : List Value) (hl : zs.size = vs.length) : Row (setFrom gr W 0 vs) gr vs.toArray t ∧ Below w.heap.size w (setFrom gr W 0 vs) := ⟨h.rr.all vs hl, below_setFrom h.gr0 vs 0 h.bel⟩
theorem RpC.t1 (h : RpC w W B g l s gr zs gp ps t) : t ≠ 130 := by have := h.tn; simp only [List.mem_cons, List.not_mem_nil, or_false, not_or] at this; exact this.2.2.1
theorem RpC.t2 (h : RpC w W B g l s gr zs gp ps t) : t ≠ 9 := by have := h.tn; simp only [List.mem_cons, List.not_mem_nil, or_false, not_or] at this; exact this.2.2.2
theorem RpC.t3 (h : RpC w W B g l s gr zs gp ps t) : t ≠ 5 := by have := h.tn; simp only [List.mem_cons, List.not_mem_nil, or_false, not_or] at this; exact this.2.1
end
theorem KeepTy.setF {S : List TypeId} {x : Nat} {t : TypeId} (ht : t ∈ S) : ∀ (vs : List Value) {w : World} {cs : Array Value} (k : Nat), Row w x cs t → KeepTy S w (setFrom x w k vs)
  | [], w, _, _, _ => KeepTy.refl w
  | v :: vs, w, cs, k, h => (KeepTy.set h ht k v).trans (KeepTy.setF ht vs (k + 1) (h.set k v))
theorem OwnS.setF {w : World} {B n c : Nat} {A : Option Addr} {L : List (List UInt8)} (h : OwnS w B A n c L) {x : Nat} {cs : Array Value} {t : TypeId} (hx : Row w x cs t) (ht : t ≠ 9) (vs : List Value) (k : Nat) : OwnS (setFrom x w k vs) B A n c L := h.keepTy (S := [t]) (by simp only [List.mem_singleton]; exact Ne.symm ht) (KeepTy.setF (List.mem_singleton.2 rfl) vs k hx)
theorem Ty8.setF {w : World} {B n c : Nat} {A : Option Addr} {L : List UInt8} (h : Ty8 w B A n c L) {x : Nat} {cs : Array Value} {t : TypeId} (hx : Row w x cs t) (ht : t ≠ 5) (vs : List Value) (k : Nat) : Ty8 (setFrom x w k vs) B A n c L := h.keepTy (S := [t]) (by simp only [List.mem_singleton]; exact Ne.symm ht) (KeepTy.setF (List.mem_singleton.2 rfl) vs k hx)
theorem OwnQ.setG {w : World} {B n c : Nat} {A : Option Addr} {L : List Hd.Sg} (h : OwnQ sgc 4 130 w B A n c L) {x : Nat} {cs : Array Value} {t : TypeId} (hx : Row w x cs t) (ht : t ≠ 130) (vs : List Value) (k : Nat) : OwnQ sgc 4 130 (setFrom x w k vs) B A n c L := OwnQ.setF ht vs k h hx
theorem RRd.done {w : World} {B g : Nat} {l : List UInt8} {s : Hd.RS} {d : Nat} (h : RRd w B g l s) (e : Hd.doneX l s = d) : ∃ A c, Row w g #[.slice A l.length c, .int .i64 (s.at_ : Int), .int .i64 (s.x : Int)] 124 ∧ ∀ W, Calls Tryd.prog 56 #[.agg #[.slice A l.length c, .int .i64 (s.at_ : Int), .int .i64 (s.x : Int)]] W fun e w' => e = .returned (.int .i64 (d : Int)) ∧ Below W.heap.size W w' := by
  subst e
  obtain ⟨A, c, r, hbs⟩ := h.ex
  exact ⟨A, c, r, fun W => done_st A l.length c l s W rfl h.at_ hbs.bs.cap hbs.bs.max⟩
def RdPost_page (r : Except Nat Hd.Pg) (w : World) (e : Ending) (w' : World) : Prop := Below w.heap.size w w' ∧ match r with
  | .ok p => ∃ A n c Ad nd cd Ap np cp, e = .returned (.tuple #[.agg #[.int .i64 p.h.size, sv p.h.log, .slice A n c, .int .i64 p.at_, .slice Ad nd cd, .slice Ap np cp], .int .i64 0]) ∧ OwnQ sgc 4 130 w' w.heap.size A n c p.h.segs ∧ Ty8 w' w.heap.size Ad nd cd p.doc ∧ OwnS w' w.heap.size Ap np cp p.path
  | .error x => e = .returned (.tuple #[.agg #[.int .i64 0, .string { data := #[] }, .slice none 0 0, .int .i64 0, .slice none 0 0, .slice none 0 0], .int .i64 (x : Int)]) ∧ x ≠ 0
set_option maxRecDepth 100000 in
set_option maxHeartbeats 16000000 in
theorem rd_page (A : Option Addr) (n c : Nat) (l : List UInt8) (w : World) (h : Bs w A n c l) (hn : l.length ≤ 1000000000) : Calls Tryd.prog 21 #[.slice A n c] w (RdPost_page (Hd.rdPage l) w) := by
  have hb0 := (Below.refl w.heap.size w).alloc (Nat.le_refl _) (.cells #[.int .i64 0, .string { data := #[] }, .slice none 0 0, .int .i64 0, .slice none 0 0, .slice none 0 0] 48)
  have hr0 := row_new w #[.int .i64 0, .string { data := #[] }, .slice none 0 0, .int .i64 0, .slice none 0 0, .slice none 0 0] 48
  obtain ⟨w1, hw1⟩ : ∃ W, w.alloc (.cells #[.int .i64 0, .string { data := #[] }, .slice none 0 0, .int .i64 0, .slice none 0 0, .slice none 0 0] 48) = W := ⟨_, rfl⟩
  have HW1 := Lib.hid hw1
  rw [hw1] at hb0 hr0
  have HB0 := Lib.hid hb0
  have HR0 := Lib.hid hr0
  have hlt0 := hr0.lt
  have CB := begin_any A n c l 2 w1 (h.keep hb0)
  have CB := Lib.hid (show Calls Tryd.prog 52 #[.slice A n c, .int .u8 2] w1 (BegPost l 2 w1) from CB)
  obtain ⟨bx, hbx⟩ : ∃ x, begX l 2 = x := ⟨_, rfl⟩
  obtain ⟨⟨s1, v1⟩, hs1⟩ : ∃ r, Hd.stHead l (⟨1, 0⟩ : Hd.RS) = r := ⟨_, rfl⟩
  obtain ⟨⟨s2, v2⟩, hs2⟩ : ∃ r, Hd.stNum l s1 = r := ⟨_, rfl⟩
  obtain ⟨⟨s3, v3⟩, hs3⟩ : ∃ r, Hd.stText l 2000 s2 = r := ⟨_, rfl⟩
  obtain ⟨⟨s4, v4⟩, hs4⟩ : ∃ r, Hd.stPath l s3 = r := ⟨_, rfl⟩
  obtain ⟨dx, hdx⟩ : ∃ x, Hd.doneX l s4 = x := ⟨_, rfl⟩
  have HE := Lib.hid (show Hd.rdPage l = if bx ≠ 0 then .error bx else if dx ≠ 0 then .error dx else .ok ⟨v1, (v2 : Int), v3, v4⟩ by unfold Hd.rdPage; simp only [hbx, hs1, hs2, hs3, hs4, hdx])
  have HS1 := Lib.hid hs1
  have HS2 := Lib.hid hs2
  have hv3 : v3.length ≤ 2000 := by have := Hd.stText_len l 2000 s2; rw [show ((2000 : Nat) : Int) = 2000 from rfl, hs3] at this; exact this
  have HS3 := Lib.hid hs3
  have HS4 := Lib.hid hs4
  have HDX := Lib.hid hdx
  unfold BegPost at CB
  rw [hbx] at CB
  rw [HE.out]
  clear h hbx hdx hw1 hb0 hr0 hs1 hs2 hs3 hs4
  by_cases hx0 : bx = 0
  · subst hx0
    rw [if_neg (by simp)]
    obtain ⟨R, hR⟩ : ∃ R, (if dx ≠ 0 then .error dx else .ok ⟨v1, (v2 : Int), v3, v4⟩ : Except Nat Hd.Pg) = R := ⟨_, rfl⟩
    have HR := Lib.hid hR
    rw [hR]
    clear hR HE
    go_enter Tryd.func21, Tryd.ntmps21
    go_upto_region 1 with fail
    rw [HW1.out]
    go_wp2_with fail
    (with_reducible refine CB.out.mono ?_)
    rintro e w2 ⟨hb2, he2⟩
    rw [if_pos trivial] at he2
    obtain ⟨g, rfl, hr2⟩ := he2
    have HB2 := Lib.hid hb2
    have HR2 := Lib.hid hr2
    clear hb2 hr2 CB
    go_upto_region 5 with fail
    have hb3 := (Below.refl w2.heap.size w2).alloc (Nat.le_refl _) (.cells #[.int .i64 0, .string { data := #[] }, .slice none 0 0, .int .i64 0, .slice none 0 0, .slice none 0 0] 48)
    have hr3 := row_new w2 #[.int .i64 0, .string { data := #[] }, .slice none 0 0, .int .i64 0, .slice none 0 0, .slice none 0 0] 48
    obtain ⟨w3, hw3⟩ : ∃ W, w2.alloc (.cells #[.int .i64 0, .string { data := #[] }, .slice none 0 0, .int .i64 0, .slice none 0 0, .slice none 0 0] 48) = W := ⟨_, rfl⟩
    rw [hw3] at hb3 hr3 ⊢
    have HC0 := Lib.hid (show RpC w w3 w1.heap.size g l ⟨1, 0⟩ w.heap.size #[.int .i64 0, .string { data := #[] }, .slice none 0 0, .int .i64 0, .slice none 0 0, .slice none 0 0] w2.heap.size #[.int .i64 0, .string { data := #[] }, .slice none 0 0, .int .i64 0, .slice none 0 0, .slice none 0 0] 48 from ⟨HR2.out.keep hb3, (HR0.out.belowS HB2.out (Nat.le_refl _)).belowS hb3 (Nat.le_refl _), hr3, bt (bt HB0.out HB2.out) hb3, Nat.le_of_lt hlt0, Nat.le_refl _, Nat.le_trans (Nat.le_of_lt hlt0) HB2.out.size, by have := HB2.out.size; omega, by decide⟩)
    clear hw3 hb3 hr3 HB2 HR2
    obtain ⟨gp, hgp⟩ : ∃ g, w2.heap.size = g := ⟨_, rfl⟩
    rw [hgp] at HC0 ⊢
    clear hgp
    have C := HC0.out.rd.head hn HS1.out
    have C := Lib.hid C
    unfold RRPostV at C
    go_wp2_with fail
    (with_reducible refine C.out.mono ?_)
    rintro e w10 ⟨_, rfl, ⟨A0, n0, c0, rfl, hq⟩, hr, hb, hk⟩
    have HD0 := Lib.hid (HC0.out.turn hr hb hk)
    have HQ0 := Lib.hid (hq.base (show w.heap.size ≤ w3.heap.size from HC0.out.bel.size))
    clear hq
    clear hr hb hk C HC0
    unfold hdv
    have x0 := HD0.out.rp.cellQ 0 _ rfl
    have y0 := HD0.out.rp.frozen 0
    have x1 := HD0.out.rp.cellQ 1 _ rfl
    have y1 := HD0.out.rp.frozen 1
    have x2 := HD0.out.rp.cellQ 2 _ rfl
    have y2 := HD0.out.rp.frozen 2
    go_upto_region 6 with fail
    generalize hwd : World.setCell (World.setCell (World.setCell w10 _ _) _ _) _ _ = w20
    have HC1 := Lib.hid (show RpC w w20 w1.heap.size g l s1 w.heap.size #[.int .i64 0, .string { data := #[] }, .slice none 0 0, .int .i64 0, .slice none 0 0, .slice none 0 0] gp #[.int .i64 v1.size, sv v1.log, .slice A0 n0 c0, .int .i64 0, .slice none 0 0, .slice none 0 0] 48 by rw [← hwd]; exact (((HD0.out.setP rfl 0 (.int .i64 v1.size)).setP rfl 1 (sv v1.log)).setP rfl 2 (.slice A0 n0 c0)))
    replace HQ0 := Lib.hid (show _ from HQ0.out.setG HD0.out.rp HD0.out.t1 [.int .i64 v1.size, sv v1.log, .slice A0 n0 c0] 0)
    rw [show setFrom gp w10 0 [.int .i64 v1.size, sv v1.log, .slice A0 n0 c0] = w20 by rw [← hwd]; rfl] at HQ0
    clear hwd HD0 x0 y0 x1 y1 x2 y2
    have C := HC1.out.rd.num hn HS2.out
    have C := Lib.hid C
    unfold RRPost at C
    go_wp2_with fail
    (with_reducible refine C.out.mono ?_)
    rintro e w11 ⟨rfl, hr, hb, hk⟩
    have HD1 := Lib.hid (HC1.out.turn hr hb hk)
    replace HQ0 := Lib.hid (HQ0.out.keepTy (by decide) hk)
    clear hr hb hk C HC1
    have x3 := HD1.out.rp.cellQ 3 _ rfl
    have y3 := HD1.out.rp.frozen 3
    go_upto_region 7 with fail
    generalize hwd : World.setCell w11 _ _ = w21
    have HC2 := Lib.hid (show RpC w w21 w1.heap.size g l s2 w.heap.size #[.int .i64 0, .string { data := #[] }, .slice none 0 0, .int .i64 0, .slice none 0 0, .slice none 0 0] gp #[.int .i64 v1.size, sv v1.log, .slice A0 n0 c0, .int .i64 (v2 : Int), .slice none 0 0, .slice none 0 0] 48 by rw [← hwd]; exact (HD1.out.setP rfl 3 (.int .i64 (v2 : Int))))
    replace HQ0 := Lib.hid (show _ from HQ0.out.setG HD1.out.rp HD1.out.t1 [.int .i64 (v2 : Int)] 3)
    rw [show setFrom gp w11 3 [.int .i64 (v2 : Int)] = w21 by rw [← hwd]; rfl] at HQ0
    clear hwd HD1 x3 y3
    have C := RRd.text 2000 (by omega) (by omega) HC2.out.rd hn HS3.out
    have C := Lib.hid C
    unfold RRPost at C
    go_wp2_with fail
    (with_reducible refine C.out.mono ?_)
    rintro e w12 ⟨rfl, hr, hb, hk⟩
    have HD2 := Lib.hid (HC2.out.turn hr hb hk)
    replace HQ0 := Lib.hid (HQ0.out.keepTy (by decide) hk)
    clear hr hb hk C HC2
    have x4 := HD2.out.rp.cellQ 4 _ rfl
    have y4 := HD2.out.rp.frozen 4
    have HSZ := Lib.hid (show w.heap.size ≤ w12.heap.size from HD2.out.bel.size)
    go_upto_region 8 with (refine wl_bytesT rfl 9 30 (.tmp 24) rfl Tryd.underlying9 Tryd.underlying30 Tryd.underlying5 v3 rfl (by rw [maxLen_eq]; omega) ?_; intro A2 c2 wt ht hbt; replace HD2 := Lib.hid (HD2.out.keep hbt); replace HQ0 := Lib.hid (HQ0.out.keep hbt); have HQ2 := Lib.hid (ht.base (show w.heap.size ≤ w12.heap.size from (Nat.le_trans HSZ.out (Nat.le_refl _)))); clear ht hbt x4 y4; have x4 := HD2.out.rp.cellQ 4 _ rfl; have y4 := HD2.out.rp.frozen 4)
    generalize hwd : World.setCell wt _ _ = w22
    have HC3 := Lib.hid (show RpC w w22 w1.heap.size g l s3 w.heap.size #[.int .i64 0, .string { data := #[] }, .slice none 0 0, .int .i64 0, .slice none 0 0, .slice none 0 0] gp #[.int .i64 v1.size, sv v1.log, .slice A0 n0 c0, .int .i64 (v2 : Int), .slice A2 v3.length c2, .slice none 0 0] 48 by rw [← hwd]; exact (HD2.out.setP rfl 4 (.slice A2 v3.length c2)))
    replace HQ0 := Lib.hid (show _ from HQ0.out.setG HD2.out.rp HD2.out.t1 [.slice A2 v3.length c2] 4)
    rw [show setFrom gp wt 4 [.slice A2 v3.length c2] = w22 by rw [← hwd]; rfl] at HQ0
    replace HQ2 := Lib.hid (show _ from HQ2.out.setF HD2.out.rp HD2.out.t3 [.slice A2 v3.length c2] 4)
    rw [show setFrom gp wt 4 [.slice A2 v3.length c2] = w22 by rw [← hwd]; rfl] at HQ2
    clear hwd HD2 x4 y4 HSZ
    have C := HC3.out.rd.path hn HS4.out
    have C := Lib.hid C
    unfold RRPostV at C
    go_wp2_with fail
    (with_reducible refine C.out.mono ?_)
    rintro e w13 ⟨_, rfl, ⟨A3, n3, c3, rfl, hq⟩, hr, hb, hk⟩
    have HD3 := Lib.hid (HC3.out.turn hr hb hk)
    replace HQ0 := Lib.hid (HQ0.out.keepTy (by decide) hk)
    replace HQ2 := Lib.hid (HQ2.out.keepTy (by decide) hk)
    have HQ3 := Lib.hid (hq.base (show w.heap.size ≤ w22.heap.size from HC3.out.bel.size))
    clear hq
    clear hr hb hk C HC3
    have x5 := HD3.out.rp.cellQ 5 _ rfl
    have y5 := HD3.out.rp.frozen 5
    go_upto_region 9 with fail
    generalize hwd : World.setCell w13 _ _ = w23
    have HC4 := Lib.hid (show RpC w w23 w1.heap.size g l s4 w.heap.size #[.int .i64 0, .string { data := #[] }, .slice none 0 0, .int .i64 0, .slice none 0 0, .slice none 0 0] gp #[.int .i64 v1.size, sv v1.log, .slice A0 n0 c0, .int .i64 (v2 : Int), .slice A2 v3.length c2, .slice A3 n3 c3] 48 by rw [← hwd]; exact (HD3.out.setP rfl 5 (.slice A3 n3 c3)))
    replace HQ0 := Lib.hid (show _ from HQ0.out.setG HD3.out.rp HD3.out.t1 [.slice A3 n3 c3] 5)
    rw [show setFrom gp w13 5 [.slice A3 n3 c3] = w23 by rw [← hwd]; rfl] at HQ0
    replace HQ2 := Lib.hid (show _ from HQ2.out.setF HD3.out.rp HD3.out.t3 [.slice A3 n3 c3] 5)
    rw [show setFrom gp w13 5 [.slice A3 n3 c3] = w23 by rw [← hwd]; rfl] at HQ2
    replace HQ3 := Lib.hid (show _ from HQ3.out.setF HD3.out.rp HD3.out.t2 [.slice A3 n3 c3] 5)
    rw [show setFrom gp w13 5 [.slice A3 n3 c3] = w23 by rw [← hwd]; rfl] at HQ3
    clear hwd HD3 x5 y5
    obtain ⟨Ag, cg, rg, CD⟩ := HC4.out.rd.done HDX.out
    have CD := Lib.hid CD
    have x0 := rg.cellQ 0 _ rfl
    have x1 := rg.cellQ 1 _ rfl
    have x2 := rg.cellQ 2 _ rfl
    clear rg
    go_wp2_with fail
    (with_reducible refine (CD.out _).mono ?_)
    rintro e w30 ⟨rfl, hb30⟩
    have HF := Lib.hid (HC4.out.keep hb30)
    replace HQ0 := Lib.hid (HQ0.out.keep hb30)
    replace HQ2 := Lib.hid (HQ2.out.keep hb30)
    replace HQ3 := Lib.hid (HQ3.out.keep hb30)
    clear hb30 x0 x1 x2 CD HC4
    have z0 := HF.out.rr.cellQ 0 _ rfl
    have u0 := HF.out.rr.frozen 0
    have z1 := HF.out.rr.cellQ 1 _ rfl
    have u1 := HF.out.rr.frozen 1
    have z2 := HF.out.rr.cellQ 2 _ rfl
    have u2 := HF.out.rr.frozen 2
    have z3 := HF.out.rr.cellQ 3 _ rfl
    have u3 := HF.out.rr.frozen 3
    have z4 := HF.out.rr.cellQ 4 _ rfl
    have u4 := HF.out.rr.frozen 4
    have z5 := HF.out.rr.cellQ 5 _ rfl
    have u5 := HF.out.rr.frozen 5
    by_cases hd0 : dx = 0
    · subst hd0
      have HR1 := Lib.hid (show R = .ok ⟨v1, (v2 : Int), v3, v4⟩ by rw [← HR.out, if_neg (by simp)])
      have q0 := HF.out.rp.cellQ 0 _ rfl
      have q1 := HF.out.rp.cellQ 1 _ rfl
      have q2 := HF.out.rp.cellQ 2 _ rfl
      have q3 := HF.out.rp.cellQ 3 _ rfl
      have q4 := HF.out.rp.cellQ 4 _ rfl
      have q5 := HF.out.rp.cellQ 5 _ rfl
      go_wp2
      generalize hwf : World.setCell (World.setCell (World.setCell (World.setCell (World.setCell (World.setCell w30 _ _) _ _) _ _) _ _) _ _) _ _ = wf
      have hsf : setFrom w.heap.size w30 0 [.int .i64 v1.size, sv v1.log, .slice A0 n0 c0, .int .i64 (v2 : Int), .slice A2 v3.length c2, .slice A3 n3 c3] = wf := by rw [← hwf]; rfl
      have hrow := HF.out.allR [.int .i64 v1.size, sv v1.log, .slice A0 n0 c0, .int .i64 (v2 : Int), .slice A2 v3.length c2, .slice A3 n3 c3] rfl
      rw [hsf] at hrow
      have r0 := hrow.1.cellQ 0 _ rfl
      have r1 := hrow.1.cellQ 1 _ rfl
      have r2 := hrow.1.cellQ 2 _ rfl
      have r3 := hrow.1.cellQ 3 _ rfl
      have r4 := hrow.1.cellQ 4 _ rfl
      have r5 := hrow.1.cellQ 5 _ rfl
      refine bodyPost_ret (v := .tuple #[.agg #[.int .i64 v1.size, sv v1.log, .slice A0 n0 c0, .int .i64 (v2 : Int), .slice A2 v3.length c2, .slice A3 n3 c3], .int .i64 0]) (by simp [results, Tryd.results21, go_sem, r0, r1, r2, r3, r4, r5]) rfl ?_
      rw [HR1.out]
      exact ⟨hrow.2, A0, n0, c0, A2, _, c2, A3, n3, c3, rfl, (by rw [← hsf]; exact HQ0.out.setG HF.out.rr HF.out.t1 _ 0), (by rw [← hsf]; exact HQ2.out.setF HF.out.rr HF.out.t3 _ 0), (by rw [← hsf]; exact HQ3.out.setF HF.out.rr HF.out.t2 _ 0)⟩
    · have HR1 := Lib.hid (show R = .error dx by rw [← HR.out, if_pos hd0])
      have hdi : ((dx : Int) == 0) = false := beq_eq_false_iff_ne.2 (by omega)
      go_wp2
      generalize hwf : World.setCell (World.setCell (World.setCell (World.setCell (World.setCell (World.setCell w30 _ _) _ _) _ _) _ _) _ _) _ _ = wf
      have hsf : setFrom w.heap.size w30 0 [.int .i64 0, .string { data := #[] }, .slice none 0 0, .int .i64 0, .slice none 0 0, .slice none 0 0] = wf := by rw [← hwf]; rfl
      have hrow := HF.out.allR [.int .i64 0, .string { data := #[] }, .slice none 0 0, .int .i64 0, .slice none 0 0, .slice none 0 0] rfl
      rw [hsf] at hrow
      have r0 := hrow.1.cellQ 0 _ rfl
      have r1 := hrow.1.cellQ 1 _ rfl
      have r2 := hrow.1.cellQ 2 _ rfl
      have r3 := hrow.1.cellQ 3 _ rfl
      have r4 := hrow.1.cellQ 4 _ rfl
      have r5 := hrow.1.cellQ 5 _ rfl
      refine bodyPost_ret (v := .tuple #[.agg #[.int .i64 0, .string { data := #[] }, .slice none 0 0, .int .i64 0, .slice none 0 0, .slice none 0 0], .int .i64 (dx : Int)]) (by simp [results, Tryd.results21, go_sem, r0, r1, r2, r3, r4, r5]) rfl ?_
      rw [HR1.out]
      exact ⟨hrow.2, rfl, hd0⟩
  · rw [if_pos hx0]
    have HX0 := Lib.hid hx0
    have hxi : ((bx : Int) == 0) = false := beq_eq_false_iff_ne.2 (by omega)
    go_enter Tryd.func21, Tryd.ntmps21
    go_upto_region 1 with fail
    rw [HW1.out]
    go_wp2_with fail
    (with_reducible refine CB.out.mono ?_)
    rintro e w30 ⟨hb2, he2⟩
    rw [if_neg HX0.out] at he2
    subst he2
    have HB2 := Lib.hid (bt HB0.out hb2)
    have HR2 := Lib.hid (HR0.out.belowS hb2 (Nat.le_refl _))
    clear hb2 CB
    have z0 := HR2.out.cellQ 0 _ rfl
    have u0 := HR2.out.frozen 0
    have z1 := HR2.out.cellQ 1 _ rfl
    have u1 := HR2.out.frozen 1
    have z2 := HR2.out.cellQ 2 _ rfl
    have u2 := HR2.out.frozen 2
    have z3 := HR2.out.cellQ 3 _ rfl
    have u3 := HR2.out.frozen 3
    have z4 := HR2.out.cellQ 4 _ rfl
    have u4 := HR2.out.frozen 4
    have z5 := HR2.out.cellQ 5 _ rfl
    have u5 := HR2.out.frozen 5
    go_wp2
    generalize hwf : World.setCell (World.setCell (World.setCell (World.setCell (World.setCell (World.setCell w30 _ _) _ _) _ _) _ _) _ _) _ _ = wf
    have hsf : setFrom w.heap.size w30 0 [.int .i64 0, .string { data := #[] }, .slice none 0 0, .int .i64 0, .slice none 0 0, .slice none 0 0] = wf := by rw [← hwf]; rfl
    have hrow := (show Row (setFrom w.heap.size w30 0 [.int .i64 0, .string { data := #[] }, .slice none 0 0, .int .i64 0, .slice none 0 0, .slice none 0 0]) w.heap.size #[.int .i64 0, .string { data := #[] }, .slice none 0 0, .int .i64 0, .slice none 0 0, .slice none 0 0] 48 ∧ Below w.heap.size w (setFrom w.heap.size w30 0 [.int .i64 0, .string { data := #[] }, .slice none 0 0, .int .i64 0, .slice none 0 0, .slice none 0 0]) from ⟨HR2.out.all _ rfl, below_setFrom (Nat.le_refl _) _ 0 HB2.out⟩) -- [.int .i64 0, .string { data := #[] }, .slice none 0 0, .int .i64 0, .slice none 0 0, .slice none 0 0] rfl
    rw [hsf] at hrow
    have r0 := hrow.1.cellQ 0 _ rfl
    have r1 := hrow.1.cellQ 1 _ rfl
    have r2 := hrow.1.cellQ 2 _ rfl
    have r3 := hrow.1.cellQ 3 _ rfl
    have r4 := hrow.1.cellQ 4 _ rfl
    have r5 := hrow.1.cellQ 5 _ rfl
    refine bodyPost_ret (v := .tuple #[.agg #[.int .i64 0, .string { data := #[] }, .slice none 0 0, .int .i64 0, .slice none 0 0, .slice none 0 0], .int .i64 (bx : Int)]) (by simp [results, Tryd.results21, go_sem, r0, r1, r2, r3, r4, r5]) rfl ?_
    exact ⟨hrow.2, rfl, HX0.out⟩
def RdPost_step (r : Except Nat Hd.Stp) (w : World) (e : Ending) (w' : World) : Prop := Below w.heap.size w w' ∧ match r with
  | .ok p => ∃ A n c Ad nd cd Ap np cp, e = .returned (.tuple #[.agg #[.int .i64 p.old.size, sv p.old.log, .slice A n c, .int .i64 p.new.size, sv p.new.log, .slice Ad nd cd, .slice Ap np cp], .int .i64 0]) ∧ OwnQ sgc 4 130 w' w.heap.size A n c p.old.segs ∧ OwnQ sgc 4 130 w' w.heap.size Ad nd cd p.new.segs ∧ OwnS w' w.heap.size Ap np cp p.proof
  | .error x => e = .returned (.tuple #[.agg #[.int .i64 0, .string { data := #[] }, .slice none 0 0, .int .i64 0, .string { data := #[] }, .slice none 0 0, .slice none 0 0], .int .i64 (x : Int)]) ∧ x ≠ 0
set_option maxRecDepth 100000 in
set_option maxHeartbeats 16000000 in
theorem rd_step (A : Option Addr) (n c : Nat) (l : List UInt8) (w : World) (h : Bs w A n c l) (hn : l.length ≤ 1000000000) : Calls Tryd.prog 27 #[.slice A n c] w (RdPost_step (Hd.rdStep l) w) := by
  have hb0 := (Below.refl w.heap.size w).alloc (Nat.le_refl _) (.cells #[.int .i64 0, .string { data := #[] }, .slice none 0 0, .int .i64 0, .string { data := #[] }, .slice none 0 0, .slice none 0 0] 62)
  have hr0 := row_new w #[.int .i64 0, .string { data := #[] }, .slice none 0 0, .int .i64 0, .string { data := #[] }, .slice none 0 0, .slice none 0 0] 62
  obtain ⟨w1, hw1⟩ : ∃ W, w.alloc (.cells #[.int .i64 0, .string { data := #[] }, .slice none 0 0, .int .i64 0, .string { data := #[] }, .slice none 0 0, .slice none 0 0] 62) = W := ⟨_, rfl⟩
  have HW1 := Lib.hid hw1
  rw [hw1] at hb0 hr0
  have HB0 := Lib.hid hb0
  have HR0 := Lib.hid hr0
  have hlt0 := hr0.lt
  have CB := begin_any A n c l 3 w1 (h.keep hb0)
  have CB := Lib.hid (show Calls Tryd.prog 52 #[.slice A n c, .int .u8 3] w1 (BegPost l 3 w1) from CB)
  obtain ⟨bx, hbx⟩ : ∃ x, begX l 3 = x := ⟨_, rfl⟩
  obtain ⟨⟨s1, v1⟩, hs1⟩ : ∃ r, Hd.stHead l (⟨1, 0⟩ : Hd.RS) = r := ⟨_, rfl⟩
  obtain ⟨⟨s2, v2⟩, hs2⟩ : ∃ r, Hd.stHead l s1 = r := ⟨_, rfl⟩
  obtain ⟨⟨s3, v3⟩, hs3⟩ : ∃ r, Hd.stPath l s2 = r := ⟨_, rfl⟩
  obtain ⟨dx, hdx⟩ : ∃ x, Hd.doneX l s3 = x := ⟨_, rfl⟩
  have HE := Lib.hid (show Hd.rdStep l = if bx ≠ 0 then .error bx else if dx ≠ 0 then .error dx else .ok ⟨v1, v2, v3⟩ by unfold Hd.rdStep; simp only [hbx, hs1, hs2, hs3, hdx])
  have HS1 := Lib.hid hs1
  have HS2 := Lib.hid hs2
  have HS3 := Lib.hid hs3
  have HDX := Lib.hid hdx
  unfold BegPost at CB
  rw [hbx] at CB
  rw [HE.out]
  clear h hbx hdx hw1 hb0 hr0 hs1 hs2 hs3
  by_cases hx0 : bx = 0
  · subst hx0
    rw [if_neg (by simp)]
    obtain ⟨R, hR⟩ : ∃ R, (if dx ≠ 0 then .error dx else .ok ⟨v1, v2, v3⟩ : Except Nat Hd.Stp) = R := ⟨_, rfl⟩
    have HR := Lib.hid hR
    rw [hR]
    clear hR HE
    go_enter Tryd.func27, Tryd.ntmps27
    go_upto_region 1 with fail
    rw [HW1.out]
    go_wp2_with fail
    (with_reducible refine CB.out.mono ?_)
    rintro e w2 ⟨hb2, he2⟩
    rw [if_pos trivial] at he2
    obtain ⟨g, rfl, hr2⟩ := he2
    have HB2 := Lib.hid hb2
    have HR2 := Lib.hid hr2
    clear hb2 hr2 CB
    go_upto_region 5 with fail
    have hb3 := (Below.refl w2.heap.size w2).alloc (Nat.le_refl _) (.cells #[.int .i64 0, .string { data := #[] }, .slice none 0 0, .int .i64 0, .string { data := #[] }, .slice none 0 0, .slice none 0 0] 62)
    have hr3 := row_new w2 #[.int .i64 0, .string { data := #[] }, .slice none 0 0, .int .i64 0, .string { data := #[] }, .slice none 0 0, .slice none 0 0] 62
    obtain ⟨w3, hw3⟩ : ∃ W, w2.alloc (.cells #[.int .i64 0, .string { data := #[] }, .slice none 0 0, .int .i64 0, .string { data := #[] }, .slice none 0 0, .slice none 0 0] 62) = W := ⟨_, rfl⟩
    rw [hw3] at hb3 hr3 ⊢
    have HC0 := Lib.hid (show RpC w w3 w1.heap.size g l ⟨1, 0⟩ w.heap.size #[.int .i64 0, .string { data := #[] }, .slice none 0 0, .int .i64 0, .string { data := #[] }, .slice none 0 0, .slice none 0 0] w2.heap.size #[.int .i64 0, .string { data := #[] }, .slice none 0 0, .int .i64 0, .string { data := #[] }, .slice none 0 0, .slice none 0 0] 62 from ⟨HR2.out.keep hb3, (HR0.out.belowS HB2.out (Nat.le_refl _)).belowS hb3 (Nat.le_refl _), hr3, bt (bt HB0.out HB2.out) hb3, Nat.le_of_lt hlt0, Nat.le_refl _, Nat.le_trans (Nat.le_of_lt hlt0) HB2.out.size, by have := HB2.out.size; omega, by decide⟩)
    clear hw3 hb3 hr3 HB2 HR2
    obtain ⟨gp, hgp⟩ : ∃ g, w2.heap.size = g := ⟨_, rfl⟩
    rw [hgp] at HC0 ⊢
    clear hgp
    have C := HC0.out.rd.head hn HS1.out
    have C := Lib.hid C
    unfold RRPostV at C
    go_wp2_with fail
    (with_reducible refine C.out.mono ?_)
    rintro e w10 ⟨_, rfl, ⟨A0, n0, c0, rfl, hq⟩, hr, hb, hk⟩
    have HD0 := Lib.hid (HC0.out.turn hr hb hk)
    have HQ0 := Lib.hid (hq.base (show w.heap.size ≤ w3.heap.size from HC0.out.bel.size))
    clear hq
    clear hr hb hk C HC0
    unfold hdv
    have x0 := HD0.out.rp.cellQ 0 _ rfl
    have y0 := HD0.out.rp.frozen 0
    have x1 := HD0.out.rp.cellQ 1 _ rfl
    have y1 := HD0.out.rp.frozen 1
    have x2 := HD0.out.rp.cellQ 2 _ rfl
    have y2 := HD0.out.rp.frozen 2
    go_upto_region 6 with fail
    generalize hwd : World.setCell (World.setCell (World.setCell w10 _ _) _ _) _ _ = w20
    have HC1 := Lib.hid (show RpC w w20 w1.heap.size g l s1 w.heap.size #[.int .i64 0, .string { data := #[] }, .slice none 0 0, .int .i64 0, .string { data := #[] }, .slice none 0 0, .slice none 0 0] gp #[.int .i64 v1.size, sv v1.log, .slice A0 n0 c0, .int .i64 0, .string { data := #[] }, .slice none 0 0, .slice none 0 0] 62 by rw [← hwd]; exact (((HD0.out.setP rfl 0 (.int .i64 v1.size)).setP rfl 1 (sv v1.log)).setP rfl 2 (.slice A0 n0 c0)))
    replace HQ0 := Lib.hid (show _ from HQ0.out.setG HD0.out.rp HD0.out.t1 [.int .i64 v1.size, sv v1.log, .slice A0 n0 c0] 0)
    rw [show setFrom gp w10 0 [.int .i64 v1.size, sv v1.log, .slice A0 n0 c0] = w20 by rw [← hwd]; rfl] at HQ0
    clear hwd HD0 x0 y0 x1 y1 x2 y2
    have C := HC1.out.rd.head hn HS2.out
    have C := Lib.hid C
    unfold RRPostV at C
    go_wp2_with fail
    (with_reducible refine C.out.mono ?_)
    rintro e w11 ⟨_, rfl, ⟨A1, n1, c1, rfl, hq⟩, hr, hb, hk⟩
    have HD1 := Lib.hid (HC1.out.turn hr hb hk)
    replace HQ0 := Lib.hid (HQ0.out.keepTy (by decide) hk)
    have HQ1 := Lib.hid (hq.base (show w.heap.size ≤ w20.heap.size from HC1.out.bel.size))
    clear hq
    clear hr hb hk C HC1
    unfold hdv
    have x3 := HD1.out.rp.cellQ 3 _ rfl
    have y3 := HD1.out.rp.frozen 3
    have x4 := HD1.out.rp.cellQ 4 _ rfl
    have y4 := HD1.out.rp.frozen 4
    have x5 := HD1.out.rp.cellQ 5 _ rfl
    have y5 := HD1.out.rp.frozen 5
    go_upto_region 7 with fail
    generalize hwd : World.setCell (World.setCell (World.setCell w11 _ _) _ _) _ _ = w21
    have HC2 := Lib.hid (show RpC w w21 w1.heap.size g l s2 w.heap.size #[.int .i64 0, .string { data := #[] }, .slice none 0 0, .int .i64 0, .string { data := #[] }, .slice none 0 0, .slice none 0 0] gp #[.int .i64 v1.size, sv v1.log, .slice A0 n0 c0, .int .i64 v2.size, sv v2.log, .slice A1 n1 c1, .slice none 0 0] 62 by rw [← hwd]; exact (((HD1.out.setP rfl 3 (.int .i64 v2.size)).setP rfl 4 (sv v2.log)).setP rfl 5 (.slice A1 n1 c1)))
    replace HQ0 := Lib.hid (show _ from HQ0.out.setG HD1.out.rp HD1.out.t1 [.int .i64 v2.size, sv v2.log, .slice A1 n1 c1] 3)
    rw [show setFrom gp w11 3 [.int .i64 v2.size, sv v2.log, .slice A1 n1 c1] = w21 by rw [← hwd]; rfl] at HQ0
    replace HQ1 := Lib.hid (show _ from HQ1.out.setG HD1.out.rp HD1.out.t1 [.int .i64 v2.size, sv v2.log, .slice A1 n1 c1] 3)
    rw [show setFrom gp w11 3 [.int .i64 v2.size, sv v2.log, .slice A1 n1 c1] = w21 by rw [← hwd]; rfl] at HQ1
    clear hwd HD1 x3 y3 x4 y4 x5 y5
    have C := HC2.out.rd.path hn HS3.out
    have C := Lib.hid C
    unfold RRPostV at C
    go_wp2_with fail
    (with_reducible refine C.out.mono ?_)
    rintro e w12 ⟨_, rfl, ⟨A2, n2, c2, rfl, hq⟩, hr, hb, hk⟩
    have HD2 := Lib.hid (HC2.out.turn hr hb hk)
    replace HQ0 := Lib.hid (HQ0.out.keepTy (by decide) hk)
    replace HQ1 := Lib.hid (HQ1.out.keepTy (by decide) hk)
    have HQ2 := Lib.hid (hq.base (show w.heap.size ≤ w21.heap.size from HC2.out.bel.size))
    clear hq
    clear hr hb hk C HC2
    have x6 := HD2.out.rp.cellQ 6 _ rfl
    have y6 := HD2.out.rp.frozen 6
    go_upto_region 8 with fail
    generalize hwd : World.setCell w12 _ _ = w22
    have HC3 := Lib.hid (show RpC w w22 w1.heap.size g l s3 w.heap.size #[.int .i64 0, .string { data := #[] }, .slice none 0 0, .int .i64 0, .string { data := #[] }, .slice none 0 0, .slice none 0 0] gp #[.int .i64 v1.size, sv v1.log, .slice A0 n0 c0, .int .i64 v2.size, sv v2.log, .slice A1 n1 c1, .slice A2 n2 c2] 62 by rw [← hwd]; exact (HD2.out.setP rfl 6 (.slice A2 n2 c2)))
    replace HQ0 := Lib.hid (show _ from HQ0.out.setG HD2.out.rp HD2.out.t1 [.slice A2 n2 c2] 6)
    rw [show setFrom gp w12 6 [.slice A2 n2 c2] = w22 by rw [← hwd]; rfl] at HQ0
    replace HQ1 := Lib.hid (show _ from HQ1.out.setG HD2.out.rp HD2.out.t1 [.slice A2 n2 c2] 6)
    rw [show setFrom gp w12 6 [.slice A2 n2 c2] = w22 by rw [← hwd]; rfl] at HQ1
    replace HQ2 := Lib.hid (show _ from HQ2.out.setF HD2.out.rp HD2.out.t2 [.slice A2 n2 c2] 6)
    rw [show setFrom gp w12 6 [.slice A2 n2 c2] = w22 by rw [← hwd]; rfl] at HQ2
    clear hwd HD2 x6 y6
    obtain ⟨Ag, cg, rg, CD⟩ := HC3.out.rd.done HDX.out
    have CD := Lib.hid CD
    have x0 := rg.cellQ 0 _ rfl
    have x1 := rg.cellQ 1 _ rfl
    have x2 := rg.cellQ 2 _ rfl
    clear rg
    go_wp2_with fail
    (with_reducible refine (CD.out _).mono ?_)
    rintro e w30 ⟨rfl, hb30⟩
    have HF := Lib.hid (HC3.out.keep hb30)
    replace HQ0 := Lib.hid (HQ0.out.keep hb30)
    replace HQ1 := Lib.hid (HQ1.out.keep hb30)
    replace HQ2 := Lib.hid (HQ2.out.keep hb30)
    clear hb30 x0 x1 x2 CD HC3
    have z0 := HF.out.rr.cellQ 0 _ rfl
    have u0 := HF.out.rr.frozen 0
    have z1 := HF.out.rr.cellQ 1 _ rfl
    have u1 := HF.out.rr.frozen 1
    have z2 := HF.out.rr.cellQ 2 _ rfl
    have u2 := HF.out.rr.frozen 2
    have z3 := HF.out.rr.cellQ 3 _ rfl
    have u3 := HF.out.rr.frozen 3
    have z4 := HF.out.rr.cellQ 4 _ rfl
    have u4 := HF.out.rr.frozen 4
    have z5 := HF.out.rr.cellQ 5 _ rfl
    have u5 := HF.out.rr.frozen 5
    have z6 := HF.out.rr.cellQ 6 _ rfl
    have u6 := HF.out.rr.frozen 6
    by_cases hd0 : dx = 0
    · subst hd0
      have HR1 := Lib.hid (show R = .ok ⟨v1, v2, v3⟩ by rw [← HR.out, if_neg (by simp)])
      have q0 := HF.out.rp.cellQ 0 _ rfl
      have q1 := HF.out.rp.cellQ 1 _ rfl
      have q2 := HF.out.rp.cellQ 2 _ rfl
      have q3 := HF.out.rp.cellQ 3 _ rfl
      have q4 := HF.out.rp.cellQ 4 _ rfl
      have q5 := HF.out.rp.cellQ 5 _ rfl
      have q6 := HF.out.rp.cellQ 6 _ rfl
      go_wp2
      generalize hwf : World.setCell (World.setCell (World.setCell (World.setCell (World.setCell (World.setCell (World.setCell w30 _ _) _ _) _ _) _ _) _ _) _ _) _ _ = wf
      have hsf : setFrom w.heap.size w30 0 [.int .i64 v1.size, sv v1.log, .slice A0 n0 c0, .int .i64 v2.size, sv v2.log, .slice A1 n1 c1, .slice A2 n2 c2] = wf := by rw [← hwf]; rfl
      have hrow := HF.out.allR [.int .i64 v1.size, sv v1.log, .slice A0 n0 c0, .int .i64 v2.size, sv v2.log, .slice A1 n1 c1, .slice A2 n2 c2] rfl
      rw [hsf] at hrow
      have r0 := hrow.1.cellQ 0 _ rfl
      have r1 := hrow.1.cellQ 1 _ rfl
      have r2 := hrow.1.cellQ 2 _ rfl
      have r3 := hrow.1.cellQ 3 _ rfl
      have r4 := hrow.1.cellQ 4 _ rfl
      have r5 := hrow.1.cellQ 5 _ rfl
      have r6 := hrow.1.cellQ 6 _ rfl
      refine bodyPost_ret (v := .tuple #[.agg #[.int .i64 v1.size, sv v1.log, .slice A0 n0 c0, .int .i64 v2.size, sv v2.log, .slice A1 n1 c1, .slice A2 n2 c2], .int .i64 0]) (by simp [results, Tryd.results27, go_sem, r0, r1, r2, r3, r4, r5, r6]) rfl ?_
      rw [HR1.out]
      exact ⟨hrow.2, A0, n0, c0, A1, n1, c1, A2, n2, c2, rfl, (by rw [← hsf]; exact HQ0.out.setG HF.out.rr HF.out.t1 _ 0), (by rw [← hsf]; exact HQ1.out.setG HF.out.rr HF.out.t1 _ 0), (by rw [← hsf]; exact HQ2.out.setF HF.out.rr HF.out.t2 _ 0)⟩
    · have HR1 := Lib.hid (show R = .error dx by rw [← HR.out, if_pos hd0])
      have hdi : ((dx : Int) == 0) = false := beq_eq_false_iff_ne.2 (by omega)
      go_wp2
      generalize hwf : World.setCell (World.setCell (World.setCell (World.setCell (World.setCell (World.setCell (World.setCell w30 _ _) _ _) _ _) _ _) _ _) _ _) _ _ = wf
      have hsf : setFrom w.heap.size w30 0 [.int .i64 0, .string { data := #[] }, .slice none 0 0, .int .i64 0, .string { data := #[] }, .slice none 0 0, .slice none 0 0] = wf := by rw [← hwf]; rfl
      have hrow := HF.out.allR [.int .i64 0, .string { data := #[] }, .slice none 0 0, .int .i64 0, .string { data := #[] }, .slice none 0 0, .slice none 0 0] rfl
      rw [hsf] at hrow
      have r0 := hrow.1.cellQ 0 _ rfl
      have r1 := hrow.1.cellQ 1 _ rfl
      have r2 := hrow.1.cellQ 2 _ rfl
      have r3 := hrow.1.cellQ 3 _ rfl
      have r4 := hrow.1.cellQ 4 _ rfl
      have r5 := hrow.1.cellQ 5 _ rfl
      have r6 := hrow.1.cellQ 6 _ rfl
      refine bodyPost_ret (v := .tuple #[.agg #[.int .i64 0, .string { data := #[] }, .slice none 0 0, .int .i64 0, .string { data := #[] }, .slice none 0 0, .slice none 0 0], .int .i64 (dx : Int)]) (by simp [results, Tryd.results27, go_sem, r0, r1, r2, r3, r4, r5, r6]) rfl ?_
      rw [HR1.out]
      exact ⟨hrow.2, rfl, hd0⟩
  · rw [if_pos hx0]
    have HX0 := Lib.hid hx0
    have hxi : ((bx : Int) == 0) = false := beq_eq_false_iff_ne.2 (by omega)
    go_enter Tryd.func27, Tryd.ntmps27
    go_upto_region 1 with fail
    rw [HW1.out]
    go_wp2_with fail
    (with_reducible refine CB.out.mono ?_)
    rintro e w30 ⟨hb2, he2⟩
    rw [if_neg HX0.out] at he2
    subst he2
    have HB2 := Lib.hid (bt HB0.out hb2)
    have HR2 := Lib.hid (HR0.out.belowS hb2 (Nat.le_refl _))
    clear hb2 CB
    have z0 := HR2.out.cellQ 0 _ rfl
    have u0 := HR2.out.frozen 0
    have z1 := HR2.out.cellQ 1 _ rfl
    have u1 := HR2.out.frozen 1
    have z2 := HR2.out.cellQ 2 _ rfl
    have u2 := HR2.out.frozen 2
    have z3 := HR2.out.cellQ 3 _ rfl
    have u3 := HR2.out.frozen 3
    have z4 := HR2.out.cellQ 4 _ rfl
    have u4 := HR2.out.frozen 4
    have z5 := HR2.out.cellQ 5 _ rfl
    have u5 := HR2.out.frozen 5
    have z6 := HR2.out.cellQ 6 _ rfl
    have u6 := HR2.out.frozen 6
    go_wp2
    generalize hwf : World.setCell (World.setCell (World.setCell (World.setCell (World.setCell (World.setCell (World.setCell w30 _ _) _ _) _ _) _ _) _ _) _ _) _ _ = wf
    have hsf : setFrom w.heap.size w30 0 [.int .i64 0, .string { data := #[] }, .slice none 0 0, .int .i64 0, .string { data := #[] }, .slice none 0 0, .slice none 0 0] = wf := by rw [← hwf]; rfl
    have hrow := (show Row (setFrom w.heap.size w30 0 [.int .i64 0, .string { data := #[] }, .slice none 0 0, .int .i64 0, .string { data := #[] }, .slice none 0 0, .slice none 0 0]) w.heap.size #[.int .i64 0, .string { data := #[] }, .slice none 0 0, .int .i64 0, .string { data := #[] }, .slice none 0 0, .slice none 0 0] 62 ∧ Below w.heap.size w (setFrom w.heap.size w30 0 [.int .i64 0, .string { data := #[] }, .slice none 0 0, .int .i64 0, .string { data := #[] }, .slice none 0 0, .slice none 0 0]) from ⟨HR2.out.all _ rfl, below_setFrom (Nat.le_refl _) _ 0 HB2.out⟩) -- [.int .i64 0, .string { data := #[] }, .slice none 0 0, .int .i64 0, .string { data := #[] }, .slice none 0 0, .slice none 0 0] rfl
    rw [hsf] at hrow
    have r0 := hrow.1.cellQ 0 _ rfl
    have r1 := hrow.1.cellQ 1 _ rfl
    have r2 := hrow.1.cellQ 2 _ rfl
    have r3 := hrow.1.cellQ 3 _ rfl
    have r4 := hrow.1.cellQ 4 _ rfl
    have r5 := hrow.1.cellQ 5 _ rfl
    have r6 := hrow.1.cellQ 6 _ rfl
    refine bodyPost_ret (v := .tuple #[.agg #[.int .i64 0, .string { data := #[] }, .slice none 0 0, .int .i64 0, .string { data := #[] }, .slice none 0 0, .slice none 0 0], .int .i64 (bx : Int)]) (by simp [results, Tryd.results27, go_sem, r0, r1, r2, r3, r4, r5, r6]) rfl ?_
    exact ⟨hrow.2, rfl, HX0.out⟩
end Go.Proofs.YtfgpaepdlmnhaaaDoor
