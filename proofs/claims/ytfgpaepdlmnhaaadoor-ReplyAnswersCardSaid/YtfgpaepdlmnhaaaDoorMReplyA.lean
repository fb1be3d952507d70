/- MReplyA: several texts of this claim in one file. No statement of the seat is proved here. -/
import Derived.Test.YtfgpaepdlmnhaaaDoorMHeadD
import Derived.Test.YtfgpaepdlmnhaaaDoorMSealA
namespace Go.Proofs.YtfgpaepdlmnhaaaDoor
set_option maxRecDepth 100000
set_option linter.unusedVariables false
open Go.RowKit
/-- The box of a reader. -/
structure RRd (w : World) (B g : Nat) (l : List UInt8) (s : Hd.RS) : Prop where
  ex : ∃ A c, Row w g #[.slice A l.length c, .int .i64 (s.at_ : Int), .int .i64 (s.x : Int)] 124 ∧ BsN w B g A l.length c l
  b1 : B ≤ g
  at_ : s.at_ ≤ l.length
abbrev SRR : List TypeId := [124]
def RRPost (B g : Nat) (l : List UInt8) (s : Hd.RS) (v : Value) (w : World) (e : Ending) (w' : World) : Prop := e = .returned v ∧ RRd w' B g l s ∧ Below B w w' ∧ KeepTy SRR w w'
theorem rr_put {w w1 : World} {B g : Nat} {A1 : Option Addr} {c1 : Nat} {l : List UInt8} {cs : Array Value} {s : Hd.RS} (hB : B ≤ w.heap.size) (hb : Below w.heap.size w w1) (r1 : Row w1 g cs 124) (hcs : cs.size = 3) (hg : g < w.heap.size) (b1 : B ≤ g) (hat : s.at_ ≤ l.length)
    (ho : Own8 w1 w.heap.size A1 l.length c1 l) {wd : World} (hd : setFrom g w1 0 [.slice A1 l.length c1, .int .i64 (s.at_ : Int), .int .i64 (s.x : Int)] = wd) : RRd wd B g l s ∧ Below B w wd ∧ KeepTy SRR w wd := by
  have q1 := r1.all [.slice A1 l.length c1, .int .i64 (s.at_ : Int), .int .i64 (s.x : Int)] hcs
  have q2 := BsN.setFrom (by decide) [.slice A1 l.length c1, .int .i64 (s.at_ : Int), .int .i64 (s.x : Int)] 0 (BsN.own ho hg hB) r1
  have q3 := below_setFrom b1 [.slice A1 l.length c1, .int .i64 (s.at_ : Int), .int .i64 (s.x : Int)] 0 (hb.mono hB)
  have q4 : KeepTy SRR w (setFrom g w1 0 [.slice A1 l.length c1, .int .i64 (s.at_ : Int), .int .i64 (s.x : Int)]) := by
    refine (KeepTy.of hb).trans ?_
    refine ⟨(below_setFrom (Nat.zero_le _) [.slice A1 l.length c1, .int .i64 (s.at_ : Int), .int .i64 (s.x : Int)] 0 (Below.refl 0 w1)).size, fun b o h1 h2 => ?_⟩
    have hne : b ≠ g := fun e => by
      subst e
      unfold Row at r1
      rw [r1] at h1
      injection h1 with h1
      exact h2 _ _ _ h1.symm (by decide)
    show ((((w1.setCell ⟨g, 0, none⟩ _).setCell ⟨g, 1, none⟩ _).setCell ⟨g, 2, none⟩ _)).heap[b]? = some o
    rw [Below.heap_setCell _ _ _ _ hne, Below.heap_setCell _ _ _ _ hne, Below.heap_setCell _ _ _ _ hne]
    exact h1
  rw [hd] at q1 q2 q3 q4
  exact ⟨⟨⟨A1, c1, q1, q2⟩, b1, hat⟩, q3, q4⟩
theorem RRd.keep {w w' : World} {B g : Nat} {l : List UInt8} {s : Hd.RS} (h : RRd w B g l s) (hb : Below w.heap.size w w') : RRd w' B g l s := by
  obtain ⟨A, c, r, hbs⟩ := h.ex
  exact ⟨⟨A, c, r.belowS hb (Nat.le_refl _), hbs.keep hb⟩, h.b1, h.at_⟩
theorem RRd.setF {w : World} {B g x : Nat} {l : List UInt8} {s : Hd.RS} {cs : Array Value} {t : TypeId} (h : RRd w B g l s) (hx : Row w x cs t) (ht : t ≠ 124) (hu : cs.toList.all notU8 = true) (h8 : t ≠ 5) (vs : List Value) (k : Nat) : RRd (setFrom x w k vs) B g l s := by
  obtain ⟨A, c, r, hbs⟩ := h.ex
  have hne : g ≠ x := row_ne r hx (Ne.symm ht)
  have h1 : BsN w B x A l.length c l := ⟨hbs.bs, hbs.bs.ne_row hx hu, hbs.src⟩
  have h2 := BsN.setFrom h8 vs k h1 hx
  exact ⟨⟨A, c, r.far_setFrom hne vs k, ⟨h2.bs, hbs.far, h2.src⟩⟩, h.b1, h.at_⟩
theorem RRd.grown {w w' : World} {B g : Nat} {l : List UInt8} {s : Hd.RS} (h : RRd w B g l s) {e : TypeId} {size m : Nat} {v : Value} {xs : List Value} (ho : w.ownsRow B e size v m xs) (he : e ∉ [5, 124]) (hg : w.grownBy w' v.ownBlock) (hs : w.heap.size ≤ w'.heap.size) : RRd w' B g l s := by
  simp only [List.mem_cons, List.not_mem_nil, or_false, not_or] at he
  obtain ⟨A, c, r, hbs⟩ := h.ex
  exact ⟨⟨A, c, r.keepTy (by simp only [List.mem_singleton]; exact Ne.symm he.2) (KeepTy.grown (S := [e]) ho (List.mem_singleton.2 rfl) hg hs), hbs.grown ho he.1 hg hs⟩, h.b1, h.at_⟩
set_option maxHeartbeats 4000000 in
theorem mnum_any (B g : Nat) (l : List UInt8) (s : Hd.RS) (w : World) (h : RRd w B g l s) (hB : B ≤ w.heap.size) (hn : l.length ≤ 1000000000) :
    Calls Tryd.prog 62 #[.pointer (some ⟨g, 0, none⟩)] w (RRPost B g l (Hd.stNum l s).1 (.int .i64 ((Hd.stNum l s).2 : Int)) w) := by
  obtain ⟨A, c, r, hbs⟩ := h.ex
  have HB1 := Lib.hid h.b1
  have HAT := Lib.hid (Hd.stNum_at h.at_)
  have C := Lib.hid (readNum_st A l.length c l s w hbs.bs h.at_ hn)
  unfold RSPost rv at C
  have x0 := r.cellQ 0 _ rfl
  have x1 := r.cellQ 1 _ rfl
  have x2 := r.cellQ 2 _ rfl
  have HR := Lib.hid r
  clear r hbs h
  go_enter Tryd.func62, Tryd.ntmps62
  go_wp2_with fail
  (with_reducible refine C.out.mono ?_)
  rintro e w1 ⟨A1, c1, ho1, hb1, rfl⟩
  have r1 := HR.out.belowS hb1 (Nat.le_refl _)
  clear x0 x1 x2
  have x0 := r1.cellQ 0 _ rfl
  have x1 := r1.cellQ 1 _ rfl
  have x2 := r1.cellQ 2 _ rfl
  have y0 := r1.frozen 0
  have y1 := r1.frozen 1
  have y2 := r1.frozen 2
  have HP := Lib.hid (fun wd hd => rr_put (wd := wd) hB hb1 r1 rfl HR.out.lt HB1.out HAT.out ho1 hd)
  clear r1 ho1 hb1
  go_wp2
  go_ret
  exact ⟨rfl, HP.out _ rfl⟩
set_option maxHeartbeats 4000000 in
theorem mtext_any (B g : Nat) (l : List UInt8) (s : Hd.RS) (w : World) (h : RRd w B g l s) (hB : B ≤ w.heap.size) (hn : l.length ≤ 1000000000) (most : Int) (hm1 : -9223372036854775808 ≤ most) (hm2 : most ≤ 9223372036854775807) :
    Calls Tryd.prog 63 #[.pointer (some ⟨g, 0, none⟩), .int .i64 most] w (RRPost B g l (Hd.stText l most s).1 (sv (Hd.stText l most s).2) w) := by
  obtain ⟨A, c, r, hbs⟩ := h.ex
  have HB1 := Lib.hid h.b1
  have HAT := Lib.hid (Hd.stText_at (most := most) h.at_)
  have C := Lib.hid (readText_st A l.length c most l s w hbs.bs h.at_ hn hm1 hm2)
  unfold RSPost rv at C
  have x0 := r.cellQ 0 _ rfl
  have x1 := r.cellQ 1 _ rfl
  have x2 := r.cellQ 2 _ rfl
  have HR := Lib.hid r
  clear r hbs h
  go_enter Tryd.func63, Tryd.ntmps63
  go_wp2_with fail
  (with_reducible refine C.out.mono ?_)
  rintro e w1 ⟨A1, c1, ho1, hb1, rfl⟩
  have r1 := HR.out.belowS hb1 (Nat.le_refl _)
  clear x0 x1 x2
  have x0 := r1.cellQ 0 _ rfl
  have x1 := r1.cellQ 1 _ rfl
  have x2 := r1.cellQ 2 _ rfl
  have y0 := r1.frozen 0
  have y1 := r1.frozen 1
  have y2 := r1.frozen 2
  have HP := Lib.hid (fun wd hd => rr_put (wd := wd) hB hb1 r1 rfl HR.out.lt HB1.out HAT.out ho1 hd)
  clear r1 ho1 hb1
  go_wp2
  go_ret
  exact ⟨rfl, HP.out _ rfl⟩
theorem RRd.lt {w : World} {B g : Nat} {l : List UInt8} {s : Hd.RS} (h : RRd w B g l s) : g < w.heap.size := by
  obtain ⟨A, c, r, _⟩ := h.ex
  exact r.lt
theorem RRd.le {w : World} {B g : Nat} {l : List UInt8} {s : Hd.RS} (h : RRd w B g l s) : B ≤ w.heap.size := by
  have h1 := h.lt
  have h2 := h.b1
  omega
theorem RRd.num {w : World} {B g : Nat} {l : List UInt8} {s s' : Hd.RS} {v : Nat} (h : RRd w B g l s) (hn : l.length ≤ 1000000000) (e : Hd.stNum l s = (s', v)) : Calls Tryd.prog 62 #[.pointer (some ⟨g, 0, none⟩)] w (RRPost B g l s' (.int .i64 (v : Int)) w) := by
  have := mnum_any B g l s w h h.le hn
  rw [e] at this
  exact this
theorem RRd.text {w : World} {B g : Nat} {l : List UInt8} {s s' : Hd.RS} {v : List UInt8} (most : Int) (hm1 : -9223372036854775808 ≤ most) (hm2 : most ≤ 9223372036854775807) (h : RRd w B g l s) (hn : l.length ≤ 1000000000) (e : Hd.stText l most s = (s', v)) : Calls Tryd.prog 63 #[.pointer (some ⟨g, 0, none⟩), .int .i64 most] w (RRPost B g l s' (sv v) w) := by
  have := mtext_any B g l s w h h.le hn most hm1 hm2
  rw [e] at this
  exact this
namespace Hd
def stCount (l : By) (most : Nat) (s : RS) : RS × Nat := if most < (stNum l s).2 then (⟨(stNum l s).1.at_, 2⟩, 0) else stNum l s
end Hd
/-- The error is set. -/
theorem RRd.setE {w : World} {B g : Nat} {l : List UInt8} {s : Hd.RS} (h : RRd w B g l s) (x : Nat) : RRd (w.setCell ⟨g, 2, none⟩ (.int .i64 (x : Int))) B g l ⟨s.at_, x⟩ ∧ KeepTy SRR w (w.setCell ⟨g, 2, none⟩ (.int .i64 (x : Int))) := by
  obtain ⟨A, c, r, hbs⟩ := h.ex
  exact ⟨⟨⟨A, c, r.set 2 _, hbs.set r (by decide) 2 _⟩, h.b1, h.at_⟩, KeepTy.set r (by decide) 2 _⟩
set_option maxHeartbeats 4000000 in
theorem RRd.count {w : World} {B g : Nat} {l : List UInt8} {s s' : Hd.RS} {v : Nat} (most : Nat) (hm : most ≤ 1000000) (h : RRd w B g l s) (hn : l.length ≤ 1000000000) (e : Hd.stCount l most s = (s', v)) : Calls Tryd.prog 54 #[.pointer (some ⟨g, 0, none⟩), .int .i64 (most : Int)] w (RRPost B g l s' (.int .i64 (v : Int)) w) := by
  obtain ⟨⟨s1, v1⟩, hs1⟩ : ∃ r, Hd.stNum l s = r := ⟨_, rfl⟩
  unfold Hd.stCount at e
  rw [hs1] at e
  have C := Lib.hid (h.num hn hs1)
  unfold RRPost at C
  have HB1 := Lib.hid h.b1
  clear h hs1
  by_cases hlt : most < v1
  · rw [if_pos hlt] at e
    injection e with e1 e2
    subst e1 e2
    have hlt' : (most : Int) < (v1 : Int) := by omega
    go_enter Tryd.func54, Tryd.ntmps54
    go_wp2_with fail
    (with_reducible refine C.out.mono ?_)
    rintro e w1 ⟨rfl, hr1, hb1, hk1⟩
    obtain ⟨A, c, r, hbs⟩ := hr1.ex
    have x2 := r.cellQ 2 _ rfl
    have y2 := r.frozen 2
    have HP := Lib.hid (hr1.setE 2)
    have HB := Lib.hid hb1
    have HK := Lib.hid hk1
    clear r hbs hr1 hb1 hk1
    go_wp2
    go_ret
    exact ⟨rfl, HP.out.1, HB.out.setCell (p := ⟨g, 2, none⟩) HB1.out _, HK.out.trans HP.out.2⟩
  · rw [if_neg hlt] at e
    injection e with e1 e2
    subst e1 e2
    have hlt' : ¬ (most : Int) < (v1 : Int) := by omega
    go_enter Tryd.func54, Tryd.ntmps54
    go_wp2_with fail
    (with_reducible refine C.out.mono ?_)
    rintro e w1 ⟨rfl, hr1, hb1, hk1⟩
    have HP := Lib.hid (And.intro hr1 (And.intro hb1 hk1))
    clear hr1 hb1 hk1
    go_wp2
    go_ret
    exact ⟨rfl, HP.out.1, HP.out.2.1, HP.out.2.2⟩
end Go.Proofs.YtfgpaepdlmnhaaaDoor

namespace Go.Proofs.YtfgpaepdlmnhaaaDoor
set_option maxRecDepth 100000
set_option linter.unusedVariables false
open Go.RowKit
theorem KeepTy.grownFar {S : List TypeId} {w w1 w2 : World} (k : KeepTy S w w1) {B n size : Nat} {v : Value} {xs : List Value} {e : TypeId} (ho : w1.ownsRow B e size v n xs) (hB : w.heap.size ≤ B) (hg : w1.grownBy w2 v.ownBlock) (hs : w1.heap.size ≤ w2.heap.size) : KeepTy S w w2 := by
  refine ⟨Nat.le_trans k.size hs, fun b o h1 h2 => ?_⟩
  have hlt := heap_ltT h1
  have h3 := k.block b o h1 h2
  rw [hg.block b (heap_ltT h3) (fun e => ?_)]
  · exact h3
  · rcases ho.2 with ⟨rfl, _⟩ | ⟨g, cap, cur, rfl, h4, _⟩
    · cases e
    · simp only [Value.ownBlock, Option.some.injEq] at e
      omega
theorem OwnS.keepTy {S : List TypeId} {w w' : World} {B n c : Nat} {A : Option Addr} {l : List (List UInt8)} (h : OwnS w B A n c l) (he : 9 ∉ S) (k : KeepTy S w w') : OwnS w' B A n c l := ⟨own_keepTy h.own he k, h.len, h.cap, h.max⟩
section
variable {ops : Array Oper} {rest : List Oper} {o : Oper} {a : Act} {Q : Exit → Act → World → Prop} {w : World}
/-- append(v, s): one text; what lies elsewhere is told of. -/
theorem wl_appS1k (hgd : o.guard = none) (s x : Operand) (ho : o.op = .call { callee := .builtin .append, args := #[s, x], argTypes := #[46, 46] })
    {w0 : World} {B : Nat} {A : Option Addr} {n c : Nat} {l : List (List UInt8)} (hs : a.eval s = .slice A n c) (h1 : OwnS w0 B A n c l)
    (hx : a.eval x = .slice (some ⟨w0.heap.size, 0, none⟩) 1 1) (b : List UInt8) (hsz : n ≤ 1000000000000) (hB : B ≤ w0.heap.size)
    (h : ∀ A' n' c' w', OwnS w' B A' n' c' (l ++ [b]) → (w0.alloc (.cells #[sv b] 9)).grownBy w' (Value.slice A n c).ownBlock → Below B (w0.alloc (.cells #[sv b] 9)) w' → wpList Tryd.prog ops Q rest (a.put o.dst (.slice A' n' c')) w') : wpList Tryd.prog ops Q (o :: rest) a (w0.alloc (.cells #[sv b] 9)) := by
  have hb0 : Below w0.heap.size w0 (w0.alloc (.cells #[sv b] 9)) := (Below.refl _ w0).alloc (Nat.le_refl _) _
  refine wl_app hgd s x 46 ho B 9 1 16 strsT _ n _ hs (h1.keep hb0).own (w0.heap.size + 1) (some ⟨w0.heap.size, 0, none⟩) 1 1 [sv b] hx (rd_new w0 [sv b] 9 (0, 0)) rfl (by simp [Value.oneCell']) (by rw [maxLen_eq]; omega) (by omega) (Nat.le_trans hB hb0.size) fun A' c' w' g1 g2 _ g4 g5 g6 => ?_
  exact h A' (n + 1) c' w' ⟨by rw [List.map_append]; exact g1, by rw [List.length_append, h1.len]; rfl, g5, g6⟩ g2 g4
end
namespace Hd
def stDK (l : By) (s0 : RS) : Nat → RS × List By
  | 0 => (s0, [])
  | k + 1 => ((stDig l (stDK l s0 k).1).1, (stDK l s0 k).2 ++ [(stDig l (stDK l s0 k).1).2])
theorem stDK_len (l : By) (s0 : RS) : ∀ k, (stDK l s0 k).2.length = k
  | 0 => rfl
  | k + 1 => by simp only [stDK, List.length_append, stDK_len l s0 k, List.length_singleton]
theorem stDK_32 (l : By) (s0 : RS) : ∀ k, ∀ d ∈ (stDK l s0 k).2, d.length ≤ 32
  | 0, s, hs => by simp [stDK] at hs
  | k + 1, s, hs => by
    simp only [stDK] at hs
    rcases List.mem_append.1 hs with hs | hs
    · exact stDK_32 l s0 k s hs
    · rw [List.mem_singleton.1 hs]; exact stDig_len
def stPath (l : By) (s : RS) : RS × List By := stDK l (stCount l 64 s).1 (stCount l 64 s).2
theorem stCount_le (l : By) (m : Nat) (s : RS) : (stCount l m s).2 ≤ m := by
  unfold stCount
  split
  · exact Nat.zero_le _
  · omega
end Hd
/-- What a reading tells: a value of which more is said. -/
def RRPostV (B g : Nat) (l : List UInt8) (s : Hd.RS) (V : Value → World → Prop) (w : World) (e : Ending) (w' : World) : Prop := ∃ v, e = .returned v ∧ V v w' ∧ RRd w' B g l s ∧ Below B w w' ∧ KeepTy SRR w w'
def isS (b : Nat) (L : List (List UInt8)) (v : Value) (w : World) : Prop := ∃ A n c, v = .slice A n c ∧ OwnS w b A n c L
/-- What stands in a path's reading. -/
structure PthC (w W : World) (B g : Nat) (l : List UInt8) (s : Hd.RS) (A : Option Addr) (n c : Nat) (L : List (List UInt8)) : Prop where
  rd : RRd W B g l s
  own : OwnS W w.heap.size A n c L
  bel : Below B w W
  kp : KeepTy SRR w W
set_option maxHeartbeats 8000000 in
theorem RRd.path {w : World} {B g : Nat} {l : List UInt8} {s s' : Hd.RS} {L : List (List UInt8)} (h : RRd w B g l s) (hn : l.length ≤ 1000000000) (e : Hd.stPath l s = (s', L)) : Calls Tryd.prog 64 #[.pointer (some ⟨g, 0, none⟩)] w (RRPostV B g l s' (isS w.heap.size L) w) := by
  obtain ⟨⟨s1, v1⟩, hs1⟩ : ∃ r, Hd.stCount l 64 s = r := ⟨_, rfl⟩
  have hv1 := Hd.stCount_le l 64 s
  rw [hs1] at hv1
  have hv1 : v1 ≤ 64 := hv1
  unfold Hd.stPath at e
  rw [hs1] at e
  obtain ⟨kq, hkq⟩ : ∃ k, Hd.stDK l s1 = k := ⟨_, rfl⟩
  simp only at e
  rw [hkq] at e
  have HE := Lib.hid e
  have HKQ := Lib.hid hkq
  have HEW := Lib.hid (show kq 0 = (s1, []) by rw [← hkq]; rfl)
  have C := h.count 64 (by omega) hn hs1
  rw [show ((64 : Nat) : Int) = 64 from rfl] at C
  have C := Lib.hid C
  unfold RRPost at C
  have hle := h.le
  clear h hs1 e hkq
  go_enter Tryd.func64, Tryd.ntmps64
  go_wp2_with fail
  (with_reducible refine C.out.mono ?_)
  rintro e w1 ⟨rfl, hr1, hb1, hk1⟩
  have HC1 := Lib.hid (show PthC w w1 B g l s1 none 0 0 [] from ⟨hr1, OwnS.nil _ _, hb1, hk1⟩)
  clear hr1 hb1 hk1 C
  go_wp2
  go_loopw [3, 7] (fun vl vi wr => ∃ (k : Nat) (A' : Option Addr) (n' c' : Nat), vl = .slice A' n' c' ∧ vi = .int .i64 (k : Int) ∧ k ≤ v1 ∧ Hid (PthC w wr B g l (kq k).1 A' n' c' (kq k).2)) (fun _ vi _ => v1 - (intOf vi).toNat)
  case atStart => exact ⟨0, none, 0, 0, rfl, rfl, by omega, Lib.hid (by rw [HEW.out]; exact HC1.out)⟩
  case round =>
    obtain ⟨k, A', n', c', rfl, rfl, hk, HC⟩ := hrel
    by_cases hlt : k < v1
    · obtain ⟨⟨s2, d2⟩, hs2⟩ : ∃ r, Hd.stDig l (kq k).1 = r := ⟨_, rfl⟩
      have HK1 := Lib.hid (show kq (k + 1) = (s2, (kq k).2 ++ [d2]) by rw [← HKQ.out] at hs2 ⊢; simp only [Hd.stDK, hs2])
      have hn' : n' = k := by rw [← HC.out.own.len, ← HKQ.out]; exact Hd.stDK_len l s1 k
      subst hn'
      have HAT := Lib.hid (show s2.at_ ≤ l.length by have := Hd.stDig_at HC.out.rd.at_; rw [hs2] at this; exact this)
      obtain ⟨A, c, r, hbs⟩ := HC.out.rd.ex
      have CD := readDigest_st A l.length c l (kq n').1 wr hbs.bs HC.out.rd.at_ hn
      rw [hs2] at CD
      have CD := Lib.hid CD
      unfold RSPost rv at CD
      have x0 := r.cellQ 0 _ rfl
      have x1 := r.cellQ 1 _ rfl
      have x2 := r.cellQ 2 _ rfl
      have HR := Lib.hid r
      clear r hbs hs2
      go_wp2_with fail
      (with_reducible refine CD.out.mono ?_)
      rintro e w2 ⟨A1, c1, ho1, hb1, rfl⟩
      have r1 := HR.out.belowS hb1 (Nat.le_refl _)
      clear x0 x1 x2
      have x0 := r1.cellQ 0 _ rfl
      have x1 := r1.cellQ 1 _ rfl
      have x2 := r1.cellQ 2 _ rfl
      have y0 := r1.frozen 0
      have y1 := r1.frozen 1
      have y2 := r1.frozen 2
      have HP := Lib.hid (fun wd hd => rr_put (wd := wd) HC.out.rd.le hb1 r1 rfl HR.out.lt HC.out.rd.b1 HAT.out ho1 hd)
      clear r1 ho1 hb1 CD
      go_upto_region 6 with fail
      generalize hwd : World.setCell (World.setCell (World.setCell w2 _ _) _ _) _ _ = wd
      have HP2 := HP.out wd (by rw [← hwd]; rfl)
      have HC2 := Lib.hid (show PthC w wd B g l s2 A' n' c' (kq n').2 from ⟨HP2.1, HC.out.own.keepTy (by decide) HP2.2.2, HC.out.bel.trans HP2.2.1, HC.out.kp.trans HP2.2.2⟩)
      clear hwd HP2 HP HR x0 x1 x2 y0 y1 y2 HC
      go_wp2_with (at_builtin; refine wl_appS1k rfl (.tmp 20) (.tmp 22) rfl rfl HC2.out.own rfl d2 (by omega) HC2.out.bel.size ?_; intro A3 n3 c3 w3 ho3 hg3 hb3; have HC3 := Lib.hid (show PthC w w3 B g l s2 A3 n3 c3 ((kq n').2 ++ [d2]) from by
          have hba : Below wd.heap.size wd (wd.alloc (.cells #[sv d2] 9)) := (Below.refl _ wd).alloc (Nat.le_refl _) _
          have hoa := HC2.out.own.keep hba
          exact ⟨(HC2.out.rd.keep hba).grown (own_base hoa.own hle) (by decide) hg3 hb3.size, ho3, HC2.out.bel.trans ((hba.mono HC2.out.rd.le).trans (hb3.mono hle)), (HC2.out.kp.trans (KeepTy.of hba)).grownFar hoa.own (Nat.le_refl _) hg3 hb3.size⟩); clear ho3 hg3 hb3)
      go_roundw
      case rel => exact ⟨n' + 1, A3, n3, c3, rfl, by go_num, by omega, Lib.hid (by rw [HK1.out]; exact HC3.out)⟩
      case measure => simp [intOf]; omega
    · obtain rfl : k = v1 := by omega
      have HF := Lib.hid (show PthC w wr B g l s' A' n' c' L by have h := HC.out; rw [HE.out] at h; exact h)
      go_wp2
      go_ret
      exact ⟨_, rfl, ⟨A', n', c', rfl, HF.out.own⟩, HF.out.rd, HF.out.bel, HF.out.kp⟩
/-- begin: the reader's box, or the error. -/
def begX (l : List UInt8) (kind : UInt8) : Nat := if 1048576 < l.length then 3 else match l with
  | [] => 4
  | b :: _ => if b = kind then 0 else 2
def BegPost (l : List UInt8) (kind : UInt8) (w : World) (e : Ending) (w' : World) : Prop := Below w.heap.size w w' ∧ if begX l kind = 0 then ∃ g, e = .returned (.tuple #[.pointer (some ⟨g, 0, none⟩), .int .i64 0]) ∧ RRd w' w.heap.size g l ⟨1, 0⟩ else e = .returned (.tuple #[.pointer none, .int .i64 (begX l kind : Int)])
end Go.Proofs.YtfgpaepdlmnhaaaDoor

namespace Go.Proofs.YtfgpaepdlmnhaaaDoor
set_option maxRecDepth 100000
set_option linter.unusedVariables false
open Go.RowKit
/-- Bytes in a block of bytes that was made behind a world. -/
structure Ty8 (w : World) (B : Nat) (A : Option Addr) (n c : Nat) (l : List UInt8) : Prop where
  bs : Bs w A n c l
  blk : ∀ p, A = some p → l ≠ [] → B ≤ p.block ∧ ∃ cs fr, w.heap[p.block]? = some (.cells cs 5 fr)
theorem Ty8.keepTy {S : List TypeId} {w w' : World} {B n c : Nat} {A : Option Addr} {l : List UInt8} (h : Ty8 w B A n c l) (hS : 5 ∉ S) (k : KeepTy S w w') : Ty8 w' B A n c l := by
  have hk : ∀ p, A = some p → l ≠ [] → w'.heap[p.block]? = w.heap[p.block]? := fun p hp hl => by
    obtain ⟨_, cs, fr, e⟩ := h.blk p hp hl
    rw [e]
    exact k.block _ _ e fun e2 cs2 fr2 e3 => by injection e3 with _ e4; rw [← e4]; exact hS
  exact ⟨h.bs.keepB k.size hk, fun p hp hl => by obtain ⟨h1, cs, fr, e⟩ := h.blk p hp hl; exact ⟨h1, cs, fr, by rw [hk p hp hl]; exact e⟩⟩
theorem Ty8.keep {w w' : World} {B n c : Nat} {A : Option Addr} {l : List UInt8} (h : Ty8 w B A n c l) (hb : Below w.heap.size w w') : Ty8 w' B A n c l := h.keepTy (S := []) (by simp) (KeepTy.of hb)
theorem Ty8.base {w : World} {B B' n c : Nat} {A : Option Addr} {l : List UInt8} (h : Ty8 w B A n c l) (hB : B' ≤ B) : Ty8 w B' A n c l := ⟨h.bs, fun p hp hl => ⟨Nat.le_trans hB (h.blk p hp hl).1, (h.blk p hp hl).2⟩⟩
section
variable {P : Program} {ops : Array Oper} {rest : List Oper} {o : Oper} {a : Act} {Q : Exit → Act → World → Prop} {w : World}
/-- []byte(s): a new block of bytes. -/
theorem wl_bytesT (hgd : o.guard = none) (src dst : TypeId) (x : Operand) (ho : o.op = .convert src dst x) (hs : P.underlying src = some .string) (hd : P.underlying dst = some (.slice 5)) (he : P.underlying 5 = some (.int .u8))
    (l : List UInt8) (hx : a.eval x = .string (str l)) (hl : l.length ≤ maxLen)
    (h : ∀ A c w', Ty8 w' w.heap.size A l.length c l → Below w.heap.size w w' → wpList P ops Q rest (a.put o.dst (.slice A l.length c)) w') : wpList P ops Q (o :: rest) a w := by
  refine wpList_plain hgd fun K hK => ?_
  have hrun := run_bytes_of_string (P := P) w src dst 5 (str l) hs hd he
  unfold Oper.wp execOp
  simp only [ho, Sem.run_bind, Sem.run_pure, hx, hrun, Result.andThen_ok]
  refine hK _ _ ?_
  have hge := grownCap_ge w (str l).size 0 5
  have hle := grownCap_le_maxLen w (str l).size 0 5 (by rw [str_size]; exact hl)
  generalize grownCap w (str l).size 0 5 = cap at hge hle ⊢
  rw [str_size] at hge ⊢
  refine h _ _ _ ⟨⟨fun _ => ⟨w.heap.size, 0, rfl, by unfold World.alloc World.drew; simp, fun j v hv => ?_⟩, rfl, hge, hle⟩, fun p hp _ => ?_⟩ ((Below.refl _ w).drew.alloc (Nat.le_refl _) _)
  · rw [List.getElem?_map] at hv
    have hj : j < l.length := by
      rcases Nat.lt_or_ge j l.length with h1 | h1
      · exact h1
      · rw [List.getElem?_eq_none h1] at hv; cases hv
    have hb := bytesRow_at (str l) cap j (by simpa [str] using hj)
    rw [Nat.zero_add]
    show (w.drew.alloc _).cell? ⟨w.drew.heap.size, j, none⟩ = _
    rw [cell_of_row _ _ _ _ _ _ (heap_alloc_new w.drew _), hb]
    rw [List.getElem?_eq_getElem hj] at hv
    injection hv with hv
    rw [← hv]
    rfl
  · injection hp with hp
    subst hp
    exact ⟨Nat.le_refl _, _, _, heap_alloc_new w.drew _⟩
end
/-- What stands in a method of the reader that has a result's box. -/
structure MC (w W : World) (B g : Nat) (l : List UInt8) (s : Hd.RS) (gr : Nat) (zs : Array Value) (t : TypeId) : Prop where
  rd : RRd W B g l s
  row : Row W gr zs t
  bel : Below B w W
  kp : KeepTy SRR w W
  gr0 : w.heap.size ≤ gr
  tn : t ∉ [124, 5]
  hB : B ≤ w.heap.size
section
variable {w W W' : World} {B g : Nat} {l : List UInt8} {s s' : Hd.RS} {gr : Nat} {zs : Array Value} {t : TypeId}
theorem MC.start (h : RRd w B g l s) (zs : Array Value) (t : TypeId) (ht : t ∉ [124, 5]) : MC w (w.alloc (.cells zs t)) B g l s w.heap.size zs t := by
  have hb : Below w.heap.size w (w.alloc (.cells zs t)) := (Below.refl _ w).alloc (Nat.le_refl _) _
  exact ⟨h.keep hb, row_new w zs t, hb.mono h.le, KeepTy.of hb, Nat.le_refl _, ht, h.le⟩
theorem MC.keep (h : MC w W B g l s gr zs t) (hb : Below W.heap.size W W') : MC w W' B g l s gr zs t :=
  ⟨h.rd.keep hb, h.row.belowS hb (Nat.le_refl _), h.bel.trans (hb.mono h.rd.le), h.kp.trans (KeepTy.of hb), h.gr0, h.tn, h.hB⟩
theorem MC.turn (h : MC w W B g l s gr zs t) (hr : RRd W' B g l s') (hb : Below B W W') (k : KeepTy SRR W W') : MC w W' B g l s' gr zs t :=
  ⟨hr, h.row.keepTy (by have := h.tn; simp only [List.mem_cons, List.not_mem_nil, or_false, not_or] at this ⊢; exact this.1) k, h.bel.trans hb, h.kp.trans k, h.gr0, h.tn, h.hB⟩
theorem MC.ne (h : MC w W B g l s gr zs t) : gr ≠ g := by
  obtain ⟨A, c, r, _⟩ := h.rd.ex
  have := h.tn
  simp only [List.mem_cons, List.not_mem_nil, or_false, not_or] at this
  exact row_ne h.row r this.1
theorem MC.setE (h : MC w W B g l s gr zs t) (x : Nat) : MC w (W.setCell ⟨g, 2, none⟩ (.int .i64 (x : Int))) B g l ⟨s.at_, x⟩ gr zs t :=
  ⟨(h.rd.setE x).1, h.row.far g 2 _ h.ne, h.bel.setCell (p := ⟨g, 2, none⟩) h.rd.b1 _, h.kp.trans (h.rd.setE x).2, h.gr0, h.tn, h.hB⟩
/-- The result's box is written. -/
theorem MC.setR (h : MC w W B g l s gr zs t) (hu : zs.toList.all notU8 = true) (j : Nat) (v : Value) : MC w (W.setCell ⟨gr, j, none⟩ v) B g l s gr (zs.setIfInBounds j v) t := by
  have hn := h.tn
  simp only [List.mem_cons, List.not_mem_nil, or_false, not_or] at hn
  exact ⟨RRd.setF h.rd h.row hn.1 hu hn.2 [v] j, h.row.set j v, h.bel.setCell (p := ⟨gr, j, none⟩) (Nat.le_trans h.hB h.gr0) v, h.kp.far h.gr0 j v, h.gr0, h.tn, h.hB⟩
theorem MC.allR (h : MC w W B g l s gr zs t) (hu : zs.toList.all notU8 = true) (vs : List Value) (hl : zs.size = vs.length) : MC w (setFrom gr W 0 vs) B g l s gr vs.toArray t := by
  have hn := h.tn
  simp only [List.mem_cons, List.not_mem_nil, or_false, not_or] at hn
  exact ⟨RRd.setF h.rd h.row hn.1 hu hn.2 vs 0, h.row.all vs hl, below_setFrom (Nat.le_trans h.hB h.gr0) vs 0 h.bel, KeepTy.farFrom h.gr0 vs 0 h.kp, h.gr0, h.tn, h.hB⟩
end
set_option maxRecDepth 100000 in
set_option maxHeartbeats 4000000 in
theorem begin_any (A : Option Addr) (n c : Nat) (l : List UInt8) (kind : UInt8) (w : World) (h : Bs w A n c l) : Calls Tryd.prog 52 #[.slice A n c, .int .u8 (kind.toNat : Int)] w (BegPost l kind w) := by
  obtain rfl : n = l.length := h.len.symm
  have hcap := h.cap
  have hmax := h.max
  rw [maxLen_eq] at hmax
  by_cases h3 : 1048576 < l.length
  · have HE := Lib.hid (show begX l kind = 3 by unfold begX; rw [if_pos h3])
    have h3' : (1048576 : Int) < (l.length : Int) := by omega
    clear h
    go_enter Tryd.func52, Tryd.ntmps52
    go_wp2
    go_ret2
    unfold BegPost
    rw [HE.out]
    exact ⟨Below.refl _ _, rfl⟩
  · have h3' : ¬ (1048576 : Int) < (l.length : Int) := by omega
    cases l with
    | nil =>
      have HE := Lib.hid (show begX [] kind = 4 from rfl)
      clear h
      go_enter Tryd.func52, Tryd.ntmps52
      go_wp2
      go_ret2
      unfold BegPost
      rw [HE.out]
      exact ⟨Below.refl _ _, rfl⟩
    | cons b l =>
      obtain ⟨n, hlen⟩ : ∃ n, (b :: l).length = n := ⟨_, rfl⟩
      have hpos : 0 < n := by rw [← hlen]; exact Nat.succ_pos _
      have H3 := Lib.hid h3
      have HLEN := Lib.hid hlen
      obtain ⟨x, off, rfl, hb, hc⟩ := h.rd (by simp)
      have x0 := hc 0 (bv b) rfl
      rw [Nat.add_zero] at x0
      unfold bv at x0
      have hne : ((n : Int) == 0) = false := beq_eq_false_iff_ne.2 (by omega)
      have HF := Lib.hid (show ∀ p, (some (⟨x, off, none⟩ : Addr)) = some p → (b :: l) ≠ [] → p.block < w.heap.size from fun p hp _ => by injection hp with hp; subst hp; exact hb)
      have HBS := Lib.hid h
      rw [hlen] at h3' hcap HBS ⊢
      clear h hc hlen h3
      by_cases hk : b = kind
      · have HE := Lib.hid (show begX (b :: l) kind = 0 by unfold begX; rw [if_neg H3.out]; simp only; rw [if_pos hk])
        subst hk
        have HBW := Lib.hid ((Below.refl w.heap.size w).alloc (Nat.le_refl _) (.cells #[.slice (some ⟨x, off, none⟩) n c, .int .i64 1, .int .i64 0] 124))
        go_enter Tryd.func52, Tryd.ntmps52
        go_wp2
        go_ret2
        unfold BegPost
        rw [HE.out]
        refine ⟨HBW.out, ?_⟩
        rw [if_pos rfl]
        exact ⟨w.heap.size, rfl, ⟨⟨some ⟨x, off, none⟩, c, HLEN.out ▸ row_new w _ _, ⟨HLEN.out ▸ HBS.out.keep HBW.out, fun p hp hl => by have := HF.out p hp hl; omega, .inl HF.out⟩⟩, Nat.le_refl _, by rw [HLEN.out]; exact hpos⟩⟩
      · have HE := Lib.hid (show begX (b :: l) kind = 2 by unfold begX; rw [if_neg H3.out]; simp only; rw [if_neg hk])
        have hk' : ¬ (b.toNat : Int) = (kind.toNat : Int) := fun e => hk (UInt8.toNat_inj.1 (by omega))
        have hk2 : ((b.toNat : Int) == (kind.toNat : Int)) = false := beq_eq_false_iff_ne.2 hk'
        have hk3 : ¬ b.toNat = kind.toNat := fun e => hk (UInt8.toNat_inj.1 e)
        clear hk
        go_enter Tryd.func52, Tryd.ntmps52
        go_wp2
        go_ret2
        unfold BegPost
        rw [HE.out]
        exact ⟨Below.refl _ _, rfl⟩
end Go.Proofs.YtfgpaepdlmnhaaaDoor

namespace Go.Proofs.YtfgpaepdlmnhaaaDoor
set_option maxRecDepth 100000
set_option linter.unusedVariables false
open Go.RowKit
namespace Hd
def h00 : H := ⟨0, [], []⟩
def stHead (l : By) (s : RS) : RS × H := if (stText l 10000 s).1.x ≠ 0 then ((stText l 10000 s).1, h00) else match rdHd (stText l 10000 s).2 with
  | .ok h => (⟨(stText l 10000 s).1.at_, 0⟩, h)
  | .error x => (⟨(stText l 10000 s).1.at_, x⟩, h00)
theorem stText_len (l : By) (most : Nat) (s : RS) : (stText l most s).2.length ≤ most := by
  unfold stText
  split
  · cases hg : Code.getText most (l.drop s.at_) with
    | error e => exact Nat.zero_le _
    | ok r =>
      obtain ⟨v, k⟩ := r
      have := (Code.getText_ok hg).2.2.2.1
      show v.length ≤ most
      omega
  · exact Nat.zero_le _
end Hd
def isH (b : Nat) (h : Hd.H) (v : Value) (w : World) : Prop := ∃ A n c, v = hdv A n c h ∧ OwnQ sgc 4 130 w b A n c h.segs
def Hd.hOf : Except Nat Hd.H → Hd.H
  | .ok h => h
  | .error _ => Hd.h00
def Hd.xOf {α : Type} : Except Nat α → Nat
  | .ok _ => 0
  | .error x => x
theorem RHdPost.un {r : Except Nat Hd.H} {w : World} {e : Ending} {w' : World} (h : RHdPost r w e w') : ∃ A n c, e = .returned (.tuple #[.agg #[.int .i64 (Hd.hOf r).size, sv (Hd.hOf r).log, .slice A n c], .int .i64 (Hd.xOf r : Int)]) ∧ OwnQ sgc 4 130 w' w.heap.size A n c (Hd.hOf r).segs ∧ Below w.heap.size w w' := by
  cases r with
  | ok x => exact h
  | error x => exact ⟨none, 0, 0, h.1, OwnQ.nil _ _, h.2.1⟩
set_option maxRecDepth 100000 in
set_option maxHeartbeats 8000000 in
theorem RRd.head {w : World} {B g : Nat} {l : List UInt8} {s s' : Hd.RS} {h' : Hd.H} (h : RRd w B g l s) (hn : l.length ≤ 1000000000) (e : Hd.stHead l s = (s', h')) : Calls Tryd.prog 53 #[.pointer (some ⟨g, 0, none⟩)] w (RRPostV B g l s' (isH w.heap.size h') w) := by
  obtain ⟨⟨s1, v1⟩, hs1⟩ : ∃ r, Hd.stText l 10000 s = r := ⟨_, rfl⟩
  have hv1 := Hd.stText_len l 10000 s
  rw [show ((10000 : Nat) : Int) = 10000 from rfl, hs1] at hv1
  have hv1 : v1.length ≤ 10000 := hv1
  unfold Hd.stHead at e
  rw [hs1] at e
  simp only at e
  have HM0 := Lib.hid (MC.start h #[.int .i64 0, .string { data := #[] }, .slice none 0 0] 24 (by decide))
  obtain ⟨w1, hw1⟩ : ∃ w1, w.alloc (.cells #[.int .i64 0, .string { data := #[] }, .slice none 0 0] 24) = w1 := ⟨_, rfl⟩
  rw [hw1] at HM0
  have HW1 := Lib.hid hw1
  have C := Lib.hid (HM0.out.rd.text 10000 (by omega) (by omega) hn hs1)
  unfold RRPost at C
  clear h hs1 hw1
  go_enter Tryd.func53, Tryd.ntmps53
  go_upto_region 1 with fail
  rw [HW1.out]
  go_wp2_with fail
  (with_reducible refine C.out.mono ?_)
  rintro e w2 ⟨rfl, hr2, hb2, hk2⟩
  have HM1 := Lib.hid (HM0.out.turn hr2 hb2 hk2)
  clear hr2 hb2 hk2 C HM0
  obtain ⟨A2, c2, r2, hbs2⟩ := HM1.out.rd.ex
  have x2 := r2.cellQ 2 _ rfl
  clear r2 hbs2
  by_cases hx : s1.x = 0
  · rw [if_neg (by simp [hx])] at e
    have hx' : ((s1.x : Int) == 0) = true := by rw [hx]; rfl
    have hx2 : (s1.x : Int) = 0 := by omega
    obtain ⟨rh, hrh⟩ : ∃ r, Hd.rdHd v1 = r := ⟨_, rfl⟩
    have e' : ((⟨s1.at_, Hd.xOf rh⟩ : Hd.RS), Hd.hOf rh) = (s', h') := by
      rw [hrh] at e
      cases rh <;> exact e
    injection e' with e1 e2
    subst e1 e2
    clear e
    obtain ⟨hh, hhe⟩ : ∃ h, Hd.hOf rh = h := ⟨_, rfl⟩
    obtain ⟨xx, hxe⟩ : ∃ x, Hd.xOf rh = x := ⟨_, rfl⟩
    have CR := Lib.hid (show ∀ (A : Option Addr) (c : Nat) (W : World), Bs W A v1.length c v1 → Calls Tryd.prog 98 #[.slice A v1.length c] W fun e w' => ∃ A' n' c', e = .returned (.tuple #[.agg #[.int .i64 hh.size, sv hh.log, .slice A' n' c'], .int .i64 (xx : Int)]) ∧ OwnQ sgc 4 130 w' W.heap.size A' n' c' hh.segs ∧ Below W.heap.size W w' from fun A c W hb => by
      have := hread_any A v1.length c v1 W hb (by omega)
      rw [hrh] at this
      refine this.mono fun e w' hp => ?_
      have := hp.un
      rw [hhe, hxe] at this
      exact this)
    have HHE := Lib.hid hhe
    have HXE := Lib.hid hxe
    have HV := Lib.hid hv1
    clear hrh hhe hxe
    go_upto_region 4 with fail
    clear x2
    go_wp2_with (refine wl_bytesT rfl 9 30 (.tmp 16) rfl Tryd.underlying9 Tryd.underlying30 Tryd.underlying5 v1 rfl (by rw [maxLen_eq]; omega) ?_; intro A3 c3 w3 ht3 hb3; have HT3 := Lib.hid ht3; have HM3 := Lib.hid (HM1.out.keep hb3); clear ht3 hb3)
    (with_reducible refine (CR.out _ _ _ HT3.out.bs).mono ?_)
    rintro e w4 ⟨A4, n4, c4, rfl, ho4, hb4⟩
    have HM4 := Lib.hid (HM3.out.keep hb4)
    have HO4 := Lib.hid (ho4.base HM3.out.kp.size)
    clear ho4 hb4 HM3 HT3 CR
    go_upto_region 5 with fail
    have hwd := (Below.refl w4.heap.size w4).alloc (Nat.le_refl _) (.cells #[.int .i64 hh.size, sv hh.log, .slice A4 n4 c4] 24)
    have hrow := row_new w4 #[.int .i64 hh.size, sv hh.log, .slice A4 n4 c4] 24
    obtain ⟨w5, hw5⟩ : ∃ W, w4.alloc (.cells #[.int .i64 hh.size, sv hh.log, .slice A4 n4 c4] 24) = W := ⟨_, rfl⟩
    rw [hw5] at hwd hrow ⊢
    have HM5 := Lib.hid (HM4.out.keep hwd)
    have HO5 := Lib.hid (HO4.out.keep hwd)
    have HR5 := Lib.hid hrow
    clear hw5 hwd hrow HM4 HO4
    obtain ⟨A5, c5, r5, hbs5⟩ := HM5.out.rd.ex
    have HNE := Lib.hid (row_ne HR5.out r5 (by decide))
    have x2 := r5.cellQ 2 _ rfl
    have y2 := r5.frozen 2
    clear r5 hbs5
    go_upto_region 6 with fail
    generalize hwd : World.setCell w5 _ _ = w6
    have HM6 := Lib.hid (show MC w w6 B g l ⟨s1.at_, xx⟩ w.heap.size #[.int .i64 0, .string { data := #[] }, .slice none 0 0] 24 by rw [← hwd]; exact HM5.out.setE xx)
    have HR6 := Lib.hid (show Row w6 w4.heap.size #[.int .i64 hh.size, sv hh.log, .slice A4 n4 c4] 24 by rw [← hwd]; exact HR5.out.far g 2 _ HNE.out)
    have HO6 := Lib.hid (show OwnQ sgc 4 130 w6 w.heap.size A4 n4 c4 hh.segs by rw [← hwd]; exact HO5.out.keepTy (by decide) (HM5.out.rd.setE xx).2)
    clear hwd x2 y2 HM5 HR5 HO5
    have q0 := HR6.out.cellQ 0 _ rfl
    have q1 := HR6.out.cellQ 1 _ rfl
    have q2 := HR6.out.cellQ 2 _ rfl
    have z0 := HM6.out.row.cellQ 0 _ rfl
    have z1 := HM6.out.row.cellQ 1 _ rfl
    have z2 := HM6.out.row.cellQ 2 _ rfl
    have y0 := HM6.out.row.frozen 0
    have y1 := HM6.out.row.frozen 1
    have y2 := HM6.out.row.frozen 2
    go_wp2
    generalize hwf : World.setCell (World.setCell (World.setCell w6 _ _) _ _) _ _ = wf
    have HF := MC.allR HM6.out rfl [.int .i64 hh.size, sv hh.log, .slice A4 n4 c4] rfl
    have hsf : setFrom w.heap.size w6 0 [.int .i64 hh.size, sv hh.log, .slice A4 n4 c4] = wf := by rw [← hwf]; rfl
    rw [hsf] at HF
    have HOF : OwnQ sgc 4 130 wf w.heap.size A4 n4 c4 hh.segs := by rw [← hsf]; exact OwnQ.setF (by decide) _ 0 HO6.out HM6.out.row
    have r0 := HF.row.cellQ 0 _ rfl
    have r1 := HF.row.cellQ 1 _ rfl
    have r2 := HF.row.cellQ 2 _ rfl
    refine bodyPost_ret (v := .agg #[.int .i64 hh.size, sv hh.log, .slice A4 n4 c4]) (by simp [results, Tryd.results53, go_sem, r0, r1, r2]) rfl ?_
    rw [HHE.out, HXE.out]
    exact ⟨_, rfl, ⟨A4, n4, c4, rfl, HOF⟩, HF.rd, HF.bel, HF.kp⟩
  · rw [if_pos hx] at e
    injection e with e1 e2
    subst e1 e2
    have hx' : ((s1.x : Int) == 0) = false := beq_eq_false_iff_ne.2 (by omega)
    have z0 := HM1.out.row.cellQ 0 _ rfl
    have z1 := HM1.out.row.cellQ 1 _ rfl
    have z2 := HM1.out.row.cellQ 2 _ rfl
    have y0 := HM1.out.row.frozen 0
    have y1 := HM1.out.row.frozen 1
    have y2 := HM1.out.row.frozen 2
    go_wp2
    generalize hwf : World.setCell (World.setCell (World.setCell w2 _ _) _ _) _ _ = wf
    have HF := MC.allR HM1.out rfl [.int .i64 0, .string { data := #[] }, .slice none 0 0] rfl
    rw [show setFrom w.heap.size w2 0 [.int .i64 0, .string { data := #[] }, .slice none 0 0] = wf by rw [← hwf]; rfl] at HF
    have r0 := HF.row.cellQ 0 _ rfl
    have r1 := HF.row.cellQ 1 _ rfl
    have r2 := HF.row.cellQ 2 _ rfl
    refine bodyPost_ret (v := .agg #[.int .i64 0, .string { data := #[] }, .slice none 0 0]) (by simp [results, Tryd.results53, go_sem, r0, r1, r2]) rfl ?_
    exact ⟨_, rfl, ⟨none, 0, 0, rfl, OwnQ.nil _ _⟩, HF.rd, HF.bel, HF.kp⟩
end Go.Proofs.YtfgpaepdlmnhaaaDoor
