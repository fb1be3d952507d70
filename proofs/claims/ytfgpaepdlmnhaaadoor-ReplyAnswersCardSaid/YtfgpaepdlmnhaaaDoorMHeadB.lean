/- MHeadB: several texts of this claim in one file. No statement of the seat is proved here. -/
import Derived.Test.YtfgpaepdlmnhaaaDoorMHeadP
import Derived.Test.YtfgpaepdlmnhaaaDoorMHeadA
namespace Go.Proofs.YtfgpaepdlmnhaaaDoor
set_option maxRecDepth 100000
set_option linter.unusedVariables false
open Go.RowKit
/-- Nothing has turned but blocks of these types. -/
structure KeepTy (S : List TypeId) (w w' : World) : Prop where
  size : w.heap.size ≤ w'.heap.size
  block : ∀ (b : Nat) (o : Obj), w.heap[b]? = some o → (∀ e cs fr, o = .cells cs e fr → e ∉ S) → w'.heap[b]? = some o
variable {S : List TypeId} {w w' w2 : World}
theorem KeepTy.refl (w : World) : KeepTy S w w := ⟨Nat.le_refl _, fun _ _ h _ => h⟩
theorem KeepTy.trans (h : KeepTy S w w') (k : KeepTy S w' w2) : KeepTy S w w2 := ⟨Nat.le_trans h.size k.size, fun b o h1 h2 => k.block b o (h.block b o h1 h2) h2⟩
theorem KeepTy.more {S' : List TypeId} (h : KeepTy S w w') (hs : ∀ e ∈ S, e ∈ S') : KeepTy S' w w' := ⟨h.size, fun b o h1 h2 => h.block b o h1 fun e cs fr ee hm => h2 e cs fr ee (hs e hm)⟩
theorem heap_ltT {w : World} {b : Nat} {o : Obj} (h : w.heap[b]? = some o) : b < w.heap.size := (Array.getElem?_eq_some_iff.1 h).1
theorem KeepTy.of (h : Below w.heap.size w w') : KeepTy S w w' := ⟨h.size, fun b o h1 _ => by rw [h.block b (heap_ltT h1)]; exact h1⟩
theorem KeepTy.set {x : Nat} {cs : Array Value} {t : TypeId} (h : Row w x cs t) (ht : t ∈ S) (j : Nat) (u : Value) : KeepTy S w (w.setCell ⟨x, j, none⟩ u) := by
  refine ⟨by rw [World.size_setCell]; exact Nat.le_refl _, fun b o h1 h2 => ?_⟩
  have hne : b ≠ x := fun e => by
    subst e
    unfold Row at h
    rw [h] at h1
    injection h1 with h1
    exact h2 _ _ _ h1.symm ht
  rw [Below.heap_setCell _ _ _ _ hne]; exact h1
theorem KeepTy.grown {B n size : Nat} {v : Value} {xs : List Value} {t : TypeId} (h : w.ownsRow B t size v n xs) (ht : t ∈ S) (hg : w.grownBy w' v.ownBlock) (hs : w.heap.size ≤ w'.heap.size) : KeepTy S w w' := by
  refine ⟨hs, fun b o h1 h2 => ?_⟩
  rw [hg.block b (heap_ltT h1) (fun e => ?_)]
  · exact h1
  · rcases h.2 with ⟨rfl, _⟩ | ⟨g, cap, cur, rfl, _, hh, _⟩
    · cases e
    · simp only [Value.ownBlock, Option.some.injEq] at e
      rw [← e, h1] at hh
      injection hh with hh
      exact h2 _ _ _ hh ht
theorem Row.keepTy {b : Nat} {cs : Array Value} {t : TypeId} (h : Row w b cs t) (ht : t ∉ S) (k : KeepTy S w w') : Row w' b cs t := k.block b _ h fun e cs' fr ee => by injection ee with _ e2; rw [← e2]; exact ht
theorem own_keepTy {B : Nat} {e : TypeId} {size : Nat} {v : Value} {n : Nat} {xs : List Value} (h : w.ownsRow B e size v n xs) (he : e ∉ S) (k : KeepTy S w w') : w'.ownsRow B e size v n xs := by
  refine ⟨h.1, ?_⟩
  rcases h.2 with ⟨rfl, rfl⟩ | ⟨g, cap, cur, rfl, h1, h2, h3⟩
  · exact .inl ⟨rfl, rfl⟩
  · exact .inr ⟨g, cap, cur, rfl, h1, k.block g _ h2 (fun e2 cs' fr ee => by injection ee with _ e3; rw [← e3]; exact he), h3⟩
theorem Own8.keepTy {B n c : Nat} {A : Option Addr} {l : List UInt8} (h : Own8 w B A n c l) (he : 5 ∉ S) (k : KeepTy S w w') : Own8 w' B A n c l := ⟨own_keepTy h.own he k, h.len, h.cap, h.max⟩
theorem OwnQ.keepTy {α : Type} {cs : α → List Value} {k B n c : Nat} {e : TypeId} {A : Option Addr} {l : List α} (h : OwnQ cs k e w B A n c l) (he : e ∉ S) (kt : KeepTy S w w') : OwnQ cs k e w' B A n c l := ⟨own_keepTy h.own he kt, h.len, h.cap, h.max⟩
end Go.Proofs.YtfgpaepdlmnhaaaDoor

namespace Go.Proofs.YtfgpaepdlmnhaaaDoor
set_option maxRecDepth 100000
set_option linter.unusedVariables false
open Go.RowKit
theorem Row.set1 {w : World} {b : Nat} {v : Value} {t : TypeId} (h : Row w b #[v] t) (u : Value) : Row (w.setCell ⟨b, 0, none⟩ u) b #[u] t := h.all [u] rfl
theorem row_ne {w : World} {a b : Nat} {cs ds : Array Value} {t u : TypeId} (h : Row w a cs t) (k : Row w b ds u) (hn : t ≠ u) : a ≠ b := fun e => by
  subst e
  unfold Row at h k
  rw [h] at k
  injection k with k
  injection k with _ k
  exact hn k
/-- What writing turns: bytes, and two boxes. -/
abbrev SW : List TypeId := [5, 30, 31]
/-- The two boxes of a writing, and the bytes till now. -/
structure HW (w : World) (B g1 g2 : Nat) (l : List UInt8) : Prop where
  ex : ∃ A n c, Row w g2 #[.slice A n c] 30 ∧ Own8 w B A n c l
  r1 : Row w g1 #[.int .i64 0] 31
  b1 : B ≤ g1
  b2 : B ≤ g2
theorem HW.keep {w w' : World} {B g1 g2 : Nat} {l : List UInt8} (h : HW w B g1 g2 l) (hb : Below w.heap.size w w') : HW w' B g1 g2 l := by
  obtain ⟨A, n, c, r2, ho⟩ := h.ex
  exact ⟨⟨A, n, c, r2.belowS hb (Nat.le_refl _), ho.keep hb⟩, h.r1.belowS hb (Nat.le_refl _), h.b1, h.b2⟩
def HWPost (B g1 g2 : Nat) (l : List UInt8) (w : World) (e : Ending) (w' : World) : Prop := (∃ v, e = .returned v) ∧ HW w' B g1 g2 l ∧ Below B w w' ∧ KeepTy SW w w'
theorem hw_put {w w1 : World} {B g1 g2 : Nat} {A A1 : Option Addr} {n c n1 c1 : Nat} {l1 : List UInt8} {v1 v2 : Value} (hB : B ≤ w.heap.size) (hb : Below w.heap.size w w1) (r1 : Row w1 g1 #[v1] 31) (r2 : Row w1 g2 #[v2] 30) (b1 : B ≤ g1) (b2 : B ≤ g2)
    (ho : Own8 w1 w.heap.size A1 n1 c1 l1) : HW ((w1.setCell ⟨g2, 0, none⟩ (.slice A1 n1 c1)).setCell ⟨g1, 0, none⟩ (.int .i64 0)) B g1 g2 l1 ∧ Below B w ((w1.setCell ⟨g2, 0, none⟩ (.slice A1 n1 c1)).setCell ⟨g1, 0, none⟩ (.int .i64 0)) ∧ KeepTy SW w ((w1.setCell ⟨g2, 0, none⟩ (.slice A1 n1 c1)).setCell ⟨g1, 0, none⟩ (.int .i64 0)) := by
  have k1 := KeepTy.set (S := [30]) r2 (by decide) 0 (.slice A1 n1 c1)
  have q1 := r1.keepTy (by decide) k1
  have q2 := r2.set1 (.slice A1 n1 c1)
  have o1 := (ho.base hB).keepTy (by decide) k1
  have k2 := KeepTy.set (S := [31]) q1 (by decide) 0 (.int .i64 0)
  refine ⟨⟨⟨A1, n1, c1, q2.keepTy (by decide) k2, o1.keepTy (by decide) k2⟩, q1.set1 _, b1, b2⟩, ((hb.mono hB).setCell (p := ⟨g2, 0, none⟩) b2 _).setCell (p := ⟨g1, 0, none⟩) b1 _, ((KeepTy.of hb).trans (k1.more (by decide))).trans (k2.more (by decide))⟩
set_option maxHeartbeats 4000000 in
theorem hw1_any (B g1 g2 : Nat) (l : List UInt8) (v : Nat) (w : World) (h : HW w B g1 g2 l) (hB : B ≤ w.heap.size) (hn : l.length ≤ 10000000000000) (hv : v ≤ 4611686018427387904) :
    Calls Tryd.prog 138 #[.int .i64 (v : Int), .pointer (some ⟨g1, 0, none⟩), .pointer (some ⟨g2, 0, none⟩)] w (HWPost B g1 g2 (l ++ Code.num v) w) := by
  obtain ⟨A, n, c, r2, ho⟩ := h.ex
  have r1 := h.r1
  have hln := ho.len
  have HB12 := Lib.hid (And.intro h.b1 h.b2)
  have C := Lib.hid (num_any A n c l v w ho.bs (by omega) hv)
  unfold NumPost at C
  have x1 := r1.cellQ 0 _ rfl
  have x2 := r2.cellQ 0 _ rfl
  have R1 := Lib.hid r1
  have R2 := Lib.hid r2
  clear r1 r2 h ho
  go_enter Tryd.func138, Tryd.ntmps138
  go_wp2_with fail
  (with_reducible refine C.out.mono ?_)
  rintro e w1 ⟨A1, n1, c1, rfl, ho1, hb1⟩
  have r1 := R1.out.belowS hb1 (Nat.le_refl _)
  have r2 := R2.out.belowS hb1 (Nat.le_refl _)
  have HP := Lib.hid (hw_put (A := A) (n := n) (c := c) hB hb1 r1 r2 HB12.out.1 HB12.out.2 ho1)
  clear x1 x2
  have x1 := r1.cellQ 0 _ rfl
  have x2 := r2.cellQ 0 _ rfl
  have y1 := r1.frozen 0
  have y2 := r2.frozen 0
  have hne := row_ne r1 r2 (by decide)
  have hne2 : ¬ g2 = g1 := fun e => hne e.symm
  have hne3 : ¬ g1 = g2 := hne
  clear r1 r2 ho1 hb1 hne
  go_wp2
  go_end0
  exact ⟨⟨_, rfl⟩, HP.out⟩
set_option maxHeartbeats 4000000 in
theorem hw2_any (B g1 g2 : Nat) (l d : List UInt8) (w : World) (h : HW w B g1 g2 l) (hB : B ≤ w.heap.size) (hn : l.length ≤ 10000000000000) (hd : d.length ≤ 1000000) :
    Calls Tryd.prog 139 #[sv d, .pointer (some ⟨g2, 0, none⟩)] w (HWPost B g1 g2 (l ++ d) w) := by
  obtain ⟨A, n, c, r2, ho⟩ := h.ex
  have hln := ho.len
  have H := Lib.hid h
  have x2 := r2.cellQ 0 _ rfl
  have R2 := Lib.hid r2
  clear r2 h
  go_enter Tryd.func139, Tryd.ntmps139
  go_wp2_with (at_builtin; refine wl_appS rfl (.tmp 3) (.tmp 4) rfl rfl ho rfl (by omega) hB ?_; intro A3 n3 c3 w3 ho3 hb3 hg3; have k3 := KeepTy.grown (S := [5]) ho.own (by decide) hg3 hb3.size; have r3 := R2.out.keepTy (by decide) k3; have k4 := KeepTy.set (S := [30]) r3 (by decide) 0 (.slice A3 n3 c3); have HP := Lib.hid (show HW (w3.setCell ⟨g2, 0, none⟩ (.slice A3 n3 c3)) B g1 g2 (l ++ d) ∧ Below B w (w3.setCell ⟨g2, 0, none⟩ (.slice A3 n3 c3)) ∧ KeepTy SW w (w3.setCell ⟨g2, 0, none⟩ (.slice A3 n3 c3)) from ⟨⟨⟨A3, n3, c3, r3.set1 _, ho3.keepTy (by decide) k4⟩, (H.out.r1.keepTy (by decide) k3).keepTy (by decide) k4, H.out.b1, H.out.b2⟩, hb3.setCell (p := ⟨g2, 0, none⟩) H.out.b2 _, (k3.more (by decide)).trans (k4.more (by decide))⟩); have z2 := r3.cellQ 0 _ rfl; have z3 := r3.frozen 0; clear x2 r3 k3 k4 ho3 hb3 hg3)
  go_end0
  exact ⟨⟨_, rfl⟩, HP.out⟩
end Go.Proofs.YtfgpaepdlmnhaaaDoor

namespace Go.Proofs.YtfgpaepdlmnhaaaDoor
set_option maxRecDepth 100000
set_option linter.unusedVariables false
open Go.RowKit
theorem Hd.rowFrom_all : ∀ (l : List Hd.Sg) (a size : Int), Hd.rowFrom l a size = true → ∀ s ∈ l, s.ok = true
  | [], _, _, _, s, hs => by cases hs
  | x :: l, a, size, h, s, hs => by
    unfold Hd.rowFrom at h
    simp only [Bool.and_eq_true] at h
    rcases List.mem_cons.1 hs with rfl | hs
    · exact h.2.1
    · exact Hd.rowFrom_all l _ _ h.2.2 s hs
structure Hd.Sg.Ok (s : Hd.Sg) : Prop where
  to0 : 0 ≤ s.to
  to1 : s.to ≤ 1000
  lk0 : 0 ≤ s.lk
  lk1 : s.lk ≤ 1099511627776
  rt : s.rt.length = 32
theorem Hd.Sg.ok_iff {s : Hd.Sg} (h : s.ok = true) : s.Ok := by
  unfold Hd.Sg.ok Hd.w3 at h
  simp only [Bool.and_eq_true, decide_eq_true_eq] at h
  exact ⟨by omega, by omega, by omega, by omega, by omega⟩
structure Hd.H.Ok (h : Hd.H) : Prop where
  sz0 : 0 ≤ h.size
  sz1 : h.size ≤ 1000
  log : h.log.length = 32
  few : h.segs.length ≤ 64
  all : ∀ s ∈ h.segs, s.Ok
theorem Hd.H.ok_iff {h : Hd.H} (k : h.ok = true) : h.Ok := by
  unfold Hd.H.ok Hd.row at k
  simp only [Bool.and_eq_true, decide_eq_true_eq] at k
  exact ⟨k.1, k.2.1, k.2.2.1, k.2.2.2.1, fun s hs => Hd.Sg.ok_iff (Hd.rowFrom_all _ _ _ k.2.2.2.2 s hs)⟩
theorem Hd.Sg.bytes_len {s : Hd.Sg} (h : s.Ok) : s.bytes.length ≤ 50 := by
  unfold Hd.Sg.bytes
  have h1 := Code.num_len9 s.to.toNat (by have := h.to1; omega)
  have h2 := Code.num_len9 s.lk.toNat (by have := h.lk1; omega)
  have h3 := h.rt
  rw [List.length_append, List.length_append]; omega
theorem Hd.flat_len : ∀ (l : List Hd.Sg), (∀ s ∈ l, s.Ok) → (l.flatMap Hd.Sg.bytes).length ≤ l.length * 50
  | [], _ => by simp
  | s :: l, h => by
    rw [List.flatMap_cons, List.length_append, List.length_cons, Nat.succ_mul]
    have h1 := Hd.Sg.bytes_len (h s (List.mem_cons_self ..))
    have h2 := Hd.flat_len l (fun x hx => h x (List.mem_cons_of_mem _ hx))
    omega
/-- The bytes of a head till a sign. -/
def Hd.H.till (h : Hd.H) (k : Nat) : Hd.By := Code.num h.size.toNat ++ (h.log ++ (Code.num h.segs.length ++ (h.segs.take k).flatMap Hd.Sg.bytes))
theorem Hd.H.till_len {h : Hd.H} (ok : h.Ok) (k : Nat) : (h.till k).length ≤ 10000 := by
  unfold Hd.H.till
  have h1 := Code.num_len9 h.size.toNat (by have := ok.sz1; omega)
  have h2 := Code.num_len9 h.segs.length (by have := ok.few; omega)
  have h3 := ok.log
  have h4 := Hd.flat_len (h.segs.take k) (fun s hs => ok.all s (List.mem_of_mem_take hs))
  have h5 : (h.segs.take k).length ≤ 64 := by have := ok.few; rw [List.length_take]; omega
  rw [List.length_append, List.length_append, List.length_append]; omega
theorem Hd.H.till_all {h : Hd.H} {k : Nat} (hk : h.segs.length = k) : h.till k = h.bytes := by
  unfold Hd.H.till Hd.H.bytes
  rw [List.take_of_length_le (by omega)]
theorem Hd.H.till_succ {h : Hd.H} {k : Nat} {s : Hd.Sg} (hs : h.segs[k]? = some s) : h.till (k + 1) = ((h.till k ++ Code.num s.to.toNat) ++ Code.num s.lk.toNat) ++ s.rt := by
  unfold Hd.H.till
  rw [List.take_add_one, hs]
  simp [Hd.Sg.bytes]
theorem Hd.H.till_zero (h : Hd.H) : h.till 0 = ([] ++ Code.num h.size.toNat ++ h.log) ++ Code.num h.segs.length := by
  unfold Hd.H.till
  simp
theorem hw1_int (B g1 g2 : Nat) (l : List UInt8) (v : Int) (w : World) (h : HW w B g1 g2 l) (hB : B ≤ w.heap.size) (hn : l.length ≤ 10000000000000) (h0 : 0 ≤ v) (h1 : v ≤ 4611686018427387904) :
    Calls Tryd.prog 138 #[.int .i64 v, .pointer (some ⟨g1, 0, none⟩), .pointer (some ⟨g2, 0, none⟩)] w (HWPost B g1 g2 (l ++ Code.num v.toNat) w) := by
  have a := hw1_any B g1 g2 l v.toNat w h hB hn (by omega)
  rw [Int.toNat_of_nonneg h0] at a
  exact a
def WPost (o : Option (List UInt8)) (w : World) (e : Ending) (w' : World) : Prop := match o with
  | some l => ∃ A n c, e = .returned (.tuple #[.slice A n c, .int .i64 0]) ∧ Own8 w' w.heap.size A n c l ∧ Below w.heap.size w w'
  | none => e = .returned (.tuple #[.slice none 0 0, .int .i64 1]) ∧ Below w.heap.size w w'
def Hd.H.wr (h : Hd.H) : Option (List UInt8) := if h.ok = true then some h.bytes else none
set_option maxHeartbeats 16000000 in
theorem hwrite_any (A : Option Addr) (n c : Nat) (h : Hd.H) (w : World) (hs : Sq sgc 4 w A n c h.segs) (hl : ∀ s ∈ h.segs, s.rt.length ≤ 1000) (hlog : h.log.length ≤ 1000) : Calls Tryd.prog 91 #[hdv A n c h] w (WPost h.wr w) := by
  have HROW := Lib.hid (row_new w #[.int .i64 h.size, sv h.log, .slice A n c] 24)
  have HB0 := Lib.hid (show Below w.heap.size w (w.alloc (.cells #[.int .i64 h.size, sv h.log, .slice A n c] 24)) from (Below.refl _ w).alloc (Nat.le_refl _) _)
  have CW := Lib.hid (fun W (hb : Below w.heap.size w W) => hright_any A n c h W (hs.keep hb) hl hlog)
  have x0 := HROW.out.cellQ 0 _ rfl
  have x1 := HROW.out.cellQ 1 _ rfl
  have x2 := HROW.out.cellQ 2 _ rfl
  have HS := Lib.hid hs
  clear hs hl hlog
  unfold hdv at CW ⊢
  cases hok : h.ok with
  | false =>
    have HOK := Lib.hid hok
    have HW0 := Lib.hid (show h.wr = none by unfold Hd.H.wr; rw [if_neg (by rw [hok]; decide)])
    clear hok
    go_enter Tryd.func91, Tryd.ntmps91
    go_wp2_with fail
    (with_reducible refine (CW.out _ HB0.out).mono ?_)
    rintro e w1 ⟨rfl, hb1⟩
    rw [HOK.out]
    have HB1 := Lib.hid (bt HB0.out hb1)
    clear hb1
    go_wp2
    go_ret2
    rw [HW0.out]
    exact ⟨rfl, HB1.out⟩
  | true =>
    have HOK := Lib.hid hok
    have HW0 := Lib.hid (show h.wr = some h.bytes by unfold Hd.H.wr; rw [if_pos hok])
    have HO := Lib.hid (Hd.H.ok_iff hok)
    clear hok
    go_enter Tryd.func91, Tryd.ntmps91
    go_wp2_with fail
    (with_reducible refine (CW.out _ HB0.out).mono ?_)
    rintro e w1 ⟨rfl, hb1⟩
    rw [HOK.out]
    have HB1 := Lib.hid (bt HB0.out hb1)
    have HRW1 := Lib.hid (HROW.out.belowS hb1 (Nat.le_refl _))
    clear hb1 x0 x1 x2
    have x0 := HRW1.out.cellQ 0 _ rfl
    have x1 := HRW1.out.cellQ 1 _ rfl
    have x2 := HRW1.out.cellQ 2 _ rfl
    go_upto_region 7 with fail
    have hwsz : w.heap.size < w1.heap.size := HRW1.out.lt
    have hs1 : (w1.alloc (.cells #[.slice none 0 0] 30)).heap.size = w1.heap.size + 1 := by unfold World.alloc; simp
    have ry2 : Row ((w1.alloc (.cells #[.slice none 0 0] 30)).alloc (.cells #[.int .i64 0] 31)) w1.heap.size #[.slice none 0 0] 30 := (row_new w1 _ _).alloc _
    have ry1 : Row ((w1.alloc (.cells #[.slice none 0 0] 30)).alloc (.cells #[.int .i64 0] 31)) (w1.heap.size + 1) #[.int .i64 0] 31 := by rw [← hs1]; exact row_new _ _ _
    have hby := (((Below.refl w1.heap.size w1).alloc (Nat.le_refl _) (.cells #[.slice none 0 0] 30)).alloc (by rw [hs1]; omega) (.cells #[.int .i64 0] 31))
    obtain ⟨wy, hwy⟩ : ∃ wy, ((w1.alloc (.cells #[.slice none 0 0] 30)).alloc (.cells #[.int .i64 0] 31)) = wy := ⟨_, rfl⟩
    rw [hwy] at ry1 ry2 hby ⊢
    have HY := Lib.hid (show HW wy w1.heap.size (w1.heap.size + 1) w1.heap.size [] from ⟨⟨none, 0, 0, ry2, Own8.nil _ _⟩, ry1, by omega, Nat.le_refl _⟩)
    have HRY := Lib.hid (HRW1.out.belowS hby (Nat.le_refl _))
    have HBY := Lib.hid (bt HB1.out hby)
    clear hwy hs1 ry1 ry2 hby x0 x1 x2
    have hBy : w1.heap.size ≤ wy.heap.size := by have := HY.out.r1.lt; omega
    clear HRW1
    generalize w1.heap.size = B at *
    have x0 := HRY.out.cellQ 0 _ rfl
    go_wp2_with fail
    (with_reducible refine (hw1_int B (B + 1) B [] h.size wy HY.out hBy (by simp) HO.out.sz0 (by have := HO.out.sz1; omega)).mono ?_)
    rintro e w2 ⟨⟨v2, rfl⟩, hw2, hb2, _⟩
    have HY2 := Lib.hid hw2
    have HRY2 := Lib.hid (HRY.out.below hb2 hwsz)
    have HBY2 := Lib.hid (HBY.out.trans (hb2.mono (by omega)))
    have hB2 : B ≤ w2.heap.size := by have := hb2.size; omega
    clear hw2 hb2 x0
    have x1 := HRY2.out.cellQ 1 _ rfl
    go_wp2_with fail
    (with_reducible refine (hw2_any B (B + 1) B _ h.log w2 HY2.out hB2 (by have := Code.num_len9 h.size.toNat (by have := HO.out.sz1; omega); simp only [List.nil_append]; omega) (by have := HO.out.log; omega)).mono ?_)
    rintro e w3 ⟨⟨v3, rfl⟩, hw3, hb3, _⟩
    have HY3 := Lib.hid hw3
    have HRY3 := Lib.hid (HRY2.out.below hb3 hwsz)
    have HBY3 := Lib.hid (HBY2.out.trans (hb3.mono (by omega)))
    have hB3 : B ≤ w3.heap.size := by have := hb3.size; omega
    clear hw3 hb3 x1
    have x2 := HRY3.out.cellQ 2 _ rfl
    have hln := HS.out.len
    have hcp := HS.out.cap
    have hmx := HS.out.max
    rw [maxLen_eq] at hmx
    have hn64 : n ≤ 64 := by have := HO.out.few; omega
    go_wp2_with fail
    (with_reducible refine (hw1_any B (B + 1) B _ n w3 HY3.out hB3 (by have := Code.num_len9 h.size.toNat (by have := HO.out.sz1; omega); have := HO.out.log; rw [List.length_append]; simp only [List.nil_append]; omega) (by omega)).mono ?_)
    rintro e w4 ⟨⟨v4, rfl⟩, hw4, hb4, _⟩
    have HY4 := Lib.hid (show HW w4 B (B + 1) B (h.till 0) by rw [Hd.H.till_zero, hln]; exact hw4)
    have HRY4 := Lib.hid (HRY3.out.below hb4 hwsz)
    have HBY4 := Lib.hid (HBY3.out.trans (hb4.mono (by omega)))
    have hB4 : B ≤ w4.heap.size := by have := hb4.size; omega
    clear hw4 hb4 x2
    have x2 := HRY4.out.cellQ 2 _ rfl
    clear hln
    go_wp2
    go_loopw [31] (fun vi wr => ∃ (k : Nat), vi = .int .i64 (k : Int) ∧ k ≤ n ∧ Hid (HW wr B (B + 1) B (h.till k) ∧ Below w.heap.size w wr ∧ B ≤ wr.heap.size)) (fun vi _ => n - (intOf vi).toNat)
    case atStart => exact ⟨0, rfl, by omega, Lib.hid ⟨HY4.out, HBY4.out, hB4⟩⟩
    case round =>
      obtain ⟨k, rfl, hk, H⟩ := hrel
      have HWR := Lib.hid H.out.1
      have HBL := Lib.hid H.out.2.1
      have hBr := H.out.2.2
      by_cases hlt : k < n
      · obtain ⟨b, off, s, hA, hb, hs, hcs⟩ := HS.out.at sgc_len (by omega) hlt
        subst hA
        have s0 := hcs wr HBL.out 0 _ rfl
        rw [Nat.add_zero] at s0
        have s1 := hcs wr HBL.out 1 _ rfl
        have s2 := hcs wr HBL.out 2 _ rfl
        have s3 := hcs wr HBL.out 3 _ rfl
        have HT := Lib.hid (Hd.H.till_succ hs)
        have HSO := Lib.hid (HO.out.all s (List.mem_of_getElem? hs))
        have htl := Hd.H.till_len HO.out k
        clear hcs hs
        go_upto_region 13 with fail
        have hz := row_new wr #[.int .i64 s.fr, .int .i64 s.to, .int .i64 s.lk, sv s.rt] 130
        have hbz := (Below.refl wr.heap.size wr).alloc (Nat.le_refl _) (.cells #[.int .i64 s.fr, .int .i64 s.to, .int .i64 s.lk, sv s.rt] 130)
        obtain ⟨wz, hwz⟩ : ∃ wz, wr.alloc (.cells #[.int .i64 s.fr, .int .i64 s.to, .int .i64 s.lk, sv s.rt] 130) = wz := ⟨_, rfl⟩
        rw [hwz] at hz hbz ⊢
        have HZ := Lib.hid hz
        have HWZ := Lib.hid (HWR.out.keep hbz)
        have HBZ := Lib.hid (bt HBL.out hbz)
        have hBz : B ≤ wz.heap.size := by have := hbz.size; omega
        clear hwz hz hbz s0 s1 s2 s3
        have x1 := HZ.out.cellQ 1 _ rfl
        go_wp2_with fail
        (with_reducible refine (hw1_int B (B + 1) B _ s.to wz HWZ.out hBz (by omega) HSO.out.to0 (by have := HSO.out.to1; omega)).mono ?_)
        rintro e w5 ⟨⟨v5, rfl⟩, hw5, hb5, hk5⟩
        have HW5 := Lib.hid hw5
        have HZ5 := Lib.hid (HZ.out.keepTy (by decide) hk5)
        have HB5 := Lib.hid (HBZ.out.trans (hb5.mono (by omega)))
        have hB5 : B ≤ w5.heap.size := by have := hb5.size; omega
        clear hw5 hb5 hk5 x1
        have x2 := HZ5.out.cellQ 2 _ rfl
        have hl5 := Code.num_len9 s.to.toNat (by have := HSO.out.to1; omega)
        go_wp2_with fail
        (with_reducible refine (hw1_int B (B + 1) B _ s.lk w5 HW5.out hB5 (by rw [List.length_append]; omega) HSO.out.lk0 (by have := HSO.out.lk1; omega)).mono ?_)
        rintro e w6 ⟨⟨v6, rfl⟩, hw6, hb6, hk6⟩
        have HW6 := Lib.hid hw6
        have HZ6 := Lib.hid (HZ5.out.keepTy (by decide) hk6)
        have HB6 := Lib.hid (HB5.out.trans (hb6.mono (by omega)))
        have hB6 : B ≤ w6.heap.size := by have := hb6.size; omega
        clear hw6 hb6 hk6 x2
        have x3 := HZ6.out.cellQ 3 _ rfl
        have hl6 := Code.num_len9 s.lk.toNat (by have := HSO.out.lk1; omega)
        go_wp2_with fail
        (with_reducible refine (hw2_any B (B + 1) B _ s.rt w6 HW6.out hB6 (by rw [List.length_append, List.length_append]; omega) (by have := HSO.out.rt; omega)).mono ?_)
        rintro e w7 ⟨⟨v7, rfl⟩, hw7, hb7, _⟩
        have HW7 := Lib.hid (show HW w7 B (B + 1) B (h.till (k + 1)) by rw [HT.out]; exact hw7)
        have HB7 := Lib.hid (HB6.out.trans (hb7.mono (by omega)))
        have hB7 : B ≤ w7.heap.size := by have := hb7.size; omega
        clear hw7 hb7 x3 hl5 hl6
        go_wp2
        go_roundw
        case rel => exact ⟨k + 1, by go_num, by omega, Lib.hid ⟨HW7.out, HB7.out, hB7⟩⟩
        case measure => simp [intOf]; omega
      · obtain rfl : k = n := by omega
        have HF := Lib.hid (Hd.H.till_all HS.out.len)
        obtain ⟨A2, n2, c2, q2, ho2⟩ := HWR.out.ex
        have q1 := HWR.out.r1
        have y1 := q1.cellQ 0 _ rfl
        have y2 := q2.cellQ 0 _ rfl
        have HOW := Lib.hid (ho2.base (show w.heap.size ≤ B by omega))
        clear q1 q2 ho2
        go_wp2
        go_ret2
        rw [HW0.out]
        exact ⟨A2, n2, c2, rfl, by rw [← HF.out]; exact HOW.out, HBL.out⟩
end Go.Proofs.YtfgpaepdlmnhaaaDoor

namespace Go.Proofs.YtfgpaepdlmnhaaaDoor
set_option maxRecDepth 100000
set_option linter.unusedVariables false
open Go.RowKit
def Free.kE (B : Nat) (l : List UInt8) : Free.SV := ⟨fun v w => ∃ A n c, v = .slice A n c ∧ Own8 w B A n c l, fun v w w' ⟨A, n, c, h1, h2⟩ g => ⟨A, n, c, h1, h2.keep g⟩⟩
theorem rnum_int (v : Int) (w : World) (h0 : 0 ≤ v) (h1 : v ≤ 4611686018427387904) : Calls Tryd.prog 50 #[.int .i64 v] w (Ret8 w.heap.size (Code.num v.toNat) w) := by
  have a := rnum_any v.toNat v.toNat w (Nat.le_refl _) (by omega)
  rw [Int.toNat_of_nonneg h0] at a
  exact a
set_option maxRecDepth 100000 in
set_option maxHeartbeats 16000000 in
theorem rhwrite_any (A : Option Addr) (n c : Nat) (h : Hd.H) (w : World) (hs : Sq sgc 4 w A n c h.segs) (ok : h.Ok) : Calls Tryd.prog 96 #[hdv A n c h] w (Ret8 w.heap.size h.bytes w) := by
  have hry := row_new w #[.int .i64 h.size, sv h.log, .slice A n c] 37
  have hby := (Below.refl w.heap.size w).alloc (Nat.le_refl _) (.cells #[.int .i64 h.size, sv h.log, .slice A n c] 37)
  have hsz : (w.alloc (.cells #[.int .i64 h.size, sv h.log, .slice A n c] 37)).heap.size = w.heap.size + 1 := by unfold World.alloc; simp
  have HS := Lib.hid hs
  have HO := Lib.hid ok
  have hcp := hs.cap
  have hmx := hs.max
  rw [maxLen_eq] at hmx
  have hn64 : n ≤ 64 := by have := hs.len; have := ok.few; omega
  have l1 := Code.num_len9 h.size.toNat (by have := ok.sz1; omega)
  have l2 := ok.log
  have HNM := Lib.hid (fun W => rnum_int h.size W ok.sz0 (by have := ok.sz1; omega))
  unfold Ret8 at HNM
  have HT0 := Lib.hid (show (Code.num h.size.toNat ++ h.log) ++ Code.num n = h.till 0 by rw [Hd.H.till_zero, hs.len]; rfl)
  clear hs ok
  unfold hdv
  go_enter Tryd.func96, Tryd.ntmps96
  go_upto_region 1 with fail
  obtain ⟨wy, hwy⟩ : ∃ wy, w.alloc (.cells #[.int .i64 h.size, sv h.log, .slice A n c] 37) = wy := ⟨_, rfl⟩
  rw [hwy] at hry hby hsz ⊢
  have HRY := Lib.hid hry
  have HBY := Lib.hid hby
  have HX0 := Lib.hid (fun W (hb : Below wy.heap.size wy W) => (hry.belowS hb (Nat.le_refl _)).cellQ 0 _ rfl)
  have HX1 := Lib.hid (fun W (hb : Below wy.heap.size wy W) => (hry.belowS hb (Nat.le_refl _)).cellQ 1 _ rfl)
  clear hwy hry hby
  refine Free.wp_free_l 5 (fun W => Below wy.heap.size wy W) [Free.kc (.pointer (some ⟨w.heap.size, 0, none⟩)), Free.kc (.int .i64 h.size), Free.kE (wy.heap.size) (Code.num h.size.toNat), Free.kc (.pointer (some ⟨w.heap.size, 1, none⟩)), Free.kc (sv h.log)] (by kernel_rfl) (by kernel_rfl) (by decide) (Below.refl _ _).drew (fun w w' h g => bt h g) ?_ ?_
  · refine Free.forall_succ (Free.forall_succ (Free.forall_succ (Free.forall_succ (Free.forall_succ (Free.forall_zero) ?_) ?_) ?_) ?_) ?_
    · exact Free.ob_plain _ rfl rfl fun vals wq hC hd => (by exact d_field (cx := .pointer (some ⟨w.heap.size, 0, none⟩)) rfl (by kernel_rfl) (by go_simp) rfl)
    · exact Free.ob_plain _ rfl rfl fun vals wq hC hd => (by exact Free.d_load rfl (Eq.trans (b := vals 0) (by kernel_rfl) (hd 0 (by kernel_rfl))) (by have hcc := HX0.out wq hC; go_simp) rfl)
    · exact Free.ob_plain _ rfl rfl fun vals wq hC hd => (by exact Free.d_call Tryd.func50 (by kernel_rfl) (by kernel_rfl) rfl rfl (Free.arg1 (Eq.trans (b := vals 1) (by kernel_rfl) (hd 1 (by kernel_rfl)))) ((HNM.out wq).mono fun e w2 h => (by obtain ⟨A1, n1, c1, he, ho, hb⟩ := h; exact ⟨_, he, ⟨A1, n1, c1, rfl, ho.base hC.size⟩, hb⟩)))
    · exact Free.ob_plain _ rfl rfl fun vals wq hC hd => (by exact d_field (cx := .pointer (some ⟨w.heap.size, 0, none⟩)) rfl (by kernel_rfl) (by go_simp) rfl)
    · exact Free.ob_plain _ rfl rfl fun vals wq hC hd => (by exact Free.d_load rfl (Eq.trans (b := vals 3) (by kernel_rfl) (hd 3 (by kernel_rfl))) (by have hcc := HX1.out wq hC; go_simp) rfl)
  · intro vals wq hC hd
    have e0 : vals 0 = (.pointer (some ⟨w.heap.size, 0, none⟩)) := hd 0 (by decide)
    have e1 : vals 1 = (.int .i64 h.size) := hd 1 (by decide)
    obtain ⟨A2, n2, k2, e2, ow2⟩ := hd 2 (by decide)
    have e3 : vals 3 = (.pointer (some ⟨w.heap.size, 1, none⟩)) := hd 3 (by decide)
    have e4 : vals 4 = (sv h.log) := hd 4 (by decide)
    simp only [Free.frameOf, List.range, List.range.loop, List.foldl, Free.dstOf, List.getElem?_toArray, List.getElem?_cons_zero, List.getElem?_cons_succ, Option.bind_some, Act.put, List.setIfInBounds_toArray, List.set_cons_zero, List.set_cons_succ, e0, e1, e2, e3, e4]
    clear hd e0 e1 e2 e3 e4
    have hn2 : n2 ≤ 9 := by have := ow2.len; omega
    have HBW := Lib.hid hC
    clear hC
    refine wl_appS rfl (.tmp 8) (.tmp 10) rfl rfl ow2 rfl (by omega) HBW.out.size ?_
    intro A3 n3 c3 w3 ho3 hb3 _
    have hn3 : n3 ≤ 41 := by have := ho3.len; rw [List.length_append] at this; omega
    have HB3 := Lib.hid (HBW.out.trans hb3)
    have x2 := (HRY.out.belowS HB3.out (Nat.le_refl _)).cellQ 2 _ rfl
    clear ow2 hb3
    simp only [Act.put, List.setIfInBounds_toArray, List.set_cons_succ, List.set_cons_zero]
    go_wp2_with fail
    (with_reducible refine (rnum_any n n w3 (Nat.le_refl _) (by omega)).mono ?_)
    rintro e w4 ⟨A4, n4, c4, rfl, ho4, hb4⟩
    have l4 := Code.num_len9 n (by omega)
    have hn4 : n4 ≤ 9 := by have := ho4.len; omega
    have ho3' := ho3.keep hb4
    have HB4 := Lib.hid (bt HB3.out hb4)
    clear x2 ho3 hb4
    go_wp2_with (at_builtin; refine wl_app8 rfl (.tmp 12) (.tmp 16) rfl rfl ho3' rfl ho4.bs (by omega) HB4.out.size ?_; intro A5 n5 c5 w5 ho5 hb5 _; have HB5 := Lib.hid (HB4.out.trans hb5); rw [HT0.out] at ho5; clear ho3' ho4 hb5)
    go_loopw [3, 4] (fun va vi wr => ∃ (k n' c' : Nat) (A' : Option Addr), va = .slice A' n' c' ∧ vi = .int .i64 (k : Int) ∧ k ≤ n ∧ Own8 wr wy.heap.size A' n' c' (h.till k) ∧ Hid (Below wy.heap.size wy wr)) (fun _ vi _ => n - (intOf vi).toNat)
    case atStart => exact ⟨0, n5, c5, A5, rfl, rfl, by omega, ho5, HB5⟩
    case round =>
      obtain ⟨k, n', c', A', rfl, rfl, hk, ho, HBR⟩ := hrel
      have hry := HRY.out.belowS HBR.out (Nat.le_refl _)
      have x2 := hry.cellQ 2 _ rfl
      clear hry
      have htl := Hd.H.till_len HO.out k
      have hn' : n' ≤ 10000 := by have := ho.len; omega
      by_cases hlt : k < n
      · obtain ⟨b, off, s, hA, hb, hs, hcs⟩ := HS.out.at sgc_len (by omega) hlt
        subst hA
        have HBL := Lib.hid (bt HBY.out HBR.out)
        have s0 := hcs wr HBL.out 0 _ rfl
        rw [Nat.add_zero] at s0
        have s1 := hcs wr HBL.out 1 _ rfl
        have s2 := hcs wr HBL.out 2 _ rfl
        have s3 := hcs wr HBL.out 3 _ rfl
        have HT := Lib.hid (Hd.H.till_succ hs)
        have HSO := Lib.hid (HO.out.all s (List.mem_of_getElem? hs))
        have m1 := Code.num_len9 s.to.toNat (by have := HSO.out.to1; omega)
        have m2 := Code.num_len9 s.lk.toNat (by have := HSO.out.lk1; omega)
        have m3 := HSO.out.rt
        clear hcs hs
        go_upto_region 7 with fail
        have hz := row_new wr #[.int .i64 s.fr, .int .i64 s.to, .int .i64 s.lk, sv s.rt] 177
        have hbz := (Below.refl wr.heap.size wr).alloc (Nat.le_refl _) (.cells #[.int .i64 s.fr, .int .i64 s.to, .int .i64 s.lk, sv s.rt] 177)
        obtain ⟨wz, hwz⟩ : ∃ wz, wr.alloc (.cells #[.int .i64 s.fr, .int .i64 s.to, .int .i64 s.lk, sv s.rt] 177) = wz := ⟨_, rfl⟩
        rw [hwz] at hz hbz ⊢
        have HZ := Lib.hid hz
        have hoz := ho.keep hbz
        have HBZ := Lib.hid (bt HBR.out hbz)
        clear hwz hz hbz s0 s1 s2 s3 x2 ho
        have x1 := HZ.out.cellQ 1 _ rfl
        go_wp2_with fail
        (with_reducible refine (rnum_int s.to wz HSO.out.to0 (by have := HSO.out.to1; omega)).mono ?_)
        rintro e w6 ⟨A6, n6, c6, rfl, ho6, hb6⟩
        have hn6 : n6 ≤ 9 := by have := ho6.len; omega
        have hz6 := HZ.out.belowS hb6 (Nat.le_refl _)
        have hoz6 := hoz.keep hb6
        have HB6 := Lib.hid (bt HBZ.out hb6)
        clear x1 hoz hb6
        go_wp2_with (at_builtin; refine wl_app8 rfl (.tmp 30) (.tmp 34) rfl rfl hoz6 rfl ho6.bs (by omega) HB6.out.size ?_; intro A7 n7 c7 w7 ho7 hb7 hg7; have HZ7 := Lib.hid (hz6.keepTy (by decide) (KeepTy.grown (S := [5]) hoz6.own (by decide) hg7 hb7.size)); have HB7 := Lib.hid (HB6.out.trans hb7); have x2 := HZ7.out.cellQ 2 _ rfl; have hn7 : n7 ≤ 10009 := by { have a1 := ho7.len; have a2 := hoz6.len; rw [List.length_append] at a1; omega }; clear hz6 hoz6 ho6 hb7 hg7)
        (with_reducible refine (rnum_int s.lk w7 HSO.out.lk0 (by have := HSO.out.lk1; omega)).mono ?_)
        rintro e w8 ⟨A8, n8, c8, rfl, ho8, hb8⟩
        have hn8 : n8 ≤ 9 := by have := ho8.len; omega
        have hz8 := HZ7.out.belowS hb8 (Nat.le_refl _)
        have ho78 := ho7.keep hb8
        have HB8 := Lib.hid (bt HB7.out hb8)
        clear x2 ho7 hb8
        go_wp2_with (at_builtin; refine wl_app8 rfl (.tmp 36) (.tmp 39) rfl rfl ho78 rfl ho8.bs (by omega) HB8.out.size ?_; intro A9 n9 c9 w9 ho9 hb9 hg9; have HZ9 := Lib.hid (hz8.keepTy (by decide) (KeepTy.grown (S := [5]) ho78.own (by decide) hg9 hb9.size)); have HB9 := Lib.hid (HB8.out.trans hb9); have x3 := HZ9.out.cellQ 3 _ rfl; have hn9 : n9 ≤ 10018 := by { have a1 := ho9.len; have a2 := ho78.len; rw [List.length_append] at a1; omega }; clear hz8 ho78 ho8 hb9 hg9; (go_wp2_with (at_builtin; refine wl_appS rfl (.tmp 41) (.tmp 43) rfl rfl ho9 rfl (by omega) HB9.out.size ?_; intro AX nX cX wX hoX hbX _; have HOX := Lib.hid (show Own8 wX wy.heap.size AX nX cX (h.till (k + 1)) by rw [HT.out]; exact hoX); have HBX := Lib.hid (HB9.out.trans hbX); clear ho9 hoX hbX x3)))
        go_roundw
        case rel => exact ⟨k + 1, nX, cX, AX, rfl, by go_num, by omega, HOX.out, HBX⟩
        case measure => simp [intOf]; omega
      · obtain rfl : k = n := by omega
        have HF := Lib.hid (Hd.H.till_all HS.out.len)
        have HBE := Lib.hid (bt HBY.out HBR.out)
        go_wp2
        go_ret
        exact ⟨A', n', c', rfl, by rw [← HF.out]; exact ho.base (by omega), HBE.out⟩
end Go.Proofs.YtfgpaepdlmnhaaaDoor
