/- MHeadB: several texts of this claim in one file. No statement of the seat is proved here. -/
import Derived.Test.YteoledjllpgcbaaDoorMHeadP
import Derived.Test.YteoledjllpgcbaaDoorMHeadA
namespace Go.Proofs.YteoledjllpgcbaaDoor
set_option maxRecDepth 100000
set_option maxHeartbeats 64000000
set_option linter.unusedVariables false
open Go.RowKit
structure KeepTy (S : List TypeId) (w w' : World) : Prop where
 size : w.heap.size ≤ w'.heap.size
 block : ∀ (b : Nat) (o : Obj), w.heap[b]? = some o → (∀ e cs fr, o = .cells cs e fr → e ∉ S) → w'.heap[b]? = some o
variable {S : List TypeId} {w w' w2 : World}
theorem KeepTy.refl (w : World) : KeepTy S w w := ⟨Nat.le_refl _, fun _ _ h _ => h⟩
theorem KeepTy.trans (h : KeepTy S w w') (k : KeepTy S w' w2) : KeepTy S w w2 := ⟨Nat.le_trans h.size k.size, fun b o h1 h2 => k.block b o (h.block b o h1 h2) h2⟩
theorem KeepTy.more {S' : List TypeId} (h : KeepTy S w w') (hs : ∀ e ∈ S, e ∈ S') : KeepTy S' w w' := ⟨h.size, fun b o h1 h2 => h.block b o h1 fun e cs fr ee hm => h2 e cs fr ee (hs e hm)⟩
theorem heap_ltT {w : World} {b : Nat} {o : Obj} (h : w.heap[b]? = some o) : b < w.heap.size := (Array.getElem?_eq_some_iff.1 h).1
theorem KeepTy.of (h : Below w.heap.size w w') : KeepTy S w w' := ⟨h.size, fun b o h1 _ => by rw [h.block b (heap_ltT h1)]; exact h1⟩
theorem KeepTy.set {x : Nat} {cs : Array Value} {t : TypeId} (h : Row w x cs t) (ht : t ∈ S) (j : Nat) (u : Value) : KeepTy S w (w.setCell ⟨x, j, none⟩ u) := by
 refine ⟨by rw [World.size_setCell]; exact Nat.le_refl _, fun b o h1 h2 => ?_⟩
 have hne : b ≠ x := fun e => by
  subst e
  unfold Row at h
  rw [h] at h1
  injection h1 with h1
  exact h2 _ _ _ h1.symm ht
 rw [Below.heap_setCell _ _ _ _ hne]; exact h1
theorem KeepTy.grown {B n size : Nat} {v : Value} {xs : List Value} {t : TypeId} (h : w.ownsRow B t size v n xs) (ht : t ∈ S) (hg : w.grownBy w' v.ownBlock) (hs : w.heap.size ≤ w'.heap.size) : KeepTy S w w' := by
 refine ⟨hs, fun b o h1 h2 => ?_⟩
 rw [hg.block b (heap_ltT h1) (fun e => ?_)]
 · exact h1
 ·
  rcases h.2 with ⟨rfl, _⟩ | ⟨g, cap, cur, rfl, _, hh, _⟩
  · cases e
  ·
   simp only [Value.ownBlock, Option.some.injEq] at e
   rw [← e, h1] at hh
   injection hh with hh
   exact h2 _ _ _ hh ht
theorem Row.keepTy {b : Nat} {cs : Array Value} {t : TypeId} (h : Row w b cs t) (ht : t ∉ S) (k : KeepTy S w w') : Row w' b cs t := k.block b _ h fun e cs' fr ee => by injection ee with _ e2; rw [← e2]; exact ht
theorem own_keepTy {B : Nat} {e : TypeId} {size : Nat} {v : Value} {n : Nat} {xs : List Value} (h : w.ownsRow B e size v n xs) (he : e ∉ S) (k : KeepTy S w w') : w'.ownsRow B e size v n xs := by
 refine ⟨h.1, ?_⟩
 rcases h.2 with ⟨rfl, rfl⟩ | ⟨g, cap, cur, rfl, h1, h2, h3⟩
 · exact .inl ⟨rfl, rfl⟩
 · exact .inr ⟨g, cap, cur, rfl, h1, k.block g _ h2 (fun e2 cs' fr ee => by injection ee with _ e3; rw [← e3]; exact he), h3⟩
theorem Own8.keepTy {B n c : Nat} {A : Option Addr} {l : List UInt8} (h : Own8 w B A n c l) (he : 5 ∉ S) (k : KeepTy S w w') : Own8 w' B A n c l := ⟨own_keepTy h.own he k, h.len, h.cap, h.max⟩
theorem OwnQ.keepTy {α : Type} {cs : α → List Value} {k B n c : Nat} {e : TypeId} {A : Option Addr} {l : List α} (h : OwnQ cs k e w B A n c l) (he : e ∉ S) (kt : KeepTy S w w') : OwnQ cs k e w' B A n c l := ⟨own_keepTy h.own he kt, h.len, h.cap, h.max⟩
theorem Row.set1 {w : World} {b : Nat} {v : Value} {t : TypeId} (h : Row w b #[v] t) (u : Value) : Row (w.setCell ⟨b, 0, none⟩ u) b #[u] t := h.all [u] rfl
theorem row_ne {w : World} {a b : Nat} {cs ds : Array Value} {t u : TypeId} (h : Row w a cs t) (k : Row w b ds u) (hn : t ≠ u) : a ≠ b := fun e => by
 subst e
 unfold Row at h k
 rw [h] at k
 injection k with k
 injection k with _ k
 exact hn k
abbrev SW : List TypeId := [5, 28, 31]
structure HW (w : World) (B g1 g2 : Nat) (l : List UInt8) : Prop where
 ex : ∃ A n c, Row w g2 #[.slice A n c] 28 ∧ Own8 w B A n c l
 r1 : Row w g1 #[.int .i64 0] 31
 b1 : B ≤ g1
 b2 : B ≤ g2
theorem HW.keep {w w' : World} {B g1 g2 : Nat} {l : List UInt8} (h : HW w B g1 g2 l) (hb : Below w.heap.size w w') : HW w' B g1 g2 l := by
 obtain ⟨A, n, c, r2, ho⟩ := h.ex
 exact ⟨⟨A, n, c, r2.belowS hb (Nat.le_refl _), ho.keep hb⟩, h.r1.belowS hb (Nat.le_refl _), h.b1, h.b2⟩
def HWPost (B g1 g2 : Nat) (l : List UInt8) (w : World) (e : Ending) (w' : World) : Prop := (∃ v, e = .returned v) ∧ HW w' B g1 g2 l ∧ Below B w w' ∧ KeepTy SW w w'
theorem hw_put {w w1 : World} {B g1 g2 : Nat} {A A1 : Option Addr} {n c n1 c1 : Nat} {l1 : List UInt8} {v1 v2 : Value} (hB : B ≤ w.heap.size) (hb : Below w.heap.size w w1) (r1 : Row w1 g1 #[v1] 31) (r2 : Row w1 g2 #[v2] 28) (b1 : B ≤ g1) (b2 : B ≤ g2)
  (ho : Own8 w1 w.heap.size A1 n1 c1 l1) : HW ((w1.setCell ⟨g2, 0, none⟩ (.slice A1 n1 c1)).setCell ⟨g1, 0, none⟩ (.int .i64 0)) B g1 g2 l1 ∧ Below B w ((w1.setCell ⟨g2, 0, none⟩ (.slice A1 n1 c1)).setCell ⟨g1, 0, none⟩ (.int .i64 0)) ∧ KeepTy SW w ((w1.setCell ⟨g2, 0, none⟩ (.slice A1 n1 c1)).setCell ⟨g1, 0, none⟩ (.int .i64 0)) := by
 have k1 := KeepTy.set (S := [28]) r2 (by decide) 0 (.slice A1 n1 c1)
 have q1 := r1.keepTy (by decide) k1
 have q2 := r2.set1 (.slice A1 n1 c1)
 have o1 := (ho.base hB).keepTy (by decide) k1
 have k2 := KeepTy.set (S := [31]) q1 (by decide) 0 (.int .i64 0)
 refine ⟨⟨⟨A1, n1, c1, q2.keepTy (by decide) k2, o1.keepTy (by decide) k2⟩, q1.set1 _, b1, b2⟩, ((hb.mono hB).setCell (p := ⟨g2, 0, none⟩) b2 _).setCell (p := ⟨g1, 0, none⟩) b1 _, ((KeepTy.of hb).trans (k1.more (by decide))).trans (k2.more (by decide))⟩
theorem Hd.rowFrom_all : ∀ (l : List Hd.Sg) (a size : Int), Hd.rowFrom l a size = true → ∀ s ∈ l, s.ok = true
 | [], _, _, _, s, hs => by cases hs
 | x :: l, a, size, h, s, hs => by
  unfold Hd.rowFrom at h
  simp only [Bool.and_eq_true] at h
  rcases List.mem_cons.1 hs with rfl | hs
  · exact h.2.1
  · exact Hd.rowFrom_all l _ _ h.2.2 s hs
structure Hd.Sg.Ok (s : Hd.Sg) : Prop where
 to0 : 0 ≤ s.to
 to1 : s.to ≤ 1000
 lk0 : 0 ≤ s.lk
 lk1 : s.lk ≤ 1099511627776
 rt : s.rt.length = 32
theorem Hd.Sg.ok_iff {s : Hd.Sg} (h : s.ok = true) : s.Ok := by
 unfold Hd.Sg.ok Hd.w3 at h
 simp only [Bool.and_eq_true, decide_eq_true_eq] at h
 exact ⟨by omega, by omega, by omega, by omega, by omega⟩
structure Hd.H.Ok (h : Hd.H) : Prop where
 sz0 : 0 ≤ h.size
 sz1 : h.size ≤ 1000
 log : h.log.length = 32
 few : h.segs.length ≤ 64
 all : ∀ s ∈ h.segs, s.Ok
theorem Hd.H.ok_iff {h : Hd.H} (k : h.ok = true) : h.Ok := by
 unfold Hd.H.ok Hd.row at k
 simp only [Bool.and_eq_true, decide_eq_true_eq] at k
 exact ⟨k.1, k.2.1, k.2.2.1, k.2.2.2.1, fun s hs => Hd.Sg.ok_iff (Hd.rowFrom_all _ _ _ k.2.2.2.2 s hs)⟩
theorem Hd.Sg.bytes_len {s : Hd.Sg} (h : s.Ok) : s.bytes.length ≤ 50 := by
 unfold Hd.Sg.bytes
 have h1 := Code.num_len9 s.to.toNat (by have := h.to1; omega)
 have h2 := Code.num_len9 s.lk.toNat (by have := h.lk1; omega)
 have h3 := h.rt
 rw [List.length_append, List.length_append]; omega
theorem Hd.flat_len : ∀ (l : List Hd.Sg), (∀ s ∈ l, s.Ok) → (l.flatMap Hd.Sg.bytes).length ≤ l.length * 50
 | [], _ => by simp
 | s :: l, h => by
  rw [List.flatMap_cons, List.length_append, List.length_cons, Nat.succ_mul]
  have h1 := Hd.Sg.bytes_len (h s (List.mem_cons_self ..))
  have h2 := Hd.flat_len l (fun x hx => h x (List.mem_cons_of_mem _ hx))
  omega
def Hd.H.till (h : Hd.H) (k : Nat) : Hd.By := Code.num h.size.toNat ++ (h.log ++ (Code.num h.segs.length ++ (h.segs.take k).flatMap Hd.Sg.bytes))
theorem Hd.H.till_len {h : Hd.H} (ok : h.Ok) (k : Nat) : (h.till k).length ≤ 10000 := by
 unfold Hd.H.till
 have h1 := Code.num_len9 h.size.toNat (by have := ok.sz1; omega)
 have h2 := Code.num_len9 h.segs.length (by have := ok.few; omega)
 have h3 := ok.log
 have h4 := Hd.flat_len (h.segs.take k) (fun s hs => ok.all s (List.mem_of_mem_take hs))
 have h5 : (h.segs.take k).length ≤ 64 := by have := ok.few; rw [List.length_take]; omega
 rw [List.length_append, List.length_append, List.length_append]; omega
theorem Hd.H.till_all {h : Hd.H} {k : Nat} (hk : h.segs.length = k) : h.till k = h.bytes := by
 unfold Hd.H.till Hd.H.bytes
 rw [List.take_of_length_le (by omega)]
theorem Hd.H.till_succ {h : Hd.H} {k : Nat} {s : Hd.Sg} (hs : h.segs[k]? = some s) : h.till (k + 1) = ((h.till k ++ Code.num s.to.toNat) ++ Code.num s.lk.toNat) ++ s.rt := by
 unfold Hd.H.till
 rw [List.take_add_one, hs]
 simp [Hd.Sg.bytes]
theorem Hd.H.till_zero (h : Hd.H) : h.till 0 = ([] ++ Code.num h.size.toNat ++ h.log) ++ Code.num h.segs.length := by
 unfold Hd.H.till
 simp
def WPost (o : Option (List UInt8)) (w : World) (e : Ending) (w' : World) : Prop := match o with
 | some l => ∃ A n c, e = .returned (.tuple #[.slice A n c, .int .i64 0]) ∧ Own8 w' w.heap.size A n c l ∧ Below w.heap.size w w'
 | none => e = .returned (.tuple #[.slice none 0 0, .int .i64 1]) ∧ Below w.heap.size w w'
def Hd.H.wr (h : Hd.H) : Option (List UInt8) := if h.ok = true then some h.bytes else none
def Free.kE (B : Nat) (l : List UInt8) : Free.SV := ⟨fun v w => ∃ A n c, v = .slice A n c ∧ Own8 w B A n c l, fun v w w' ⟨A, n, c, h1, h2⟩ g => ⟨A, n, c, h1, h2.keep g⟩⟩
end Go.Proofs.YteoledjllpgcbaaDoor
