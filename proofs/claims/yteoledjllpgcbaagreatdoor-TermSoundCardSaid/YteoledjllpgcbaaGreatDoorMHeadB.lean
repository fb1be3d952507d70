/- MHeadB: several texts of this claim in one file. No statement of the seat is proved here. -/
import Derived.Test.YteoledjllpgcbaaGreatDoorMHeadP
import Derived.Test.YteoledjllpgcbaaGreatDoorMHeadA
namespace Go.Proofs.YteoledjllpgcbaaGreatDoor
set_option maxRecDepth 100000
set_option maxHeartbeats 64000000
set_option linter.unusedVariables false
open Go.RowKit
structure KeepTy (S : List TypeId) (w w' : World) : Prop where
 size : w.heap.size ≤ w'.heap.size
 block : ∀ (b : Nat) (o : Obj), w.heap[b]? = some o → (∀ e cs fr, o = .cells cs e fr → e ∉ S) → w'.heap[b]? = some o
variable {S : List TypeId} {w w' w2 : World}
theorem KeepTy.refl (w : World) : KeepTy S w w := ⟨Nat.le_refl _, fun _ _ h _ => h⟩
theorem KeepTy.trans (h : KeepTy S w w') (k : KeepTy S w' w2) : KeepTy S w w2 := ⟨Nat.le_trans h.size k.size, fun b o h1 h2 => k.block b o (h.block b o h1 h2) h2⟩
theorem heap_ltT {w : World} {b : Nat} {o : Obj} (h : w.heap[b]? = some o) : b < w.heap.size := (Array.getElem?_eq_some_iff.1 h).1
theorem KeepTy.of (h : Below w.heap.size w w') : KeepTy S w w' := ⟨h.size, fun b o h1 _ => by rw [h.block b (heap_ltT h1)]; exact h1⟩
theorem KeepTy.set {x : Nat} {cs : Array Value} {t : TypeId} (h : Row w x cs t) (ht : t ∈ S) (j : Nat) (u : Value) : KeepTy S w (w.setCell ⟨x, j, none⟩ u) := by
 refine ⟨by rw [World.size_setCell]; exact Nat.le_refl _, fun b o h1 h2 => ?_⟩
 have hne : b ≠ x := fun e => by
  subst e
  unfold Row at h
  rw [h] at h1
  injection h1 with h1
  exact h2 _ _ _ h1.symm ht
 rw [Below.heap_setCell _ _ _ _ hne]; exact h1
theorem KeepTy.grown {B n size : Nat} {v : Value} {xs : List Value} {t : TypeId} (h : w.ownsRow B t size v n xs) (ht : t ∈ S) (hg : w.grownBy w' v.ownBlock) (hs : w.heap.size ≤ w'.heap.size) : KeepTy S w w' := by
 refine ⟨hs, fun b o h1 h2 => ?_⟩
 rw [hg.block b (heap_ltT h1) (fun e => ?_)]
 · exact h1
 ·
  rcases h.2 with ⟨rfl, _⟩ | ⟨g, cap, cur, rfl, _, hh, _⟩
  · cases e
  ·
   simp only [Value.ownBlock, Option.some.injEq] at e
   rw [← e, h1] at hh
   injection hh with hh
   exact h2 _ _ _ hh ht
theorem Row.keepTy {b : Nat} {cs : Array Value} {t : TypeId} (h : Row w b cs t) (ht : t ∉ S) (k : KeepTy S w w') : Row w' b cs t := k.block b _ h fun e cs' fr ee => by injection ee with _ e2; rw [← e2]; exact ht
theorem own_keepTy {B : Nat} {e : TypeId} {size : Nat} {v : Value} {n : Nat} {xs : List Value} (h : w.ownsRow B e size v n xs) (he : e ∉ S) (k : KeepTy S w w') : w'.ownsRow B e size v n xs := by
 refine ⟨h.1, ?_⟩
 rcases h.2 with ⟨rfl, rfl⟩ | ⟨g, cap, cur, rfl, h1, h2, h3⟩
 · exact .inl ⟨rfl, rfl⟩
 · exact .inr ⟨g, cap, cur, rfl, h1, k.block g _ h2 (fun e2 cs' fr ee => by injection ee with _ e3; rw [← e3]; exact he), h3⟩
theorem Own8.keepTy {B n c : Nat} {A : Option Addr} {l : List UInt8} (h : Own8 w B A n c l) (he : 5 ∉ S) (k : KeepTy S w w') : Own8 w' B A n c l := ⟨own_keepTy h.own he k, h.len, h.cap, h.max⟩
theorem OwnQ.keepTy {α : Type} {cs : α → List Value} {k B n c : Nat} {e : TypeId} {A : Option Addr} {l : List α} (h : OwnQ cs k e w B A n c l) (he : e ∉ S) (kt : KeepTy S w w') : OwnQ cs k e w' B A n c l := ⟨own_keepTy h.own he kt, h.len, h.cap, h.max⟩
theorem row_ne {w : World} {a b : Nat} {cs ds : Array Value} {t u : TypeId} (h : Row w a cs t) (k : Row w b ds u) (hn : t ≠ u) : a ≠ b := fun e => by
 subst e
 unfold Row at h k
 rw [h] at k
 injection k with k
 injection k with _ k
 exact hn k
structure HW (w : World) (B g1 g2 : Nat) (l : List UInt8) : Prop where
 ex : ∃ A n c, Row w g2 #[.slice A n c] 28 ∧ Own8 w B A n c l
 r1 : Row w g1 #[.int .i64 0] 31
 b1 : B ≤ g1
 b2 : B ≤ g2
def WPost (o : Option (List UInt8)) (w : World) (e : Ending) (w' : World) : Prop := match o with
 | some l => ∃ A n c, e = .returned (.tuple #[.slice A n c, .int .i64 0]) ∧ Own8 w' w.heap.size A n c l ∧ Below w.heap.size w w'
 | none => e = .returned (.tuple #[.slice none 0 0, .int .i64 1]) ∧ Below w.heap.size w w'
end Go.Proofs.YteoledjllpgcbaaGreatDoor
