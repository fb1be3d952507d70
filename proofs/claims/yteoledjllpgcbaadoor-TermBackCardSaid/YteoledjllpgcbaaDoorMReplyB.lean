/- MReplyB: several texts of this claim in one file. No statement of the seat is proved here. -/
import Derived.Test.YteoledjllpgcbaaDoorMReplyA
namespace Go.Proofs.YteoledjllpgcbaaDoor
set_option maxRecDepth 100000
set_option maxHeartbeats 64000000
set_option linter.unusedVariables false
open Go.RowKit
namespace Hd
structure WS where
 l : By
 bad : Bool
def wNum (s : WS) (v : Int) : WS := if 0 ≤ v ∧ v ≤ 4611686018427387904 then ⟨s.l ++ Code.num v.toNat, s.bad⟩ else ⟨s.l, true⟩
def wText (s : WS) (b : By) (most : Nat) : WS := if most < b.length then ⟨s.l, true⟩ else ⟨s.l ++ Code.text b, s.bad⟩
theorem wNum_len (s : WS) (v : Int) : (wNum s v).l.length ≤ s.l.length + 9 := by
 unfold wNum
 split
 ·
  have := Code.num_len9 v.toNat (by omega)
  rw [List.length_append]
  omega
 · simp
theorem wText_len (s : WS) (b : By) (most : Nat) (hm : most ≤ 1000000) : (wText s b most).l.length ≤ s.l.length + most + 9 := by
 unfold wText
 split
 · simp; omega
 ·
  have := text_len b (by omega)
  rw [List.length_append]
  omega
end Hd
theorem Own8.above {w w' : World} {b n c : Nat} {A : Option Addr} {l : List UInt8} (h : Own8 w b A n c l) (hx : FreeP.Above b w w') : Own8 w' b A n c l := by
 refine ⟨⟨h.own.1, ?_⟩, h.len, h.cap, h.max⟩
 rcases h.own.2 with h1 | ⟨g, cap, cur, h1, h2, h3, h4⟩
 · exact .inl h1
 · exact .inr ⟨g, cap, cur, h1, h2, hx.2 g _ h2 h3, h4⟩
def FreeP.x8 (b : Nat) (l : List UInt8) : FreeP.SX [] b := ⟨⟨fun v w => ∃ A n c, v = .slice A n c ∧ Own8 w b A n c l, fun v w w' ⟨A, n, c, h1, h2⟩ g => ⟨A, n, c, h1, h2.keep g⟩, fun v w w' ⟨A, n, c, h1, h2⟩ g => ⟨A, n, c, h1, h2.keepTy (by simp) g⟩⟩, fun v w w' ⟨A, n, c, h1, h2⟩ g => ⟨A, n, c, h1, h2.above g⟩⟩
def FreeP.k8 (B : Nat) (l : List UInt8) : FreeP.SV [] := ⟨fun v w => ∃ A n c, v = .slice A n c ∧ Own8 w B A n c l, fun v w w' ⟨A, n, c, h1, h2⟩ g => ⟨A, n, c, h1, h2.keep g⟩, fun v w w' ⟨A, n, c, h1, h2⟩ g => ⟨A, n, c, h1, h2.keepTy (by simp) g⟩⟩
theorem Own8.blk {w : World} {B n c : Nat} {A : Option Addr} {l : List UInt8} (h : Own8 w B A n c l) : ∀ g, (Value.slice A n c).ownBlock = some g → g < w.heap.size := fun g hg => by
 rcases h.own.2 with ⟨hv, h0⟩ | ⟨b, cap, cur, hv, h1, h2, _⟩
 · rw [hv] at hg; cases hg
 ·
  rw [hv] at hg
  simp only [Value.ownBlock, Option.some.injEq] at hg
  subst hg
  exact heap_ltT h2
section
variable {w W W' : World} {B g n c : Nat} {A : Option Addr} {bad : Bool} {l : List UInt8} {k : Nat}
end
namespace Hd
def wEnd (s : WS) : Except Nat By := if s.bad = true then .error 1 else if 1048576 < s.l.length then .error 3 else .ok s.l
def wHead (s : WS) (h : H) : WS := match h.wr with
 | none => ⟨s.l, true⟩
 | some b => wText s b 10000
theorem wHead_len (s : WS) (h : H) : (wHead s h).l.length ≤ s.l.length + 10009 := by
 unfold wHead
 cases h.wr with
 | none => simp
 | some b => exact wText_len s b 10000 (by omega)
def wDigs (s : WS) : List By → WS
 | [] => s
 | d :: ds => if d.length = 32 then wDigs ⟨s.l ++ d, s.bad⟩ ds else ⟨s.l, true⟩
def wPath (s : WS) (L : List By) : WS := if 64 < L.length then ⟨s.l, true⟩ else wDigs (wNum s (L.length : Int)) L
theorem wDigs_len : ∀ (L : List By) (s : WS), (wDigs s L).l.length ≤ s.l.length + 32 * L.length
 | [], s => by simp [wDigs]
 | d :: L, s => by
  unfold wDigs
  split
  ·
   have := wDigs_len L ⟨s.l ++ d, s.bad⟩
   simp only [List.length_append, List.length_cons] at this ⊢
   omega
  · simp
theorem wPath_len (s : WS) (L : List By) : (wPath s L).l.length ≤ s.l.length + 2057 := by
 unfold wPath
 split
 · simp
 ·
  have h1 := wDigs_len L (wNum s (L.length : Int))
  have h2 := wNum_len s (L.length : Int)
  omega
end Hd
def FinPost (B : Nat) (r : Except Nat (List UInt8)) (w : World) (e : Ending) (w' : World) : Prop := w' = w ∧ match r with
 | .ok l => ∃ A n c, e = .returned (.tuple #[.slice A n c, .int .i64 0]) ∧ Own8 w B A n c l
 | .error x => e = .returned (.tuple #[.slice none 0 0, .int .i64 (x : Int)])
namespace Hd
structure Pg where
 h : H
 at_ : Int
 doc : By
 path : List By
structure Stp where
 old : H
 new : H
 proof : List By
def wrPage (p : Pg) : Except Nat By := wEnd (wPath (wText (wNum (wHead ⟨[2], false⟩ p.h) p.at_) p.doc 2000) p.path)
def wrStep (p : Stp) : Except Nat By := wEnd (wPath (wHead (wHead ⟨[3], false⟩ p.old) p.new) p.proof)
end Hd
def WrPost (r : Except Nat (List UInt8)) (w : World) (e : Ending) (w' : World) : Prop := Below w.heap.size w w' ∧ match r with
 | .ok l => ∃ A n c, e = .returned (.tuple #[.slice A n c, .int .i64 0]) ∧ Own8 w' w.heap.size A n c l
 | .error x => e = .returned (.tuple #[.slice none 0 0, .int .i64 (x : Int)])
namespace Hd
def rdPage (l : By) : Except Nat Pg :=
 if begX l 2 ≠ 0 then .error (begX l 2) else
 let a := stHead l ⟨1, 0⟩
 let b := stNum l a.1
 let c := stText l 2000 b.1
 let d := stPath l c.1
 if doneX l d.1 ≠ 0 then .error (doneX l d.1) else .ok ⟨a.2, (b.2 : Int), c.2, d.2⟩
def rdStep (l : By) : Except Nat Stp :=
 if begX l 3 ≠ 0 then .error (begX l 3) else
 let a := stHead l ⟨1, 0⟩
 let b := stHead l a.1
 let d := stPath l b.1
 if doneX l d.1 ≠ 0 then .error (doneX l d.1) else .ok ⟨a.2, b.2, d.2⟩
end Hd
section
variable {w W W' : World} {B g gr gp : Nat} {l : List UInt8} {s s' : Hd.RS} {zs ps : Array Value} {t : TypeId}
end
theorem KeepTy.setF {S : List TypeId} {x : Nat} {t : TypeId} (ht : t ∈ S) : ∀ (vs : List Value) {w : World} {cs : Array Value} (k : Nat), Row w x cs t → KeepTy S w (setFrom x w k vs)
 | [], w, _, _, _ => KeepTy.refl w
 | v :: vs, w, cs, k, h => (KeepTy.set h ht k v).trans (KeepTy.setF ht vs (k + 1) (h.set k v))
theorem OwnS.setF {w : World} {B n c : Nat} {A : Option Addr} {L : List (List UInt8)} (h : OwnS w B A n c L) {x : Nat} {cs : Array Value} {t : TypeId} (hx : Row w x cs t) (ht : t ≠ 9) (vs : List Value) (k : Nat) : OwnS (setFrom x w k vs) B A n c L := h.keepTy (S := [t]) (by simp only [List.mem_singleton]; exact Ne.symm ht) (KeepTy.setF (List.mem_singleton.2 rfl) vs k hx)
theorem Ty8.setF {w : World} {B n c : Nat} {A : Option Addr} {L : List UInt8} (h : Ty8 w B A n c L) {x : Nat} {cs : Array Value} {t : TypeId} (hx : Row w x cs t) (ht : t ≠ 5) (vs : List Value) (k : Nat) : Ty8 (setFrom x w k vs) B A n c L := h.keepTy (S := [t]) (by simp only [List.mem_singleton]; exact Ne.symm ht) (KeepTy.setF (List.mem_singleton.2 rfl) vs k hx)
end Go.Proofs.YteoledjllpgcbaaDoor
