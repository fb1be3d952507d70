/- MReplyC: several texts of this claim in one file. No statement of the seat is proved here. -/
import Derived.Test.YteoledjllpgcbaaDoorMReplyB
import Derived.Test.YteoledjllpgcbaaDoorMTreeA
namespace Go.Proofs.YteoledjllpgcbaaDoor
set_option maxRecDepth 100000
set_option maxHeartbeats 64000000
set_option linter.unusedVariables false
open Go.RowKit
def RetV (v : Value) (w : World) (e : Ending) (w' : World) : Prop := e = .returned v ∧ Below w.heap.size w w'
theorem size_alloc (w : World) (o : Obj) : (w.alloc o).heap.size = w.heap.size + 1 := by unfold World.alloc; simp
theorem OwnQ.setA {α : Type} {cs : α → List Value} {k : Nat} {e : TypeId} {w : World} {B n c : Nat} {A : Option Addr} {L : List α} (h : OwnQ cs k e w B A n c L) {x : Nat} {ds : Array Value} {t : TypeId} (hx : Row w x ds t) (ht : t ≠ e) (vs : List Value) (j : Nat) : OwnQ cs k e (setFrom x w j vs) B A n c L := h.keepTy (S := [t]) (by simp only [List.mem_singleton]; exact Ne.symm ht) (KeepTy.setF (List.mem_singleton.2 rfl) vs j hx)
section
variable {w W W' : World} {z g1 g2 g3 n c : Nat} {c1 c2 c3 : Array Value} {A : Option Addr} {L : List Hd.Sg} {k : Nat}
end
def Hd.H.great (h : Hd.H) : Bool := h.segs.any (fun s => decide (200 < s.rt.length)) || (decide (200 < h.segs.length) || decide (200 < h.log.length))
theorem Hd.H.great_no {h : Hd.H} (k : h.great = false) : (∀ s ∈ h.segs, s.rt.length ≤ 200) ∧ h.segs.length ≤ 200 ∧ h.log.length ≤ 200 := by
 unfold Hd.H.great at k
 simp only [Bool.or_eq_false_iff, decide_eq_false_iff_not, List.any_eq_false] at k
 refine ⟨fun s hs => ?_, by omega, by omega⟩
 have := k.1 s hs
 simp only [decide_eq_true_eq] at this
 omega
def Hd.pathsOk (L : List (List UInt8)) : Bool := decide (L.length ≤ 64) && Tree.all32 L
def Hd.pathB (L : List (List UInt8)) : List UInt8 := Code.num L.length ++ L.flatten
theorem flatten_le : ∀ (l : List (List UInt8)) (m : Nat), (∀ d ∈ l, d.length ≤ m) → l.flatten.length ≤ m * l.length
 | [], m, _ => by simp
 | d :: l, m, h => by
  rw [List.flatten_cons, List.length_append, List.length_cons, Nat.mul_succ]
  have h1 := h d (List.mem_cons_self ..)
  have h2 := flatten_le l m (fun x hx => h x (List.mem_cons_of_mem _ hx))
  omega
namespace Hd
def Pg.fair (p : Pg) : Bool := p.h.ok && (decide (0 ≤ p.at_) && (decide (p.at_ ≤ 4611686018427387904) && (decide (p.doc.length ≤ 2000) && pathsOk p.path)))
def Stp.fair (p : Stp) : Bool := p.old.ok && (p.new.ok && pathsOk p.proof)
def Pg.bytes (p : Pg) : By := ((([2] ++ Code.text p.h.bytes) ++ Code.num p.at_.toNat) ++ Code.text p.doc) ++ pathB p.path
def Stp.bytes (p : Stp) : By := (([3] ++ Code.text p.old.bytes) ++ Code.text p.new.bytes) ++ pathB p.proof
end Hd
structure At_page (w : World) (A : Option Addr) (n c : Nat) (Ad : Option Addr) (nd cd : Nat) (Ap : Option Addr) (np cp : Nat) (p : Hd.Pg) : Prop where
 qh : Sq sgc 4 w A n c p.h.segs
 rh : ∀ s ∈ p.h.segs, s.rt.length ≤ 1000
 lh : p.h.log.length ≤ 1000
 nh : p.h.segs.length ≤ 1000
 lat_ : -9223372036854775808 ≤ p.at_ ∧ p.at_ ≤ 9223372036854775807
 qdoc : Bs w Ad nd cd p.doc
 ldoc : p.doc.length ≤ 100000
 qpath : Ss w Ap np cp p.path
 lpath : ∀ d ∈ p.path, d.length ≤ 1000
 npath : p.path.length ≤ 1000
theorem At_page.keep {w w' : World} {A : Option Addr} {n c : Nat} {Ad : Option Addr} {nd cd : Nat} {Ap : Option Addr} {np cp : Nat} {p : Hd.Pg} (h : At_page w A n c Ad nd cd Ap np cp p) (hb : Below w.heap.size w w') : At_page w' A n c Ad nd cd Ap np cp p := ⟨h.qh.keep hb, h.rh, h.lh, h.nh, h.lat_, h.qdoc.keep hb, h.ldoc, h.qpath.keep hb, h.lpath, h.npath⟩
structure At_step (w : World) (A : Option Addr) (n c : Nat) (Ad : Option Addr) (nd cd : Nat) (Ap : Option Addr) (np cp : Nat) (p : Hd.Stp) : Prop where
 qold : Sq sgc 4 w A n c p.old.segs
 rold : ∀ s ∈ p.old.segs, s.rt.length ≤ 1000
 lold : p.old.log.length ≤ 1000
 nold : p.old.segs.length ≤ 1000
 qnew : Sq sgc 4 w Ad nd cd p.new.segs
 rnew : ∀ s ∈ p.new.segs, s.rt.length ≤ 1000
 lnew : p.new.log.length ≤ 1000
 nnew : p.new.segs.length ≤ 1000
 qproof : Ss w Ap np cp p.proof
 lproof : ∀ d ∈ p.proof, d.length ≤ 1000
 nproof : p.proof.length ≤ 1000
theorem At_step.keep {w w' : World} {A : Option Addr} {n c : Nat} {Ad : Option Addr} {nd cd : Nat} {Ap : Option Addr} {np cp : Nat} {p : Hd.Stp} (h : At_step w A n c Ad nd cd Ap np cp p) (hb : Below w.heap.size w w') : At_step w' A n c Ad nd cd Ap np cp p := ⟨h.qold.keep hb, h.rold, h.lold, h.nold, h.qnew.keep hb, h.rnew, h.lnew, h.nnew, h.qproof.keep hb, h.lproof, h.nproof⟩
end Go.Proofs.YteoledjllpgcbaaDoor
