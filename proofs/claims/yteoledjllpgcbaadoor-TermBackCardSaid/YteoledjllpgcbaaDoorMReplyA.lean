/- MReplyA: several texts of this claim in one file. No statement of the seat is proved here. -/
import Derived.Test.YteoledjllpgcbaaDoorMHeadD
import Derived.Test.YteoledjllpgcbaaDoorMSealA
namespace Go.Proofs.YteoledjllpgcbaaDoor
set_option maxRecDepth 100000
set_option maxHeartbeats 64000000
set_option linter.unusedVariables false
open Go.RowKit
namespace Hd
def stCount (l : By) (most : Nat) (s : RS) : RS × Nat := if most < (stNum l s).2 then (⟨(stNum l s).1.at_, 2⟩, 0) else stNum l s
end Hd
theorem KeepTy.grownFar {S : List TypeId} {w w1 w2 : World} (k : KeepTy S w w1) {B n size : Nat} {v : Value} {xs : List Value} {e : TypeId} (ho : w1.ownsRow B e size v n xs) (hB : w.heap.size ≤ B) (hg : w1.grownBy w2 v.ownBlock) (hs : w1.heap.size ≤ w2.heap.size) : KeepTy S w w2 := by
 refine ⟨Nat.le_trans k.size hs, fun b o h1 h2 => ?_⟩
 have hlt := heap_ltT h1
 have h3 := k.block b o h1 h2
 rw [hg.block b (heap_ltT h3) (fun e => ?_)]
 · exact h3
 ·
  rcases ho.2 with ⟨rfl, _⟩ | ⟨g, cap, cur, rfl, h4, _⟩
  · cases e
  ·
   simp only [Value.ownBlock, Option.some.injEq] at e
   omega
theorem OwnS.keepTy {S : List TypeId} {w w' : World} {B n c : Nat} {A : Option Addr} {l : List (List UInt8)} (h : OwnS w B A n c l) (he : 9 ∉ S) (k : KeepTy S w w') : OwnS w' B A n c l := ⟨own_keepTy h.own he k, h.len, h.cap, h.max⟩
section
variable {ops : Array Oper} {rest : List Oper} {o : Oper} {a : Act} {Q : Exit → Act → World → Prop} {w : World}
theorem wl_appS1k (hgd : o.guard = none) (s x : Operand) (ho : o.op = .call { callee := .builtin .append, args := #[s, x], argTypes := #[27, 27] })
  {w0 : World} {B : Nat} {A : Option Addr} {n c : Nat} {l : List (List UInt8)} (hs : a.eval s = .slice A n c) (h1 : OwnS w0 B A n c l)
  (hx : a.eval x = .slice (some ⟨w0.heap.size, 0, none⟩) 1 1) (b : List UInt8) (hsz : n ≤ 1000000000000) (hB : B ≤ w0.heap.size)
  (h : ∀ A' n' c' w', OwnS w' B A' n' c' (l ++ [b]) → (w0.alloc (.cells #[sv b] 9)).grownBy w' (Value.slice A n c).ownBlock → Below B (w0.alloc (.cells #[sv b] 9)) w' → wpList Tryd.prog ops Q rest (a.put o.dst (.slice A' n' c')) w') : wpList Tryd.prog ops Q (o :: rest) a (w0.alloc (.cells #[sv b] 9)) := by
 have hb0 : Below w0.heap.size w0 (w0.alloc (.cells #[sv b] 9)) := (Below.refl _ w0).alloc (Nat.le_refl _) _
 refine wl_app hgd s x 27 ho B 9 1 16 strsT _ n _ hs (h1.keep hb0).own (w0.heap.size + 1) (some ⟨w0.heap.size, 0, none⟩) 1 1 [sv b] hx (rd_new w0 [sv b] 9 (0, 0)) rfl (by simp [Value.oneCell']) (by rw [maxLen_eq]; omega) (by omega) (Nat.le_trans hB hb0.size) fun A' c' w' g1 g2 _ g4 g5 g6 => ?_
 exact h A' (n + 1) c' w' ⟨by rw [List.map_append]; exact g1, by rw [List.length_append, h1.len]; rfl, g5, g6⟩ g2 g4
end
namespace Hd
def stDK (l : By) (s0 : RS) : Nat → RS × List By
 | 0 => (s0, [])
 | k + 1 => ((stDig l (stDK l s0 k).1).1, (stDK l s0 k).2 ++ [(stDig l (stDK l s0 k).1).2])
theorem stDK_len (l : By) (s0 : RS) : ∀ k, (stDK l s0 k).2.length = k
 | 0 => rfl
 | k + 1 => by simp only [stDK, List.length_append, stDK_len l s0 k, List.length_singleton]
theorem stDK_32 (l : By) (s0 : RS) : ∀ k, ∀ d ∈ (stDK l s0 k).2, d.length ≤ 32
 | 0, s, hs => by simp [stDK] at hs
 | k + 1, s, hs => by
  simp only [stDK] at hs
  rcases List.mem_append.1 hs with hs | hs
  · exact stDK_32 l s0 k s hs
  · rw [List.mem_singleton.1 hs]; exact stDig_len
def stPath (l : By) (s : RS) : RS × List By := stDK l (stCount l 64 s).1 (stCount l 64 s).2
theorem stCount_le (l : By) (m : Nat) (s : RS) : (stCount l m s).2 ≤ m := by
 unfold stCount
 split
 · exact Nat.zero_le _
 · omega
end Hd
def isS (b : Nat) (L : List (List UInt8)) (v : Value) (w : World) : Prop := ∃ A n c, v = .slice A n c ∧ OwnS w b A n c L
def begX (l : List UInt8) (kind : UInt8) : Nat := if 1048576 < l.length then 3 else match l with
 | [] => 4
 | b :: _ => if b = kind then 0 else 2
structure Ty8 (w : World) (B : Nat) (A : Option Addr) (n c : Nat) (l : List UInt8) : Prop where
 bs : Bs w A n c l
 blk : ∀ p, A = some p → l ≠ [] → B ≤ p.block ∧ ∃ cs fr, w.heap[p.block]? = some (.cells cs 5 fr)
theorem Ty8.keepTy {S : List TypeId} {w w' : World} {B n c : Nat} {A : Option Addr} {l : List UInt8} (h : Ty8 w B A n c l) (hS : 5 ∉ S) (k : KeepTy S w w') : Ty8 w' B A n c l := by
 have hk : ∀ p, A = some p → l ≠ [] → w'.heap[p.block]? = w.heap[p.block]? := fun p hp hl => by
  obtain ⟨_, cs, fr, e⟩ := h.blk p hp hl
  rw [e]
  exact k.block _ _ e fun e2 cs2 fr2 e3 => by injection e3 with _ e4; rw [← e4]; exact hS
 exact ⟨h.bs.keepB k.size hk, fun p hp hl => by obtain ⟨h1, cs, fr, e⟩ := h.blk p hp hl; exact ⟨h1, cs, fr, by rw [hk p hp hl]; exact e⟩⟩
theorem Ty8.keep {w w' : World} {B n c : Nat} {A : Option Addr} {l : List UInt8} (h : Ty8 w B A n c l) (hb : Below w.heap.size w w') : Ty8 w' B A n c l := h.keepTy (S := []) (by simp) (KeepTy.of hb)
theorem Ty8.base {w : World} {B B' n c : Nat} {A : Option Addr} {l : List UInt8} (h : Ty8 w B A n c l) (hB : B' ≤ B) : Ty8 w B' A n c l := ⟨h.bs, fun p hp hl => ⟨Nat.le_trans hB (h.blk p hp hl).1, (h.blk p hp hl).2⟩⟩
section
variable {P : Program} {ops : Array Oper} {rest : List Oper} {o : Oper} {a : Act} {Q : Exit → Act → World → Prop} {w : World}
theorem wl_bytesT (hgd : o.guard = none) (src dst : TypeId) (x : Operand) (ho : o.op = .convert src dst x) (hs : P.underlying src = some .string) (hd : P.underlying dst = some (.slice 5)) (he : P.underlying 5 = some (.int .u8))
  (l : List UInt8) (hx : a.eval x = .string (str l)) (hl : l.length ≤ maxLen)
  (h : ∀ A c w', Ty8 w' w.heap.size A l.length c l → Below w.heap.size w w' → wpList P ops Q rest (a.put o.dst (.slice A l.length c)) w') : wpList P ops Q (o :: rest) a w := by
 refine wpList_plain hgd fun K hK => ?_
 have hrun := run_bytes_of_string (P := P) w src dst 5 (str l) hs hd he
 unfold Oper.wp execOp
 simp only [ho, Sem.run_bind, Sem.run_pure, hx, hrun, Result.andThen_ok]
 refine hK _ _ ?_
 have hge := grownCap_ge w (str l).size 0 5
 have hle := grownCap_le_maxLen w (str l).size 0 5 (by rw [str_size]; exact hl)
 generalize grownCap w (str l).size 0 5 = cap at hge hle ⊢
 rw [str_size] at hge ⊢
 refine h _ _ _ ⟨⟨fun _ => ⟨w.heap.size, 0, rfl, by unfold World.alloc World.drew; simp, fun j v hv => ?_⟩, rfl, hge, hle⟩, fun p hp _ => ?_⟩ ((Below.refl _ w).drew.alloc (Nat.le_refl _) _)
 ·
  rw [List.getElem?_map] at hv
  have hj : j < l.length := by
   rcases Nat.lt_or_ge j l.length with h1 | h1
   · exact h1
   · rw [List.getElem?_eq_none h1] at hv; cases hv
  have hb := bytesRow_at (str l) cap j (by simpa [str] using hj)
  rw [Nat.zero_add]
  show (w.drew.alloc _).cell? ⟨w.drew.heap.size, j, none⟩ = _
  rw [cell_of_row _ _ _ _ _ _ (heap_alloc_new w.drew _), hb]
  rw [List.getElem?_eq_getElem hj] at hv
  injection hv with hv
  rw [← hv]
  rfl
 ·
  injection hp with hp
  subst hp
  exact ⟨Nat.le_refl _, _, _, heap_alloc_new w.drew _⟩
end
section
variable {w W W' : World} {B g : Nat} {l : List UInt8} {s s' : Hd.RS} {gr : Nat} {zs : Array Value} {t : TypeId}
end
namespace Hd
def h00 : H := ⟨0, [], []⟩
def stHead (l : By) (s : RS) : RS × H := if (stText l 10000 s).1.x ≠ 0 then ((stText l 10000 s).1, h00) else match rdHd (stText l 10000 s).2 with
 | .ok h => (⟨(stText l 10000 s).1.at_, 0⟩, h)
 | .error x => (⟨(stText l 10000 s).1.at_, x⟩, h00)
theorem stText_len (l : By) (most : Nat) (s : RS) : (stText l most s).2.length ≤ most := by
 unfold stText
 split
 ·
  cases hg : Code.getText most (l.drop s.at_) with
  | error e => exact Nat.zero_le _
  | ok r =>
   obtain ⟨v, k⟩ := r
   have := (Code.getText_ok hg).2.2.2.1
   show v.length ≤ most
   omega
 · exact Nat.zero_le _
end Hd
def Hd.hOf : Except Nat Hd.H → Hd.H
 | .ok h => h
 | .error _ => Hd.h00
def Hd.xOf {α : Type} : Except Nat α → Nat
 | .ok _ => 0
 | .error x => x
end Go.Proofs.YteoledjllpgcbaaDoor
