/- MReplyA: several texts of this claim in one file. No statement of the seat is proved here. -/
import Derived.Test.YteoledjllpgcbaaGreatDoorMHeadD
import Derived.Test.YteoledjllpgcbaaGreatDoorMSealA
namespace Go.Proofs.YteoledjllpgcbaaGreatDoor
set_option maxRecDepth 100000
set_option maxHeartbeats 64000000
set_option linter.unusedVariables false
open Go.RowKit
namespace Hd
end Hd
theorem OwnS.keepTy {S : List TypeId} {w w' : World} {B n c : Nat} {A : Option Addr} {l : List (List UInt8)} (h : OwnS w B A n c l) (he : 9 ∉ S) (k : KeepTy S w w') : OwnS w' B A n c l := ⟨own_keepTy h.own he k, h.len, h.cap, h.max⟩
section
variable {ops : Array Oper} {rest : List Oper} {o : Oper} {a : Act} {Q : Exit → Act → World → Prop} {w : World}
theorem wl_appS1k (hgd : o.guard = none) (s x : Operand) (ho : o.op = .call { callee := .builtin .append, args := #[s, x], argTypes := #[27, 27] })
  {w0 : World} {B : Nat} {A : Option Addr} {n c : Nat} {l : List (List UInt8)} (hs : a.eval s = .slice A n c) (h1 : OwnS w0 B A n c l)
  (hx : a.eval x = .slice (some ⟨w0.heap.size, 0, none⟩) 1 1) (b : List UInt8) (hsz : n ≤ 1000000000000) (hB : B ≤ w0.heap.size)
  (h : ∀ A' n' c' w', OwnS w' B A' n' c' (l ++ [b]) → (w0.alloc (.cells #[sv b] 9)).grownBy w' (Value.slice A n c).ownBlock → Below B (w0.alloc (.cells #[sv b] 9)) w' → wpList Tryz.prog ops Q rest (a.put o.dst (.slice A' n' c')) w') : wpList Tryz.prog ops Q (o :: rest) a (w0.alloc (.cells #[sv b] 9)) := by
 have hb0 : Below w0.heap.size w0 (w0.alloc (.cells #[sv b] 9)) := (Below.refl _ w0).alloc (Nat.le_refl _) _
 refine wl_app hgd s x 27 ho B 9 1 16 strsT _ n _ hs (h1.keep hb0).own (w0.heap.size + 1) (some ⟨w0.heap.size, 0, none⟩) 1 1 [sv b] hx (rd_new w0 [sv b] 9 (0, 0)) rfl (by simp [Value.oneCell']) (by rw [maxLen_eq]; omega) (by omega) (Nat.le_trans hB hb0.size) fun A' c' w' g1 g2 _ g4 g5 g6 => ?_
 exact h A' (n + 1) c' w' ⟨by rw [List.map_append]; exact g1, by rw [List.length_append, h1.len]; rfl, g5, g6⟩ g2 g4
end
namespace Hd
end Hd
structure Ty8 (w : World) (B : Nat) (A : Option Addr) (n c : Nat) (l : List UInt8) : Prop where
 bs : Bs w A n c l
 blk : ∀ p, A = some p → l ≠ [] → B ≤ p.block ∧ ∃ cs fr, w.heap[p.block]? = some (.cells cs 5 fr)
section
variable {P : Program} {ops : Array Oper} {rest : List Oper} {o : Oper} {a : Act} {Q : Exit → Act → World → Prop} {w : World}
theorem wl_bytesT (hgd : o.guard = none) (src dst : TypeId) (x : Operand) (ho : o.op = .convert src dst x) (hs : P.underlying src = some .string) (hd : P.underlying dst = some (.slice 5)) (he : P.underlying 5 = some (.int .u8))
  (l : List UInt8) (hx : a.eval x = .string (str l)) (hl : l.length ≤ maxLen)
  (h : ∀ A c w', Ty8 w' w.heap.size A l.length c l → Below w.heap.size w w' → wpList P ops Q rest (a.put o.dst (.slice A l.length c)) w') : wpList P ops Q (o :: rest) a w := by
 refine wpList_plain hgd fun K hK => ?_
 have hrun := run_bytes_of_string (P := P) w src dst 5 (str l) hs hd he
 unfold Oper.wp execOp
 simp only [ho, Sem.run_bind, Sem.run_pure, hx, hrun, Result.andThen_ok]
 refine hK _ _ ?_
 have hge := grownCap_ge w (str l).size 0 5
 have hle := grownCap_le_maxLen w (str l).size 0 5 (by rw [str_size]; exact hl)
 generalize grownCap w (str l).size 0 5 = cap at hge hle ⊢
 rw [str_size] at hge ⊢
 refine h _ _ _ ⟨⟨fun _ => ⟨w.heap.size, 0, rfl, by unfold World.alloc World.drew; simp, fun j v hv => ?_⟩, rfl, hge, hle⟩, fun p hp _ => ?_⟩ ((Below.refl _ w).drew.alloc (Nat.le_refl _) _)
 ·
  rw [List.getElem?_map] at hv
  have hj : j < l.length := by
   rcases Nat.lt_or_ge j l.length with h1 | h1
   · exact h1
   · rw [List.getElem?_eq_none h1] at hv; cases hv
  have hb := bytesRow_at (str l) cap j (by simpa [str] using hj)
  rw [Nat.zero_add]
  show (w.drew.alloc _).cell? ⟨w.drew.heap.size, j, none⟩ = _
  rw [cell_of_row _ _ _ _ _ _ (heap_alloc_new w.drew _), hb]
  rw [List.getElem?_eq_getElem hj] at hv
  injection hv with hv
  rw [← hv]
  rfl
 ·
  injection hp with hp
  subst hp
  exact ⟨Nat.le_refl _, _, _, heap_alloc_new w.drew _⟩
end
section
variable {w W W' : World} {B g : Nat} {l : List UInt8} {s s' : Hd.RS} {gr : Nat} {zs : Array Value} {t : TypeId}
end
namespace Hd
end Hd
end Go.Proofs.YteoledjllpgcbaaGreatDoor
