/- MHeadD: several texts of this claim in one file. No statement of the seat is proved here. -/
import Derived.Test.YteoledjllpgcbaaGreatDoorMHeadC
import Derived.Test.YteoledjllpgcbaaGreatDoorMFreeP
import Derived.Laws.EntriesVeiled
namespace Go.Proofs.YteoledjllpgcbaaGreatDoor
set_option maxRecDepth 100000
set_option maxHeartbeats 64000000
set_option linter.unusedVariables false
open Go.RowKit
structure BsN (w : World) (B g : Nat) (A : Option Addr) (n c : Nat) (l : List UInt8) : Prop where
 bs : Bs w A n c l
 far : ∀ p, A = some p → l ≠ [] → p.block ≠ g
 src : (∀ p, A = some p → l ≠ [] → p.block < B) ∨ Own8 w B A n c l
theorem Bs.keepB {w w' : World} {A : Option Addr} {n c : Nat} {l : List UInt8} (h : Bs w A n c l) (hs : w.heap.size ≤ w'.heap.size) (hk : ∀ p, A = some p → l ≠ [] → w'.heap[p.block]? = w.heap[p.block]?) : Bs w' A n c l := by
 refine ⟨fun hn => ?_, h.len, h.cap, h.max⟩
 obtain ⟨b, off, e, hb, hc⟩ := h.rd hn
 have hl : l ≠ [] := fun e => hn (by rw [e]; rfl)
 have := hk _ e hl
 refine ⟨b, off, e, by omega, fun k v hv => ?_⟩
 have h1 := hc k v hv
 unfold World.cell? at h1 ⊢
 simp only at this
 rw [this]
 exact h1
theorem BsN.set {w : World} {B g : Nat} {A : Option Addr} {n c : Nat} {l : List UInt8} {cs : Array Value} {t : TypeId} (h : BsN w B g A n c l) (hx : Row w g cs t) (ht : t ≠ 5) (j : Nat) (u : Value) : BsN (w.setCell ⟨g, j, none⟩ u) B g A n c l := by
 refine ⟨h.bs.keepB (by rw [World.size_setCell]; exact Nat.le_refl _) fun p hp hl => Below.heap_setCell _ _ _ _ (h.far p hp hl), h.far, ?_⟩
 rcases h.src with h1 | h1
 · exact .inl h1
 · exact .inr (h1.keepTy (S := [t]) (by simp only [List.mem_singleton]; exact Ne.symm ht) (KeepTy.set hx (List.mem_singleton.2 rfl) j u))
theorem BsN.setFrom {B g : Nat} {A : Option Addr} {n c : Nat} {l : List UInt8} {t : TypeId} (ht : t ≠ 5) : ∀ (vs : List Value) {w : World} {cs : Array Value} (k : Nat), BsN w B g A n c l → Row w g cs t → BsN (setFrom g w k vs) B g A n c l
 | [], _, _, _, h, _ => h
 | v :: vs, w, cs, k, h, hx => BsN.setFrom ht vs (k + 1) (h.set hx ht k v) (hx.set k v)
theorem BsN.keep {w w' : World} {B g : Nat} {A : Option Addr} {n c : Nat} {l : List UInt8} (h : BsN w B g A n c l) (hb : Below w.heap.size w w') : BsN w' B g A n c l := ⟨h.bs.keep hb, h.far, h.src.imp id fun o => o.keep hb⟩
theorem BsN.own {w : World} {B B' g : Nat} {A : Option Addr} {n c : Nat} {l : List UInt8} (h : Own8 w B A n c l) (hB : g < B) (hB' : B' ≤ B) : BsN w B' g A n c l := by
 refine ⟨h.bs, fun p hp hl => ?_, .inr (h.base hB')⟩
 rcases h.own.2 with ⟨hv, h0⟩ | ⟨b, cap, cur, hv, h1, h2, _⟩
 ·
  simp only [Value.slice.injEq] at hv
  rw [hv.1] at hp; cases hp
 ·
  simp only [Value.slice.injEq] at hv
  rw [hv.1] at hp
  injection hp with hp
  subst hp
  show b ≠ g
  omega
structure HRd (w : World) (B g : Nat) (l : List UInt8) (s : Hd.RS) : Prop where
 ex : ∃ A c, Row w g #[.slice A l.length c, .int .i64 (s.at_ : Int), .int .i64 (s.x : Int)] 113 ∧ BsN w B g A l.length c l
 b1 : B ≤ g
 at_ : s.at_ ≤ l.length
abbrev SR : List TypeId := [113]
theorem hr_put {w w1 : World} {B g : Nat} {A1 : Option Addr} {c1 : Nat} {l : List UInt8} {cs : Array Value} {s : Hd.RS} (hB : B ≤ w.heap.size) (hb : Below w.heap.size w w1) (r1 : Row w1 g cs 113) (hcs : cs.size = 3) (hg : g < w.heap.size) (b1 : B ≤ g) (hat : s.at_ ≤ l.length)
  (ho : Own8 w1 w.heap.size A1 l.length c1 l) {wd : World} (hd : setFrom g w1 0 [.slice A1 l.length c1, .int .i64 (s.at_ : Int), .int .i64 (s.x : Int)] = wd) : HRd wd B g l s ∧ Below B w wd ∧ KeepTy SR w wd := by
 have q1 := r1.all [.slice A1 l.length c1, .int .i64 (s.at_ : Int), .int .i64 (s.x : Int)] hcs
 have q2 := BsN.setFrom (by decide) [.slice A1 l.length c1, .int .i64 (s.at_ : Int), .int .i64 (s.x : Int)] 0 (BsN.own ho hg hB) r1
 have q3 := below_setFrom b1 [.slice A1 l.length c1, .int .i64 (s.at_ : Int), .int .i64 (s.x : Int)] 0 (hb.mono hB)
 have q4 : KeepTy SR w (setFrom g w1 0 [.slice A1 l.length c1, .int .i64 (s.at_ : Int), .int .i64 (s.x : Int)]) := by
  refine (KeepTy.of hb).trans ?_
  refine ⟨(below_setFrom (Nat.zero_le _) [.slice A1 l.length c1, .int .i64 (s.at_ : Int), .int .i64 (s.x : Int)] 0 (Below.refl 0 w1)).size, fun b o h1 h2 => ?_⟩
  have hne : b ≠ g := fun e => by
   subst e
   unfold Row at r1
   rw [r1] at h1
   injection h1 with h1
   exact h2 _ _ _ h1.symm (by decide)
  show ((((w1.setCell ⟨g, 0, none⟩ _).setCell ⟨g, 1, none⟩ _).setCell ⟨g, 2, none⟩ _)).heap[b]? = some o
  rw [Below.heap_setCell _ _ _ _ hne, Below.heap_setCell _ _ _ _ hne, Below.heap_setCell _ _ _ _ hne]
  exact h1
 rw [hd] at q1 q2 q3 q4
 exact ⟨⟨⟨A1, c1, q1, q2⟩, b1, hat⟩, q3, q4⟩
namespace FreeP
open Free
section
variable {P : Program} {w : World} {o : Oper} {ρ : Operand → Value} {c : Value} {V : Value → World → Prop}
end
end FreeP
namespace Hd
end Hd
theorem HRd.keep {w w' : World} {B g : Nat} {l : List UInt8} {s : Hd.RS} (h : HRd w B g l s) (hb : Below w.heap.size w w') : HRd w' B g l s := by
 obtain ⟨A, c, r, hbs⟩ := h.ex
 exact ⟨⟨A, c, r.belowS hb (Nat.le_refl _), hbs.keep hb⟩, h.b1, h.at_⟩
def notU8 : Value → Bool
 | .int .u8 _ => false
 | _ => true
theorem Bs.ne_row {w : World} {A : Option Addr} {n c x : Nat} {l : List UInt8} {cs : Array Value} {t : TypeId} (h : Bs w A n c l) (hx : Row w x cs t) (hu : cs.toList.all notU8 = true) : ∀ p, A = some p → l ≠ [] → p.block ≠ x := by
 intro p hp hl e
 obtain ⟨b, off, e1, hb, hc⟩ := h.rd (fun e => hl (by cases l with | nil => rfl | cons => cases e))
 rw [hp] at e1
 injection e1 with e1
 subst e1
 simp only at e
 subst e
 cases l with
 | nil => exact hl rfl
 | cons u l =>
  have h1 := hc 0 (bv u) rfl
  rw [World.cell?, hx] at h1
  simp only [Nat.add_zero] at h1
  have h2 := Array.mem_of_getElem? h1
  rw [List.all_eq_true] at hu
  have h3 := hu _ (Array.mem_toList_iff.2 h2)
  exact absurd h3 (by simp [notU8, bv])
theorem HRd.setF {w : World} {B g x : Nat} {l : List UInt8} {s : Hd.RS} {cs : Array Value} {t : TypeId} (h : HRd w B g l s) (hx : Row w x cs t) (ht : t ≠ 113) (hu : cs.toList.all notU8 = true) (h8 : t ≠ 5) (vs : List Value) (k : Nat) : HRd (setFrom x w k vs) B g l s := by
 obtain ⟨A, c, r, hbs⟩ := h.ex
 have hne : g ≠ x := row_ne r hx (Ne.symm ht)
 have h1 : BsN w B x A l.length c l := ⟨hbs.bs, hbs.bs.ne_row hx hu, hbs.src⟩
 have h2 := BsN.setFrom h8 vs k h1 hx
 exact ⟨⟨A, c, r.far_setFrom hne vs k, ⟨h2.bs, hbs.far, h2.src⟩⟩, h.b1, h.at_⟩
theorem bel_drew (B : Nat) (w : World) : Below B w w.drew := ⟨rfl, rfl, rfl, Nat.le_refl _, fun _ _ => rfl⟩
namespace FreeP
open Free
theorem s_app {P : Program} {w : World} {o : Oper} {ρ : Operand → Value} {V : Value → World → Prop} {R : World → World → Prop} {T e : TypeId} {size bytes B n m c C : Nat} (hT : ElemT P T e size bytes) {s x : Operand} (ho : o.op = .call { callee := .builtin .append, args := #[s, x], argTypes := #[T, T] })
  {v : Value} {xs news : List Value} {A : Option Addr} (hs : ρ s = v) (hown : w.ownsRow B e size v n xs) (hx : ρ x = .slice A m c) (hr : Rd w C A news) (hl : news.length = m * size) (h1 : ∀ u ∈ news, u.oneCell' = true)
  (h63 : n + m ≤ maxLen) (hbytes : (n + m) * bytes ≤ 140737488355328) (hB : B ≤ w.heap.size)
  (h : ∀ A' c' w', w'.ownsRow B e size (.slice A' (n + m) c') (n + m) (xs ++ news) → w.grownBy w' v.ownBlock → Below B w w' → n + m ≤ c' → c' ≤ maxLen → V (.slice A' (n + m) c') w' ∧ R w w') : StepR P R V w ((execOp ρ o).run P w) := by
 obtain ⟨A', c', w', hrun, h2, h3, h4, h5, h6⟩ := run_app (P := P) (w := w) B T o.type e size bytes hT v n xs hown C A m c news hr hl h1 h63 hbytes hB
 have hr2 : ((execOp ρ o).run P w) = .ok (.value (.slice A' (n + m) c')) w' := by
  unfold execOp
  simp only [ho, resolve, invoke, builtin, Sem.run_bind, Sem.run_pure, Result.andThen_ok, List.map_toArray, List.map_cons, List.map_nil, hs, hx, hrun]
 rw [hr2]
 exact h A' c' w' h2 h3 (own_below hown h3 hB) h5 h6
end FreeP
namespace Hd
def doneX (l : By) (s : RS) : Nat := if s.x ≠ 0 then s.x else if s.at_ < l.length then 2 else 0
end Hd
def hd0 : Value := .agg #[.int .i64 0, .string { data := #[] }, .slice none 0 0]
section
variable {w0 W W' : World} {B g gf gn gd gh gr : Nat} {l : List UInt8} {s s' : Hd.RS} {fr fr' : Int} {hs : Array Value}
end
theorem done_st (A : Option Addr) (n c : Nat) (l : List UInt8) (s : Hd.RS) (w : World) (hl : l.length = n) (hat : s.at_ ≤ n) (hc : n ≤ c) (hm : c ≤ maxLen) : Calls Tryz.prog 71 #[.agg #[.slice A n c, .int .i64 (s.at_ : Int), .int .i64 (s.x : Int)]] w fun e w' => e = .returned (.int .i64 (Hd.doneX l s : Int)) ∧ Below w.heap.size w w' := by
 obtain ⟨at_, x⟩ := s
 by_cases hx : x = 0
 ·
  subst hx
  have := done_ok A n c at_ w hat hc hm
  have e : ((Hd.doneX l ⟨at_, 0⟩ : Nat) : Int) = if at_ < n then 2 else 0 := by
   unfold Hd.doneX
   simp only [ne_eq, not_true, if_false, hl]
   split <;> rfl
  rw [e]
  exact this
 ·
  have := done_err A n c (at_ : Int) (x : Int) w (by omega)
  have e : Hd.doneX l ⟨at_, x⟩ = x := by unfold Hd.doneX; rw [if_pos hx]
  rw [e]
  exact this
end Go.Proofs.YteoledjllpgcbaaGreatDoor
