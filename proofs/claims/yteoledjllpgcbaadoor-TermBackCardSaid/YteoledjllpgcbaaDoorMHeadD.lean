/- MHeadD: several texts of this claim in one file. No statement of the seat is proved here. -/
import Derived.Test.YteoledjllpgcbaaDoorMHeadC
import Derived.Test.YteoledjllpgcbaaDoorMFreeP
import Derived.Laws.EntriesVeiled
namespace Go.Proofs.YteoledjllpgcbaaDoor
set_option maxRecDepth 100000
set_option maxHeartbeats 64000000
set_option linter.unusedVariables false
open Go.RowKit
structure BsN (w : World) (B g : Nat) (A : Option Addr) (n c : Nat) (l : List UInt8) : Prop where
 bs : Bs w A n c l
 far : ∀ p, A = some p → l ≠ [] → p.block ≠ g
 src : (∀ p, A = some p → l ≠ [] → p.block < B) ∨ Own8 w B A n c l
theorem Bs.keepB {w w' : World} {A : Option Addr} {n c : Nat} {l : List UInt8} (h : Bs w A n c l) (hs : w.heap.size ≤ w'.heap.size) (hk : ∀ p, A = some p → l ≠ [] → w'.heap[p.block]? = w.heap[p.block]?) : Bs w' A n c l := by
 refine ⟨fun hn => ?_, h.len, h.cap, h.max⟩
 obtain ⟨b, off, e, hb, hc⟩ := h.rd hn
 have hl : l ≠ [] := fun e => hn (by rw [e]; rfl)
 have := hk _ e hl
 refine ⟨b, off, e, by omega, fun k v hv => ?_⟩
 have h1 := hc k v hv
 unfold World.cell? at h1 ⊢
 simp only at this
 rw [this]
 exact h1
theorem BsN.set {w : World} {B g : Nat} {A : Option Addr} {n c : Nat} {l : List UInt8} {cs : Array Value} {t : TypeId} (h : BsN w B g A n c l) (hx : Row w g cs t) (ht : t ≠ 5) (j : Nat) (u : Value) : BsN (w.setCell ⟨g, j, none⟩ u) B g A n c l := by
 refine ⟨h.bs.keepB (by rw [World.size_setCell]; exact Nat.le_refl _) fun p hp hl => Below.heap_setCell _ _ _ _ (h.far p hp hl), h.far, ?_⟩
 rcases h.src with h1 | h1
 · exact .inl h1
 · exact .inr (h1.keepTy (S := [t]) (by simp only [List.mem_singleton]; exact Ne.symm ht) (KeepTy.set hx (List.mem_singleton.2 rfl) j u))
theorem BsN.setFrom {B g : Nat} {A : Option Addr} {n c : Nat} {l : List UInt8} {t : TypeId} (ht : t ≠ 5) : ∀ (vs : List Value) {w : World} {cs : Array Value} (k : Nat), BsN w B g A n c l → Row w g cs t → BsN (setFrom g w k vs) B g A n c l
 | [], _, _, _, h, _ => h
 | v :: vs, w, cs, k, h, hx => BsN.setFrom ht vs (k + 1) (h.set hx ht k v) (hx.set k v)
theorem BsN.keep {w w' : World} {B g : Nat} {A : Option Addr} {n c : Nat} {l : List UInt8} (h : BsN w B g A n c l) (hb : Below w.heap.size w w') : BsN w' B g A n c l := ⟨h.bs.keep hb, h.far, h.src.imp id fun o => o.keep hb⟩
theorem BsN.own {w : World} {B B' g : Nat} {A : Option Addr} {n c : Nat} {l : List UInt8} (h : Own8 w B A n c l) (hB : g < B) (hB' : B' ≤ B) : BsN w B' g A n c l := by
 refine ⟨h.bs, fun p hp hl => ?_, .inr (h.base hB')⟩
 rcases h.own.2 with ⟨hv, h0⟩ | ⟨b, cap, cur, hv, h1, h2, _⟩
 ·
  simp only [Value.slice.injEq] at hv
  rw [hv.1] at hp; cases hp
 ·
  simp only [Value.slice.injEq] at hv
  rw [hv.1] at hp
  injection hp with hp
  subst hp
  show b ≠ g
  omega
theorem BsN.grown {w w' : World} {B g : Nat} {A : Option Addr} {n c : Nat} {l : List UInt8} (h : BsN w B g A n c l) {e : TypeId} {size m : Nat} {v : Value} {xs : List Value} (ho : w.ownsRow B e size v m xs) (he : e ≠ 5) (hg : w.grownBy w' v.ownBlock) (hs : w.heap.size ≤ w'.heap.size) : BsN w' B g A n c l := by
 have hk := KeepTy.grown (S := [e]) ho (List.mem_singleton.2 rfl) hg hs
 rcases h.src with h1 | h1
 ·
  refine ⟨h.bs.keepB hs fun p hp hl => ?_, h.far, .inl h1⟩
  obtain ⟨b, off, e1, hb, _⟩ := h.bs.rd (fun e => hl (by cases l with | nil => rfl | cons => cases e))
  rw [hp] at e1
  injection e1 with e1
  subst e1
  refine hg.block b hb (fun e2 => ?_)
  have h2 := h1 _ hp hl
  simp only at h2
  rcases ho.2 with ⟨rfl, _⟩ | ⟨g2, cap, cur, rfl, h3, _⟩
  · cases e2
  ·
   simp only [Value.ownBlock, Option.some.injEq] at e2
   omega
 ·
  have h2 := h1.keepTy (S := [e]) (by simp only [List.mem_singleton]; exact Ne.symm he) hk
  exact ⟨h2.bs, h.far, .inr h2⟩
theorem BsN.more {w : World} {B B' g : Nat} {A : Option Addr} {n c : Nat} {l : List UInt8} (h : BsN w B g A n c l) (hB : B ≤ B') (hx : ∀ p, A = some p → l ≠ [] → p.block < B') : BsN w B' g A n c l := ⟨h.bs, h.far, .inl hx⟩
structure HRd (w : World) (B g : Nat) (l : List UInt8) (s : Hd.RS) : Prop where
 ex : ∃ A c, Row w g #[.slice A l.length c, .int .i64 (s.at_ : Int), .int .i64 (s.x : Int)] 79 ∧ BsN w B g A l.length c l
 b1 : B ≤ g
 at_ : s.at_ ≤ l.length
abbrev SR : List TypeId := [79]
def HRPost (B g : Nat) (l : List UInt8) (s : Hd.RS) (v : Value) (w : World) (e : Ending) (w' : World) : Prop := e = .returned v ∧ HRd w' B g l s ∧ Below B w w' ∧ KeepTy SR w w'
theorem hr_put {w w1 : World} {B g : Nat} {A1 : Option Addr} {c1 : Nat} {l : List UInt8} {cs : Array Value} {s : Hd.RS} (hB : B ≤ w.heap.size) (hb : Below w.heap.size w w1) (r1 : Row w1 g cs 79) (hcs : cs.size = 3) (hg : g < w.heap.size) (b1 : B ≤ g) (hat : s.at_ ≤ l.length)
  (ho : Own8 w1 w.heap.size A1 l.length c1 l) {wd : World} (hd : setFrom g w1 0 [.slice A1 l.length c1, .int .i64 (s.at_ : Int), .int .i64 (s.x : Int)] = wd) : HRd wd B g l s ∧ Below B w wd ∧ KeepTy SR w wd := by
 have q1 := r1.all [.slice A1 l.length c1, .int .i64 (s.at_ : Int), .int .i64 (s.x : Int)] hcs
 have q2 := BsN.setFrom (by decide) [.slice A1 l.length c1, .int .i64 (s.at_ : Int), .int .i64 (s.x : Int)] 0 (BsN.own ho hg hB) r1
 have q3 := below_setFrom b1 [.slice A1 l.length c1, .int .i64 (s.at_ : Int), .int .i64 (s.x : Int)] 0 (hb.mono hB)
 have q4 : KeepTy SR w (setFrom g w1 0 [.slice A1 l.length c1, .int .i64 (s.at_ : Int), .int .i64 (s.x : Int)]) := by
  refine (KeepTy.of hb).trans ?_
  refine ⟨(below_setFrom (Nat.zero_le _) [.slice A1 l.length c1, .int .i64 (s.at_ : Int), .int .i64 (s.x : Int)] 0 (Below.refl 0 w1)).size, fun b o h1 h2 => ?_⟩
  have hne : b ≠ g := fun e => by
   subst e
   unfold Row at r1
   rw [r1] at h1
   injection h1 with h1
   exact h2 _ _ _ h1.symm (by decide)
  show ((((w1.setCell ⟨g, 0, none⟩ _).setCell ⟨g, 1, none⟩ _).setCell ⟨g, 2, none⟩ _)).heap[b]? = some o
  rw [Below.heap_setCell _ _ _ _ hne, Below.heap_setCell _ _ _ _ hne, Below.heap_setCell _ _ _ _ hne]
  exact h1
 rw [hd] at q1 q2 q3 q4
 exact ⟨⟨⟨A1, c1, q1, q2⟩, b1, hat⟩, q3, q4⟩
theorem KeepTy.far {S : List TypeId} {w w1 : World} (h : KeepTy S w w1) {g : Nat} (hg : w.heap.size ≤ g) (j : Nat) (u : Value) : KeepTy S w (w1.setCell ⟨g, j, none⟩ u) := by
 refine ⟨by rw [World.size_setCell]; exact h.size, fun b o h1 h2 => ?_⟩
 have hlt := heap_ltT h1
 rw [Below.heap_setCell _ _ _ _ (show b ≠ g by omega)]
 exact h.block b o h1 h2
theorem KeepTy.farFrom {S : List TypeId} {w : World} {g : Nat} (hg : w.heap.size ≤ g) : ∀ (vs : List Value) {w1 : World} (k : Nat), KeepTy S w w1 → KeepTy S w (setFrom g w1 k vs)
 | [], _, _, h => h
 | v :: vs, _, k, h => KeepTy.farFrom hg vs (k + 1) (h.far hg k v)
namespace FreeP
open Free
section
variable {P : Program} {w : World} {o : Oper} {ρ : Operand → Value} {c : Value} {V : Value → World → Prop}
theorem d_buildS {T : TypeId} {parts : Array (Nat × Operand)} {vs : Array (Nat × Value)} (ho : o.op = .build T parts) (hx : (parts.map fun (i, x) => (i, ρ x)) = vs) (hr : (Instr.build T vs).run P w = .ok c w) (hV : V c w) : Free.Does P V w ρ o := by
 unfold Free.Does
 simp [execOp, ho, hx, hr]
 exact ⟨hV, Below.refl _ w⟩
theorem s_call0 {G : World → World → Prop} {f : FuncId} {fn : Func} {ts : Array TypeId} {caps : Array Value} {x : Operand} (hfn : P.funcs[f]? = some fn) (hname : (fn.name == "runtime.NumGoroutine") = false) (hbody : fn.body.isNone = false)
  (ho : o.op = .call { callee := .value x, args := #[], argTypes := ts }) (hf : ρ x = .func (.func f) #[] caps)
  (hc : Calls P f caps w fun e w'' => ∃ v, e = .returned v ∧ V v w'' ∧ G w w'') : StepR P G V w ((execOp ρ o).run P w) :=
 s_callV (args := #[]) hfn hname hbody ho hf (by simp) (by simpa using hc)
theorem parts3 {x y z : Operand} {c d e : Value} (h : ρ x = c) (h2 : ρ y = d) (h3 : ρ z = e) : ((#[(0, x), (1, y), (2, z)] : Array (Nat × Operand)).map fun (i, x) => (i, ρ x)) = #[(0, c), (1, d), (2, e)] := by simp [h, h2, h3]
end
end FreeP
namespace Hd
def stSg (l : By) (s : RS) (fr : Int) : RS × Sg := ((stDig l (stNum l (stNum l s).1).1).1, ⟨fr, ((stNum l s).2 : Int), ((stNum l (stNum l s).1).2 : Int), (stDig l (stNum l (stNum l s).1).1).2⟩)
end Hd
abbrev SG : List TypeId := [79, 3]
theorem HRd.keep {w w' : World} {B g : Nat} {l : List UInt8} {s : Hd.RS} (h : HRd w B g l s) (hb : Below w.heap.size w w') : HRd w' B g l s := by
 obtain ⟨A, c, r, hbs⟩ := h.ex
 exact ⟨⟨A, c, r.belowS hb (Nat.le_refl _), hbs.keep hb⟩, h.b1, h.at_⟩
def notU8 : Value → Bool
 | .int .u8 _ => false
 | _ => true
theorem Bs.ne_row {w : World} {A : Option Addr} {n c x : Nat} {l : List UInt8} {cs : Array Value} {t : TypeId} (h : Bs w A n c l) (hx : Row w x cs t) (hu : cs.toList.all notU8 = true) : ∀ p, A = some p → l ≠ [] → p.block ≠ x := by
 intro p hp hl e
 obtain ⟨b, off, e1, hb, hc⟩ := h.rd (fun e => hl (by cases l with | nil => rfl | cons => cases e))
 rw [hp] at e1
 injection e1 with e1
 subst e1
 simp only at e
 subst e
 cases l with
 | nil => exact hl rfl
 | cons u l =>
  have h1 := hc 0 (bv u) rfl
  rw [World.cell?, hx] at h1
  simp only [Nat.add_zero] at h1
  have h2 := Array.mem_of_getElem? h1
  rw [List.all_eq_true] at hu
  have h3 := hu _ (Array.mem_toList_iff.2 h2)
  exact absurd h3 (by simp [notU8, bv])
theorem HRd.setF {w : World} {B g x : Nat} {l : List UInt8} {s : Hd.RS} {cs : Array Value} {t : TypeId} (h : HRd w B g l s) (hx : Row w x cs t) (ht : t ≠ 79) (hu : cs.toList.all notU8 = true) (h8 : t ≠ 5) (vs : List Value) (k : Nat) : HRd (setFrom x w k vs) B g l s := by
 obtain ⟨A, c, r, hbs⟩ := h.ex
 have hne : g ≠ x := row_ne r hx (Ne.symm ht)
 have h1 : BsN w B x A l.length c l := ⟨hbs.bs, hbs.bs.ne_row hx hu, hbs.src⟩
 have h2 := BsN.setFrom h8 vs k h1 hx
 exact ⟨⟨A, c, r.far_setFrom hne vs k, ⟨h2.bs, hbs.far, h2.src⟩⟩, h.b1, h.at_⟩
theorem HRd.grown {w w' : World} {B g : Nat} {l : List UInt8} {s : Hd.RS} (h : HRd w B g l s) {e : TypeId} {size m : Nat} {v : Value} {xs : List Value} (ho : w.ownsRow B e size v m xs) (he : e ∉ [5, 79]) (hg : w.grownBy w' v.ownBlock) (hs : w.heap.size ≤ w'.heap.size) : HRd w' B g l s := by
 simp only [List.mem_cons, List.not_mem_nil, or_false, not_or] at he
 obtain ⟨A, c, r, hbs⟩ := h.ex
 exact ⟨⟨A, c, r.keepTy (by simp only [List.mem_singleton]; exact Ne.symm he.2) (KeepTy.grown (S := [e]) ho (List.mem_singleton.2 rfl) hg hs), hbs.grown ho he.1 hg hs⟩, h.b1, h.at_⟩
theorem bel_drew (B : Nat) (w : World) : Below B w w.drew := ⟨rfl, rfl, rfl, Nat.le_refl _, fun _ _ => rfl⟩
theorem KeepTy.drew (S : List TypeId) (w : World) : KeepTy S w w.drew := ⟨Nat.le_refl _, fun _ _ h _ => h⟩
namespace FreeP
open Free
theorem s_app {P : Program} {w : World} {o : Oper} {ρ : Operand → Value} {V : Value → World → Prop} {R : World → World → Prop} {T e : TypeId} {size bytes B n m c C : Nat} (hT : ElemT P T e size bytes) {s x : Operand} (ho : o.op = .call { callee := .builtin .append, args := #[s, x], argTypes := #[T, T] })
  {v : Value} {xs news : List Value} {A : Option Addr} (hs : ρ s = v) (hown : w.ownsRow B e size v n xs) (hx : ρ x = .slice A m c) (hr : Rd w C A news) (hl : news.length = m * size) (h1 : ∀ u ∈ news, u.oneCell' = true)
  (h63 : n + m ≤ maxLen) (hbytes : (n + m) * bytes ≤ 140737488355328) (hB : B ≤ w.heap.size)
  (h : ∀ A' c' w', w'.ownsRow B e size (.slice A' (n + m) c') (n + m) (xs ++ news) → w.grownBy w' v.ownBlock → Below B w w' → n + m ≤ c' → c' ≤ maxLen → V (.slice A' (n + m) c') w' ∧ R w w') : StepR P R V w ((execOp ρ o).run P w) := by
 obtain ⟨A', c', w', hrun, h2, h3, h4, h5, h6⟩ := run_app (P := P) (w := w) B T o.type e size bytes hT v n xs hown C A m c news hr hl h1 h63 hbytes hB
 have hr2 : ((execOp ρ o).run P w) = .ok (.value (.slice A' (n + m) c')) w' := by
  unfold execOp
  simp only [ho, resolve, invoke, builtin, Sem.run_bind, Sem.run_pure, Result.andThen_ok, List.map_toArray, List.map_cons, List.map_nil, hs, hx, hrun]
 rw [hr2]
 exact h A' c' w' h2 h3 (own_below hown h3 hB) h5 h6
theorem d_lit {P : Program} {w : World} {o : Oper} {ρ : Operand → Value} {S : List TypeId} {b : Nat} {T : TypeId} {len : Nat} {parts : Array (Nat × Operand)} {vs : Array (Nat × Value)} {cs : Array Value} {t : TypeId} (ho : o.op = .buildSlice T len parts) (hx : (parts.map fun (i, x) => (i, ρ x)) = vs) (hr : (Instr.buildSlice T len vs).run P w = .ok (.slice (some ⟨w.heap.size, 0, none⟩) len len) (w.alloc (.cells cs t))) {b0 : Nat} (ht : t ∉ S) (hb : b ≤ b0) (h0 : b0 ≤ w.heap.size) : Free.Does P (xL (S := S) b0 len t cs ht hb).k.p w ρ o := by
 unfold Free.Does
 simp [execOp, ho, hx, hr]
 exact ⟨⟨w.heap.size, rfl, h0, row_new w _ _⟩, (Below.refl _ w).alloc (Nat.le_refl _) _⟩
end FreeP
theorem one_sg (l : List Hd.Sg) : ∀ u ∈ l.flatMap sgc, u.oneCell' = true := fun u hu => by
 obtain ⟨s, _, h⟩ := List.mem_flatMap.1 hu
 simp only [sgc, List.mem_cons, List.not_mem_nil, or_false] at h
 rcases h with rfl | rfl | rfl | rfl <;> rfl
theorem sg_snoc (L : List Hd.Sg) (sg : Hd.Sg) : (L ++ [sg]).flatMap sgc = L.flatMap sgc ++ [.int .i64 sg.fr, .int .i64 sg.to, .int .i64 sg.lk, sv sg.rt] := by simp [sgc]
theorem rd_of_row {w : World} {b : Nat} {cs : Array Value} {t : TypeId} (h : Row w b cs t) : Rd w w.heap.size (some ⟨b, 0, none⟩) cs.toList := fun _ => ⟨b, 0, rfl, h.lt, fun j v hv => by
 have := h.cellQ j v (by rw [← hv]; simp)
 simpa using this⟩
theorem above_of_grown {B n size : Nat} {v : Value} {xs : List Value} {e : TypeId} {w w' : World} {b : Nat} (h : w.ownsRow B e size v n xs) (hg : w.grownBy w' v.ownBlock) (hs : w.heap.size ≤ w'.heap.size) (hb : ∀ g, v.ownBlock = some g → g < b) : FreeP.Above b w w' := ⟨hs, fun x o hx ho => by
 rw [hg.block x (heap_ltT ho) (fun e => by have := hb x e.symm; omega)]
 exact ho⟩
namespace Hd
def stK (l : By) (s0 : RS) : Nat → RS × Int × List Sg
 | 0 => (s0, 0, [])
 | k + 1 => ((stSg l (stK l s0 k).1 (stK l s0 k).2.1).1, (stSg l (stK l s0 k).1 (stK l s0 k).2.1).2.to, (stK l s0 k).2.2 ++ [(stSg l (stK l s0 k).1 (stK l s0 k).2.1).2])
theorem stK_len (l : By) (s0 : RS) : ∀ k, (stK l s0 k).2.2.length = k
 | 0 => rfl
 | k + 1 => by simp only [stK, List.length_append, stK_len l s0 k, List.length_singleton]
theorem stK_rt (l : By) (s0 : RS) : ∀ k, ∀ s ∈ (stK l s0 k).2.2, s.rt.length ≤ 32
 | 0, s, hs => by simp [stK] at hs
 | k + 1, s, hs => by
  simp only [stK] at hs
  rcases List.mem_append.1 hs with hs | hs
  · exact stK_rt l s0 k s hs
  · rw [List.mem_singleton.1 hs]; exact stDig_len
def doneX (l : By) (s : RS) : Nat := if s.x ≠ 0 then s.x else if s.at_ < l.length then 2 else 0
def rdHd (l : By) : Except Nat H :=
 if 64 < (stNum l (stDig l (stNum l ⟨0, 0⟩).1).1).2 then .error 2 else
 if doneX l (stK l (stNum l (stDig l (stNum l ⟨0, 0⟩).1).1).1 (stNum l (stDig l (stNum l ⟨0, 0⟩).1).1).2).1 ≠ 0 then .error (doneX l (stK l (stNum l (stDig l (stNum l ⟨0, 0⟩).1).1).1 (stNum l (stDig l (stNum l ⟨0, 0⟩).1).1).2).1) else
 if H.ok ⟨((stNum l ⟨0, 0⟩).2 : Int), (stDig l (stNum l ⟨0, 0⟩).1).2, (stK l (stNum l (stDig l (stNum l ⟨0, 0⟩).1).1).1 (stNum l (stDig l (stNum l ⟨0, 0⟩).1).1).2).2.2⟩ = true then
  .ok ⟨((stNum l ⟨0, 0⟩).2 : Int), (stDig l (stNum l ⟨0, 0⟩).1).2, (stK l (stNum l (stDig l (stNum l ⟨0, 0⟩).1).1).1 (stNum l (stDig l (stNum l ⟨0, 0⟩).1).1).2).2.2⟩
 else .error 2
end Hd
def hd0 : Value := .agg #[.int .i64 0, .string { data := #[] }, .slice none 0 0]
section
variable {w0 W W' : World} {B g gf gn gd gh gr : Nat} {l : List UInt8} {s s' : Hd.RS} {fr fr' : Int} {hs : Array Value}
end
theorem done_st (A : Option Addr) (n c : Nat) (l : List UInt8) (s : Hd.RS) (w : World) (hl : l.length = n) (hat : s.at_ ≤ n) (hc : n ≤ c) (hm : c ≤ maxLen) : Calls Tryd.prog 39 #[.agg #[.slice A n c, .int .i64 (s.at_ : Int), .int .i64 (s.x : Int)]] w fun e w' => e = .returned (.int .i64 (Hd.doneX l s : Int)) ∧ Below w.heap.size w w' := by
 obtain ⟨at_, x⟩ := s
 by_cases hx : x = 0
 ·
  subst hx
  have := done_ok A n c at_ w hat hc hm
  have e : ((Hd.doneX l ⟨at_, 0⟩ : Nat) : Int) = if at_ < n then 2 else 0 := by
   unfold Hd.doneX
   simp only [ne_eq, not_true, if_false, hl]
   split <;> rfl
  rw [e]
  exact this
 ·
  have := done_err A n c (at_ : Int) (x : Int) w (by omega)
  have e : Hd.doneX l ⟨at_, x⟩ = x := by unfold Hd.doneX; rw [if_pos hx]
  rw [e]
  exact this
theorem FreeP.C2_or {d1 d2 : Nat} {D : Nat → World → Prop} {T : Nat → Bool} {w : World} (h : FreeP.C2 d1 d2 D T w) : ∃ s, D s w := by
 unfold FreeP.C2 at h
 split at h
 · exact ⟨_, h⟩
 · exact ⟨_, h⟩
 · exact ⟨_, h⟩
 · cases h
theorem OwnQ.blk {α : Type} {cs : α → List Value} {k : Nat} {e : TypeId} {w : World} {B n c : Nat} {A : Option Addr} {L : List α} (h : OwnQ cs k e w B A n c L) : ∀ g, (Value.slice A n c).ownBlock = some g → g < w.heap.size := fun g hg => by
 rcases h.own.2 with ⟨hv, h0⟩ | ⟨b, cap, cur, hv, h1, h2, _⟩
 · rw [hv] at hg; cases hg
 ·
  rw [hv] at hg
  simp only [Value.ownBlock, Option.some.injEq] at hg
  subst hg
  exact heap_ltT h2
theorem six_rows (w : World) (c0 c1 c2 c3 c4 c5 : Array Value) (t0 t1 t2 t3 t4 t5 : TypeId) {W : World} (hW : ((((((w.alloc (.cells c0 t0)).alloc (.cells c1 t1)).alloc (.cells c2 t2)).alloc (.cells c3 t3)).alloc (.cells c4 t4)).alloc (.cells c5 t5)) = W) :
  Row W w.heap.size c0 t0 ∧ Row W (w.heap.size + 1) c1 t1 ∧ Row W (w.heap.size + 1 + 1) c2 t2 ∧ Row W (w.heap.size + 1 + 1 + 1) c3 t3 ∧ Row W (w.heap.size + 1 + 1 + 1 + 1) c4 t4 ∧ Row W (w.heap.size + 1 + 1 + 1 + 1 + 1) c5 t5 ∧ Below w.heap.size w W := by
 have hz : ∀ (v : World) (o : Obj), (v.alloc o).heap.size = v.heap.size + 1 := fun v o => by unfold World.alloc; simp
 have hr : ∀ (v : World) (c : Array Value) (t : TypeId) (b : Nat), b = v.heap.size → Row (v.alloc (.cells c t)) b c t := fun v c t b e => by subst e; exact row_new v c t
 subst hW
 refine ⟨(((((hr w c0 t0 _ rfl).alloc _).alloc _).alloc _).alloc _).alloc _, ((((hr _ c1 t1 _ (by rw [hz])).alloc _).alloc _).alloc _).alloc _, (((hr _ c2 t2 _ (by rw [hz, hz])).alloc _).alloc _).alloc _, ((hr _ c3 t3 _ (by rw [hz, hz, hz])).alloc _).alloc _, (hr _ c4 t4 _ (by rw [hz, hz, hz, hz])).alloc _, hr _ c5 t5 _ (by rw [hz, hz, hz, hz, hz]), ?_⟩
 exact ((((((Below.refl _ w).alloc (Nat.le_refl _) _).alloc (by rw [hz]; omega) _).alloc (by rw [hz, hz]; omega) _).alloc (by rw [hz, hz, hz]; omega) _).alloc (by rw [hz, hz, hz, hz]; omega) _).alloc (by rw [hz, hz, hz, hz, hz]; omega) _
end Go.Proofs.YteoledjllpgcbaaDoor
