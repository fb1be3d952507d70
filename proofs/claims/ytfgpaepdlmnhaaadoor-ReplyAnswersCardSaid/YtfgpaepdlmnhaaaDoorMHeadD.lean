/- MHeadD: several texts of this claim in one file. No statement of the seat is proved here. -/
import Derived.Test.YtfgpaepdlmnhaaaDoorMHeadC
import Derived.Test.YtfgpaepdlmnhaaaDoorMFreeP
import Derived.Laws.EntriesVeiled
namespace Go.Proofs.YtfgpaepdlmnhaaaDoor
set_option maxRecDepth 100000
set_option linter.unusedVariables false
open Go.RowKit
/-- Bytes that are read, and do not lie in a box: they were there before, or are the call's own. -/
structure BsN (w : World) (B g : Nat) (A : Option Addr) (n c : Nat) (l : List UInt8) : Prop where
  bs : Bs w A n c l
  far : ∀ p, A = some p → l ≠ [] → p.block ≠ g
  src : (∀ p, A = some p → l ≠ [] → p.block < B) ∨ Own8 w B A n c l
theorem Bs.keepB {w w' : World} {A : Option Addr} {n c : Nat} {l : List UInt8} (h : Bs w A n c l) (hs : w.heap.size ≤ w'.heap.size) (hk : ∀ p, A = some p → l ≠ [] → w'.heap[p.block]? = w.heap[p.block]?) : Bs w' A n c l := by
  refine ⟨fun hn => ?_, h.len, h.cap, h.max⟩
  obtain ⟨b, off, e, hb, hc⟩ := h.rd hn
  have hl : l ≠ [] := fun e => hn (by rw [e]; rfl)
  have := hk _ e hl
  refine ⟨b, off, e, by omega, fun k v hv => ?_⟩
  have h1 := hc k v hv
  unfold World.cell? at h1 ⊢
  simp only at this
  rw [this]
  exact h1
theorem BsN.set {w : World} {B g : Nat} {A : Option Addr} {n c : Nat} {l : List UInt8} {cs : Array Value} {t : TypeId} (h : BsN w B g A n c l) (hx : Row w g cs t) (ht : t ≠ 5) (j : Nat) (u : Value) : BsN (w.setCell ⟨g, j, none⟩ u) B g A n c l := by
  refine ⟨h.bs.keepB (by rw [World.size_setCell]; exact Nat.le_refl _) fun p hp hl => Below.heap_setCell _ _ _ _ (h.far p hp hl), h.far, ?_⟩
  rcases h.src with h1 | h1
  · exact .inl h1
  · exact .inr (h1.keepTy (S := [t]) (by simp only [List.mem_singleton]; exact Ne.symm ht) (KeepTy.set hx (List.mem_singleton.2 rfl) j u))
theorem BsN.setFrom {B g : Nat} {A : Option Addr} {n c : Nat} {l : List UInt8} {t : TypeId} (ht : t ≠ 5) : ∀ (vs : List Value) {w : World} {cs : Array Value} (k : Nat), BsN w B g A n c l → Row w g cs t → BsN (setFrom g w k vs) B g A n c l
  | [], _, _, _, h, _ => h
  | v :: vs, w, cs, k, h, hx => BsN.setFrom ht vs (k + 1) (h.set hx ht k v) (hx.set k v)
theorem BsN.keep {w w' : World} {B g : Nat} {A : Option Addr} {n c : Nat} {l : List UInt8} (h : BsN w B g A n c l) (hb : Below w.heap.size w w') : BsN w' B g A n c l := ⟨h.bs.keep hb, h.far, h.src.imp id fun o => o.keep hb⟩
theorem BsN.own {w : World} {B B' g : Nat} {A : Option Addr} {n c : Nat} {l : List UInt8} (h : Own8 w B A n c l) (hB : g < B) (hB' : B' ≤ B) : BsN w B' g A n c l := by
  refine ⟨h.bs, fun p hp hl => ?_, .inr (h.base hB')⟩
  rcases h.own.2 with ⟨hv, h0⟩ | ⟨b, cap, cur, hv, h1, h2, _⟩
  · simp only [Value.slice.injEq] at hv
    rw [hv.1] at hp; cases hp
  · simp only [Value.slice.injEq] at hv
    rw [hv.1] at hp
    injection hp with hp
    subst hp
    show b ≠ g
    omega
/-- A row of another kind has grown. -/
theorem BsN.grown {w w' : World} {B g : Nat} {A : Option Addr} {n c : Nat} {l : List UInt8} (h : BsN w B g A n c l) {e : TypeId} {size m : Nat} {v : Value} {xs : List Value} (ho : w.ownsRow B e size v m xs) (he : e ≠ 5) (hg : w.grownBy w' v.ownBlock) (hs : w.heap.size ≤ w'.heap.size) : BsN w' B g A n c l := by
  have hk := KeepTy.grown (S := [e]) ho (List.mem_singleton.2 rfl) hg hs
  rcases h.src with h1 | h1
  · refine ⟨h.bs.keepB hs fun p hp hl => ?_, h.far, .inl h1⟩
    obtain ⟨b, off, e1, hb, _⟩ := h.bs.rd (fun e => hl (by cases l with | nil => rfl | cons => cases e))
    rw [hp] at e1
    injection e1 with e1
    subst e1
    refine hg.block b hb (fun e2 => ?_)
    have h2 := h1 _ hp hl
    simp only at h2
    rcases ho.2 with ⟨rfl, _⟩ | ⟨g2, cap, cur, rfl, h3, _⟩
    · cases e2
    · simp only [Value.ownBlock, Option.some.injEq] at e2
      omega
  · have h2 := h1.keepTy (S := [e]) (by simp only [List.mem_singleton]; exact Ne.symm he) hk
    exact ⟨h2.bs, h.far, .inr h2⟩
/-- Only blocks of a type have turned, and the bytes lie below. -/
theorem BsN.more {w : World} {B B' g : Nat} {A : Option Addr} {n c : Nat} {l : List UInt8} (h : BsN w B g A n c l) (hB : B ≤ B') (hx : ∀ p, A = some p → l ≠ [] → p.block < B') : BsN w B' g A n c l := ⟨h.bs, h.far, .inl hx⟩
/-- The box of a reader. -/
structure HRd (w : World) (B g : Nat) (l : List UInt8) (s : Hd.RS) : Prop where
  ex : ∃ A c, Row w g #[.slice A l.length c, .int .i64 (s.at_ : Int), .int .i64 (s.x : Int)] 122 ∧ BsN w B g A l.length c l
  b1 : B ≤ g
  at_ : s.at_ ≤ l.length
abbrev SR : List TypeId := [122]
def HRPost (B g : Nat) (l : List UInt8) (s : Hd.RS) (v : Value) (w : World) (e : Ending) (w' : World) : Prop := e = .returned v ∧ HRd w' B g l s ∧ Below B w w' ∧ KeepTy SR w w'
theorem hr_put {w w1 : World} {B g : Nat} {A1 : Option Addr} {c1 : Nat} {l : List UInt8} {cs : Array Value} {s : Hd.RS} (hB : B ≤ w.heap.size) (hb : Below w.heap.size w w1) (r1 : Row w1 g cs 122) (hcs : cs.size = 3) (hg : g < w.heap.size) (b1 : B ≤ g) (hat : s.at_ ≤ l.length)
    (ho : Own8 w1 w.heap.size A1 l.length c1 l) {wd : World} (hd : setFrom g w1 0 [.slice A1 l.length c1, .int .i64 (s.at_ : Int), .int .i64 (s.x : Int)] = wd) : HRd wd B g l s ∧ Below B w wd ∧ KeepTy SR w wd := by
  have q1 := r1.all [.slice A1 l.length c1, .int .i64 (s.at_ : Int), .int .i64 (s.x : Int)] hcs
  have q2 := BsN.setFrom (by decide) [.slice A1 l.length c1, .int .i64 (s.at_ : Int), .int .i64 (s.x : Int)] 0 (BsN.own ho hg hB) r1
  have q3 := below_setFrom b1 [.slice A1 l.length c1, .int .i64 (s.at_ : Int), .int .i64 (s.x : Int)] 0 (hb.mono hB)
  have q4 : KeepTy SR w (setFrom g w1 0 [.slice A1 l.length c1, .int .i64 (s.at_ : Int), .int .i64 (s.x : Int)]) := by
    refine (KeepTy.of hb).trans ?_
    refine ⟨(below_setFrom (Nat.zero_le _) [.slice A1 l.length c1, .int .i64 (s.at_ : Int), .int .i64 (s.x : Int)] 0 (Below.refl 0 w1)).size, fun b o h1 h2 => ?_⟩
    have hne : b ≠ g := fun e => by
      subst e
      unfold Row at r1
      rw [r1] at h1
      injection h1 with h1
      exact h2 _ _ _ h1.symm (by decide)
    show ((((w1.setCell ⟨g, 0, none⟩ _).setCell ⟨g, 1, none⟩ _).setCell ⟨g, 2, none⟩ _)).heap[b]? = some o
    rw [Below.heap_setCell _ _ _ _ hne, Below.heap_setCell _ _ _ _ hne, Below.heap_setCell _ _ _ _ hne]
    exact h1
  rw [hd] at q1 q2 q3 q4
  exact ⟨⟨⟨A1, c1, q1, q2⟩, b1, hat⟩, q3, q4⟩
set_option maxHeartbeats 4000000 in
theorem hr1_any (B g : Nat) (l : List UInt8) (s : Hd.RS) (w : World) (h : HRd w B g l s) (hB : B ≤ w.heap.size) (hn : l.length ≤ 1000000000) :
    Calls Tryd.prog 143 #[.pointer (some ⟨g, 0, none⟩)] w (HRPost B g l (Hd.stNum l s).1 (.int .i64 ((Hd.stNum l s).2 : Int)) w) := by
  obtain ⟨A, c, r, hbs⟩ := h.ex
  have HB1 := Lib.hid h.b1
  have HAT := Lib.hid (Hd.stNum_at h.at_)
  have C := Lib.hid (readNum_st A l.length c l s w hbs.bs h.at_ hn)
  unfold RSPost rv at C
  have x0 := r.cellQ 0 _ rfl
  have x1 := r.cellQ 1 _ rfl
  have x2 := r.cellQ 2 _ rfl
  have HR := Lib.hid r
  clear r hbs h
  go_enter Tryd.func143, Tryd.ntmps143
  go_wp2_with fail
  (with_reducible refine C.out.mono ?_)
  rintro e w1 ⟨A1, c1, ho1, hb1, rfl⟩
  have r1 := HR.out.belowS hb1 (Nat.le_refl _)
  clear x0 x1 x2
  have x0 := r1.cellQ 0 _ rfl
  have x1 := r1.cellQ 1 _ rfl
  have x2 := r1.cellQ 2 _ rfl
  have y0 := r1.frozen 0
  have y1 := r1.frozen 1
  have y2 := r1.frozen 2
  have HP := Lib.hid (fun wd hd => hr_put (wd := wd) hB hb1 r1 rfl HR.out.lt HB1.out HAT.out ho1 hd)
  clear r1 ho1 hb1
  go_wp2
  go_ret
  exact ⟨rfl, HP.out _ rfl⟩
set_option maxHeartbeats 4000000 in
theorem hr2_any (B g : Nat) (l : List UInt8) (s : Hd.RS) (w : World) (h : HRd w B g l s) (hB : B ≤ w.heap.size) (hn : l.length ≤ 1000000000) :
    Calls Tryd.prog 144 #[.pointer (some ⟨g, 0, none⟩)] w (HRPost B g l (Hd.stDig l s).1 (sv (Hd.stDig l s).2) w) := by
  obtain ⟨A, c, r, hbs⟩ := h.ex
  have HB1 := Lib.hid h.b1
  have HAT := Lib.hid (Hd.stDig_at h.at_)
  have C := Lib.hid (readDigest_st A l.length c l s w hbs.bs h.at_ hn)
  unfold RSPost rv at C
  have x0 := r.cellQ 0 _ rfl
  have x1 := r.cellQ 1 _ rfl
  have x2 := r.cellQ 2 _ rfl
  have HR := Lib.hid r
  clear r hbs h
  go_enter Tryd.func144, Tryd.ntmps144
  go_wp2_with fail
  (with_reducible refine C.out.mono ?_)
  rintro e w1 ⟨A1, c1, ho1, hb1, rfl⟩
  have r1 := HR.out.belowS hb1 (Nat.le_refl _)
  clear x0 x1 x2
  have x0 := r1.cellQ 0 _ rfl
  have x1 := r1.cellQ 1 _ rfl
  have x2 := r1.cellQ 2 _ rfl
  have y0 := r1.frozen 0
  have y1 := r1.frozen 1
  have y2 := r1.frozen 2
  have HP := Lib.hid (fun wd hd => hr_put (wd := wd) hB hb1 r1 rfl HR.out.lt HB1.out HAT.out ho1 hd)
  clear r1 ho1 hb1
  go_wp2
  go_ret
  exact ⟨rfl, HP.out _ rfl⟩
end Go.Proofs.YtfgpaepdlmnhaaaDoor

namespace Go.Proofs.YtfgpaepdlmnhaaaDoor
set_option maxRecDepth 100000
set_option linter.unusedVariables false
open Go.RowKit
theorem KeepTy.far {S : List TypeId} {w w1 : World} (h : KeepTy S w w1) {g : Nat} (hg : w.heap.size ≤ g) (j : Nat) (u : Value) : KeepTy S w (w1.setCell ⟨g, j, none⟩ u) := by
  refine ⟨by rw [World.size_setCell]; exact h.size, fun b o h1 h2 => ?_⟩
  have hlt := heap_ltT h1
  rw [Below.heap_setCell _ _ _ _ (show b ≠ g by omega)]
  exact h.block b o h1 h2
theorem KeepTy.farFrom {S : List TypeId} {w : World} {g : Nat} (hg : w.heap.size ≤ g) : ∀ (vs : List Value) {w1 : World} (k : Nat), KeepTy S w w1 → KeepTy S w (setFrom g w1 k vs)
  | [], _, _, h => h
  | v :: vs, _, k, h => KeepTy.farFrom hg vs (k + 1) (h.far hg k v)
namespace FreeP
open Free
section
variable {P : Program} {w : World} {o : Oper} {ρ : Operand → Value} {c : Value} {V : Value → World → Prop}
theorem d_buildS {T : TypeId} {parts : Array (Nat × Operand)} {vs : Array (Nat × Value)} (ho : o.op = .build T parts) (hx : (parts.map fun (i, x) => (i, ρ x)) = vs) (hr : (Instr.build T vs).run P w = .ok c w) (hV : V c w) : Free.Does P V w ρ o := by
  unfold Free.Does
  simp [execOp, ho, hx, hr]
  exact ⟨hV, Below.refl _ w⟩
theorem s_call0 {G : World → World → Prop} {f : FuncId} {fn : Func} {ts : Array TypeId} {caps : Array Value} {x : Operand} (hfn : P.funcs[f]? = some fn) (hname : (fn.name == "runtime.NumGoroutine") = false) (hbody : fn.body.isNone = false)
    (ho : o.op = .call { callee := .value x, args := #[], argTypes := ts }) (hf : ρ x = .func (.func f) #[] caps)
    (hc : Calls P f caps w fun e w'' => ∃ v, e = .returned v ∧ V v w'' ∧ G w w'') : StepR P G V w ((execOp ρ o).run P w) :=
  s_callV (args := #[]) hfn hname hbody ho hf (by simp) (by simpa using hc)
theorem parts3 {x y z : Operand} {c d e : Value} (h : ρ x = c) (h2 : ρ y = d) (h3 : ρ z = e) : ((#[(0, x), (1, y), (2, z)] : Array (Nat × Operand)).map fun (i, x) => (i, ρ x)) = #[(0, c), (1, d), (2, e)] := by simp [h, h2, h3]
end
end FreeP
namespace Hd
def stSg (l : By) (s : RS) (fr : Int) : RS × Sg := ((stDig l (stNum l (stNum l s).1).1).1, ⟨fr, ((stNum l s).2 : Int), ((stNum l (stNum l s).1).2 : Int), (stDig l (stNum l (stNum l s).1).1).2⟩)
end Hd
/-- The boxes of a reading: the reader's, where the next sign begins, and the two closures. -/
structure HSt (w : World) (B g gf gn gd : Nat) (l : List UInt8) (s : Hd.RS) (fr : Int) : Prop where
  rd : HRd w B g l s
  rf : Row w gf #[.int .i64 fr] 3
  rn : Row w gn #[.func (.func 143) #[] #[.pointer (some ⟨g, 0, none⟩)]] 133
  rg : Row w gd #[.func (.func 144) #[] #[.pointer (some ⟨g, 0, none⟩)]] 216
  bf : B ≤ gf
abbrev SG : List TypeId := [122, 3]
theorem HRd.keep {w w' : World} {B g : Nat} {l : List UInt8} {s : Hd.RS} (h : HRd w B g l s) (hb : Below w.heap.size w w') : HRd w' B g l s := by
  obtain ⟨A, c, r, hbs⟩ := h.ex
  exact ⟨⟨A, c, r.belowS hb (Nat.le_refl _), hbs.keep hb⟩, h.b1, h.at_⟩
theorem HSt.keep {w w' : World} {B g gf gn gd : Nat} {l : List UInt8} {s : Hd.RS} {fr : Int} (h : HSt w B g gf gn gd l s fr) (hb : Below w.heap.size w w') : HSt w' B g gf gn gd l s fr :=
  ⟨h.rd.keep hb, h.rf.belowS hb (Nat.le_refl _), h.rn.belowS hb (Nat.le_refl _), h.rg.belowS hb (Nat.le_refl _), h.bf⟩
theorem HSt.turn {w w' : World} {B g gf gn gd : Nat} {l : List UInt8} {s s' : Hd.RS} {fr : Int} (h : HSt w B g gf gn gd l s fr) (k : KeepTy SR w w') (hr : HRd w' B g l s') : HSt w' B g gf gn gd l s' fr :=
  ⟨hr, h.rf.keepTy (by decide) k, h.rn.keepTy (by decide) k, h.rg.keepTy (by decide) k, h.bf⟩
def notU8 : Value → Bool
  | .int .u8 _ => false
  | _ => true
theorem Bs.ne_row {w : World} {A : Option Addr} {n c x : Nat} {l : List UInt8} {cs : Array Value} {t : TypeId} (h : Bs w A n c l) (hx : Row w x cs t) (hu : cs.toList.all notU8 = true) : ∀ p, A = some p → l ≠ [] → p.block ≠ x := by
  intro p hp hl e
  obtain ⟨b, off, e1, hb, hc⟩ := h.rd (fun e => hl (by cases l with | nil => rfl | cons => cases e))
  rw [hp] at e1
  injection e1 with e1
  subst e1
  simp only at e
  subst e
  cases l with
  | nil => exact hl rfl
  | cons u l =>
    have h1 := hc 0 (bv u) rfl
    rw [World.cell?, hx] at h1
    simp only [Nat.add_zero] at h1
    have h2 := Array.mem_of_getElem? h1
    rw [List.all_eq_true] at hu
    have h3 := hu _ (Array.mem_toList_iff.2 h2)
    exact absurd h3 (by simp [notU8, bv])
theorem HRd.setF {w : World} {B g x : Nat} {l : List UInt8} {s : Hd.RS} {cs : Array Value} {t : TypeId} (h : HRd w B g l s) (hx : Row w x cs t) (ht : t ≠ 122) (hu : cs.toList.all notU8 = true) (h8 : t ≠ 5) (vs : List Value) (k : Nat) : HRd (setFrom x w k vs) B g l s := by
  obtain ⟨A, c, r, hbs⟩ := h.ex
  have hne : g ≠ x := row_ne r hx (Ne.symm ht)
  have h1 : BsN w B x A l.length c l := ⟨hbs.bs, hbs.bs.ne_row hx hu, hbs.src⟩
  have h2 := BsN.setFrom h8 vs k h1 hx
  exact ⟨⟨A, c, r.far_setFrom hne vs k, ⟨h2.bs, hbs.far, h2.src⟩⟩, h.b1, h.at_⟩
theorem HRd.grown {w w' : World} {B g : Nat} {l : List UInt8} {s : Hd.RS} (h : HRd w B g l s) {e : TypeId} {size m : Nat} {v : Value} {xs : List Value} (ho : w.ownsRow B e size v m xs) (he : e ∉ [5, 122]) (hg : w.grownBy w' v.ownBlock) (hs : w.heap.size ≤ w'.heap.size) : HRd w' B g l s := by
  simp only [List.mem_cons, List.not_mem_nil, or_false, not_or] at he
  obtain ⟨A, c, r, hbs⟩ := h.ex
  exact ⟨⟨A, c, r.keepTy (by simp only [List.mem_singleton]; exact Ne.symm he.2) (KeepTy.grown (S := [e]) ho (List.mem_singleton.2 rfl) hg hs), hbs.grown ho he.1 hg hs⟩, h.b1, h.at_⟩
theorem HSt.setF {w : World} {B g gf gn gd x : Nat} {l : List UInt8} {s : Hd.RS} {fr : Int} {cs : Array Value} {t : TypeId} (h : HSt w B g gf gn gd l s fr) (hx : Row w x cs t) (ht : t ∉ [122, 3, 133, 216, 5]) (hu : cs.toList.all notU8 = true) (vs : List Value) (k : Nat) : HSt (setFrom x w k vs) B g gf gn gd l s fr := by
  simp only [List.mem_cons, List.not_mem_nil, or_false, not_or] at ht
  exact ⟨h.rd.setF hx ht.1 hu ht.2.2.2.2 vs k, h.rf.far_setFrom (row_ne h.rf hx (Ne.symm ht.2.1)) vs k, h.rn.far_setFrom (row_ne h.rn hx (Ne.symm ht.2.2.1)) vs k, h.rg.far_setFrom (row_ne h.rg hx (Ne.symm ht.2.2.2.1)) vs k, h.bf⟩
theorem HSt.setFr {w : World} {B g gf gn gd : Nat} {l : List UInt8} {s : Hd.RS} {fr : Int} (h : HSt w B g gf gn gd l s fr) (tt : Int) : HSt (w.setCell ⟨gf, 0, none⟩ (.int .i64 tt)) B g gf gn gd l s tt := by
  have h1 := h.rd.setF h.rf (by decide) rfl (by decide) [.int .i64 tt] 0
  exact ⟨h1, h.rf.set1 _, h.rn.far gf 0 _ (row_ne h.rn h.rf (by decide)), h.rg.far gf 0 _ (row_ne h.rg h.rf (by decide)), h.bf⟩
theorem HSt.le {w : World} {B g gf gn gd : Nat} {l : List UInt8} {s : Hd.RS} {fr : Int} (h : HSt w B g gf gn gd l s fr) : B ≤ w.heap.size := by
  have h1 := h.rf.lt
  have h2 := h.bf
  omega
theorem HRd.num {w : World} {B g : Nat} {l : List UInt8} {s s' : Hd.RS} {v : Nat} (h : HRd w B g l s) (hn : l.length ≤ 1000000000) (e : Hd.stNum l s = (s', v)) : Calls Tryd.prog 143 #[.pointer (some ⟨g, 0, none⟩)] w (HRPost B g l s' (.int .i64 (v : Int)) w) := by
  obtain ⟨A, c, r, hbs⟩ := h.ex
  have := hr1_any B g l s w h (by have h1 := r.lt; have h2 := h.b1; omega) hn
  rw [e] at this
  exact this
theorem HRd.dig {w : World} {B g : Nat} {l : List UInt8} {s s' : Hd.RS} {v : List UInt8} (h : HRd w B g l s) (hn : l.length ≤ 1000000000) (e : Hd.stDig l s = (s', v)) : Calls Tryd.prog 144 #[.pointer (some ⟨g, 0, none⟩)] w (HRPost B g l s' (sv v) w) := by
  obtain ⟨A, c, r, hbs⟩ := h.ex
  have := hr2_any B g l s w h (by have h1 := r.lt; have h2 := h.b1; omega) hn
  rw [e] at this
  exact this
theorem bel_drew (B : Nat) (w : World) : Below B w w.drew := ⟨rfl, rfl, rfl, Nat.le_refl _, fun _ _ => rfl⟩
theorem KeepTy.drew (S : List TypeId) (w : World) : KeepTy S w w.drew := ⟨Nat.le_refl _, fun _ _ h _ => h⟩
def SgPost (B g gf gn gd : Nat) (l : List UInt8) (r : Hd.RS × Hd.Sg) (w : World) (e : Ending) (w' : World) : Prop := e = .returned (sgv r.2) ∧ HSt w' B g gf gn gd l r.1 r.2.to ∧ Below B w w' ∧ KeepTy SG w w'
/-- What stands between two steps of a sign's reading. -/
structure SgC (w0 w1 : World) (B g gf gn gd gr : Nat) (l : List UInt8) (s : Hd.RS) (fr : Int) (W : World) : Prop where
  st : HSt W B g gf gn gd l s fr
  row : Row W gr #[.int .i64 0, .int .i64 0, .int .i64 0, .string { data := #[] }] 130
  bel : Below B w0 W
  kp : KeepTy SG w0 W
  sz : w1.heap.size ≤ W.heap.size
theorem SgC.keep {w0 w1 W W' : World} {B g gf gn gd gr : Nat} {l : List UInt8} {s : Hd.RS} {fr : Int} (h : SgC w0 w1 B g gf gn gd gr l s fr W) (hb : Below W.heap.size W W') : SgC w0 w1 B g gf gn gd gr l s fr W' :=
  ⟨h.st.keep hb, h.row.belowS hb (Nat.le_refl _), h.bel.trans (hb.mono h.st.le), h.kp.trans (KeepTy.of hb), Nat.le_trans h.sz hb.size⟩
theorem SgC.turn {w0 w1 W W' : World} {B g gf gn gd gr : Nat} {l : List UInt8} {s s' : Hd.RS} {fr : Int} (h : SgC w0 w1 B g gf gn gd gr l s fr W) (hr : HRd W' B g l s') (hb : Below B W W') (k : KeepTy SR W W') : SgC w0 w1 B g gf gn gd gr l s' fr W' :=
  ⟨h.st.turn k hr, h.row.keepTy (by decide) k, h.bel.trans hb, h.kp.trans (k.more (by decide)), Nat.le_trans h.sz k.size⟩
theorem SgC.setF {w0 w1 W : World} {B g gf gn gd gr x : Nat} {l : List UInt8} {s : Hd.RS} {fr : Int} {cs : Array Value} {t : TypeId} (h : SgC w0 w1 B g gf gn gd gr l s fr W) (hx : Row W x cs t) (hB : B ≤ x) (h0 : w0.heap.size ≤ x) (ht : t ∉ [122, 3, 133, 216, 5, 130]) (hu : cs.toList.all notU8 = true) (vs : List Value) (k : Nat) : SgC w0 w1 B g gf gn gd gr l s fr (setFrom x W k vs) := by
  simp only [List.mem_cons, List.not_mem_nil, or_false, not_or] at ht
  have hz : (setFrom x W k vs).heap.size = W.heap.size := size_setFrom x vs W k
  refine ⟨h.st.setF hx (by simp only [List.mem_cons, List.not_mem_nil, or_false, not_or]; exact ⟨ht.1, ht.2.1, ht.2.2.1, ht.2.2.2.1, ht.2.2.2.2.1⟩) hu vs k, h.row.far_setFrom (row_ne h.row hx (Ne.symm ht.2.2.2.2.2)) vs k, below_setFrom hB vs k h.bel, ?_, by rw [hz]; exact h.sz⟩
  exact KeepTy.farFrom h0 vs k h.kp
theorem SgC.setFr {w0 w1 W : World} {B g gf gn gd gr : Nat} {l : List UInt8} {s : Hd.RS} {fr : Int} (h : SgC w0 w1 B g gf gn gd gr l s fr W) (tt : Int) : SgC w0 w1 B g gf gn gd gr l s tt (W.setCell ⟨gf, 0, none⟩ (.int .i64 tt)) :=
  ⟨h.st.setFr tt, h.row.far gf 0 _ (row_ne h.row h.st.rf (by decide)), h.bel.setCell (p := ⟨gf, 0, none⟩) h.st.bf _, h.kp.trans ((KeepTy.set (S := [3]) h.st.rf (by decide) 0 _).more (by decide)), by rw [World.size_setCell]; exact h.sz⟩
set_option maxHeartbeats 8000000 in
theorem sign_any (B g gf gn gd : Nat) (l : List UInt8) (s : Hd.RS) (fr : Int) (w : World) (h : HSt w B g gf gn gd l s fr) (hn : l.length ≤ 1000000000) :
    Calls Tryd.prog 145 #[.pointer (some ⟨gf, 0, none⟩), .pointer (some ⟨gn, 0, none⟩), .pointer (some ⟨gd, 0, none⟩)] w (SgPost B g gf gn gd l (Hd.stSg l s fr) w) := by
  obtain ⟨⟨s1, v1⟩, hs1⟩ : ∃ r, Hd.stNum l s = r := ⟨_, rfl⟩
  obtain ⟨⟨s2, v2⟩, hs2⟩ : ∃ r, Hd.stNum l s1 = r := ⟨_, rfl⟩
  obtain ⟨⟨s3, v3⟩, hs3⟩ : ∃ r, Hd.stDig l s2 = r := ⟨_, rfl⟩
  have HE := Lib.hid (show Hd.stSg l s fr = (s3, ⟨fr, (v1 : Int), (v2 : Int), v3⟩) by unfold Hd.stSg; rw [hs1, hs2, hs3])
  have HS1 := Lib.hid hs1
  have HS2 := Lib.hid hs2
  have HS3 := Lib.hid hs3
  clear hs1 hs2 hs3
  have hrow := row_new w #[.int .i64 0, .int .i64 0, .int .i64 0, .string { data := #[] }] 130
  have hb0 := (Below.refl w.heap.size w).alloc (Nat.le_refl _) (.cells #[.int .i64 0, .int .i64 0, .int .i64 0, .string { data := #[] }] 130)
  obtain ⟨w1, hw1⟩ : ∃ w1, w.alloc (.cells #[.int .i64 0, .int .i64 0, .int .i64 0, .string { data := #[] }] 130) = w1 := ⟨_, rfl⟩
  have HW1 := Lib.hid hw1
  rw [hw1] at hrow hb0
  have HC1 := Lib.hid (show SgC w w1 B g gf gn gd w.heap.size l s fr w1 from ⟨h.keep hb0, hrow, hb0.mono h.le, KeepTy.of hb0, Nat.le_refl _⟩)
  have hlt1 : w.heap.size < w1.heap.size := hrow.lt
  have hle := h.le
  clear hrow hb0 hw1 h
  rw [HE.out]
  go_enter Tryd.func145, Tryd.ntmps145
  go_upto_region 1 with fail
  rw [HW1.out]
  refine FreeP.wp_free_l 5 2 SR (fun b W => SgC w w1 B g gf gn gd w.heap.size l (cond b s1 s) fr W) [FreeP.kc (.int .i64 fr), FreeP.kc (.func (.func 143) #[] #[.pointer (some ⟨g, 0, none⟩)]), FreeP.kc (.int .i64 (v1 : Int)), FreeP.kc (.agg #[.int .i64 fr, .int .i64 (v1 : Int)]), FreeP.kA (w1.heap.size) (128) (#[.int .i64 0, .int .i64 0]) ((by decide))] (by kernel_rfl) (by kernel_rfl) (by decide) (by decide) (HC1.out.keep (bel_drew _ _)) (fun b W W' h g => h.keep g) ?_ ?_
  · refine Free.forall_succ (Free.forall_succ (Free.forall_succ (Free.forall_succ (Free.forall_succ (Free.forall_zero) ?_) ?_) ?_) ?_) ?_
    · exact FreeP.ob_plain _ rfl rfl (by decide) fun b vals wq hb hC hd => (by exact Free.d_load (cx := .pointer (some ⟨gf, 0, none⟩)) rfl (by kernel_rfl) (by have hcc := hC.st.rf.cellQ 0 _ rfl; go_simp) rfl)
    · exact FreeP.ob_plain _ rfl rfl (by decide) fun b vals wq hb hC hd => (by exact Free.d_load (cx := .pointer (some ⟨gn, 0, none⟩)) rfl (by kernel_rfl) (by have hcc := hC.st.rn.cellQ 0 _ rfl; go_simp) rfl)
    · exact FreeP.ob_turn _ rfl rfl fun vals wq hC hd => (by exact FreeP.s_call0 Tryd.func143 rfl rfl rfl (Eq.trans (b := vals 1) (by kernel_rfl) (hd 1 (by kernel_rfl))) ((hC.st.rd.num hn HS1.out).mono fun e w2 ⟨he, hr, hb, hk⟩ => ⟨_, he, rfl, hk, hC.turn hr hb hk⟩))
    · exact FreeP.ob_plain _ rfl rfl (by decide) fun b vals wq hb hC hd => (by exact FreeP.d_buildS rfl (Free.parts2 (Eq.trans (b := vals 0) (by kernel_rfl) (hd 0 (by kernel_rfl))) (Eq.trans (b := vals 2) (by kernel_rfl) (hd 2 (by kernel_rfl)))) (by go_simp) rfl)
    · exact FreeP.ob_plain _ rfl rfl (by decide) fun b vals wq hb hC hd => (by exact FreeP.d_alloc (z := .agg #[.int .i64 0, .int .i64 0]) rfl (by kernel_rfl) (by decide) hC.sz)
  · intro vals wq hC hd
    have e0 : vals 0 = (.int .i64 fr) := hd 0 (by decide)
    have e1 : vals 1 = (.func (.func 143) #[] #[.pointer (some ⟨g, 0, none⟩)]) := hd 1 (by decide)
    have e2 : vals 2 = (.int .i64 (v1 : Int)) := hd 2 (by decide)
    have e3 : vals 3 = (.agg #[.int .i64 fr, .int .i64 (v1 : Int)]) := hd 3 (by decide)
    obtain ⟨g4, e4, ge4, rw4⟩ := hd 4 (by decide)
    simp only [Free.frameOf, List.range, List.range.loop, List.foldl, Free.dstOf, List.getElem?_toArray, List.getElem?_cons_zero, List.getElem?_cons_succ, Option.bind_some, Act.put, List.setIfInBounds_toArray, List.set_cons_zero, List.set_cons_succ, e0, e1, e2, e3, e4]
    clear hd e0 e1 e2 e3 e4
    have hC : SgC w w1 B g gf gn gd w.heap.size l s1 fr wq := hC
    have q0 := rw4.cellQ 0 _ rfl
    have q1 := rw4.cellQ 1 _ rfl
    have q2 := rw4.frozen 0
    have q3 := rw4.frozen 1
    have HC2 := Lib.hid (show ∀ wd, setFrom g4 wq 0 [.int .i64 fr, .int .i64 (v1 : Int)] = wd → SgC w w1 B g gf gn gd w.heap.size l s1 fr wd ∧ Row wd g4 #[.int .i64 fr, .int .i64 (v1 : Int)] 128 from fun wd hd => by subst hd; exact ⟨hC.setF rw4 (by omega) (by omega) (by decide) rfl _ 0, rw4.all _ rfl⟩)
    clear hC rw4
    go_upto_region 2 with fail
    generalize hwd : World.setCell (World.setCell wq _ _) _ _ = wd
    have hh := HC2.out wd (by rw [← hwd]; rfl)
    have HC3 := Lib.hid hh.1
    have HRW3 := Lib.hid hh.2
    clear hwd hh HC2 q0 q1 q2 q3
    have x1 := HRW3.out.cellQ 1 _ rfl
    have xf := HC3.out.st.rf.cellQ 0 _ rfl
    have xg := HC3.out.st.rf.frozen 0
    go_upto_region 3 with fail
    generalize hwd : World.setCell wd _ _ = we
    have HC4 := Lib.hid (show SgC w w1 B g gf gn gd w.heap.size l s1 (v1 : Int) we by rw [← hwd]; exact HC3.out.setFr _)
    have HRW4 := Lib.hid (show Row we g4 #[.int .i64 fr, .int .i64 (v1 : Int)] 128 by rw [← hwd]; exact HRW3.out.far gf 0 _ (row_ne HRW3.out HC3.out.st.rf (by decide)))
    clear hwd x1 xf xg HC3 HRW3
    have xn := HC4.out.st.rn.cellQ 0 _ rfl
    go_wp2_with fail
    (with_reducible refine (HC4.out.st.rd.num hn HS2.out).mono ?_)
    rintro e w5 ⟨rfl, hr5, hb5, hk5⟩
    have HC5 := Lib.hid (HC4.out.turn hr5 hb5 hk5)
    have HRW5 := Lib.hid (HRW4.out.keepTy (by decide) hk5)
    clear hr5 hb5 hk5 xn HC4 HRW4
    go_upto_region 4 with fail
    refine FreeP.wp_free_l 5 3 SR (fun b W => SgC w w1 B g gf gn gd w.heap.size l (cond b s3 s2) (v1 : Int) W ∧ Row W g4 #[.int .i64 fr, .int .i64 (v1 : Int)] 128) [FreeP.kc (.agg #[.int .i64 fr, .int .i64 (v1 : Int)]), FreeP.kc (.int .i64 (v2 : Int)), FreeP.kc (.func (.func 144) #[] #[.pointer (some ⟨g, 0, none⟩)]), FreeP.kc (sv v3), FreeP.kc (.agg #[.int .i64 fr, .int .i64 (v1 : Int), .int .i64 (v2 : Int), sv v3])] (by kernel_rfl) (by kernel_rfl) (by decide) (by decide) ⟨HC5.out.keep (bel_drew _ _), HRW5.out.drew⟩ (fun b W W' h g => ⟨h.1.keep g, h.2.belowS g (Nat.le_refl _)⟩) ?_ ?_
    · refine Free.forall_succ (Free.forall_succ (Free.forall_succ (Free.forall_succ (Free.forall_succ (Free.forall_zero) ?_) ?_) ?_) ?_) ?_
      · exact FreeP.ob_plain _ rfl rfl (by decide) fun b vals wq_1 hb hC hd => (by exact Free.d_load (cx := .pointer (some ⟨g4, 0, none⟩)) rfl (by kernel_rfl) (by have a0 := hC.2.cellQ 0 _ rfl; have a1 := hC.2.cellQ 1 _ rfl; go_simp) rfl)
      · exact FreeP.ob_plain _ rfl rfl (by decide) fun b vals wq_1 hb hC hd => (by exact Free.d_move rfl (by kernel_rfl) rfl)
      · exact FreeP.ob_plain _ rfl rfl (by decide) fun b vals wq_1 hb hC hd => (by exact Free.d_load (cx := .pointer (some ⟨gd, 0, none⟩)) rfl (by kernel_rfl) (by have hcc := hC.1.st.rg.cellQ 0 _ rfl; go_simp) rfl)
      · exact FreeP.ob_turn _ rfl rfl fun vals wq_1 hC hd => (by exact FreeP.s_call0 Tryd.func144 rfl rfl rfl (Eq.trans (b := vals 2) (by kernel_rfl) (hd 2 (by kernel_rfl))) ((hC.1.st.rd.dig hn HS3.out).mono fun e w2 ⟨he, hr, hb, hk⟩ => ⟨_, he, rfl, hk, hC.1.turn hr hb hk, hC.2.keepTy (by decide) hk⟩))
      · exact FreeP.ob_plain _ rfl rfl (by decide) fun b vals wq_1 hb hC hd => (by exact FreeP.d_buildS rfl (FreeP.parts3 (Eq.trans (b := vals 0) (by kernel_rfl) (hd 0 (by kernel_rfl))) (Eq.trans (b := vals 1) (by kernel_rfl) (hd 1 (by kernel_rfl))) (Eq.trans (b := vals 3) (by kernel_rfl) (hd 3 (by kernel_rfl)))) (by go_simp) rfl)
    · intro vals wq_1 hC hd
      have e0 : vals 0 = (.agg #[.int .i64 fr, .int .i64 (v1 : Int)]) := hd 0 (by decide)
      have e1 : vals 1 = (.int .i64 (v2 : Int)) := hd 1 (by decide)
      have e2 : vals 2 = (.func (.func 144) #[] #[.pointer (some ⟨g, 0, none⟩)]) := hd 2 (by decide)
      have e3 : vals 3 = (sv v3) := hd 3 (by decide)
      have e4 : vals 4 = (.agg #[.int .i64 fr, .int .i64 (v1 : Int), .int .i64 (v2 : Int), sv v3]) := hd 4 (by decide)
      simp only [Free.frameOf, List.range, List.range.loop, List.foldl, Free.dstOf, List.getElem?_toArray, List.getElem?_cons_zero, List.getElem?_cons_succ, Option.bind_some, Act.put, List.setIfInBounds_toArray, List.set_cons_zero, List.set_cons_succ, e0, e1, e2, e3, e4]
      clear hd e0 e1 e2 e3 e4
      have hC1 : SgC w w1 B g gf gn gd w.heap.size l s3 (v1 : Int) wq_1 := hC.1
      have q0 := hC1.row.cellQ 0 _ rfl
      have q1 := hC1.row.cellQ 1 _ rfl
      have q2 := hC1.row.cellQ 2 _ rfl
      have q3 := hC1.row.cellQ 3 _ rfl
      have f0 := hC1.row.frozen 0
      have f1 := hC1.row.frozen 1
      have f2 := hC1.row.frozen 2
      have f3 := hC1.row.frozen 3
      have HC6 := Lib.hid hC1
      clear hC hC1
      go_wp2
      generalize hwf : World.setCell (World.setCell (World.setCell (World.setCell wq_1 _ _) _ _) _ _) _ _ = wf
      have hsf : setFrom w.heap.size wq_1 0 [.int .i64 fr, .int .i64 (v1 : Int), .int .i64 (v2 : Int), sv v3] = wf := by rw [← hwf]; rfl
      have hrow := HC6.out.row.all [.int .i64 fr, .int .i64 (v1 : Int), .int .i64 (v2 : Int), sv v3] rfl
      rw [hsf] at hrow
      have r0 := hrow.cellQ 0 _ rfl
      have r1 := hrow.cellQ 1 _ rfl
      have r2 := hrow.cellQ 2 _ rfl
      have r3 := hrow.cellQ 3 _ rfl
      refine bodyPost_ret (v := sgv ⟨fr, (v1 : Int), (v2 : Int), v3⟩) (by simp [results, Tryd.results145, go_sem, r0, r1, r2, r3, sgv]) rfl ?_
      rw [← hsf]
      exact ⟨rfl, HC6.out.st.setF HC6.out.row (by decide) rfl _ 0, below_setFrom hle _ 0 HC6.out.bel, KeepTy.farFrom (Nat.le_refl _) _ 0 HC6.out.kp⟩
end Go.Proofs.YtfgpaepdlmnhaaaDoor

namespace Go.Proofs.YtfgpaepdlmnhaaaDoor
set_option maxRecDepth 100000
set_option linter.unusedVariables false
open Go.RowKit
namespace FreeP
open Free
theorem s_app {P : Program} {w : World} {o : Oper} {ρ : Operand → Value} {V : Value → World → Prop} {R : World → World → Prop} {T e : TypeId} {size bytes B n m c C : Nat} (hT : ElemT P T e size bytes) {s x : Operand} (ho : o.op = .call { callee := .builtin .append, args := #[s, x], argTypes := #[T, T] })
    {v : Value} {xs news : List Value} {A : Option Addr} (hs : ρ s = v) (hown : w.ownsRow B e size v n xs) (hx : ρ x = .slice A m c) (hr : Rd w C A news) (hl : news.length = m * size) (h1 : ∀ u ∈ news, u.oneCell' = true)
    (h63 : n + m ≤ maxLen) (hbytes : (n + m) * bytes ≤ 140737488355328) (hB : B ≤ w.heap.size)
    (h : ∀ A' c' w', w'.ownsRow B e size (.slice A' (n + m) c') (n + m) (xs ++ news) → w.grownBy w' v.ownBlock → Below B w w' → n + m ≤ c' → c' ≤ maxLen → V (.slice A' (n + m) c') w' ∧ R w w') : StepR P R V w ((execOp ρ o).run P w) := by
  obtain ⟨A', c', w', hrun, h2, h3, h4, h5, h6⟩ := run_app (P := P) (w := w) B T o.type e size bytes hT v n xs hown C A m c news hr hl h1 h63 hbytes hB
  have hr2 : ((execOp ρ o).run P w) = .ok (.value (.slice A' (n + m) c')) w' := by
    unfold execOp
    simp only [ho, resolve, invoke, builtin, Sem.run_bind, Sem.run_pure, Result.andThen_ok, List.map_toArray, List.map_cons, List.map_nil, hs, hx, hrun]
  rw [hr2]
  exact h A' c' w' h2 h3 (own_below hown h3 hB) h5 h6
theorem d_lit {P : Program} {w : World} {o : Oper} {ρ : Operand → Value} {S : List TypeId} {b : Nat} {T : TypeId} {len : Nat} {parts : Array (Nat × Operand)} {vs : Array (Nat × Value)} {cs : Array Value} {t : TypeId} (ho : o.op = .buildSlice T len parts) (hx : (parts.map fun (i, x) => (i, ρ x)) = vs) (hr : (Instr.buildSlice T len vs).run P w = .ok (.slice (some ⟨w.heap.size, 0, none⟩) len len) (w.alloc (.cells cs t))) {b0 : Nat} (ht : t ∉ S) (hb : b ≤ b0) (h0 : b0 ≤ w.heap.size) : Free.Does P (xL (S := S) b0 len t cs ht hb).k.p w ρ o := by
  unfold Free.Does
  simp [execOp, ho, hx, hr]
  exact ⟨⟨w.heap.size, rfl, h0, row_new w _ _⟩, (Below.refl _ w).alloc (Nat.le_refl _) _⟩
end FreeP
theorem signsT : ElemT Tryd.prog 22 130 4 40 := ElemT.mk' (z := .agg #[.int .i64 0, .int .i64 0, .int .i64 0, .string ByteArray.empty]) Tryd.underlying22 (by kernel_rfl) rfl (by omega)
theorem one_sg (l : List Hd.Sg) : ∀ u ∈ l.flatMap sgc, u.oneCell' = true := fun u hu => by
  obtain ⟨s, _, h⟩ := List.mem_flatMap.1 hu
  simp only [sgc, List.mem_cons, List.not_mem_nil, or_false] at h
  rcases h with rfl | rfl | rfl | rfl <;> rfl
theorem sg_snoc (L : List Hd.Sg) (sg : Hd.Sg) : (L ++ [sg]).flatMap sgc = L.flatMap sgc ++ [.int .i64 sg.fr, .int .i64 sg.to, .int .i64 sg.lk, sv sg.rt] := by simp [sgc]
theorem rd_of_row {w : World} {b : Nat} {cs : Array Value} {t : TypeId} (h : Row w b cs t) : Rd w w.heap.size (some ⟨b, 0, none⟩) cs.toList := fun _ => ⟨b, 0, rfl, h.lt, fun j v hv => by
  have := h.cellQ j v (by rw [← hv]; simp)
  simpa using this⟩
theorem above_of_grown {B n size : Nat} {v : Value} {xs : List Value} {e : TypeId} {w w' : World} {b : Nat} (h : w.ownsRow B e size v n xs) (hg : w.grownBy w' v.ownBlock) (hs : w.heap.size ≤ w'.heap.size) (hb : ∀ g, v.ownBlock = some g → g < b) : FreeP.Above b w w' := ⟨hs, fun x o hx ho => by
  rw [hg.block x (heap_ltT ho) (fun e => by have := hb x e.symm; omega)]
  exact ho⟩
namespace Hd
/-- The state behind so many signs: where the reading is, where the next sign begins, the signs. -/
def stK (l : By) (s0 : RS) : Nat → RS × Int × List Sg
  | 0 => (s0, 0, [])
  | k + 1 => ((stSg l (stK l s0 k).1 (stK l s0 k).2.1).1, (stSg l (stK l s0 k).1 (stK l s0 k).2.1).2.to, (stK l s0 k).2.2 ++ [(stSg l (stK l s0 k).1 (stK l s0 k).2.1).2])
theorem stK_len (l : By) (s0 : RS) : ∀ k, (stK l s0 k).2.2.length = k
  | 0 => rfl
  | k + 1 => by simp only [stK, List.length_append, stK_len l s0 k, List.length_singleton]
theorem stK_rt (l : By) (s0 : RS) : ∀ k, ∀ s ∈ (stK l s0 k).2.2, s.rt.length ≤ 32
  | 0, s, hs => by simp [stK] at hs
  | k + 1, s, hs => by
    simp only [stK] at hs
    rcases List.mem_append.1 hs with hs | hs
    · exact stK_rt l s0 k s hs
    · rw [List.mem_singleton.1 hs]; exact stDig_len
def doneX (l : By) (s : RS) : Nat := if s.x ≠ 0 then s.x else if s.at_ < l.length then 2 else 0
/-- A head, read. -/
def rdHd (l : By) : Except Nat H :=
  if 64 < (stNum l (stDig l (stNum l ⟨0, 0⟩).1).1).2 then .error 2 else
  if doneX l (stK l (stNum l (stDig l (stNum l ⟨0, 0⟩).1).1).1 (stNum l (stDig l (stNum l ⟨0, 0⟩).1).1).2).1 ≠ 0 then .error (doneX l (stK l (stNum l (stDig l (stNum l ⟨0, 0⟩).1).1).1 (stNum l (stDig l (stNum l ⟨0, 0⟩).1).1).2).1) else
  if H.ok ⟨((stNum l ⟨0, 0⟩).2 : Int), (stDig l (stNum l ⟨0, 0⟩).1).2, (stK l (stNum l (stDig l (stNum l ⟨0, 0⟩).1).1).1 (stNum l (stDig l (stNum l ⟨0, 0⟩).1).1).2).2.2⟩ = true then
    .ok ⟨((stNum l ⟨0, 0⟩).2 : Int), (stDig l (stNum l ⟨0, 0⟩).1).2, (stK l (stNum l (stDig l (stNum l ⟨0, 0⟩).1).1).1 (stNum l (stDig l (stNum l ⟨0, 0⟩).1).1).2).2.2⟩
  else .error 2
end Hd
def hd0 : Value := .agg #[.int .i64 0, .string { data := #[] }, .slice none 0 0]
def RHdPost (r : Except Nat Hd.H) (w : World) (e : Ending) (w' : World) : Prop := match r with
  | .ok h => ∃ A n c, e = .returned (.tuple #[hdv A n c h, .int .i64 0]) ∧ OwnQ sgc 4 130 w' w.heap.size A n c h.segs ∧ Below w.heap.size w w'
  | .error x => e = .returned (.tuple #[hd0, .int .i64 (x : Int)]) ∧ Below w.heap.size w w' ∧ x ≠ 0
/-- What stands between two steps of a head's reading, but for the signs. -/
structure HdB (w0 W : World) (B g gf gn gd gh gr : Nat) (l : List UInt8) (s : Hd.RS) (fr : Int) (hs : Array Value) : Prop where
  st : HSt W B g gf gn gd l s fr
  rh : Row W gh hs 24
  rr : Row W gr #[.int .i64 0, .string { data := #[] }, .slice none 0 0] 24
  bel : Below B w0 W
  bh : B ≤ gh
  br : B ≤ gr
  ne : gr ≠ gh
section
variable {w0 W W' : World} {B g gf gn gd gh gr : Nat} {l : List UInt8} {s s' : Hd.RS} {fr fr' : Int} {hs : Array Value}
theorem HdB.keep (h : HdB w0 W B g gf gn gd gh gr l s fr hs) (hb : Below W.heap.size W W') : HdB w0 W' B g gf gn gd gh gr l s fr hs :=
  ⟨h.st.keep hb, h.rh.belowS hb (Nat.le_refl _), h.rr.belowS hb (Nat.le_refl _), h.bel.trans (hb.mono h.st.le), h.bh, h.br, h.ne⟩
theorem HdB.turn (h : HdB w0 W B g gf gn gd gh gr l s fr hs) (hr : HRd W' B g l s') (hb : Below B W W') (k : KeepTy SR W W') : HdB w0 W' B g gf gn gd gh gr l s' fr hs :=
  ⟨h.st.turn k hr, h.rh.keepTy (by decide) k, h.rr.keepTy (by decide) k, h.bel.trans hb, h.bh, h.br, h.ne⟩
theorem HdB.turnS (h : HdB w0 W B g gf gn gd gh gr l s fr hs) (hr : HSt W' B g gf gn gd l s' fr') (hb : Below B W W') (k : KeepTy SG W W') : HdB w0 W' B g gf gn gd gh gr l s' fr' hs :=
  ⟨hr, h.rh.keepTy (by decide) k, h.rr.keepTy (by decide) k, h.bel.trans hb, h.bh, h.br, h.ne⟩
theorem HdB.seth (h : HdB w0 W B g gf gn gd gh gr l s fr hs) (hu : hs.toList.all notU8 = true) (j : Nat) (v : Value) : HdB w0 (W.setCell ⟨gh, j, none⟩ v) B g gf gn gd gh gr l s fr (hs.setIfInBounds j v) :=
  ⟨HSt.setF h.st h.rh (by decide) hu [v] j, h.rh.set j v, h.rr.far gh j v h.ne, h.bel.setCell (p := ⟨gh, j, none⟩) h.bh v, h.bh, h.br, h.ne⟩
theorem HdB.grown (h : HdB w0 W B g gf gn gd gh gr l s fr hs) {m : Nat} {v : Value} {xs : List Value} (ho : W.ownsRow B 130 4 v m xs) (hg : W.grownBy W' v.ownBlock) (hb : Below B W W') : HdB w0 W' B g gf gn gd gh gr l s fr hs := by
  have k := KeepTy.grown (S := [130]) ho (by decide) hg hb.size
  exact ⟨⟨h.st.rd.grown ho (by decide) hg hb.size, h.st.rf.keepTy (by decide) k, h.st.rn.keepTy (by decide) k, h.st.rg.keepTy (by decide) k, h.st.bf⟩, h.rh.keepTy (by decide) k, h.rr.keepTy (by decide) k, h.bel.trans hb, h.bh, h.br, h.ne⟩
end
theorem HSt.sign {w : World} {B g gf gn gd : Nat} {l : List UInt8} {s : Hd.RS} {fr : Int} {r : Hd.RS × Hd.Sg} (h : HSt w B g gf gn gd l s fr) (hn : l.length ≤ 1000000000) (e : Hd.stSg l s fr = r) : Calls Tryd.prog 145 #[.pointer (some ⟨gf, 0, none⟩), .pointer (some ⟨gn, 0, none⟩), .pointer (some ⟨gd, 0, none⟩)] w (SgPost B g gf gn gd l r w) := by
  subst e
  exact sign_any B g gf gn gd l s fr w h hn
theorem done_st (A : Option Addr) (n c : Nat) (l : List UInt8) (s : Hd.RS) (w : World) (hl : l.length = n) (hat : s.at_ ≤ n) (hc : n ≤ c) (hm : c ≤ maxLen) : Calls Tryd.prog 56 #[.agg #[.slice A n c, .int .i64 (s.at_ : Int), .int .i64 (s.x : Int)]] w fun e w' => e = .returned (.int .i64 (Hd.doneX l s : Int)) ∧ Below w.heap.size w w' := by
  obtain ⟨at_, x⟩ := s
  by_cases hx : x = 0
  · subst hx
    have := done_ok A n c at_ w hat hc hm
    have e : ((Hd.doneX l ⟨at_, 0⟩ : Nat) : Int) = if at_ < n then 2 else 0 := by
      unfold Hd.doneX
      simp only [ne_eq, not_true, if_false, hl]
      split <;> rfl
    rw [e]
    exact this
  · have := done_err A n c (at_ : Int) (x : Int) w (by omega)
    have e : Hd.doneX l ⟨at_, x⟩ = x := by unfold Hd.doneX; rw [if_pos hx]
    rw [e]
    exact this
def FreeP.kQ (S : List TypeId) (hS : 130 ∉ S) (B : Nat) (L : List Hd.Sg) : FreeP.SV S := ⟨fun v W => ∃ A n c, v = .slice A n c ∧ OwnQ sgc 4 130 W B A n c L, fun v W W' ⟨A, n, c, h1, h2⟩ g => ⟨A, n, c, h1, h2.keep g⟩, fun v W W' ⟨A, n, c, h1, h2⟩ g => ⟨A, n, c, h1, h2.keepTy hS g⟩⟩
theorem FreeP.C2_or {d1 d2 : Nat} {D : Nat → World → Prop} {T : Nat → Bool} {w : World} (h : FreeP.C2 d1 d2 D T w) : ∃ s, D s w := by
  unfold FreeP.C2 at h
  split at h
  · exact ⟨_, h⟩
  · exact ⟨_, h⟩
  · exact ⟨_, h⟩
  · cases h
theorem OwnQ.setc {w : World} {B n c : Nat} {A : Option Addr} {L : List Hd.Sg} (h : OwnQ sgc 4 130 w B A n c L) {x : Nat} {cs : Array Value} {t : TypeId} (hx : Row w x cs t) (ht : t ≠ 130) (j : Nat) (v : Value) : OwnQ sgc 4 130 (w.setCell ⟨x, j, none⟩ v) B A n c L := h.keepTy (S := [t]) (by simp only [List.mem_singleton]; exact Ne.symm ht) (KeepTy.set hx (List.mem_singleton.2 rfl) j v)
theorem OwnQ.setF {B n c : Nat} {A : Option Addr} {L : List Hd.Sg} {x : Nat} {t : TypeId} (ht : t ≠ 130) : ∀ (vs : List Value) {w : World} {cs : Array Value} (k : Nat), OwnQ sgc 4 130 w B A n c L → Row w x cs t → OwnQ sgc 4 130 (setFrom x w k vs) B A n c L
  | [], _, _, _, h, _ => h
  | v :: vs, _, _, k, h, hx => OwnQ.setF ht vs (k + 1) (h.setc hx ht k v) (hx.set k v)
theorem OwnQ.blk {α : Type} {cs : α → List Value} {k : Nat} {e : TypeId} {w : World} {B n c : Nat} {A : Option Addr} {L : List α} (h : OwnQ cs k e w B A n c L) : ∀ g, (Value.slice A n c).ownBlock = some g → g < w.heap.size := fun g hg => by
  rcases h.own.2 with ⟨hv, h0⟩ | ⟨b, cap, cur, hv, h1, h2, _⟩
  · rw [hv] at hg; cases hg
  · rw [hv] at hg
    simp only [Value.ownBlock, Option.some.injEq] at hg
    subst hg
    exact heap_ltT h2
/-- What stands in a round of a head's reading. -/
def HdD (w0 : World) (z B g gf gn gd gh gr : Nat) (l : List UInt8) (p q : Hd.RS × Int) (hs : Array Value) (A : Option Addr) (n c : Nat) (L : List Hd.Sg) : Nat → World → Prop
  | 0, W => HdB w0 W B g gf gn gd gh gr l p.1 p.2 hs ∧ OwnQ sgc 4 130 W B A n c L ∧ z ≤ W.heap.size
  | 1, W => HdB w0 W B g gf gn gd gh gr l q.1 q.2 hs ∧ OwnQ sgc 4 130 W B A n c L ∧ z ≤ W.heap.size
  | _, W => HdB w0 W B g gf gn gd gh gr l q.1 q.2 hs ∧ z ≤ W.heap.size
theorem HdD.any {w0 W : World} {z B g gf gn gd gh gr : Nat} {l : List UInt8} {p q : Hd.RS × Int} {hs : Array Value} {A : Option Addr} {n c : Nat} {L : List Hd.Sg} {k : Nat} (h : HdD w0 z B g gf gn gd gh gr l p q hs A n c L k W) : (∃ s fr, HdB w0 W B g gf gn gd gh gr l s fr hs) ∧ z ≤ W.heap.size := by
  match k, h with
  | 0, h => exact ⟨⟨_, _, h.1⟩, h.2.2⟩
  | 1, h => exact ⟨⟨_, _, h.1⟩, h.2.2⟩
  | k + 2, h => exact ⟨⟨_, _, h.1⟩, h.2⟩
theorem HdD.keep {w0 W W' : World} {z B g gf gn gd gh gr : Nat} {l : List UInt8} {p q : Hd.RS × Int} {hs : Array Value} {A : Option Addr} {n c : Nat} {L : List Hd.Sg} (k : Nat) (h : HdD w0 z B g gf gn gd gh gr l p q hs A n c L k W) (hb : Below W.heap.size W W') : HdD w0 z B g gf gn gd gh gr l p q hs A n c L k W' := by
  match k, h with
  | 0, h => exact ⟨h.1.keep hb, h.2.1.keep hb, Nat.le_trans h.2.2 hb.size⟩
  | 1, h => exact ⟨h.1.keep hb, h.2.1.keep hb, Nat.le_trans h.2.2 hb.size⟩
  | k + 2, h => exact ⟨h.1.keep hb, Nat.le_trans h.2 hb.size⟩
/-- Six blocks, laid one behind the other. -/
theorem six_rows (w : World) (c0 c1 c2 c3 c4 c5 : Array Value) (t0 t1 t2 t3 t4 t5 : TypeId) {W : World} (hW : ((((((w.alloc (.cells c0 t0)).alloc (.cells c1 t1)).alloc (.cells c2 t2)).alloc (.cells c3 t3)).alloc (.cells c4 t4)).alloc (.cells c5 t5)) = W) :
    Row W w.heap.size c0 t0 ∧ Row W (w.heap.size + 1) c1 t1 ∧ Row W (w.heap.size + 1 + 1) c2 t2 ∧ Row W (w.heap.size + 1 + 1 + 1) c3 t3 ∧ Row W (w.heap.size + 1 + 1 + 1 + 1) c4 t4 ∧ Row W (w.heap.size + 1 + 1 + 1 + 1 + 1) c5 t5 ∧ Below w.heap.size w W := by
  have hz : ∀ (v : World) (o : Obj), (v.alloc o).heap.size = v.heap.size + 1 := fun v o => by unfold World.alloc; simp
  have hr : ∀ (v : World) (c : Array Value) (t : TypeId) (b : Nat), b = v.heap.size → Row (v.alloc (.cells c t)) b c t := fun v c t b e => by subst e; exact row_new v c t
  subst hW
  refine ⟨(((((hr w c0 t0 _ rfl).alloc _).alloc _).alloc _).alloc _).alloc _, ((((hr _ c1 t1 _ (by rw [hz])).alloc _).alloc _).alloc _).alloc _, (((hr _ c2 t2 _ (by rw [hz, hz])).alloc _).alloc _).alloc _, ((hr _ c3 t3 _ (by rw [hz, hz, hz])).alloc _).alloc _, (hr _ c4 t4 _ (by rw [hz, hz, hz, hz])).alloc _, hr _ c5 t5 _ (by rw [hz, hz, hz, hz, hz]), ?_⟩
  exact ((((((Below.refl _ w).alloc (Nat.le_refl _) _).alloc (by rw [hz]; omega) _).alloc (by rw [hz, hz]; omega) _).alloc (by rw [hz, hz, hz]; omega) _).alloc (by rw [hz, hz, hz, hz]; omega) _).alloc (by rw [hz, hz, hz, hz, hz]; omega) _
set_option maxRecDepth 100000 in
set_option maxHeartbeats 16000000 in
theorem hread_any (A : Option Addr) (n c : Nat) (l : List UInt8) (w : World) (h : Bs w A n c l) (hn : l.length ≤ 1000000000) : Calls Tryd.prog 98 #[.slice A n c] w (RHdPost (Hd.rdHd l) w) := by
  have hlen := h.len
  obtain rfl : n = l.length := hlen.symm
  clear hlen
  obtain ⟨⟨s1, v1⟩, hs1⟩ : ∃ r, Hd.stNum l ⟨0, 0⟩ = r := ⟨_, rfl⟩
  obtain ⟨⟨s2, v2⟩, hs2⟩ : ∃ r, Hd.stDig l s1 = r := ⟨_, rfl⟩
  obtain ⟨⟨s3, v3⟩, hs3⟩ : ∃ r, Hd.stNum l s2 = r := ⟨_, rfl⟩
  obtain ⟨kq, hkq⟩ : ∃ k, Hd.stK l s3 = k := ⟨_, rfl⟩
  have HE := Lib.hid (show Hd.rdHd l = if 64 < v3 then .error 2 else if Hd.doneX l (kq v3).1 ≠ 0 then .error (Hd.doneX l (kq v3).1) else if Hd.H.ok ⟨(v1 : Int), v2, (kq v3).2.2⟩ = true then .ok ⟨(v1 : Int), v2, (kq v3).2.2⟩ else .error 2 by unfold Hd.rdHd; simp only [hs1, hs2, hs3, hkq])
  have HS1 := Lib.hid hs1
  have HS2 := Lib.hid hs2
  have HS3 := Lib.hid hs3
  have HKQ := Lib.hid hkq
  have HV2 := Lib.hid (show v2.length ≤ 32 by have := Hd.stDig_len (l := l) (s := s1); rw [hs2] at this; exact this)
  have HBS := Lib.hid (And.intro (show ∀ W, Below w.heap.size w W → w.heap.size + 1 < W.heap.size → BsN W w.heap.size (w.heap.size + 1) A l.length c l from fun W hb hlt => by
    have hf : ∀ p, A = some p → l ≠ [] → p.block < w.heap.size := fun p hp hl => by
      obtain ⟨b, off, e, hb, _⟩ := h.rd (fun e => hl (by cases l with | nil => rfl | cons => cases e))
      rw [hp] at e; injection e with e; subst e; exact hb
    exact ⟨h.keep hb, fun p hp hl => by have := hf p hp hl; omega, .inl hf⟩) (show (l.length : Nat) = l.length from rfl))
  rw [HE.out]
  clear hs1 hs2 hs3 hkq HE h
  by_cases h64 : 64 < v3
  · rw [if_pos h64]
    go_enter Tryd.func98, Tryd.ntmps98
    go_upto_region 7 with fail
    generalize hw1 : World.alloc _ _ = w1
    obtain ⟨q0, q1, q2, q3, q4, q5, qb⟩ := six_rows w _ _ _ _ _ _ _ _ _ _ _ _ hw1
    have hsz1 : w.heap.size + 1 + 1 + 1 + 1 + 1 < w1.heap.size := q5.lt
    clear hw1
    obtain ⟨B, hB⟩ : ∃ B, w.heap.size = B := ⟨_, rfl⟩
    rw [hB] at q0 q1 q2 q3 q4 q5 qb hsz1 HBS
    have HBW := Lib.hid hB
    rw [hB]
    generalize hgh : B + 1 + 1 + 1 + 1 + 1 = gh at *
    generalize hgf : B + 1 + 1 + 1 + 1 = gf at *
    generalize hgd : B + 1 + 1 + 1 = gd at *
    generalize hgn : B + 1 + 1 = gn at *
    generalize hg : B + 1 = g at *
    have HD1 := Lib.hid (show HdB w w1 B g gf gn gd gh B l ⟨0, 0⟩ 0 #[.int .i64 0, .string { data := #[] }, .slice none 0 0] from ⟨⟨⟨⟨A, c, HBS.out.2 ▸ q1, HBS.out.1 w1 qb (by omega)⟩, by omega, Nat.zero_le _⟩, q4, q2, q3, by omega⟩, q5, q0, qb, by omega, Nat.le_refl _, by omega⟩)
    clear q0 q1 q2 q3 q4 q5 qb hB hsz1
    have x0 := HD1.out.st.rn.cellQ 0 _ rfl
    go_wp2_with fail
    (with_reducible refine (HD1.out.st.rd.num hn HS1.out).mono ?_)
    rintro e w2 ⟨rfl, hr2, hb2, hk2⟩
    have HD2 := Lib.hid (HD1.out.turn hr2 hb2 hk2)
    clear hr2 hb2 hk2 x0 HD1
    have x0 := HD2.out.rh.cellQ 0 _ rfl
    have y0 := HD2.out.rh.frozen 0
    go_upto_region 8 with fail
    generalize hwd : World.setCell w2 _ _ = wd
    have HD3 := Lib.hid (show HdB w wd B g gf gn gd gh B l s1 0 #[.int .i64 (v1 : Int), .string { data := #[] }, .slice none 0 0] by rw [← hwd]; exact HD2.out.seth rfl 0 _)
    clear hwd x0 y0 HD2
    have x0 := HD3.out.st.rg.cellQ 0 _ rfl
    go_wp2_with fail
    (with_reducible refine (HD3.out.st.rd.dig hn HS2.out).mono ?_)
    rintro e w3 ⟨rfl, hr3, hb3, hk3⟩
    have HD4 := Lib.hid (HD3.out.turn hr3 hb3 hk3)
    clear hr3 hb3 hk3 x0 HD3
    have x0 := HD4.out.rh.cellQ 1 _ rfl
    have y0 := HD4.out.rh.frozen 1
    go_upto_region 9 with fail
    generalize hwd : World.setCell w3 _ _ = we
    have HD5 := Lib.hid (show HdB w we B g gf gn gd gh B l s2 0 #[.int .i64 (v1 : Int), sv v2, .slice none 0 0] by rw [← hwd]; exact HD4.out.seth rfl 1 _)
    clear hwd x0 y0 HD4
    have x0 := HD5.out.st.rn.cellQ 0 _ rfl
    go_wp2_with fail
    (with_reducible refine (HD5.out.st.rd.num hn HS3.out).mono ?_)
    rintro e w4 ⟨rfl, hr4, hb4, hk4⟩
    have HD6 := Lib.hid (HD5.out.turn hr4 hb4 hk4)
    clear hr4 hb4 hk4 x0 HD5
    have h64' : (64 : Int) < (v3 : Int) := by omega
    have x0 := HD6.out.rr.cellQ 0 _ rfl
    have x1 := HD6.out.rr.cellQ 1 _ rfl
    have x2 := HD6.out.rr.cellQ 2 _ rfl
    have y0 := HD6.out.rr.frozen 0
    have y1 := HD6.out.rr.frozen 1
    have y2 := HD6.out.rr.frozen 2
    go_wp2
    have HDX := Lib.hid HD6.out
    generalize hwf : World.setCell (World.setCell (World.setCell w4 _ _) _ _) _ _ = wf
    have hsf : setFrom B w4 0 [.int .i64 0, .string { data := #[] }, .slice none 0 0] = wf := by rw [← hwf]; rfl
    have hrow := Row.all HDX.out.rr [.int .i64 0, .string { data := #[] }, .slice none 0 0] rfl
    rw [hsf] at hrow
    have r0 := hrow.cellQ 0 _ rfl
    have r1 := hrow.cellQ 1 _ rfl
    have r2 := hrow.cellQ 2 _ rfl
    refine bodyPost_ret (v := .tuple #[.agg #[.int .i64 0, .string { data := #[] }, .slice none 0 0], .int .i64 2]) (by simp [results, Tryd.results98, go_sem, r0, r1, r2]) rfl ?_
    have hbel : Below w.heap.size w wf := by rw [HBW.out, ← hsf]; exact below_setFrom (Nat.le_refl _) _ 0 HDX.out.bel
    exact ⟨rfl, hbel, by decide⟩
  · rw [if_neg h64]
    obtain ⟨R, hR⟩ : ∃ R, (if Hd.doneX l (kq v3).1 ≠ 0 then .error (Hd.doneX l (kq v3).1) else if Hd.H.ok ⟨(v1 : Int), v2, (kq v3).2.2⟩ = true then .ok ⟨(v1 : Int), v2, (kq v3).2.2⟩ else .error 2 : Except Nat Hd.H) = R := ⟨_, rfl⟩
    have HR := Lib.hid hR
    rw [hR]
    clear hR
    go_enter Tryd.func98, Tryd.ntmps98
    go_upto_region 7 with fail
    generalize hw1 : World.alloc _ _ = w1
    obtain ⟨q0, q1, q2, q3, q4, q5, qb⟩ := six_rows w _ _ _ _ _ _ _ _ _ _ _ _ hw1
    have hsz1 : w.heap.size + 1 + 1 + 1 + 1 + 1 < w1.heap.size := q5.lt
    clear hw1
    obtain ⟨B, hB⟩ : ∃ B, w.heap.size = B := ⟨_, rfl⟩
    rw [hB] at q0 q1 q2 q3 q4 q5 qb hsz1 HBS
    have HBW := Lib.hid hB
    rw [hB]
    generalize hgh : B + 1 + 1 + 1 + 1 + 1 = gh at *
    generalize hgf : B + 1 + 1 + 1 + 1 = gf at *
    generalize hgd : B + 1 + 1 + 1 = gd at *
    generalize hgn : B + 1 + 1 = gn at *
    generalize hg : B + 1 = g at *
    have HD1 := Lib.hid (show HdB w w1 B g gf gn gd gh B l ⟨0, 0⟩ 0 #[.int .i64 0, .string { data := #[] }, .slice none 0 0] from ⟨⟨⟨⟨A, c, HBS.out.2 ▸ q1, HBS.out.1 w1 qb (by omega)⟩, by omega, Nat.zero_le _⟩, q4, q2, q3, by omega⟩, q5, q0, qb, by omega, Nat.le_refl _, by omega⟩)
    clear q0 q1 q2 q3 q4 q5 qb hB hsz1
    have x0 := HD1.out.st.rn.cellQ 0 _ rfl
    go_wp2_with fail
    (with_reducible refine (HD1.out.st.rd.num hn HS1.out).mono ?_)
    rintro e w2 ⟨rfl, hr2, hb2, hk2⟩
    have HD2 := Lib.hid (HD1.out.turn hr2 hb2 hk2)
    clear hr2 hb2 hk2 x0 HD1
    have x0 := HD2.out.rh.cellQ 0 _ rfl
    have y0 := HD2.out.rh.frozen 0
    go_upto_region 8 with fail
    generalize hwd : World.setCell w2 _ _ = wd
    have HD3 := Lib.hid (show HdB w wd B g gf gn gd gh B l s1 0 #[.int .i64 (v1 : Int), .string { data := #[] }, .slice none 0 0] by rw [← hwd]; exact HD2.out.seth rfl 0 _)
    clear hwd x0 y0 HD2
    have x0 := HD3.out.st.rg.cellQ 0 _ rfl
    go_wp2_with fail
    (with_reducible refine (HD3.out.st.rd.dig hn HS2.out).mono ?_)
    rintro e w3 ⟨rfl, hr3, hb3, hk3⟩
    have HD4 := Lib.hid (HD3.out.turn hr3 hb3 hk3)
    clear hr3 hb3 hk3 x0 HD3
    have x0 := HD4.out.rh.cellQ 1 _ rfl
    have y0 := HD4.out.rh.frozen 1
    go_upto_region 9 with fail
    generalize hwd : World.setCell w3 _ _ = we
    have HD5 := Lib.hid (show HdB w we B g gf gn gd gh B l s2 0 #[.int .i64 (v1 : Int), sv v2, .slice none 0 0] by rw [← hwd]; exact HD4.out.seth rfl 1 _)
    clear hwd x0 y0 HD4
    have x0 := HD5.out.st.rn.cellQ 0 _ rfl
    go_wp2_with fail
    (with_reducible refine (HD5.out.st.rd.num hn HS3.out).mono ?_)
    rintro e w4 ⟨rfl, hr4, hb4, hk4⟩
    have HD6 := Lib.hid (HD5.out.turn hr4 hb4 hk4)
    clear hr4 hb4 hk4 x0 HD5
    have h64' : ¬ (64 : Int) < (v3 : Int) := by omega
    have HEW := Lib.hid (show (kq 0) = (s3, 0, []) by rw [← HKQ.out]; rfl)
    go_wp2
    go_loopw [29] (fun vi wr => ∃ (k : Nat), vi = .int .i64 (k : Int) ∧ k ≤ v3 ∧ Hid (∃ A' n' c', HdB w wr B g gf gn gd gh B l (kq k).1 (kq k).2.1 #[.int .i64 (v1 : Int), sv v2, .slice A' n' c'] ∧ OwnQ sgc 4 130 wr B A' n' c' (kq k).2.2)) (fun vi _ => v3 - (intOf vi).toNat)
    case atStart => exact ⟨0, rfl, by omega, Lib.hid ⟨none, 0, 0, by rw [HEW.out]; exact HD6.out, by rw [HEW.out]; exact OwnQ.nil _ _⟩⟩
    case round =>
      obtain ⟨k, rfl, hk, H⟩ := hrel
      obtain ⟨A', n', c', hB0, hQ0⟩ := H.out
      have HB0 := Lib.hid hB0
      have HQ0 := Lib.hid hQ0
      clear hB0 hQ0 H
      by_cases hlt : k < v3
      · have hkn : n' = k := by rw [← HQ0.out.len, ← HKQ.out]; exact Hd.stK_len l s3 k
        subst hkn
        obtain ⟨⟨s4, sg⟩, hs4⟩ : ∃ r, Hd.stSg l (kq n').1 (kq n').2.1 = r := ⟨_, rfl⟩
        have HS4 := Lib.hid hs4
        have HK1 := Lib.hid (show kq (n' + 1) = (s4, sg.to, (kq n').2.2 ++ [sg]) by rw [← HKQ.out] at hs4 ⊢; simp only [Hd.stK, hs4])
        clear hs4
        have hcap := HQ0.out.cap
        have hmx := HQ0.out.max
        rw [maxLen_eq] at hmx
        have HOB := Lib.hid HQ0.out.blk
        go_upto_region 14 with fail
        refine FreeP.wp_free2_l 7 3 5 SG wr.heap.size (HdD w wr.heap.size B g gf gn gd gh B l ((kq n').1, (kq n').2.1) (s4, sg.to) #[.int .i64 (v1 : Int), sv v2, .slice A' n' c'] A' n' c' (kq n').2.2) [FreeP.xc (.pointer (some ⟨gh, 2, none⟩)), FreeP.xc (.slice A' n' c'), FreeP.xc (.func (.func 145) #[] #[.pointer (some ⟨gf, 0, none⟩), .pointer (some ⟨gn, 0, none⟩), .pointer (some ⟨gd, 0, none⟩)]), FreeP.xc (.agg #[.int .i64 sg.fr, .int .i64 sg.to, .int .i64 sg.lk, sv sg.rt]), FreeP.xL (wr.heap.size) (1) (130) (#[.int .i64 sg.fr, .int .i64 sg.to, .int .i64 sg.lk, sv sg.rt]) ((by decide)) ((Nat.le_refl _)), FreeP.xc (.slice none 0 0), FreeP.xc (.pointer (some ⟨gh, 2, none⟩))] (FreeP.kQ SG (by decide) B ((kq n').2.2 ++ [sg])) (by kernel_rfl) (by kernel_rfl) (by decide) (by decide) (by decide) (by decide) (by kernel_rfl) ⟨HB0.out.keep (bel_drew _ _), HQ0.out.keep (bel_drew _ _), Nat.le_refl _⟩ (fun k W W' h g => HdD.keep k h g) ?_ ?_
        · refine Free.forall_succ (Free.forall_succ (Free.forall_succ (Free.forall_succ (Free.forall_succ (Free.forall_succ (Free.forall_succ (Free.forall_zero) ?_) ?_) ?_) ?_) ?_) ?_) ?_
          · exact FreeP.ob2_plain _ rfl rfl (by decide) (by decide) fun T vals wq hb hT hcl hC hd => (by exact d_field (cx := .pointer (some ⟨gh, 0, none⟩)) rfl (by kernel_rfl) (by go_simp) rfl)
          · exact FreeP.ob2_plain _ rfl rfl (by decide) (by decide) fun T vals wq hb hT hcl hC hd => (by exact Free.d_load (cx := .pointer (some ⟨gh, 2, none⟩)) rfl (Eq.trans (b := vals 0) (by kernel_rfl) (hd 0 (by kernel_rfl))) (by obtain ⟨⟨_, _, hh⟩, _⟩ := (FreeP.C2_or hC).elim fun _ h => HdD.any h; have hcc := hh.rh.cellQ 2 _ rfl; go_simp) rfl)
          · exact FreeP.ob2_plain _ rfl rfl (by decide) (by decide) fun T vals wq hb hT hcl hC hd => (by exact Free.d_move rfl (by kernel_rfl) rfl)
          · exact FreeP.ob2_one _ rfl rfl fun vals wq hC hd => (by exact FreeP.s_call0 Tryd.func145 rfl rfl rfl (Eq.trans (b := vals 2) (by kernel_rfl) (hd 2 (by kernel_rfl))) ((hC.1.st.sign hn HS4.out).mono fun e w2 ⟨he, hr, hb, hk⟩ => ⟨_, he, rfl, hk, hC.1.turnS hr hb hk, hC.2.1.keepTy (by decide) hk, Nat.le_trans hC.2.2 hk.size⟩))
          · exact FreeP.ob2_plain _ rfl rfl (by decide) (by decide) fun T vals wq hb hT hcl hC hd => (by exact FreeP.d_lit rfl (Free.parts1 (Eq.trans (b := vals 3) (by kernel_rfl) (hd 3 (by kernel_rfl)))) (by go_simp) (by decide) (Nat.le_refl _) ((FreeP.C2_or hC).elim fun _ h => (HdD.any h).2))
          · exact FreeP.ob2_two _ rfl rfl (by decide) (by kernel_rfl) fun vals wq hC hd => (by obtain ⟨g4, e4, ge4, rw4⟩ := hd 4 (by kernel_rfl); exact FreeP.s_app signsT rfl (Eq.trans (b := vals 1) (by kernel_rfl) (hd 1 (by kernel_rfl))) hC.2.1.own (Eq.trans (b := vals 4) (by kernel_rfl) e4) (rd_of_row rw4) rfl (fun u hu => one_sg [sg] u (by simpa [sgc] using hu)) (by rw [maxLen_eq]; omega) (by omega) hC.1.st.le (fun A9 c9 w9 h1 h2 h3 h4 h5 => ⟨⟨A9, _, c9, rfl, ⟨by rw [sg_snoc]; exact h1, by rw [List.length_append, hC.2.1.len]; rfl, h4, h5⟩⟩, above_of_grown hC.2.1.own h2 h3.size HOB.out, hC.1.grown hC.2.1.own h2 h3, Nat.le_trans hC.2.2 h3.size⟩))
          · exact FreeP.ob2_plain _ rfl rfl (by decide) (by decide) fun T vals wq hb hT hcl hC hd => (by exact d_field (cx := .pointer (some ⟨gh, 0, none⟩)) rfl (by kernel_rfl) (by go_simp) rfl)
        · intro vals wq hC hd
          have e0 : vals 0 = (.pointer (some ⟨gh, 2, none⟩)) := hd 0 (by decide)
          have e1 : vals 1 = (.slice A' n' c') := hd 1 (by decide)
          have e2 : vals 2 = (.func (.func 145) #[] #[.pointer (some ⟨gf, 0, none⟩), .pointer (some ⟨gn, 0, none⟩), .pointer (some ⟨gd, 0, none⟩)]) := hd 2 (by decide)
          have e3 : vals 3 = (.agg #[.int .i64 sg.fr, .int .i64 sg.to, .int .i64 sg.lk, sv sg.rt]) := hd 3 (by decide)
          obtain ⟨g4, e4, ge4, rw4⟩ := hd 4 (by decide)
          obtain ⟨A5, n5, k5, e5, ow5⟩ := hd 5 (by decide)
          have e6 : vals 6 = (.pointer (some ⟨gh, 2, none⟩)) := hd 6 (by decide)
          simp only [Free.frameOf, List.range, List.range.loop, List.foldl, Free.dstOf, List.getElem?_toArray, List.getElem?_cons_zero, List.getElem?_cons_succ, Option.bind_some, Act.put, List.setIfInBounds_toArray, List.set_cons_zero, List.set_cons_succ, e0, e1, e2, e3, e4, e5, e6]
          clear hd e0 e1 e2 e3 e4 e5 e6
          have x0 := hC.1.rh.cellQ 2 _ rfl
          have y0 := hC.1.rh.frozen 2
          have HB1 := Lib.hid hC.1
          have HQ1 := Lib.hid ow5
          clear hC ow5
          go_upto_region 15 with fail
          generalize hwd : World.setCell wq _ _ = wd
          have HB2 := Lib.hid (show HdB w wd B g gf gn gd gh B l s4 sg.to #[.int .i64 (v1 : Int), sv v2, .slice A5 n5 k5] by rw [← hwd]; exact HB1.out.seth rfl 2 _)
          have HQ2 := Lib.hid (show OwnQ sgc 4 130 wd B A5 n5 k5 ((kq n').2.2 ++ [sg]) by rw [← hwd]; exact HQ1.out.setc HB1.out.rh (by decide) 2 _)
          clear hwd x0 y0 HB1 HQ1
          go_wp2
          go_roundw
          case rel => exact ⟨n' + 1, by go_num, by omega, Lib.hid ⟨A5, n5, k5, by rw [HK1.out]; exact HB2.out, by rw [HK1.out]; exact HQ2.out⟩⟩
          case measure => simp [intOf]; omega
      · obtain rfl : k = v3 := by omega
        obtain ⟨sd, hsd⟩ : ∃ s, (kq k).1 = s := ⟨_, rfl⟩
        obtain ⟨sl, hsl⟩ : ∃ s, (kq k).2.2 = s := ⟨_, rfl⟩
        rw [hsd] at HB0
        rw [hsl] at HQ0
        rw [hsd, hsl] at HR
        have HRT := Lib.hid (show ∀ s ∈ sl, s.rt.length ≤ 32 by rw [← hsl, ← HKQ.out]; exact Hd.stK_rt l s3 k)
        have HSL := Lib.hid (show sl.length ≤ 64 by rw [← hsl, ← HKQ.out, Hd.stK_len]; omega)
        clear hsd hsl
        obtain ⟨Ar, cr, hrow, hbn⟩ := HB0.out.st.rd.ex
        have CD := Lib.hid (fun W => done_st Ar l.length cr l sd W rfl HB0.out.st.rd.at_ hbn.bs.cap hbn.bs.max)
        have x0 := hrow.cellQ 0 _ rfl
        have x1 := hrow.cellQ 1 _ rfl
        have x2 := hrow.cellQ 2 _ rfl
        clear hrow hbn
        go_wp2_with fail
        (with_reducible refine (CD.out _).mono ?_)
        rintro e w5 ⟨rfl, hb5⟩
        have HB5 := Lib.hid (HB0.out.keep hb5)
        have HQ5 := Lib.hid (HQ0.out.keep hb5)
        clear hb5 x0 x1 x2 HB0 HQ0 CD
        obtain ⟨dx, hdx⟩ : ∃ d, Hd.doneX l sd = d := ⟨_, rfl⟩
        rw [hdx] at HR ⊢
        clear hdx
        by_cases hd0 : dx = 0
        · subst hd0
          have CR := Lib.hid (fun W (hq : Sq sgc 4 W A' n' c' sl) => hright_any A' n' c' ⟨(v1 : Int), v2, sl⟩ W hq (fun s hs => Nat.le_trans (HRT.out s hs) (by omega)) (Nat.le_trans HV2.out (by omega)))
          unfold hdv at CR
          have x0 := HB5.out.rh.cellQ 0 _ rfl
          have x1 := HB5.out.rh.cellQ 1 _ rfl
          have x2 := HB5.out.rh.cellQ 2 _ rfl
          go_wp2_with fail
          (with_reducible refine (CR.out _ HQ5.out.sq).mono ?_)
          rintro e w6 ⟨rfl, hb6⟩
          have HB6 := Lib.hid (HB5.out.keep hb6)
          have HQ6 := Lib.hid (HQ5.out.keep hb6)
          clear hb6 x0 x1 x2 HB5 HQ5 CR
          have HDX := HB6
          have x0 := HB6.out.rr.cellQ 0 _ rfl
          have x1 := HB6.out.rr.cellQ 1 _ rfl
          have x2 := HB6.out.rr.cellQ 2 _ rfl
          have y0 := HB6.out.rr.frozen 0
          have y1 := HB6.out.rr.frozen 1
          have y2 := HB6.out.rr.frozen 2
          by_cases hok : Hd.H.ok ⟨(v1 : Int), v2, sl⟩ = true
          · have HR1 := Lib.hid (show R = .ok ⟨(v1 : Int), v2, sl⟩ by rw [← HR.out, if_neg (by simp), if_pos hok])
            rw [hok]
            clear HR hok
            have z0 := HB6.out.rh.cellQ 0 _ rfl
            have z1 := HB6.out.rh.cellQ 1 _ rfl
            have z2 := HB6.out.rh.cellQ 2 _ rfl
            go_wp2
            generalize hwf : World.setCell (World.setCell (World.setCell w6 _ _) _ _) _ _ = wf
            have hsf : setFrom B w6 0 [.int .i64 (v1 : Int), sv v2, .slice A' n' c'] = wf := by rw [← hwf]; rfl
            have hrow := Row.all HDX.out.rr [.int .i64 (v1 : Int), sv v2, .slice A' n' c'] rfl
            rw [hsf] at hrow
            have r0 := hrow.cellQ 0 _ rfl
            have r1 := hrow.cellQ 1 _ rfl
            have r2 := hrow.cellQ 2 _ rfl
            refine bodyPost_ret (v := .tuple #[.agg #[.int .i64 (v1 : Int), sv v2, .slice A' n' c'], .int .i64 0]) (by simp [results, Tryd.results98, go_sem, r0, r1, r2]) rfl ?_
            have hbel : Below w.heap.size w wf := by rw [HBW.out, ← hsf]; exact below_setFrom (Nat.le_refl _) _ 0 HDX.out.bel
            have hown : OwnQ sgc 4 130 wf B A' n' c' sl := by rw [← hsf]; exact OwnQ.setF (by decide) _ 0 HQ6.out HB6.out.rr
            rw [HR1.out]
            exact ⟨A', n', c', rfl, by rw [HBW.out]; exact hown, hbel⟩
          · have hokf : Hd.H.ok ⟨(v1 : Int), v2, sl⟩ = false := by simpa using hok
            have HR1 := Lib.hid (show R = .error 2 by rw [← HR.out, if_neg (by simp), if_neg hok])
            rw [hokf]
            clear HR hok hokf
            go_wp2
            generalize hwf : World.setCell (World.setCell (World.setCell w6 _ _) _ _) _ _ = wf
            have hsf : setFrom B w6 0 [.int .i64 0, .string { data := #[] }, .slice none 0 0] = wf := by rw [← hwf]; rfl
            have hrow := Row.all HDX.out.rr [.int .i64 0, .string { data := #[] }, .slice none 0 0] rfl
            rw [hsf] at hrow
            have r0 := hrow.cellQ 0 _ rfl
            have r1 := hrow.cellQ 1 _ rfl
            have r2 := hrow.cellQ 2 _ rfl
            refine bodyPost_ret (v := .tuple #[.agg #[.int .i64 0, .string { data := #[] }, .slice none 0 0], .int .i64 2]) (by simp [results, Tryd.results98, go_sem, r0, r1, r2]) rfl ?_
            have hbel : Below w.heap.size w wf := by rw [HBW.out, ← hsf]; exact below_setFrom (Nat.le_refl _) _ 0 HDX.out.bel
            rw [HR1.out]
            exact ⟨rfl, hbel, by decide⟩
        · have HR1 := Lib.hid (show R = .error dx by rw [← HR.out, if_pos hd0])
          have x0 := HB5.out.rr.cellQ 0 _ rfl
          have x1 := HB5.out.rr.cellQ 1 _ rfl
          have x2 := HB5.out.rr.cellQ 2 _ rfl
          have y0 := HB5.out.rr.frozen 0
          have y1 := HB5.out.rr.frozen 1
          have y2 := HB5.out.rr.frozen 2
          have HDX := HB5
          have hdi : ((dx : Int) == 0) = false := beq_eq_false_iff_ne.2 (by omega)
          go_wp2
          generalize hwf : World.setCell (World.setCell (World.setCell w5 _ _) _ _) _ _ = wf
          have hsf : setFrom B w5 0 [.int .i64 0, .string { data := #[] }, .slice none 0 0] = wf := by rw [← hwf]; rfl
          have hrow := Row.all HDX.out.rr [.int .i64 0, .string { data := #[] }, .slice none 0 0] rfl
          rw [hsf] at hrow
          have r0 := hrow.cellQ 0 _ rfl
          have r1 := hrow.cellQ 1 _ rfl
          have r2 := hrow.cellQ 2 _ rfl
          refine bodyPost_ret (v := .tuple #[.agg #[.int .i64 0, .string { data := #[] }, .slice none 0 0], .int .i64 (dx : Int)]) (by simp [results, Tryd.results98, go_sem, r0, r1, r2]) rfl ?_
          have hbel : Below w.heap.size w wf := by rw [HBW.out, ← hsf]; exact below_setFrom (Nat.le_refl _) _ 0 HDX.out.bel
          rw [HR1.out]
          exact ⟨rfl, hbel, hd0⟩
end Go.Proofs.YtfgpaepdlmnhaaaDoor
