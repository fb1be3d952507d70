/- Sets of postings: pick, over any function that says what is kept; Both, Either, But, In. No statement of the seat is proved here. -/
import Derived.Test.YtkkliblndglniaaDoorPost1
import Derived.Deep.CutRange
namespace Go.Proofs.YtkkliblndglniaaDoor
set_option linter.unusedVariables false
open Go.RowKit

theorem wl_callv {P : Program} {ops : Array Oper} {rest : List Oper} {o : Oper} {a : Act} {Q : Exit → Act → World → Prop} {w : World} (hgd : o.guard = none) {t : Tmp} {xs : Array Operand} {ts : Array TypeId} (ho : o.op = .call { callee := .value (.tmp t), args := xs, argTypes := ts })
    {f : FuncId} {caps : Array Value} {fn : Func} (hv : a.eval (.tmp t) = .func (.func f) #[] caps) (hfn : P.funcs[f]? = some fn) (hname : (fn.name == "runtime.NumGoroutine") = false) (hbody : fn.body.isNone = false) {args : Array Value} (hx : xs.map a.eval = args)
    (hc : Calls P f (args ++ caps) w fun e w' => ∃ v, e = .returned v ∧ wpList P ops Q rest (a.put o.dst v) w' ∧ Below w.heap.size w w') : wpList P ops Q (o :: rest) a w := by
  refine wpList_plain hgd fun K hK => Free.wp_of_step (V := fun v w' => wpList P ops Q rest (a.put o.dst v) w') ?_ fun v w' h _ => hK _ _ h
  have hr : ((execOp a.eval o).run P w) = .ok (.enter f (args ++ caps)) w := by
    have hn : ¬ fn.name = "runtime.NumGoroutine" := by simpa using hname
    have hb : ¬ fn.body = none := fun e => by rw [e] at hbody; cases hbody
    have h1 : (callFunc f (args ++ caps)).run P w = .ok (.enter f (args ++ caps)) w := by simp [callFunc, hfn, hn, hb]
    simp [execOp, ho, hx, hv, resolve, invoke, Deferred.ofValue, h1]
  rw [hr]
  exact ⟨Below.refl _ _, hc⟩
/-- A function that says what is kept. -/
structure KeepF (f : FuncId) (caps : Array Value) (keep : Int → Bool → Bool → Bool) (w0 : World) : Prop where
  fn : ∃ fn, Tryd.prog.funcs[f]? = some fn ∧ (fn.name == "runtime.NumGoroutine") = false ∧ fn.body.isNone = false
  call : ∀ W (n : Int) (x y : Bool), -9223372036854775808 ≤ n → n ≤ 9223372036854775807 → Below w0.heap.size w0 W → Calls Tryd.prog f (#[.int .i64 n, .bool x, .bool y] ++ caps) W fun e w' => e = .returned (.bool (keep n x y)) ∧ W = w'
theorem size_int : (Tryd.prog.info? 3).map (·.size) = some 1 := by kernel_rfl
theorem zs_tail {w : World} {A : Option Addr} {n c : Nat} {x : Int} {s : List Int} (h : Zs w A n c (x :: s)) :
    ∃ A', Zs w A' (n - 1) (c - 1) s ∧ ∀ W, (Instr.sliceAt 22 (.slice A n c) (some (.int .i64 1)) none none).run Tryd.prog W = .ok (.slice A' (n - 1) (c - 1)) W := by
  have hl := h.len
  rw [List.length_cons] at hl
  have hcut := rd_cut (i := 1) h.rd (by simpa using h.len) h.cap
  have hu' : Tryd.prog.underlying 22 = some (.slice (Tryd.prog.elem 22)) := by kernel_rfl
  refine ⟨_, ⟨by simpa using hcut, by omega, by have := h.cap; omega, by have := h.max; omega, fun z hz => h.wf z (by simp [hz])⟩, fun W => ?_⟩
  have hr1 := run_slice_l (P := Tryd.prog) W 22 A n c hu' .i64 1 (by omega) (by omega)
  rw [show Tryd.prog.elem 22 = 3 by kernel_rfl, run_sizeOf_of 3 1 size_int, Result.andThen_ok] at hr1
  rw [run_sliceAt_slice W 22 _ _ _ _ hu', hr1]
  rfl
theorem zs_head {w : World} {A : Option Addr} {n c : Nat} {x : Int} {s : List Int} (h : Zs w A n c (x :: s)) :
    0 < n ∧ (-9223372036854775808 ≤ x ∧ x ≤ 9223372036854775807) ∧ ∃ b off, A = some ⟨b, off, none⟩ ∧ ∀ W, Below w.heap.size w W → W.cell? ⟨b, off, none⟩ = some (.int .i64 x) := by
  have hl := h.len
  rw [List.length_cons] at hl
  obtain ⟨b, off, hA, hb, hc, z, hz, _⟩ := h.at (show 0 < n by omega)
  exact ⟨by omega, h.wf x (by simp), b, off, hA, fun W hW => (hW.cell (p := ⟨b, off, none⟩) hb).trans (hc 0 x rfl)⟩
/-- Where the picking is. -/
structure PickRel (w wr : World) (keep : Int → Bool → Bool → Bool) (ga gb : List Int) (A' : Option Addr) (na ca : Nat) (sa : List Int) (B' : Option Addr) (nb cb : Nat) (sb : List Int) (Al : Option Addr) (nl cl : Nat) (acc : List Int) : Prop where
  a : Zs w A' na ca sa
  b : Zs w B' nb cb sb
  own : OwnZ wr w.heap.size Al nl cl acc
  eq : acc ++ Post.pickM keep sa sb = Post.pickM keep ga gb
  below : Below w.heap.size w wr
  few : nl + na + nb ≤ 2000
def lenZ (v : Value) : Nat := match v with | .slice _ n _ => n | _ => 0
def PickPost (l : List Int) (w : World) (e : Ending) (w' : World) : Prop := ∃ A n c, e = .returned (.slice A n c) ∧ OwnZ w' w.heap.size A n c l ∧ Below w.heap.size w w'
theorem PickRel.nil {w wr : World} {keep : Int → Bool → Bool → Bool} {ga gb : List Int} {A' B' Al : Option Addr} {na ca nb cb nl cl : Nat} {acc : List Int} (h : PickRel w wr keep ga gb A' na ca [] B' nb cb [] Al nl cl acc) : acc = Post.pickM keep ga gb := by
  have := h.eq
  rw [Post.pickM, List.append_nil] at this
  exact this
theorem ifs_true (x : Int) (l : List Int) : Post.ifs true x l = x :: l := rfl
theorem ifs_false (x : Int) (l : List Int) : Post.ifs false x l = l := rfl
set_option maxRecDepth 100000 in
set_option maxHeartbeats 32000000 in
theorem pick_any (f : FuncId) (caps : Array Value) (keep : Int → Bool → Bool → Bool) (A : Option Addr) (n c : Nat) (la : List Int) (B : Option Addr) (m k : Nat) (lb : List Int) (w : World) (ha : Zs w A n c la) (hb : Zs w B m k lb) (hk : KeepF f caps keep w) :
    Calls Tryd.prog 23 #[.slice A n c, .slice B m k, .func (.func f) #[] caps] w (PickPost (Post.pick keep la lb) w) := by
  have ra := right_any A n c la w ha
  have rb := right_any B m k lb w hb
  obtain ⟨fn, hfn, hname, hbody⟩ := hk.fn
  have HFN := Lib.hid (And.intro hfn (And.intro hname hbody))
  have HRA := Lib.hid ra
  have HRB := Lib.hid rb
  clear ra rb hfn hname hbody
  go_enter Tryd.func23, Tryd.ntmps23
  go_upto_region 1 with fail
  rename_i K1 h1 K h
  have key1 : ∀ (A0 : Option Addr) (n0 c0 : Nat) (u11 u12 u13 : Value), Zs w A0 n0 c0 (Post.good la) → K1 { tmps := #[.slice A0 n0 c0, .slice B m k, .func (.func f) #[] caps, undef, undef, undef, .slice none 0 0, undef, undef, undef, undef, u11, u12, u13, undef, undef, undef, undef, undef, undef, undef, undef, undef, undef, undef, undef, undef, undef, undef, undef, undef, undef, undef, undef, undef, undef, undef, undef, undef, undef, undef, undef, undef, undef, undef, undef, undef, undef, undef, undef, undef, undef, undef, undef, undef, undef, undef, undef, undef, undef, undef, undef, undef, undef, undef, undef, undef, undef, undef, undef, undef, undef, undef, undef, undef, undef, undef, undef, undef, undef, undef], defers := [] } w := by
    clear h K HRA
    intro A0 n0 c0 u11 u12 u13 ha0
    refine h1 _ _ ?_
    clear h1
    go_upto_region 3 with fail
    rename_i K2 h2 K h
    have key2 : ∀ (B0 : Option Addr) (m0 k0 : Nat) (u14 u15 u16 : Value), Zs w B0 m0 k0 (Post.good lb) → K2 { tmps := #[.slice A0 n0 c0, .slice B0 m0 k0, .func (.func f) #[] caps, undef, undef, undef, .slice none 0 0, undef, undef, undef, undef, u11, u12, u13, u14, u15, u16, undef, undef, undef, undef, undef, undef, undef, undef, undef, undef, undef, undef, undef, undef, undef, undef, undef, undef, undef, undef, undef, undef, undef, undef, undef, undef, undef, undef, undef, undef, undef, undef, undef, undef, undef, undef, undef, undef, undef, undef, undef, undef, undef, undef, undef, undef, undef, undef, undef, undef, undef, undef, undef, undef, undef, undef, undef, undef, undef, undef, undef, undef, undef, undef], defers := [] } w := by
      clear h K HRB
      intro B0 m0 k0 u14 u15 u16 hb0
      refine h2 _ _ ?_
      clear h2
      have hna := Post.right_len (Post.good_right la)
      rw [ha0.len] at hna
      have hnb := Post.right_len (Post.good_right lb)
      rw [hb0.len] at hnb
      go_wp2
      go_loopw [0, 1, 7] (fun va vb vl wr => ∃ (A' : Option Addr) (na ca : Nat) (sa : List Int) (B' : Option Addr) (nb cb : Nat) (sb : List Int) (Al : Option Addr) (nl cl : Nat) (acc : List Int), va = .slice A' na ca ∧ vb = .slice B' nb cb ∧ vl = .slice Al nl cl ∧ PickRel w wr keep (Post.good la) (Post.good lb) A' na ca sa B' nb cb sb Al nl cl acc) (fun va vb _ _ => lenZ va + lenZ vb)
      case atStart => exact ⟨A0, n0, c0, Post.good la, B0, m0, k0, Post.good lb, none, 0, 0, [], rfl, rfl, rfl, ha0, hb0, OwnZ.nil _ _, rfl, Below.refl _ _, by omega⟩
      case round =>
        obtain ⟨A', na, ca, sa, B', nb, cb, sb, Al, nl, cl, acc, rfl, rfl, rfl, hr⟩ := hrel
        have hfew := hr.few
        have hma := hr.a.max
        have hmb := hr.b.max
        have hca := hr.a.cap
        have hcb := hr.b.cap
        rw [maxLen_eq] at hma hmb
        cases sa with
        | nil =>
          cases sb with
          | nil =>
            obtain rfl : na = 0 := hr.a.len.symm
            obtain rfl : nb = 0 := hr.b.len.symm
            have HF := Lib.hid hr.nil
            go_wp2
            go_ret
            exact ⟨Al, nl, cl, rfl, by unfold Post.pick; rw [← HF.out]; exact hr.own, hr.below⟩
          | cons y t =>
            obtain rfl : na = 0 := hr.a.len.symm
            have HEQ := Lib.hid (show acc ++ Post.ifs (keep y false true) y (Post.pickM keep [] t) = Post.pickM keep (Post.good la) (Post.good lb) from by have e := hr.eq; rw [Post.pickM] at e; exact e)
            obtain ⟨hpb, hyb, bb, ob, rfl, hcy⟩ := zs_head hr.b
            obtain ⟨B2, htb, hcutb⟩ := zs_tail hr.b
            have HCY := Lib.hid hcy
            have HTB := Lib.hid hcutb
            clear hcy hcutb
            have HB := Lib.hid hr.below
            have HKC := Lib.hid (fun W hW => hk.call W y false true (by omega) (by omega) hW)
            go_wp2_with fail
            refine Free.wp_free_l 18 (fun W => Below wr.heap.size wr W) [Free.kc (.slice A' 0 ca), Free.kc (.int .i64 (0 : Int)), Free.kc (.bool false), Free.kc (.bool false), Free.kc (undef), Free.kc (undef), Free.kc (undef), Free.kc (undef), Free.kc (undef), Free.kc (undef), Free.kc (undef), Free.kc (undef), Free.kc (undef), Free.kc (undef), Free.kc (undef), Free.kc (undef), Free.kc (.bool false), Free.kc (.bool false)] (by kernel_rfl) (by kernel_rfl) (by decide) (Below.refl _ _).drew (fun w w' h g => bt h g) ?_ ?_
            · refine Free.forall_succ (Free.forall_succ (Free.forall_succ (Free.forall_succ (Free.forall_succ (Free.forall_succ (Free.forall_succ (Free.forall_succ (Free.forall_succ (Free.forall_succ (Free.forall_succ (Free.forall_succ (Free.forall_succ (Free.forall_succ (Free.forall_succ (Free.forall_succ (Free.forall_succ (Free.forall_succ (Free.forall_zero) ?_) ?_) ?_) ?_) ?_) ?_) ?_) ?_) ?_) ?_) ?_) ?_) ?_) ?_) ?_) ?_) ?_) ?_
              · exact Free.ob_plain _ rfl rfl fun vals wq hC hd => (by exact Free.d_move rfl (by kernel_rfl) rfl)
              · exact Free.ob_plain _ rfl rfl fun vals wq hC hd => (by exact Free.d_len rfl Tryd.underlying22 (Eq.trans (b := vals 0) (by kernel_rfl) (hd 0 (by kernel_rfl))) rfl)
              · exact Free.ob_plain _ rfl rfl fun vals wq hC hd => (by exact Free.d_bin rfl (Eq.trans (b := vals 1) (by kernel_rfl) (hd 1 (by kernel_rfl))) (show _ = (.int .i64 0 : Value) from rfl) (by go_simp) (by go_simp) rfl)
              · exact Free.ob_plain _ rfl rfl fun vals wq hC hd => (by exact Free.d_move rfl (Eq.trans (b := vals 2) (by kernel_rfl) (hd 2 (by kernel_rfl))) rfl)
              · exact Free.ob_skip _ rfl 3 28 true rfl rfl fun vals wq hC hd => ⟨.inl (Eq.trans (b := vals 3) (by kernel_rfl) (hd 3 (by kernel_rfl))), rfl⟩
              · exact Free.ob_skip _ rfl 3 28 true rfl rfl fun vals wq hC hd => ⟨.inl (Eq.trans (b := vals 3) (by kernel_rfl) (hd 3 (by kernel_rfl))), rfl⟩
              · exact Free.ob_skip _ rfl 3 28 true rfl rfl fun vals wq hC hd => ⟨.inl (Eq.trans (b := vals 3) (by kernel_rfl) (hd 3 (by kernel_rfl))), rfl⟩
              · exact Free.ob_skip _ rfl 3 28 true rfl rfl fun vals wq hC hd => ⟨.inl (Eq.trans (b := vals 3) (by kernel_rfl) (hd 3 (by kernel_rfl))), rfl⟩
              · exact Free.ob_skip _ rfl 7 32 false rfl rfl fun vals wq hC hd => ⟨.inr (Eq.trans (b := vals 7) (by kernel_rfl) (hd 7 (by kernel_rfl))), rfl⟩
              · exact Free.ob_skip _ rfl 7 32 false rfl rfl fun vals wq hC hd => ⟨.inr (Eq.trans (b := vals 7) (by kernel_rfl) (hd 7 (by kernel_rfl))), rfl⟩
              · exact Free.ob_skip _ rfl 7 32 false rfl rfl fun vals wq hC hd => ⟨.inr (Eq.trans (b := vals 7) (by kernel_rfl) (hd 7 (by kernel_rfl))), rfl⟩
              · exact Free.ob_skip _ rfl 7 32 false rfl rfl fun vals wq hC hd => ⟨.inr (Eq.trans (b := vals 7) (by kernel_rfl) (hd 7 (by kernel_rfl))), rfl⟩
              · exact Free.ob_skip _ rfl 7 32 false rfl rfl fun vals wq hC hd => ⟨.inr (Eq.trans (b := vals 7) (by kernel_rfl) (hd 7 (by kernel_rfl))), rfl⟩
              · exact Free.ob_skip _ rfl 7 32 false rfl rfl fun vals wq hC hd => ⟨.inr (Eq.trans (b := vals 7) (by kernel_rfl) (hd 7 (by kernel_rfl))), rfl⟩
              · exact Free.ob_skip _ rfl 7 32 false rfl rfl fun vals wq hC hd => ⟨.inr (Eq.trans (b := vals 7) (by kernel_rfl) (hd 7 (by kernel_rfl))), rfl⟩
              · exact Free.ob_skip _ rfl 3 28 true rfl rfl fun vals wq hC hd => ⟨.inl (Eq.trans (b := vals 3) (by kernel_rfl) (hd 3 (by kernel_rfl))), rfl⟩
              · exact Free.ob_plain _ rfl rfl fun vals wq hC hd => (by exact Free.d_pick rfl (Eq.trans (b := vals 3) (by kernel_rfl) (hd 3 (by kernel_rfl))) rfl rfl)
              · exact Free.ob_plain _ rfl rfl fun vals wq hC hd => (by exact Free.d_assign rfl (Eq.trans (b := vals 16) (by kernel_rfl) (hd 16 (by kernel_rfl))) rfl)
            · intro vals wq hC hd
              have e0 : vals 0 = (.slice A' 0 ca) := hd 0 (by decide)
              have e1 : vals 1 = (.int .i64 (0 : Int)) := hd 1 (by decide)
              have e2 : vals 2 = (.bool false) := hd 2 (by decide)
              have e3 : vals 3 = (.bool false) := hd 3 (by decide)
              have e4 : vals 4 = (undef) := hd 4 (by decide)
              have e5 : vals 5 = (undef) := hd 5 (by decide)
              have e6 : vals 6 = (undef) := hd 6 (by decide)
              have e7 : vals 7 = (undef) := hd 7 (by decide)
              have e8 : vals 8 = (undef) := hd 8 (by decide)
              have e9 : vals 9 = (undef) := hd 9 (by decide)
              have e10 : vals 10 = (undef) := hd 10 (by decide)
              have e11 : vals 11 = (undef) := hd 11 (by decide)
              have e12 : vals 12 = (undef) := hd 12 (by decide)
              have e13 : vals 13 = (undef) := hd 13 (by decide)
              have e14 : vals 14 = (undef) := hd 14 (by decide)
              have e15 : vals 15 = (undef) := hd 15 (by decide)
              have e16 : vals 16 = (.bool false) := hd 16 (by decide)
              have e17 : vals 17 = (.bool false) := hd 17 (by decide)
              simp only [Free.frameOf, List.range, List.range.loop, List.foldl, Free.dstOf, List.getElem?_toArray, List.getElem?_cons_zero, List.getElem?_cons_succ, Option.bind_some, Act.put, List.setIfInBounds_toArray, List.set_cons_zero, List.set_cons_succ, e0, e1, e2, e3, e4, e5, e6, e7, e8, e9, e10, e11, e12, e13, e14, e15, e16, e17]
              refine wpList_nil ?_
              clear hd e0 e1 e2 e3 e4 e5 e6 e7 e8 e9 e10 e11 e12 e13 e14 e15 e16 e17
              have HB7 := Lib.hid (bt HB.out hC)
              have HBR := Lib.hid hC
              obtain ⟨w7, hw7⟩ : ∃ W, wq = W := ⟨_, rfl⟩
              rw [hw7] at HB7 HBR ⊢
              clear hw7 hC
              go_wp2_with fail
              refine Free.wp_free_l 18 (fun W => Below w7.heap.size w7 W) [Free.kc (.slice (some ⟨bb, ob, none⟩) nb cb), Free.kc (.int .i64 (nb : Int)), Free.kc (.bool true), Free.kc (.bool true), Free.kc (.slice A' 0 ca), Free.kc (.int .i64 (0 : Int)), Free.kc (.bool true), Free.kc (.bool true), Free.kc (undef), Free.kc (undef), Free.kc (undef), Free.kc (undef), Free.kc (undef), Free.kc (undef), Free.kc (undef), Free.kc (.bool true), Free.kc (.bool true), Free.kc (.bool true)] (by kernel_rfl) (by kernel_rfl) (by decide) (Below.refl _ _).drew (fun w w' h g => bt h g) ?_ ?_
              · refine Free.forall_succ (Free.forall_succ (Free.forall_succ (Free.forall_succ (Free.forall_succ (Free.forall_succ (Free.forall_succ (Free.forall_succ (Free.forall_succ (Free.forall_succ (Free.forall_succ (Free.forall_succ (Free.forall_succ (Free.forall_succ (Free.forall_succ (Free.forall_succ (Free.forall_succ (Free.forall_succ (Free.forall_zero) ?_) ?_) ?_) ?_) ?_) ?_) ?_) ?_) ?_) ?_) ?_) ?_) ?_) ?_) ?_) ?_) ?_) ?_
                · exact Free.ob_plain _ rfl rfl fun vals wq hC hd => (by exact Free.d_move rfl (by kernel_rfl) rfl)
                · exact Free.ob_plain _ rfl rfl fun vals wq hC hd => (by exact Free.d_len rfl Tryd.underlying22 (Eq.trans (b := vals 0) (by kernel_rfl) (hd 0 (by kernel_rfl))) rfl)
                · exact Free.ob_plain _ rfl rfl fun vals wq hC hd => (by exact Free.d_bin rfl (Eq.trans (b := vals 1) (by kernel_rfl) (hd 1 (by kernel_rfl))) (show _ = (.int .i64 0 : Value) from rfl) (by go_simp) (by go_simp) rfl)
                · exact Free.ob_plain _ rfl rfl fun vals wq hC hd => (by exact Free.d_move rfl (Eq.trans (b := vals 2) (by kernel_rfl) (hd 2 (by kernel_rfl))) rfl)
                · exact Free.ob_guard _ rfl 3 45 true rfl rfl fun vals wq hC hd => ⟨Eq.trans (b := vals 3) (by kernel_rfl) (hd 3 (by kernel_rfl)), (by exact Free.d_move rfl (by kernel_rfl) rfl)⟩
                · exact Free.ob_guard _ rfl 3 45 true rfl rfl fun vals wq hC hd => ⟨Eq.trans (b := vals 3) (by kernel_rfl) (hd 3 (by kernel_rfl)), (by exact Free.d_len rfl Tryd.underlying22 (Eq.trans (b := vals 4) (by kernel_rfl) (hd 4 (by kernel_rfl))) rfl)⟩
                · exact Free.ob_guard _ rfl 3 45 true rfl rfl fun vals wq hC hd => ⟨Eq.trans (b := vals 3) (by kernel_rfl) (hd 3 (by kernel_rfl)), (by exact Free.d_bin rfl (Eq.trans (b := vals 5) (by kernel_rfl) (hd 5 (by kernel_rfl))) (show _ = (.int .i64 0 : Value) from rfl) (by go_simp) (by first | (go_simp; done) | (go_simp; omega)) rfl)⟩
                · exact Free.ob_guard _ rfl 3 45 true rfl rfl fun vals wq hC hd => ⟨Eq.trans (b := vals 3) (by kernel_rfl) (hd 3 (by kernel_rfl)), (by exact Free.d_move rfl (Eq.trans (b := vals 6) (by kernel_rfl) (hd 6 (by kernel_rfl))) rfl)⟩
                · exact Free.ob_skip _ rfl 7 49 false rfl rfl fun vals wq hC hd => ⟨.inl (Eq.trans (b := vals 7) (by kernel_rfl) (hd 7 (by kernel_rfl))), rfl⟩
                · exact Free.ob_skip _ rfl 7 49 false rfl rfl fun vals wq hC hd => ⟨.inl (Eq.trans (b := vals 7) (by kernel_rfl) (hd 7 (by kernel_rfl))), rfl⟩
                · exact Free.ob_skip _ rfl 7 49 false rfl rfl fun vals wq hC hd => ⟨.inl (Eq.trans (b := vals 7) (by kernel_rfl) (hd 7 (by kernel_rfl))), rfl⟩
                · exact Free.ob_skip _ rfl 7 49 false rfl rfl fun vals wq hC hd => ⟨.inl (Eq.trans (b := vals 7) (by kernel_rfl) (hd 7 (by kernel_rfl))), rfl⟩
                · exact Free.ob_skip _ rfl 7 49 false rfl rfl fun vals wq hC hd => ⟨.inl (Eq.trans (b := vals 7) (by kernel_rfl) (hd 7 (by kernel_rfl))), rfl⟩
                · exact Free.ob_skip _ rfl 7 49 false rfl rfl fun vals wq hC hd => ⟨.inl (Eq.trans (b := vals 7) (by kernel_rfl) (hd 7 (by kernel_rfl))), rfl⟩
                · exact Free.ob_skip _ rfl 7 49 false rfl rfl fun vals wq hC hd => ⟨.inl (Eq.trans (b := vals 7) (by kernel_rfl) (hd 7 (by kernel_rfl))), rfl⟩
                · exact Free.ob_guard _ rfl 3 45 true rfl rfl fun vals wq hC hd => ⟨Eq.trans (b := vals 3) (by kernel_rfl) (hd 3 (by kernel_rfl)), (by exact Free.d_pick rfl (Eq.trans (b := vals 7) (by kernel_rfl) (hd 7 (by kernel_rfl))) rfl rfl)⟩
                · exact Free.ob_plain _ rfl rfl fun vals wq hC hd => (by exact Free.d_pick rfl (Eq.trans (b := vals 3) (by kernel_rfl) (hd 3 (by kernel_rfl))) (Eq.trans (b := vals 15) (by kernel_rfl) (hd 15 (by kernel_rfl))) rfl)
                · exact Free.ob_plain _ rfl rfl fun vals wq hC hd => (by exact Free.d_assign rfl (Eq.trans (b := vals 16) (by kernel_rfl) (hd 16 (by kernel_rfl))) rfl)
              · intro vals wq hC hd
                have e0 : vals 0 = (.slice (some ⟨bb, ob, none⟩) nb cb) := hd 0 (by decide)
                have e1 : vals 1 = (.int .i64 (nb : Int)) := hd 1 (by decide)
                have e2 : vals 2 = (.bool true) := hd 2 (by decide)
                have e3 : vals 3 = (.bool true) := hd 3 (by decide)
                have e4 : vals 4 = (.slice A' 0 ca) := hd 4 (by decide)
                have e5 : vals 5 = (.int .i64 (0 : Int)) := hd 5 (by decide)
                have e6 : vals 6 = (.bool true) := hd 6 (by decide)
                have e7 : vals 7 = (.bool true) := hd 7 (by decide)
                have e8 : vals 8 = (undef) := hd 8 (by decide)
                have e9 : vals 9 = (undef) := hd 9 (by decide)
                have e10 : vals 10 = (undef) := hd 10 (by decide)
                have e11 : vals 11 = (undef) := hd 11 (by decide)
                have e12 : vals 12 = (undef) := hd 12 (by decide)
                have e13 : vals 13 = (undef) := hd 13 (by decide)
                have e14 : vals 14 = (undef) := hd 14 (by decide)
                have e15 : vals 15 = (.bool true) := hd 15 (by decide)
                have e16 : vals 16 = (.bool true) := hd 16 (by decide)
                have e17 : vals 17 = (.bool true) := hd 17 (by decide)
                simp only [Free.frameOf, List.range, List.range.loop, List.foldl, Free.dstOf, List.getElem?_toArray, List.getElem?_cons_zero, List.getElem?_cons_succ, Option.bind_some, Act.put, List.setIfInBounds_toArray, List.set_cons_zero, List.set_cons_succ, e0, e1, e2, e3, e4, e5, e6, e7, e8, e9, e10, e11, e12, e13, e14, e15, e16, e17]
                refine wpList_nil ?_
                clear hd e0 e1 e2 e3 e4 e5 e6 e7 e8 e9 e10 e11 e12 e13 e14 e15 e16 e17
                have HB8 := Lib.hid (bt HB7.out hC)
                have HBR := Lib.hid (bt HBR.out hC)
                obtain ⟨w8, hw8⟩ : ∃ W, wq = W := ⟨_, rfl⟩
                rw [hw8] at HB8 HBR ⊢
                clear hw8 hC
                go_wp2_with fail
                refine Free.wp_free_l 7 (fun W => Below w8.heap.size w8 W) [Free.kc (.slice (some ⟨bb, ob, none⟩) nb cb), Free.kc (.pointer (some ⟨bb, ob, none⟩)), Free.kc (.int .i64 y), Free.kc (.slice (some ⟨bb, ob, none⟩) nb cb), Free.kc (.slice B2 (nb - 1) (cb - 1)), Free.kc (.int .i64 y), Free.kc (.slice B2 (nb - 1) (cb - 1))] (by kernel_rfl) (by kernel_rfl) (by decide) (Below.refl _ _).drew (fun w w' h g => bt h g) ?_ ?_
                · refine Free.forall_succ (Free.forall_succ (Free.forall_succ (Free.forall_succ (Free.forall_succ (Free.forall_succ (Free.forall_succ (Free.forall_zero) ?_) ?_) ?_) ?_) ?_) ?_) ?_
                  · exact Free.ob_plain _ rfl rfl fun vals wq hC hd => (by exact Free.d_move rfl (by kernel_rfl) rfl)
                  · exact Free.ob_plain _ rfl rfl fun vals wq hC hd => (by exact Free.d_indexAddr rfl (Eq.trans (b := vals 0) (by kernel_rfl) (hd 0 (by kernel_rfl))) (show _ = (.int .i64 0 : Value) from rfl) (run_idx 22 Tryd.underlying22 (by kernel_rfl) _ _ _ _ 0 0 rfl (by omega)) rfl)
                  · exact Free.ob_plain _ rfl rfl fun vals wq hC hd => (by exact Free.d_load rfl (Eq.trans (b := vals 1) (by kernel_rfl) (hd 1 (by kernel_rfl))) (by have hcc := HCY.out wq (bt HB8.out hC); go_simp) rfl)
                  · exact Free.ob_plain _ rfl rfl fun vals wq hC hd => (by exact Free.d_move rfl (by kernel_rfl) rfl)
                  · exact Free.ob_plain _ rfl rfl fun vals wq hC hd => (by exact Free.d_slice rfl (Eq.trans (b := vals 3) (by kernel_rfl) (hd 3 (by kernel_rfl))) rfl rfl rfl (HTB.out wq) rfl)
                  · exact Free.ob_plain _ rfl rfl fun vals wq hC hd => (by exact Free.d_assign rfl (Eq.trans (b := vals 2) (by kernel_rfl) (hd 2 (by kernel_rfl))) rfl)
                  · exact Free.ob_plain _ rfl rfl fun vals wq hC hd => (by exact Free.d_assign rfl (Eq.trans (b := vals 4) (by kernel_rfl) (hd 4 (by kernel_rfl))) rfl)
                · intro vals wq hC hd
                  have e0 : vals 0 = (.slice (some ⟨bb, ob, none⟩) nb cb) := hd 0 (by decide)
                  have e1 : vals 1 = (.pointer (some ⟨bb, ob, none⟩)) := hd 1 (by decide)
                  have e2 : vals 2 = (.int .i64 y) := hd 2 (by decide)
                  have e3 : vals 3 = (.slice (some ⟨bb, ob, none⟩) nb cb) := hd 3 (by decide)
                  have e4 : vals 4 = (.slice B2 (nb - 1) (cb - 1)) := hd 4 (by decide)
                  have e5 : vals 5 = (.int .i64 y) := hd 5 (by decide)
                  have e6 : vals 6 = (.slice B2 (nb - 1) (cb - 1)) := hd 6 (by decide)
                  simp only [Free.frameOf, List.range, List.range.loop, List.foldl, Free.dstOf, List.getElem?_toArray, List.getElem?_cons_zero, List.getElem?_cons_succ, Option.bind_some, Act.put, List.setIfInBounds_toArray, List.set_cons_zero, List.set_cons_succ, e0, e1, e2, e3, e4, e5, e6]
                  refine wpList_nil ?_
                  clear hd e0 e1 e2 e3 e4 e5 e6
                  have HB10 := Lib.hid (bt HB8.out hC)
                  have HBR := Lib.hid (bt HBR.out hC)
                  obtain ⟨w10, hw10⟩ : ∃ W, wq = W := ⟨_, rfl⟩
                  rw [hw10] at HB10 HBR ⊢
                  clear hw10 hC
                  cases hkv : keep y false true with
                  | true =>
                    have HKV := Lib.hid hkv
                    clear hkv
                    have hz := hr.own.keep (show Below wr.heap.size wr w10 from HBR.out)
                    go_wp2_with (first | (refine wl_callv rfl (t := 71) rfl rfl HFN.out.1 HFN.out.2.1 HFN.out.2.2 (Free.arg3 (c := .int .i64 y) (d := .bool false) (e := .bool true) rfl rfl rfl) ((HKC.out _ HB10.out).mono ?_); rintro e w11 ⟨rfl, rfl⟩; rw [HKV.out]; refine ⟨_, rfl, ?_, Below.refl _ _⟩; simp only [Act.put, List.setIfInBounds_toArray, List.set_cons_succ, List.set_cons_zero]) | (at_builtin; refine wl_appZ1 rfl (.tmp 76) (.tmp 78) rfl rfl hz y rfl (by omega) (by omega) HB10.out.size ?_; intro A4 n4 c4 w12 ho4 hb4 _))
                    go_roundw
                    case rel => exact ⟨A', 0, ca, [], B2, nb - 1, cb - 1, t, A4, n4, c4, _, rfl, rfl, rfl, hr.a, htb, ho4, by rw [List.append_assoc, List.singleton_append, ← HEQ.out, HKV.out, ifs_true], HB10.out.trans hb4, by have a := ho4.len; have b := hr.own.len; rw [List.length_append, b] at a; simp at a; omega⟩
                    case measure => simp [lenZ]; omega
                  | false =>
                    have HKV := Lib.hid hkv
                    clear hkv
                    go_wp2_with (refine wl_callv rfl (t := 71) rfl rfl HFN.out.1 HFN.out.2.1 HFN.out.2.2 (Free.arg3 (c := .int .i64 y) (d := .bool false) (e := .bool true) rfl rfl rfl) ((HKC.out _ HB10.out).mono ?_); rintro e w11 ⟨rfl, rfl⟩; rw [HKV.out]; refine ⟨_, rfl, ?_, Below.refl _ _⟩; simp only [Act.put, List.setIfInBounds_toArray, List.set_cons_succ, List.set_cons_zero])
                    go_roundw
                    case rel => exact ⟨A', 0, ca, [], B2, nb - 1, cb - 1, t, Al, nl, cl, acc, rfl, rfl, rfl, hr.a, htb, hr.own.keep HBR.out, by rw [← HEQ.out, HKV.out, ifs_false], HB10.out, by omega⟩
                    case measure => simp [lenZ]; omega
        | cons x s =>
          cases sb with
          | nil =>
            obtain rfl : nb = 0 := hr.b.len.symm
            have HEQ := Lib.hid (show acc ++ Post.ifs (keep x true false) x (Post.pickM keep s []) = Post.pickM keep (Post.good la) (Post.good lb) from by have e := hr.eq; rw [Post.pickM] at e; exact e)
            obtain ⟨hpa, hxb, ba, oa, rfl, hcx⟩ := zs_head hr.a
            obtain ⟨A2, hta, hcuta⟩ := zs_tail hr.a
            have HCX := Lib.hid hcx
            have HTA := Lib.hid hcuta
            clear hcx hcuta
            have HB := Lib.hid hr.below
            have HKC := Lib.hid (fun W hW => hk.call W x true false (by omega) (by omega) hW)
            go_wp2_with fail
            refine Free.wp_free_l 18 (fun W => Below wr.heap.size wr W) [Free.kc (.slice (some ⟨ba, oa, none⟩) na ca), Free.kc (.int .i64 (na : Int)), Free.kc (.bool true), Free.kc (.bool true), Free.kc (.slice B' 0 cb), Free.kc (.int .i64 (0 : Int)), Free.kc (.bool true), Free.kc (.bool true), Free.kc (undef), Free.kc (undef), Free.kc (undef), Free.kc (undef), Free.kc (undef), Free.kc (undef), Free.kc (undef), Free.kc (.bool true), Free.kc (.bool true), Free.kc (.bool true)] (by kernel_rfl) (by kernel_rfl) (by decide) (Below.refl _ _).drew (fun w w' h g => bt h g) ?_ ?_
            · refine Free.forall_succ (Free.forall_succ (Free.forall_succ (Free.forall_succ (Free.forall_succ (Free.forall_succ (Free.forall_succ (Free.forall_succ (Free.forall_succ (Free.forall_succ (Free.forall_succ (Free.forall_succ (Free.forall_succ (Free.forall_succ (Free.forall_succ (Free.forall_succ (Free.forall_succ (Free.forall_succ (Free.forall_zero) ?_) ?_) ?_) ?_) ?_) ?_) ?_) ?_) ?_) ?_) ?_) ?_) ?_) ?_) ?_) ?_) ?_) ?_
              · exact Free.ob_plain _ rfl rfl fun vals wq hC hd => (by exact Free.d_move rfl (by kernel_rfl) rfl)
              · exact Free.ob_plain _ rfl rfl fun vals wq hC hd => (by exact Free.d_len rfl Tryd.underlying22 (Eq.trans (b := vals 0) (by kernel_rfl) (hd 0 (by kernel_rfl))) rfl)
              · exact Free.ob_plain _ rfl rfl fun vals wq hC hd => (by exact Free.d_bin rfl (Eq.trans (b := vals 1) (by kernel_rfl) (hd 1 (by kernel_rfl))) (show _ = (.int .i64 0 : Value) from rfl) (by go_simp) (by go_simp) rfl)
              · exact Free.ob_plain _ rfl rfl fun vals wq hC hd => (by exact Free.d_move rfl (Eq.trans (b := vals 2) (by kernel_rfl) (hd 2 (by kernel_rfl))) rfl)
              · exact Free.ob_guard _ rfl 3 28 true rfl rfl fun vals wq hC hd => ⟨Eq.trans (b := vals 3) (by kernel_rfl) (hd 3 (by kernel_rfl)), (by exact Free.d_move rfl (by kernel_rfl) rfl)⟩
              · exact Free.ob_guard _ rfl 3 28 true rfl rfl fun vals wq hC hd => ⟨Eq.trans (b := vals 3) (by kernel_rfl) (hd 3 (by kernel_rfl)), (by exact Free.d_len rfl Tryd.underlying22 (Eq.trans (b := vals 4) (by kernel_rfl) (hd 4 (by kernel_rfl))) rfl)⟩
              · exact Free.ob_guard _ rfl 3 28 true rfl rfl fun vals wq hC hd => ⟨Eq.trans (b := vals 3) (by kernel_rfl) (hd 3 (by kernel_rfl)), (by exact Free.d_bin rfl (Eq.trans (b := vals 5) (by kernel_rfl) (hd 5 (by kernel_rfl))) (show _ = (.int .i64 0 : Value) from rfl) (by go_simp) (by first | (go_simp; done) | (go_simp; omega)) rfl)⟩
              · exact Free.ob_guard _ rfl 3 28 true rfl rfl fun vals wq hC hd => ⟨Eq.trans (b := vals 3) (by kernel_rfl) (hd 3 (by kernel_rfl)), (by exact Free.d_move rfl (Eq.trans (b := vals 6) (by kernel_rfl) (hd 6 (by kernel_rfl))) rfl)⟩
              · exact Free.ob_skip _ rfl 7 32 false rfl rfl fun vals wq hC hd => ⟨.inl (Eq.trans (b := vals 7) (by kernel_rfl) (hd 7 (by kernel_rfl))), rfl⟩
              · exact Free.ob_skip _ rfl 7 32 false rfl rfl fun vals wq hC hd => ⟨.inl (Eq.trans (b := vals 7) (by kernel_rfl) (hd 7 (by kernel_rfl))), rfl⟩
              · exact Free.ob_skip _ rfl 7 32 false rfl rfl fun vals wq hC hd => ⟨.inl (Eq.trans (b := vals 7) (by kernel_rfl) (hd 7 (by kernel_rfl))), rfl⟩
              · exact Free.ob_skip _ rfl 7 32 false rfl rfl fun vals wq hC hd => ⟨.inl (Eq.trans (b := vals 7) (by kernel_rfl) (hd 7 (by kernel_rfl))), rfl⟩
              · exact Free.ob_skip _ rfl 7 32 false rfl rfl fun vals wq hC hd => ⟨.inl (Eq.trans (b := vals 7) (by kernel_rfl) (hd 7 (by kernel_rfl))), rfl⟩
              · exact Free.ob_skip _ rfl 7 32 false rfl rfl fun vals wq hC hd => ⟨.inl (Eq.trans (b := vals 7) (by kernel_rfl) (hd 7 (by kernel_rfl))), rfl⟩
              · exact Free.ob_skip _ rfl 7 32 false rfl rfl fun vals wq hC hd => ⟨.inl (Eq.trans (b := vals 7) (by kernel_rfl) (hd 7 (by kernel_rfl))), rfl⟩
              · exact Free.ob_guard _ rfl 3 28 true rfl rfl fun vals wq hC hd => ⟨Eq.trans (b := vals 3) (by kernel_rfl) (hd 3 (by kernel_rfl)), (by exact Free.d_pick rfl (Eq.trans (b := vals 7) (by kernel_rfl) (hd 7 (by kernel_rfl))) rfl rfl)⟩
              · exact Free.ob_plain _ rfl rfl fun vals wq hC hd => (by exact Free.d_pick rfl (Eq.trans (b := vals 3) (by kernel_rfl) (hd 3 (by kernel_rfl))) (Eq.trans (b := vals 15) (by kernel_rfl) (hd 15 (by kernel_rfl))) rfl)
              · exact Free.ob_plain _ rfl rfl fun vals wq hC hd => (by exact Free.d_assign rfl (Eq.trans (b := vals 16) (by kernel_rfl) (hd 16 (by kernel_rfl))) rfl)
            · intro vals wq hC hd
              have e0 : vals 0 = (.slice (some ⟨ba, oa, none⟩) na ca) := hd 0 (by decide)
              have e1 : vals 1 = (.int .i64 (na : Int)) := hd 1 (by decide)
              have e2 : vals 2 = (.bool true) := hd 2 (by decide)
              have e3 : vals 3 = (.bool true) := hd 3 (by decide)
              have e4 : vals 4 = (.slice B' 0 cb) := hd 4 (by decide)
              have e5 : vals 5 = (.int .i64 (0 : Int)) := hd 5 (by decide)
              have e6 : vals 6 = (.bool true) := hd 6 (by decide)
              have e7 : vals 7 = (.bool true) := hd 7 (by decide)
              have e8 : vals 8 = (undef) := hd 8 (by decide)
              have e9 : vals 9 = (undef) := hd 9 (by decide)
              have e10 : vals 10 = (undef) := hd 10 (by decide)
              have e11 : vals 11 = (undef) := hd 11 (by decide)
              have e12 : vals 12 = (undef) := hd 12 (by decide)
              have e13 : vals 13 = (undef) := hd 13 (by decide)
              have e14 : vals 14 = (undef) := hd 14 (by decide)
              have e15 : vals 15 = (.bool true) := hd 15 (by decide)
              have e16 : vals 16 = (.bool true) := hd 16 (by decide)
              have e17 : vals 17 = (.bool true) := hd 17 (by decide)
              simp only [Free.frameOf, List.range, List.range.loop, List.foldl, Free.dstOf, List.getElem?_toArray, List.getElem?_cons_zero, List.getElem?_cons_succ, Option.bind_some, Act.put, List.setIfInBounds_toArray, List.set_cons_zero, List.set_cons_succ, e0, e1, e2, e3, e4, e5, e6, e7, e8, e9, e10, e11, e12, e13, e14, e15, e16, e17]
              refine wpList_nil ?_
              clear hd e0 e1 e2 e3 e4 e5 e6 e7 e8 e9 e10 e11 e12 e13 e14 e15 e16 e17
              have HB7 := Lib.hid (bt HB.out hC)
              have HBR := Lib.hid hC
              obtain ⟨w7, hw7⟩ : ∃ W, wq = W := ⟨_, rfl⟩
              rw [hw7] at HB7 HBR ⊢
              clear hw7 hC
              go_wp2_with fail
              refine Free.wp_free_l 18 (fun W => Below w7.heap.size w7 W) [Free.kc (.slice B' 0 cb), Free.kc (.int .i64 (0 : Int)), Free.kc (.bool false), Free.kc (.bool false), Free.kc (undef), Free.kc (undef), Free.kc (undef), Free.kc (undef), Free.kc (undef), Free.kc (undef), Free.kc (undef), Free.kc (undef), Free.kc (undef), Free.kc (undef), Free.kc (undef), Free.kc (undef), Free.kc (.bool false), Free.kc (.bool false)] (by kernel_rfl) (by kernel_rfl) (by decide) (Below.refl _ _).drew (fun w w' h g => bt h g) ?_ ?_
              · refine Free.forall_succ (Free.forall_succ (Free.forall_succ (Free.forall_succ (Free.forall_succ (Free.forall_succ (Free.forall_succ (Free.forall_succ (Free.forall_succ (Free.forall_succ (Free.forall_succ (Free.forall_succ (Free.forall_succ (Free.forall_succ (Free.forall_succ (Free.forall_succ (Free.forall_succ (Free.forall_succ (Free.forall_zero) ?_) ?_) ?_) ?_) ?_) ?_) ?_) ?_) ?_) ?_) ?_) ?_) ?_) ?_) ?_) ?_) ?_) ?_
                · exact Free.ob_plain _ rfl rfl fun vals wq hC hd => (by exact Free.d_move rfl (by kernel_rfl) rfl)
                · exact Free.ob_plain _ rfl rfl fun vals wq hC hd => (by exact Free.d_len rfl Tryd.underlying22 (Eq.trans (b := vals 0) (by kernel_rfl) (hd 0 (by kernel_rfl))) rfl)
                · exact Free.ob_plain _ rfl rfl fun vals wq hC hd => (by exact Free.d_bin rfl (Eq.trans (b := vals 1) (by kernel_rfl) (hd 1 (by kernel_rfl))) (show _ = (.int .i64 0 : Value) from rfl) (by go_simp) (by go_simp) rfl)
                · exact Free.ob_plain _ rfl rfl fun vals wq hC hd => (by exact Free.d_move rfl (Eq.trans (b := vals 2) (by kernel_rfl) (hd 2 (by kernel_rfl))) rfl)
                · exact Free.ob_skip _ rfl 3 45 true rfl rfl fun vals wq hC hd => ⟨.inl (Eq.trans (b := vals 3) (by kernel_rfl) (hd 3 (by kernel_rfl))), rfl⟩
                · exact Free.ob_skip _ rfl 3 45 true rfl rfl fun vals wq hC hd => ⟨.inl (Eq.trans (b := vals 3) (by kernel_rfl) (hd 3 (by kernel_rfl))), rfl⟩
                · exact Free.ob_skip _ rfl 3 45 true rfl rfl fun vals wq hC hd => ⟨.inl (Eq.trans (b := vals 3) (by kernel_rfl) (hd 3 (by kernel_rfl))), rfl⟩
                · exact Free.ob_skip _ rfl 3 45 true rfl rfl fun vals wq hC hd => ⟨.inl (Eq.trans (b := vals 3) (by kernel_rfl) (hd 3 (by kernel_rfl))), rfl⟩
                · exact Free.ob_skip _ rfl 7 49 false rfl rfl fun vals wq hC hd => ⟨.inr (Eq.trans (b := vals 7) (by kernel_rfl) (hd 7 (by kernel_rfl))), rfl⟩
                · exact Free.ob_skip _ rfl 7 49 false rfl rfl fun vals wq hC hd => ⟨.inr (Eq.trans (b := vals 7) (by kernel_rfl) (hd 7 (by kernel_rfl))), rfl⟩
                · exact Free.ob_skip _ rfl 7 49 false rfl rfl fun vals wq hC hd => ⟨.inr (Eq.trans (b := vals 7) (by kernel_rfl) (hd 7 (by kernel_rfl))), rfl⟩
                · exact Free.ob_skip _ rfl 7 49 false rfl rfl fun vals wq hC hd => ⟨.inr (Eq.trans (b := vals 7) (by kernel_rfl) (hd 7 (by kernel_rfl))), rfl⟩
                · exact Free.ob_skip _ rfl 7 49 false rfl rfl fun vals wq hC hd => ⟨.inr (Eq.trans (b := vals 7) (by kernel_rfl) (hd 7 (by kernel_rfl))), rfl⟩
                · exact Free.ob_skip _ rfl 7 49 false rfl rfl fun vals wq hC hd => ⟨.inr (Eq.trans (b := vals 7) (by kernel_rfl) (hd 7 (by kernel_rfl))), rfl⟩
                · exact Free.ob_skip _ rfl 7 49 false rfl rfl fun vals wq hC hd => ⟨.inr (Eq.trans (b := vals 7) (by kernel_rfl) (hd 7 (by kernel_rfl))), rfl⟩
                · exact Free.ob_skip _ rfl 3 45 true rfl rfl fun vals wq hC hd => ⟨.inl (Eq.trans (b := vals 3) (by kernel_rfl) (hd 3 (by kernel_rfl))), rfl⟩
                · exact Free.ob_plain _ rfl rfl fun vals wq hC hd => (by exact Free.d_pick rfl (Eq.trans (b := vals 3) (by kernel_rfl) (hd 3 (by kernel_rfl))) rfl rfl)
                · exact Free.ob_plain _ rfl rfl fun vals wq hC hd => (by exact Free.d_assign rfl (Eq.trans (b := vals 16) (by kernel_rfl) (hd 16 (by kernel_rfl))) rfl)
              · intro vals wq hC hd
                have e0 : vals 0 = (.slice B' 0 cb) := hd 0 (by decide)
                have e1 : vals 1 = (.int .i64 (0 : Int)) := hd 1 (by decide)
                have e2 : vals 2 = (.bool false) := hd 2 (by decide)
                have e3 : vals 3 = (.bool false) := hd 3 (by decide)
                have e4 : vals 4 = (undef) := hd 4 (by decide)
                have e5 : vals 5 = (undef) := hd 5 (by decide)
                have e6 : vals 6 = (undef) := hd 6 (by decide)
                have e7 : vals 7 = (undef) := hd 7 (by decide)
                have e8 : vals 8 = (undef) := hd 8 (by decide)
                have e9 : vals 9 = (undef) := hd 9 (by decide)
                have e10 : vals 10 = (undef) := hd 10 (by decide)
                have e11 : vals 11 = (undef) := hd 11 (by decide)
                have e12 : vals 12 = (undef) := hd 12 (by decide)
                have e13 : vals 13 = (undef) := hd 13 (by decide)
                have e14 : vals 14 = (undef) := hd 14 (by decide)
                have e15 : vals 15 = (undef) := hd 15 (by decide)
                have e16 : vals 16 = (.bool false) := hd 16 (by decide)
                have e17 : vals 17 = (.bool false) := hd 17 (by decide)
                simp only [Free.frameOf, List.range, List.range.loop, List.foldl, Free.dstOf, List.getElem?_toArray, List.getElem?_cons_zero, List.getElem?_cons_succ, Option.bind_some, Act.put, List.setIfInBounds_toArray, List.set_cons_zero, List.set_cons_succ, e0, e1, e2, e3, e4, e5, e6, e7, e8, e9, e10, e11, e12, e13, e14, e15, e16, e17]
                refine wpList_nil ?_
                clear hd e0 e1 e2 e3 e4 e5 e6 e7 e8 e9 e10 e11 e12 e13 e14 e15 e16 e17
                have HB8 := Lib.hid (bt HB7.out hC)
                have HBR := Lib.hid (bt HBR.out hC)
                obtain ⟨w8, hw8⟩ : ∃ W, wq = W := ⟨_, rfl⟩
                rw [hw8] at HB8 HBR ⊢
                clear hw8 hC
                go_wp2_with fail
                refine Free.wp_free_l 7 (fun W => Below w8.heap.size w8 W) [Free.kc (.slice (some ⟨ba, oa, none⟩) na ca), Free.kc (.pointer (some ⟨ba, oa, none⟩)), Free.kc (.int .i64 x), Free.kc (.slice (some ⟨ba, oa, none⟩) na ca), Free.kc (.slice A2 (na - 1) (ca - 1)), Free.kc (.int .i64 x), Free.kc (.slice A2 (na - 1) (ca - 1))] (by kernel_rfl) (by kernel_rfl) (by decide) (Below.refl _ _).drew (fun w w' h g => bt h g) ?_ ?_
                · refine Free.forall_succ (Free.forall_succ (Free.forall_succ (Free.forall_succ (Free.forall_succ (Free.forall_succ (Free.forall_succ (Free.forall_zero) ?_) ?_) ?_) ?_) ?_) ?_) ?_
                  · exact Free.ob_plain _ rfl rfl fun vals wq hC hd => (by exact Free.d_move rfl (by kernel_rfl) rfl)
                  · exact Free.ob_plain _ rfl rfl fun vals wq hC hd => (by exact Free.d_indexAddr rfl (Eq.trans (b := vals 0) (by kernel_rfl) (hd 0 (by kernel_rfl))) (show _ = (.int .i64 0 : Value) from rfl) (run_idx 22 Tryd.underlying22 (by kernel_rfl) _ _ _ _ 0 0 rfl (by omega)) rfl)
                  · exact Free.ob_plain _ rfl rfl fun vals wq hC hd => (by exact Free.d_load rfl (Eq.trans (b := vals 1) (by kernel_rfl) (hd 1 (by kernel_rfl))) (by have hcc := HCX.out wq (bt HB8.out hC); go_simp) rfl)
                  · exact Free.ob_plain _ rfl rfl fun vals wq hC hd => (by exact Free.d_move rfl (by kernel_rfl) rfl)
                  · exact Free.ob_plain _ rfl rfl fun vals wq hC hd => (by exact Free.d_slice rfl (Eq.trans (b := vals 3) (by kernel_rfl) (hd 3 (by kernel_rfl))) rfl rfl rfl (HTA.out wq) rfl)
                  · exact Free.ob_plain _ rfl rfl fun vals wq hC hd => (by exact Free.d_assign rfl (Eq.trans (b := vals 2) (by kernel_rfl) (hd 2 (by kernel_rfl))) rfl)
                  · exact Free.ob_plain _ rfl rfl fun vals wq hC hd => (by exact Free.d_assign rfl (Eq.trans (b := vals 4) (by kernel_rfl) (hd 4 (by kernel_rfl))) rfl)
                · intro vals wq hC hd
                  have e0 : vals 0 = (.slice (some ⟨ba, oa, none⟩) na ca) := hd 0 (by decide)
                  have e1 : vals 1 = (.pointer (some ⟨ba, oa, none⟩)) := hd 1 (by decide)
                  have e2 : vals 2 = (.int .i64 x) := hd 2 (by decide)
                  have e3 : vals 3 = (.slice (some ⟨ba, oa, none⟩) na ca) := hd 3 (by decide)
                  have e4 : vals 4 = (.slice A2 (na - 1) (ca - 1)) := hd 4 (by decide)
                  have e5 : vals 5 = (.int .i64 x) := hd 5 (by decide)
                  have e6 : vals 6 = (.slice A2 (na - 1) (ca - 1)) := hd 6 (by decide)
                  simp only [Free.frameOf, List.range, List.range.loop, List.foldl, Free.dstOf, List.getElem?_toArray, List.getElem?_cons_zero, List.getElem?_cons_succ, Option.bind_some, Act.put, List.setIfInBounds_toArray, List.set_cons_zero, List.set_cons_succ, e0, e1, e2, e3, e4, e5, e6]
                  refine wpList_nil ?_
                  clear hd e0 e1 e2 e3 e4 e5 e6
                  have HB9 := Lib.hid (bt HB8.out hC)
                  have HBR := Lib.hid (bt HBR.out hC)
                  obtain ⟨w9, hw9⟩ : ∃ W, wq = W := ⟨_, rfl⟩
                  rw [hw9] at HB9 HBR ⊢
                  clear hw9 hC
                  cases hkv : keep x true false with
                  | true =>
                    have HKV := Lib.hid hkv
                    clear hkv
                    have hz := hr.own.keep (show Below wr.heap.size wr w9 from HBR.out)
                    go_wp2_with (first | (refine wl_callv rfl (t := 71) rfl rfl HFN.out.1 HFN.out.2.1 HFN.out.2.2 (Free.arg3 (c := .int .i64 x) (d := .bool true) (e := .bool false) rfl rfl rfl) ((HKC.out _ HB9.out).mono ?_); rintro e w11 ⟨rfl, rfl⟩; rw [HKV.out]; refine ⟨_, rfl, ?_, Below.refl _ _⟩; simp only [Act.put, List.setIfInBounds_toArray, List.set_cons_succ, List.set_cons_zero]) | (at_builtin; refine wl_appZ1 rfl (.tmp 76) (.tmp 78) rfl rfl hz x rfl (by omega) (by omega) HB9.out.size ?_; intro A4 n4 c4 w12 ho4 hb4 _))
                    go_roundw
                    case rel => exact ⟨A2, na - 1, ca - 1, s, B', 0, cb, [], A4, n4, c4, _, rfl, rfl, rfl, hta, hr.b, ho4, by rw [List.append_assoc, List.singleton_append, ← HEQ.out, HKV.out, ifs_true], HB9.out.trans hb4, by have a := ho4.len; have b := hr.own.len; rw [List.length_append, b] at a; simp at a; omega⟩
                    case measure => simp [lenZ]; omega
                  | false =>
                    have HKV := Lib.hid hkv
                    clear hkv
                    go_wp2_with (refine wl_callv rfl (t := 71) rfl rfl HFN.out.1 HFN.out.2.1 HFN.out.2.2 (Free.arg3 (c := .int .i64 x) (d := .bool true) (e := .bool false) rfl rfl rfl) ((HKC.out _ HB9.out).mono ?_); rintro e w11 ⟨rfl, rfl⟩; rw [HKV.out]; refine ⟨_, rfl, ?_, Below.refl _ _⟩; simp only [Act.put, List.setIfInBounds_toArray, List.set_cons_succ, List.set_cons_zero])
                    go_roundw
                    case rel => exact ⟨A2, na - 1, ca - 1, s, B', 0, cb, [], Al, nl, cl, acc, rfl, rfl, rfl, hta, hr.b, hr.own.keep HBR.out, by rw [← HEQ.out, HKV.out, ifs_false], HB9.out, by omega⟩
                    case measure => simp [lenZ]; omega
          | cons y t =>
            by_cases hxy : x < y
            · have hle1 : x ≤ y := by omega
              have hle2 : ¬ y ≤ x := by omega
              have HEQ := Lib.hid (show acc ++ Post.ifs (keep x true false) x (Post.pickM keep s (y :: t)) = Post.pickM keep (Post.good la) (Post.good lb) from by have e := hr.eq; rw [Post.pickM, if_pos hxy] at e; exact e)
              obtain ⟨hpa, hxb, ba, oa, rfl, hcx⟩ := zs_head hr.a
              obtain ⟨A2, hta, hcuta⟩ := zs_tail hr.a
              have HCX := Lib.hid hcx
              have HTA := Lib.hid hcuta
              clear hcx hcuta
              obtain ⟨hpb, hyb, bb, ob, rfl, hcy⟩ := zs_head hr.b
              obtain ⟨B2, htb, hcutb⟩ := zs_tail hr.b
              have HCY := Lib.hid hcy
              have HTB := Lib.hid hcutb
              clear hcy hcutb
              have HB := Lib.hid hr.below
              have HKC := Lib.hid (fun W hW => hk.call W x true false (by omega) (by omega) hW)
              go_wp2_with fail
              refine Free.wp_free_l 18 (fun W => Below wr.heap.size wr W) [Free.kc (.slice (some ⟨ba, oa, none⟩) na ca), Free.kc (.int .i64 (na : Int)), Free.kc (.bool true), Free.kc (.bool true), Free.kc (.slice (some ⟨bb, ob, none⟩) nb cb), Free.kc (.int .i64 (nb : Int)), Free.kc (.bool false), Free.kc (.bool false), Free.kc (.slice (some ⟨ba, oa, none⟩) na ca), Free.kc (.pointer (some ⟨ba, oa, none⟩)), Free.kc (.int .i64 x), Free.kc (.slice (some ⟨bb, ob, none⟩) nb cb), Free.kc (.pointer (some ⟨bb, ob, none⟩)), Free.kc (.int .i64 y), Free.kc (.bool true), Free.kc (.bool true), Free.kc (.bool true), Free.kc (.bool true)] (by kernel_rfl) (by kernel_rfl) (by decide) (Below.refl _ _).drew (fun w w' h g => bt h g) ?_ ?_
              · refine Free.forall_succ (Free.forall_succ (Free.forall_succ (Free.forall_succ (Free.forall_succ (Free.forall_succ (Free.forall_succ (Free.forall_succ (Free.forall_succ (Free.forall_succ (Free.forall_succ (Free.forall_succ (Free.forall_succ (Free.forall_succ (Free.forall_succ (Free.forall_succ (Free.forall_succ (Free.forall_succ (Free.forall_zero) ?_) ?_) ?_) ?_) ?_) ?_) ?_) ?_) ?_) ?_) ?_) ?_) ?_) ?_) ?_) ?_) ?_) ?_
                · exact Free.ob_plain _ rfl rfl fun vals wq hC hd => (by exact Free.d_move rfl (by kernel_rfl) rfl)
                · exact Free.ob_plain _ rfl rfl fun vals wq hC hd => (by exact Free.d_len rfl Tryd.underlying22 (Eq.trans (b := vals 0) (by kernel_rfl) (hd 0 (by kernel_rfl))) rfl)
                · exact Free.ob_plain _ rfl rfl fun vals wq hC hd => (by exact Free.d_bin rfl (Eq.trans (b := vals 1) (by kernel_rfl) (hd 1 (by kernel_rfl))) (show _ = (.int .i64 0 : Value) from rfl) (by go_simp) (by go_simp) rfl)
                · exact Free.ob_plain _ rfl rfl fun vals wq hC hd => (by exact Free.d_move rfl (Eq.trans (b := vals 2) (by kernel_rfl) (hd 2 (by kernel_rfl))) rfl)
                · exact Free.ob_guard _ rfl 3 28 true rfl rfl fun vals wq hC hd => ⟨Eq.trans (b := vals 3) (by kernel_rfl) (hd 3 (by kernel_rfl)), (by exact Free.d_move rfl (by kernel_rfl) rfl)⟩
                · exact Free.ob_guard _ rfl 3 28 true rfl rfl fun vals wq hC hd => ⟨Eq.trans (b := vals 3) (by kernel_rfl) (hd 3 (by kernel_rfl)), (by exact Free.d_len rfl Tryd.underlying22 (Eq.trans (b := vals 4) (by kernel_rfl) (hd 4 (by kernel_rfl))) rfl)⟩
                · exact Free.ob_guard _ rfl 3 28 true rfl rfl fun vals wq hC hd => ⟨Eq.trans (b := vals 3) (by kernel_rfl) (hd 3 (by kernel_rfl)), (by exact Free.d_bin rfl (Eq.trans (b := vals 5) (by kernel_rfl) (hd 5 (by kernel_rfl))) (show _ = (.int .i64 0 : Value) from rfl) (by go_simp) (by first | (go_simp; done) | (go_simp; omega)) rfl)⟩
                · exact Free.ob_guard _ rfl 3 28 true rfl rfl fun vals wq hC hd => ⟨Eq.trans (b := vals 3) (by kernel_rfl) (hd 3 (by kernel_rfl)), (by exact Free.d_move rfl (Eq.trans (b := vals 6) (by kernel_rfl) (hd 6 (by kernel_rfl))) rfl)⟩
                · exact Free.ob_guard _ rfl 7 32 false rfl rfl fun vals wq hC hd => ⟨Eq.trans (b := vals 7) (by kernel_rfl) (hd 7 (by kernel_rfl)), (by exact Free.d_move rfl (by kernel_rfl) rfl)⟩
                · exact Free.ob_guard _ rfl 7 32 false rfl rfl fun vals wq hC hd => ⟨Eq.trans (b := vals 7) (by kernel_rfl) (hd 7 (by kernel_rfl)), (by exact Free.d_indexAddr rfl (Eq.trans (b := vals 8) (by kernel_rfl) (hd 8 (by kernel_rfl))) (show _ = (.int .i64 0 : Value) from rfl) (run_idx 22 Tryd.underlying22 (by kernel_rfl) _ _ _ _ 0 0 rfl (by omega)) rfl)⟩
                · exact Free.ob_guard _ rfl 7 32 false rfl rfl fun vals wq hC hd => ⟨Eq.trans (b := vals 7) (by kernel_rfl) (hd 7 (by kernel_rfl)), (by exact Free.d_load rfl (Eq.trans (b := vals 9) (by kernel_rfl) (hd 9 (by kernel_rfl))) (by have hcc := HCX.out wq (bt HB.out hC); go_simp) rfl)⟩
                · exact Free.ob_guard _ rfl 7 32 false rfl rfl fun vals wq hC hd => ⟨Eq.trans (b := vals 7) (by kernel_rfl) (hd 7 (by kernel_rfl)), (by exact Free.d_move rfl (by kernel_rfl) rfl)⟩
                · exact Free.ob_guard _ rfl 7 32 false rfl rfl fun vals wq hC hd => ⟨Eq.trans (b := vals 7) (by kernel_rfl) (hd 7 (by kernel_rfl)), (by exact Free.d_indexAddr rfl (Eq.trans (b := vals 11) (by kernel_rfl) (hd 11 (by kernel_rfl))) (show _ = (.int .i64 0 : Value) from rfl) (run_idx 22 Tryd.underlying22 (by kernel_rfl) _ _ _ _ 0 0 rfl (by omega)) rfl)⟩
                · exact Free.ob_guard _ rfl 7 32 false rfl rfl fun vals wq hC hd => ⟨Eq.trans (b := vals 7) (by kernel_rfl) (hd 7 (by kernel_rfl)), (by exact Free.d_load rfl (Eq.trans (b := vals 12) (by kernel_rfl) (hd 12 (by kernel_rfl))) (by have hcc := HCY.out wq (bt HB.out hC); go_simp) rfl)⟩
                · exact Free.ob_guard _ rfl 7 32 false rfl rfl fun vals wq hC hd => ⟨Eq.trans (b := vals 7) (by kernel_rfl) (hd 7 (by kernel_rfl)), (by exact Free.d_bin rfl (Eq.trans (b := vals 10) (by kernel_rfl) (hd 10 (by kernel_rfl))) (Eq.trans (b := vals 13) (by kernel_rfl) (hd 13 (by kernel_rfl))) (by go_simp) (by go_simp) rfl)⟩
                · exact Free.ob_guard _ rfl 3 28 true rfl rfl fun vals wq hC hd => ⟨Eq.trans (b := vals 3) (by kernel_rfl) (hd 3 (by kernel_rfl)), (by exact Free.d_pick rfl (Eq.trans (b := vals 7) (by kernel_rfl) (hd 7 (by kernel_rfl))) (Eq.trans (b := vals 14) (by kernel_rfl) (hd 14 (by kernel_rfl))) rfl)⟩
                · exact Free.ob_plain _ rfl rfl fun vals wq hC hd => (by exact Free.d_pick rfl (Eq.trans (b := vals 3) (by kernel_rfl) (hd 3 (by kernel_rfl))) (Eq.trans (b := vals 15) (by kernel_rfl) (hd 15 (by kernel_rfl))) rfl)
                · exact Free.ob_plain _ rfl rfl fun vals wq hC hd => (by exact Free.d_assign rfl (Eq.trans (b := vals 16) (by kernel_rfl) (hd 16 (by kernel_rfl))) rfl)
              · intro vals wq hC hd
                have e0 : vals 0 = (.slice (some ⟨ba, oa, none⟩) na ca) := hd 0 (by decide)
                have e1 : vals 1 = (.int .i64 (na : Int)) := hd 1 (by decide)
                have e2 : vals 2 = (.bool true) := hd 2 (by decide)
                have e3 : vals 3 = (.bool true) := hd 3 (by decide)
                have e4 : vals 4 = (.slice (some ⟨bb, ob, none⟩) nb cb) := hd 4 (by decide)
                have e5 : vals 5 = (.int .i64 (nb : Int)) := hd 5 (by decide)
                have e6 : vals 6 = (.bool false) := hd 6 (by decide)
                have e7 : vals 7 = (.bool false) := hd 7 (by decide)
                have e8 : vals 8 = (.slice (some ⟨ba, oa, none⟩) na ca) := hd 8 (by decide)
                have e9 : vals 9 = (.pointer (some ⟨ba, oa, none⟩)) := hd 9 (by decide)
                have e10 : vals 10 = (.int .i64 x) := hd 10 (by decide)
                have e11 : vals 11 = (.slice (some ⟨bb, ob, none⟩) nb cb) := hd 11 (by decide)
                have e12 : vals 12 = (.pointer (some ⟨bb, ob, none⟩)) := hd 12 (by decide)
                have e13 : vals 13 = (.int .i64 y) := hd 13 (by decide)
                have e14 : vals 14 = (.bool true) := hd 14 (by decide)
                have e15 : vals 15 = (.bool true) := hd 15 (by decide)
                have e16 : vals 16 = (.bool true) := hd 16 (by decide)
                have e17 : vals 17 = (.bool true) := hd 17 (by decide)
                simp only [Free.frameOf, List.range, List.range.loop, List.foldl, Free.dstOf, List.getElem?_toArray, List.getElem?_cons_zero, List.getElem?_cons_succ, Option.bind_some, Act.put, List.setIfInBounds_toArray, List.set_cons_zero, List.set_cons_succ, e0, e1, e2, e3, e4, e5, e6, e7, e8, e9, e10, e11, e12, e13, e14, e15, e16, e17]
                refine wpList_nil ?_
                clear hd e0 e1 e2 e3 e4 e5 e6 e7 e8 e9 e10 e11 e12 e13 e14 e15 e16 e17
                have HB7 := Lib.hid (bt HB.out hC)
                have HBR := Lib.hid hC
                obtain ⟨w7, hw7⟩ : ∃ W, wq = W := ⟨_, rfl⟩
                rw [hw7] at HB7 HBR ⊢
                clear hw7 hC
                go_wp2_with fail
                refine Free.wp_free_l 18 (fun W => Below w7.heap.size w7 W) [Free.kc (.slice (some ⟨bb, ob, none⟩) nb cb), Free.kc (.int .i64 (nb : Int)), Free.kc (.bool true), Free.kc (.bool true), Free.kc (.slice (some ⟨ba, oa, none⟩) na ca), Free.kc (.int .i64 (na : Int)), Free.kc (.bool false), Free.kc (.bool false), Free.kc (.slice (some ⟨bb, ob, none⟩) nb cb), Free.kc (.pointer (some ⟨bb, ob, none⟩)), Free.kc (.int .i64 y), Free.kc (.slice (some ⟨ba, oa, none⟩) na ca), Free.kc (.pointer (some ⟨ba, oa, none⟩)), Free.kc (.int .i64 x), Free.kc (.bool false), Free.kc (.bool false), Free.kc (.bool false), Free.kc (.bool false)] (by kernel_rfl) (by kernel_rfl) (by decide) (Below.refl _ _).drew (fun w w' h g => bt h g) ?_ ?_
                · refine Free.forall_succ (Free.forall_succ (Free.forall_succ (Free.forall_succ (Free.forall_succ (Free.forall_succ (Free.forall_succ (Free.forall_succ (Free.forall_succ (Free.forall_succ (Free.forall_succ (Free.forall_succ (Free.forall_succ (Free.forall_succ (Free.forall_succ (Free.forall_succ (Free.forall_succ (Free.forall_succ (Free.forall_zero) ?_) ?_) ?_) ?_) ?_) ?_) ?_) ?_) ?_) ?_) ?_) ?_) ?_) ?_) ?_) ?_) ?_) ?_
                  · exact Free.ob_plain _ rfl rfl fun vals wq hC hd => (by exact Free.d_move rfl (by kernel_rfl) rfl)
                  · exact Free.ob_plain _ rfl rfl fun vals wq hC hd => (by exact Free.d_len rfl Tryd.underlying22 (Eq.trans (b := vals 0) (by kernel_rfl) (hd 0 (by kernel_rfl))) rfl)
                  · exact Free.ob_plain _ rfl rfl fun vals wq hC hd => (by exact Free.d_bin rfl (Eq.trans (b := vals 1) (by kernel_rfl) (hd 1 (by kernel_rfl))) (show _ = (.int .i64 0 : Value) from rfl) (by go_simp) (by go_simp) rfl)
                  · exact Free.ob_plain _ rfl rfl fun vals wq hC hd => (by exact Free.d_move rfl (Eq.trans (b := vals 2) (by kernel_rfl) (hd 2 (by kernel_rfl))) rfl)
                  · exact Free.ob_guard _ rfl 3 45 true rfl rfl fun vals wq hC hd => ⟨Eq.trans (b := vals 3) (by kernel_rfl) (hd 3 (by kernel_rfl)), (by exact Free.d_move rfl (by kernel_rfl) rfl)⟩
                  · exact Free.ob_guard _ rfl 3 45 true rfl rfl fun vals wq hC hd => ⟨Eq.trans (b := vals 3) (by kernel_rfl) (hd 3 (by kernel_rfl)), (by exact Free.d_len rfl Tryd.underlying22 (Eq.trans (b := vals 4) (by kernel_rfl) (hd 4 (by kernel_rfl))) rfl)⟩
                  · exact Free.ob_guard _ rfl 3 45 true rfl rfl fun vals wq hC hd => ⟨Eq.trans (b := vals 3) (by kernel_rfl) (hd 3 (by kernel_rfl)), (by exact Free.d_bin rfl (Eq.trans (b := vals 5) (by kernel_rfl) (hd 5 (by kernel_rfl))) (show _ = (.int .i64 0 : Value) from rfl) (by go_simp) (by first | (go_simp; done) | (go_simp; omega)) rfl)⟩
                  · exact Free.ob_guard _ rfl 3 45 true rfl rfl fun vals wq hC hd => ⟨Eq.trans (b := vals 3) (by kernel_rfl) (hd 3 (by kernel_rfl)), (by exact Free.d_move rfl (Eq.trans (b := vals 6) (by kernel_rfl) (hd 6 (by kernel_rfl))) rfl)⟩
                  · exact Free.ob_guard _ rfl 7 49 false rfl rfl fun vals wq hC hd => ⟨Eq.trans (b := vals 7) (by kernel_rfl) (hd 7 (by kernel_rfl)), (by exact Free.d_move rfl (by kernel_rfl) rfl)⟩
                  · exact Free.ob_guard _ rfl 7 49 false rfl rfl fun vals wq hC hd => ⟨Eq.trans (b := vals 7) (by kernel_rfl) (hd 7 (by kernel_rfl)), (by exact Free.d_indexAddr rfl (Eq.trans (b := vals 8) (by kernel_rfl) (hd 8 (by kernel_rfl))) (show _ = (.int .i64 0 : Value) from rfl) (run_idx 22 Tryd.underlying22 (by kernel_rfl) _ _ _ _ 0 0 rfl (by omega)) rfl)⟩
                  · exact Free.ob_guard _ rfl 7 49 false rfl rfl fun vals wq hC hd => ⟨Eq.trans (b := vals 7) (by kernel_rfl) (hd 7 (by kernel_rfl)), (by exact Free.d_load rfl (Eq.trans (b := vals 9) (by kernel_rfl) (hd 9 (by kernel_rfl))) (by have hcc := HCY.out wq (bt HB7.out hC); go_simp) rfl)⟩
                  · exact Free.ob_guard _ rfl 7 49 false rfl rfl fun vals wq hC hd => ⟨Eq.trans (b := vals 7) (by kernel_rfl) (hd 7 (by kernel_rfl)), (by exact Free.d_move rfl (by kernel_rfl) rfl)⟩
                  · exact Free.ob_guard _ rfl 7 49 false rfl rfl fun vals wq hC hd => ⟨Eq.trans (b := vals 7) (by kernel_rfl) (hd 7 (by kernel_rfl)), (by exact Free.d_indexAddr rfl (Eq.trans (b := vals 11) (by kernel_rfl) (hd 11 (by kernel_rfl))) (show _ = (.int .i64 0 : Value) from rfl) (run_idx 22 Tryd.underlying22 (by kernel_rfl) _ _ _ _ 0 0 rfl (by omega)) rfl)⟩
                  · exact Free.ob_guard _ rfl 7 49 false rfl rfl fun vals wq hC hd => ⟨Eq.trans (b := vals 7) (by kernel_rfl) (hd 7 (by kernel_rfl)), (by exact Free.d_load rfl (Eq.trans (b := vals 12) (by kernel_rfl) (hd 12 (by kernel_rfl))) (by have hcc := HCX.out wq (bt HB7.out hC); go_simp) rfl)⟩
                  · exact Free.ob_guard _ rfl 7 49 false rfl rfl fun vals wq hC hd => ⟨Eq.trans (b := vals 7) (by kernel_rfl) (hd 7 (by kernel_rfl)), (by exact Free.d_bin rfl (Eq.trans (b := vals 10) (by kernel_rfl) (hd 10 (by kernel_rfl))) (Eq.trans (b := vals 13) (by kernel_rfl) (hd 13 (by kernel_rfl))) (by go_simp) (by go_simp) rfl)⟩
                  · exact Free.ob_guard _ rfl 3 45 true rfl rfl fun vals wq hC hd => ⟨Eq.trans (b := vals 3) (by kernel_rfl) (hd 3 (by kernel_rfl)), (by exact Free.d_pick rfl (Eq.trans (b := vals 7) (by kernel_rfl) (hd 7 (by kernel_rfl))) (Eq.trans (b := vals 14) (by kernel_rfl) (hd 14 (by kernel_rfl))) rfl)⟩
                  · exact Free.ob_plain _ rfl rfl fun vals wq hC hd => (by exact Free.d_pick rfl (Eq.trans (b := vals 3) (by kernel_rfl) (hd 3 (by kernel_rfl))) (Eq.trans (b := vals 15) (by kernel_rfl) (hd 15 (by kernel_rfl))) rfl)
                  · exact Free.ob_plain _ rfl rfl fun vals wq hC hd => (by exact Free.d_assign rfl (Eq.trans (b := vals 16) (by kernel_rfl) (hd 16 (by kernel_rfl))) rfl)
                · intro vals wq hC hd
                  have e0 : vals 0 = (.slice (some ⟨bb, ob, none⟩) nb cb) := hd 0 (by decide)
                  have e1 : vals 1 = (.int .i64 (nb : Int)) := hd 1 (by decide)
                  have e2 : vals 2 = (.bool true) := hd 2 (by decide)
                  have e3 : vals 3 = (.bool true) := hd 3 (by decide)
                  have e4 : vals 4 = (.slice (some ⟨ba, oa, none⟩) na ca) := hd 4 (by decide)
                  have e5 : vals 5 = (.int .i64 (na : Int)) := hd 5 (by decide)
                  have e6 : vals 6 = (.bool false) := hd 6 (by decide)
                  have e7 : vals 7 = (.bool false) := hd 7 (by decide)
                  have e8 : vals 8 = (.slice (some ⟨bb, ob, none⟩) nb cb) := hd 8 (by decide)
                  have e9 : vals 9 = (.pointer (some ⟨bb, ob, none⟩)) := hd 9 (by decide)
                  have e10 : vals 10 = (.int .i64 y) := hd 10 (by decide)
                  have e11 : vals 11 = (.slice (some ⟨ba, oa, none⟩) na ca) := hd 11 (by decide)
                  have e12 : vals 12 = (.pointer (some ⟨ba, oa, none⟩)) := hd 12 (by decide)
                  have e13 : vals 13 = (.int .i64 x) := hd 13 (by decide)
                  have e14 : vals 14 = (.bool false) := hd 14 (by decide)
                  have e15 : vals 15 = (.bool false) := hd 15 (by decide)
                  have e16 : vals 16 = (.bool false) := hd 16 (by decide)
                  have e17 : vals 17 = (.bool false) := hd 17 (by decide)
                  simp only [Free.frameOf, List.range, List.range.loop, List.foldl, Free.dstOf, List.getElem?_toArray, List.getElem?_cons_zero, List.getElem?_cons_succ, Option.bind_some, Act.put, List.setIfInBounds_toArray, List.set_cons_zero, List.set_cons_succ, e0, e1, e2, e3, e4, e5, e6, e7, e8, e9, e10, e11, e12, e13, e14, e15, e16, e17]
                  refine wpList_nil ?_
                  clear hd e0 e1 e2 e3 e4 e5 e6 e7 e8 e9 e10 e11 e12 e13 e14 e15 e16 e17
                  have HB8 := Lib.hid (bt HB7.out hC)
                  have HBR := Lib.hid (bt HBR.out hC)
                  obtain ⟨w8, hw8⟩ : ∃ W, wq = W := ⟨_, rfl⟩
                  rw [hw8] at HB8 HBR ⊢
                  clear hw8 hC
                  go_wp2_with fail
                  refine Free.wp_free_l 7 (fun W => Below w8.heap.size w8 W) [Free.kc (.slice (some ⟨ba, oa, none⟩) na ca), Free.kc (.pointer (some ⟨ba, oa, none⟩)), Free.kc (.int .i64 x), Free.kc (.slice (some ⟨ba, oa, none⟩) na ca), Free.kc (.slice A2 (na - 1) (ca - 1)), Free.kc (.int .i64 x), Free.kc (.slice A2 (na - 1) (ca - 1))] (by kernel_rfl) (by kernel_rfl) (by decide) (Below.refl _ _).drew (fun w w' h g => bt h g) ?_ ?_
                  · refine Free.forall_succ (Free.forall_succ (Free.forall_succ (Free.forall_succ (Free.forall_succ (Free.forall_succ (Free.forall_succ (Free.forall_zero) ?_) ?_) ?_) ?_) ?_) ?_) ?_
                    · exact Free.ob_plain _ rfl rfl fun vals wq hC hd => (by exact Free.d_move rfl (by kernel_rfl) rfl)
                    · exact Free.ob_plain _ rfl rfl fun vals wq hC hd => (by exact Free.d_indexAddr rfl (Eq.trans (b := vals 0) (by kernel_rfl) (hd 0 (by kernel_rfl))) (show _ = (.int .i64 0 : Value) from rfl) (run_idx 22 Tryd.underlying22 (by kernel_rfl) _ _ _ _ 0 0 rfl (by omega)) rfl)
                    · exact Free.ob_plain _ rfl rfl fun vals wq hC hd => (by exact Free.d_load rfl (Eq.trans (b := vals 1) (by kernel_rfl) (hd 1 (by kernel_rfl))) (by have hcc := HCX.out wq (bt HB8.out hC); go_simp) rfl)
                    · exact Free.ob_plain _ rfl rfl fun vals wq hC hd => (by exact Free.d_move rfl (by kernel_rfl) rfl)
                    · exact Free.ob_plain _ rfl rfl fun vals wq hC hd => (by exact Free.d_slice rfl (Eq.trans (b := vals 3) (by kernel_rfl) (hd 3 (by kernel_rfl))) rfl rfl rfl (HTA.out wq) rfl)
                    · exact Free.ob_plain _ rfl rfl fun vals wq hC hd => (by exact Free.d_assign rfl (Eq.trans (b := vals 2) (by kernel_rfl) (hd 2 (by kernel_rfl))) rfl)
                    · exact Free.ob_plain _ rfl rfl fun vals wq hC hd => (by exact Free.d_assign rfl (Eq.trans (b := vals 4) (by kernel_rfl) (hd 4 (by kernel_rfl))) rfl)
                  · intro vals wq hC hd
                    have e0 : vals 0 = (.slice (some ⟨ba, oa, none⟩) na ca) := hd 0 (by decide)
                    have e1 : vals 1 = (.pointer (some ⟨ba, oa, none⟩)) := hd 1 (by decide)
                    have e2 : vals 2 = (.int .i64 x) := hd 2 (by decide)
                    have e3 : vals 3 = (.slice (some ⟨ba, oa, none⟩) na ca) := hd 3 (by decide)
                    have e4 : vals 4 = (.slice A2 (na - 1) (ca - 1)) := hd 4 (by decide)
                    have e5 : vals 5 = (.int .i64 x) := hd 5 (by decide)
                    have e6 : vals 6 = (.slice A2 (na - 1) (ca - 1)) := hd 6 (by decide)
                    simp only [Free.frameOf, List.range, List.range.loop, List.foldl, Free.dstOf, List.getElem?_toArray, List.getElem?_cons_zero, List.getElem?_cons_succ, Option.bind_some, Act.put, List.setIfInBounds_toArray, List.set_cons_zero, List.set_cons_succ, e0, e1, e2, e3, e4, e5, e6]
                    refine wpList_nil ?_
                    clear hd e0 e1 e2 e3 e4 e5 e6
                    have HB9 := Lib.hid (bt HB8.out hC)
                    have HBR := Lib.hid (bt HBR.out hC)
                    obtain ⟨w9, hw9⟩ : ∃ W, wq = W := ⟨_, rfl⟩
                    rw [hw9] at HB9 HBR ⊢
                    clear hw9 hC
                    cases hkv : keep x true false with
                    | true =>
                      have HKV := Lib.hid hkv
                      clear hkv
                      have hz := hr.own.keep (show Below wr.heap.size wr w9 from HBR.out)
                      go_wp2_with (first | (refine wl_callv rfl (t := 71) rfl rfl HFN.out.1 HFN.out.2.1 HFN.out.2.2 (Free.arg3 (c := .int .i64 x) (d := .bool true) (e := .bool false) rfl rfl rfl) ((HKC.out _ HB9.out).mono ?_); rintro e w11 ⟨rfl, rfl⟩; rw [HKV.out]; refine ⟨_, rfl, ?_, Below.refl _ _⟩; simp only [Act.put, List.setIfInBounds_toArray, List.set_cons_succ, List.set_cons_zero]) | (at_builtin; refine wl_appZ1 rfl (.tmp 76) (.tmp 78) rfl rfl hz x rfl (by omega) (by omega) HB9.out.size ?_; intro A4 n4 c4 w12 ho4 hb4 _))
                      go_roundw
                      case rel => exact ⟨A2, na - 1, ca - 1, s, _, nb, cb, y :: t, A4, n4, c4, _, rfl, rfl, rfl, hta, hr.b, ho4, by rw [List.append_assoc, List.singleton_append, ← HEQ.out, HKV.out, ifs_true], HB9.out.trans hb4, by have a := ho4.len; have b := hr.own.len; rw [List.length_append, b] at a; simp at a; omega⟩
                      case measure => simp [lenZ]; omega
                    | false =>
                      have HKV := Lib.hid hkv
                      clear hkv
                      go_wp2_with (refine wl_callv rfl (t := 71) rfl rfl HFN.out.1 HFN.out.2.1 HFN.out.2.2 (Free.arg3 (c := .int .i64 x) (d := .bool true) (e := .bool false) rfl rfl rfl) ((HKC.out _ HB9.out).mono ?_); rintro e w11 ⟨rfl, rfl⟩; rw [HKV.out]; refine ⟨_, rfl, ?_, Below.refl _ _⟩; simp only [Act.put, List.setIfInBounds_toArray, List.set_cons_succ, List.set_cons_zero])
                      go_roundw
                      case rel => exact ⟨A2, na - 1, ca - 1, s, _, nb, cb, y :: t, Al, nl, cl, acc, rfl, rfl, rfl, hta, hr.b, hr.own.keep HBR.out, by rw [← HEQ.out, HKV.out, ifs_false], HB9.out, by omega⟩
                      case measure => simp [lenZ]; omega
            · by_cases hyx : y < x
              · have hle1 : ¬ x ≤ y := by omega
                have hle2 : y ≤ x := by omega
                have HEQ := Lib.hid (show acc ++ Post.ifs (keep y false true) y (Post.pickM keep (x :: s) t) = Post.pickM keep (Post.good la) (Post.good lb) from by have e := hr.eq; rw [Post.pickM, if_neg hxy, if_pos hyx] at e; exact e)
                obtain ⟨hpa, hxb, ba, oa, rfl, hcx⟩ := zs_head hr.a
                obtain ⟨A2, hta, hcuta⟩ := zs_tail hr.a
                have HCX := Lib.hid hcx
                have HTA := Lib.hid hcuta
                clear hcx hcuta
                obtain ⟨hpb, hyb, bb, ob, rfl, hcy⟩ := zs_head hr.b
                obtain ⟨B2, htb, hcutb⟩ := zs_tail hr.b
                have HCY := Lib.hid hcy
                have HTB := Lib.hid hcutb
                clear hcy hcutb
                have HB := Lib.hid hr.below
                have HKC := Lib.hid (fun W hW => hk.call W y false true (by omega) (by omega) hW)
                go_wp2_with fail
                refine Free.wp_free_l 18 (fun W => Below wr.heap.size wr W) [Free.kc (.slice (some ⟨ba, oa, none⟩) na ca), Free.kc (.int .i64 (na : Int)), Free.kc (.bool true), Free.kc (.bool true), Free.kc (.slice (some ⟨bb, ob, none⟩) nb cb), Free.kc (.int .i64 (nb : Int)), Free.kc (.bool false), Free.kc (.bool false), Free.kc (.slice (some ⟨ba, oa, none⟩) na ca), Free.kc (.pointer (some ⟨ba, oa, none⟩)), Free.kc (.int .i64 x), Free.kc (.slice (some ⟨bb, ob, none⟩) nb cb), Free.kc (.pointer (some ⟨bb, ob, none⟩)), Free.kc (.int .i64 y), Free.kc (.bool false), Free.kc (.bool false), Free.kc (.bool false), Free.kc (.bool false)] (by kernel_rfl) (by kernel_rfl) (by decide) (Below.refl _ _).drew (fun w w' h g => bt h g) ?_ ?_
                · refine Free.forall_succ (Free.forall_succ (Free.forall_succ (Free.forall_succ (Free.forall_succ (Free.forall_succ (Free.forall_succ (Free.forall_succ (Free.forall_succ (Free.forall_succ (Free.forall_succ (Free.forall_succ (Free.forall_succ (Free.forall_succ (Free.forall_succ (Free.forall_succ (Free.forall_succ (Free.forall_succ (Free.forall_zero) ?_) ?_) ?_) ?_) ?_) ?_) ?_) ?_) ?_) ?_) ?_) ?_) ?_) ?_) ?_) ?_) ?_) ?_
                  · exact Free.ob_plain _ rfl rfl fun vals wq hC hd => (by exact Free.d_move rfl (by kernel_rfl) rfl)
                  · exact Free.ob_plain _ rfl rfl fun vals wq hC hd => (by exact Free.d_len rfl Tryd.underlying22 (Eq.trans (b := vals 0) (by kernel_rfl) (hd 0 (by kernel_rfl))) rfl)
                  · exact Free.ob_plain _ rfl rfl fun vals wq hC hd => (by exact Free.d_bin rfl (Eq.trans (b := vals 1) (by kernel_rfl) (hd 1 (by kernel_rfl))) (show _ = (.int .i64 0 : Value) from rfl) (by go_simp) (by go_simp) rfl)
                  · exact Free.ob_plain _ rfl rfl fun vals wq hC hd => (by exact Free.d_move rfl (Eq.trans (b := vals 2) (by kernel_rfl) (hd 2 (by kernel_rfl))) rfl)
                  · exact Free.ob_guard _ rfl 3 28 true rfl rfl fun vals wq hC hd => ⟨Eq.trans (b := vals 3) (by kernel_rfl) (hd 3 (by kernel_rfl)), (by exact Free.d_move rfl (by kernel_rfl) rfl)⟩
                  · exact Free.ob_guard _ rfl 3 28 true rfl rfl fun vals wq hC hd => ⟨Eq.trans (b := vals 3) (by kernel_rfl) (hd 3 (by kernel_rfl)), (by exact Free.d_len rfl Tryd.underlying22 (Eq.trans (b := vals 4) (by kernel_rfl) (hd 4 (by kernel_rfl))) rfl)⟩
                  · exact Free.ob_guard _ rfl 3 28 true rfl rfl fun vals wq hC hd => ⟨Eq.trans (b := vals 3) (by kernel_rfl) (hd 3 (by kernel_rfl)), (by exact Free.d_bin rfl (Eq.trans (b := vals 5) (by kernel_rfl) (hd 5 (by kernel_rfl))) (show _ = (.int .i64 0 : Value) from rfl) (by go_simp) (by first | (go_simp; done) | (go_simp; omega)) rfl)⟩
                  · exact Free.ob_guard _ rfl 3 28 true rfl rfl fun vals wq hC hd => ⟨Eq.trans (b := vals 3) (by kernel_rfl) (hd 3 (by kernel_rfl)), (by exact Free.d_move rfl (Eq.trans (b := vals 6) (by kernel_rfl) (hd 6 (by kernel_rfl))) rfl)⟩
                  · exact Free.ob_guard _ rfl 7 32 false rfl rfl fun vals wq hC hd => ⟨Eq.trans (b := vals 7) (by kernel_rfl) (hd 7 (by kernel_rfl)), (by exact Free.d_move rfl (by kernel_rfl) rfl)⟩
                  · exact Free.ob_guard _ rfl 7 32 false rfl rfl fun vals wq hC hd => ⟨Eq.trans (b := vals 7) (by kernel_rfl) (hd 7 (by kernel_rfl)), (by exact Free.d_indexAddr rfl (Eq.trans (b := vals 8) (by kernel_rfl) (hd 8 (by kernel_rfl))) (show _ = (.int .i64 0 : Value) from rfl) (run_idx 22 Tryd.underlying22 (by kernel_rfl) _ _ _ _ 0 0 rfl (by omega)) rfl)⟩
                  · exact Free.ob_guard _ rfl 7 32 false rfl rfl fun vals wq hC hd => ⟨Eq.trans (b := vals 7) (by kernel_rfl) (hd 7 (by kernel_rfl)), (by exact Free.d_load rfl (Eq.trans (b := vals 9) (by kernel_rfl) (hd 9 (by kernel_rfl))) (by have hcc := HCX.out wq (bt HB.out hC); go_simp) rfl)⟩
                  · exact Free.ob_guard _ rfl 7 32 false rfl rfl fun vals wq hC hd => ⟨Eq.trans (b := vals 7) (by kernel_rfl) (hd 7 (by kernel_rfl)), (by exact Free.d_move rfl (by kernel_rfl) rfl)⟩
                  · exact Free.ob_guard _ rfl 7 32 false rfl rfl fun vals wq hC hd => ⟨Eq.trans (b := vals 7) (by kernel_rfl) (hd 7 (by kernel_rfl)), (by exact Free.d_indexAddr rfl (Eq.trans (b := vals 11) (by kernel_rfl) (hd 11 (by kernel_rfl))) (show _ = (.int .i64 0 : Value) from rfl) (run_idx 22 Tryd.underlying22 (by kernel_rfl) _ _ _ _ 0 0 rfl (by omega)) rfl)⟩
                  · exact Free.ob_guard _ rfl 7 32 false rfl rfl fun vals wq hC hd => ⟨Eq.trans (b := vals 7) (by kernel_rfl) (hd 7 (by kernel_rfl)), (by exact Free.d_load rfl (Eq.trans (b := vals 12) (by kernel_rfl) (hd 12 (by kernel_rfl))) (by have hcc := HCY.out wq (bt HB.out hC); go_simp) rfl)⟩
                  · exact Free.ob_guard _ rfl 7 32 false rfl rfl fun vals wq hC hd => ⟨Eq.trans (b := vals 7) (by kernel_rfl) (hd 7 (by kernel_rfl)), (by exact Free.d_bin rfl (Eq.trans (b := vals 10) (by kernel_rfl) (hd 10 (by kernel_rfl))) (Eq.trans (b := vals 13) (by kernel_rfl) (hd 13 (by kernel_rfl))) (by go_simp) (by go_simp) rfl)⟩
                  · exact Free.ob_guard _ rfl 3 28 true rfl rfl fun vals wq hC hd => ⟨Eq.trans (b := vals 3) (by kernel_rfl) (hd 3 (by kernel_rfl)), (by exact Free.d_pick rfl (Eq.trans (b := vals 7) (by kernel_rfl) (hd 7 (by kernel_rfl))) (Eq.trans (b := vals 14) (by kernel_rfl) (hd 14 (by kernel_rfl))) rfl)⟩
                  · exact Free.ob_plain _ rfl rfl fun vals wq hC hd => (by exact Free.d_pick rfl (Eq.trans (b := vals 3) (by kernel_rfl) (hd 3 (by kernel_rfl))) (Eq.trans (b := vals 15) (by kernel_rfl) (hd 15 (by kernel_rfl))) rfl)
                  · exact Free.ob_plain _ rfl rfl fun vals wq hC hd => (by exact Free.d_assign rfl (Eq.trans (b := vals 16) (by kernel_rfl) (hd 16 (by kernel_rfl))) rfl)
                · intro vals wq hC hd
                  have e0 : vals 0 = (.slice (some ⟨ba, oa, none⟩) na ca) := hd 0 (by decide)
                  have e1 : vals 1 = (.int .i64 (na : Int)) := hd 1 (by decide)
                  have e2 : vals 2 = (.bool true) := hd 2 (by decide)
                  have e3 : vals 3 = (.bool true) := hd 3 (by decide)
                  have e4 : vals 4 = (.slice (some ⟨bb, ob, none⟩) nb cb) := hd 4 (by decide)
                  have e5 : vals 5 = (.int .i64 (nb : Int)) := hd 5 (by decide)
                  have e6 : vals 6 = (.bool false) := hd 6 (by decide)
                  have e7 : vals 7 = (.bool false) := hd 7 (by decide)
                  have e8 : vals 8 = (.slice (some ⟨ba, oa, none⟩) na ca) := hd 8 (by decide)
                  have e9 : vals 9 = (.pointer (some ⟨ba, oa, none⟩)) := hd 9 (by decide)
                  have e10 : vals 10 = (.int .i64 x) := hd 10 (by decide)
                  have e11 : vals 11 = (.slice (some ⟨bb, ob, none⟩) nb cb) := hd 11 (by decide)
                  have e12 : vals 12 = (.pointer (some ⟨bb, ob, none⟩)) := hd 12 (by decide)
                  have e13 : vals 13 = (.int .i64 y) := hd 13 (by decide)
                  have e14 : vals 14 = (.bool false) := hd 14 (by decide)
                  have e15 : vals 15 = (.bool false) := hd 15 (by decide)
                  have e16 : vals 16 = (.bool false) := hd 16 (by decide)
                  have e17 : vals 17 = (.bool false) := hd 17 (by decide)
                  simp only [Free.frameOf, List.range, List.range.loop, List.foldl, Free.dstOf, List.getElem?_toArray, List.getElem?_cons_zero, List.getElem?_cons_succ, Option.bind_some, Act.put, List.setIfInBounds_toArray, List.set_cons_zero, List.set_cons_succ, e0, e1, e2, e3, e4, e5, e6, e7, e8, e9, e10, e11, e12, e13, e14, e15, e16, e17]
                  refine wpList_nil ?_
                  clear hd e0 e1 e2 e3 e4 e5 e6 e7 e8 e9 e10 e11 e12 e13 e14 e15 e16 e17
                  have HB7 := Lib.hid (bt HB.out hC)
                  have HBR := Lib.hid hC
                  obtain ⟨w7, hw7⟩ : ∃ W, wq = W := ⟨_, rfl⟩
                  rw [hw7] at HB7 HBR ⊢
                  clear hw7 hC
                  go_wp2_with fail
                  refine Free.wp_free_l 18 (fun W => Below w7.heap.size w7 W) [Free.kc (.slice (some ⟨bb, ob, none⟩) nb cb), Free.kc (.int .i64 (nb : Int)), Free.kc (.bool true), Free.kc (.bool true), Free.kc (.slice (some ⟨ba, oa, none⟩) na ca), Free.kc (.int .i64 (na : Int)), Free.kc (.bool false), Free.kc (.bool false), Free.kc (.slice (some ⟨bb, ob, none⟩) nb cb), Free.kc (.pointer (some ⟨bb, ob, none⟩)), Free.kc (.int .i64 y), Free.kc (.slice (some ⟨ba, oa, none⟩) na ca), Free.kc (.pointer (some ⟨ba, oa, none⟩)), Free.kc (.int .i64 x), Free.kc (.bool true), Free.kc (.bool true), Free.kc (.bool true), Free.kc (.bool true)] (by kernel_rfl) (by kernel_rfl) (by decide) (Below.refl _ _).drew (fun w w' h g => bt h g) ?_ ?_
                  · refine Free.forall_succ (Free.forall_succ (Free.forall_succ (Free.forall_succ (Free.forall_succ (Free.forall_succ (Free.forall_succ (Free.forall_succ (Free.forall_succ (Free.forall_succ (Free.forall_succ (Free.forall_succ (Free.forall_succ (Free.forall_succ (Free.forall_succ (Free.forall_succ (Free.forall_succ (Free.forall_succ (Free.forall_zero) ?_) ?_) ?_) ?_) ?_) ?_) ?_) ?_) ?_) ?_) ?_) ?_) ?_) ?_) ?_) ?_) ?_) ?_
                    · exact Free.ob_plain _ rfl rfl fun vals wq hC hd => (by exact Free.d_move rfl (by kernel_rfl) rfl)
                    · exact Free.ob_plain _ rfl rfl fun vals wq hC hd => (by exact Free.d_len rfl Tryd.underlying22 (Eq.trans (b := vals 0) (by kernel_rfl) (hd 0 (by kernel_rfl))) rfl)
                    · exact Free.ob_plain _ rfl rfl fun vals wq hC hd => (by exact Free.d_bin rfl (Eq.trans (b := vals 1) (by kernel_rfl) (hd 1 (by kernel_rfl))) (show _ = (.int .i64 0 : Value) from rfl) (by go_simp) (by go_simp) rfl)
                    · exact Free.ob_plain _ rfl rfl fun vals wq hC hd => (by exact Free.d_move rfl (Eq.trans (b := vals 2) (by kernel_rfl) (hd 2 (by kernel_rfl))) rfl)
                    · exact Free.ob_guard _ rfl 3 45 true rfl rfl fun vals wq hC hd => ⟨Eq.trans (b := vals 3) (by kernel_rfl) (hd 3 (by kernel_rfl)), (by exact Free.d_move rfl (by kernel_rfl) rfl)⟩
                    · exact Free.ob_guard _ rfl 3 45 true rfl rfl fun vals wq hC hd => ⟨Eq.trans (b := vals 3) (by kernel_rfl) (hd 3 (by kernel_rfl)), (by exact Free.d_len rfl Tryd.underlying22 (Eq.trans (b := vals 4) (by kernel_rfl) (hd 4 (by kernel_rfl))) rfl)⟩
                    · exact Free.ob_guard _ rfl 3 45 true rfl rfl fun vals wq hC hd => ⟨Eq.trans (b := vals 3) (by kernel_rfl) (hd 3 (by kernel_rfl)), (by exact Free.d_bin rfl (Eq.trans (b := vals 5) (by kernel_rfl) (hd 5 (by kernel_rfl))) (show _ = (.int .i64 0 : Value) from rfl) (by go_simp) (by first | (go_simp; done) | (go_simp; omega)) rfl)⟩
                    · exact Free.ob_guard _ rfl 3 45 true rfl rfl fun vals wq hC hd => ⟨Eq.trans (b := vals 3) (by kernel_rfl) (hd 3 (by kernel_rfl)), (by exact Free.d_move rfl (Eq.trans (b := vals 6) (by kernel_rfl) (hd 6 (by kernel_rfl))) rfl)⟩
                    · exact Free.ob_guard _ rfl 7 49 false rfl rfl fun vals wq hC hd => ⟨Eq.trans (b := vals 7) (by kernel_rfl) (hd 7 (by kernel_rfl)), (by exact Free.d_move rfl (by kernel_rfl) rfl)⟩
                    · exact Free.ob_guard _ rfl 7 49 false rfl rfl fun vals wq hC hd => ⟨Eq.trans (b := vals 7) (by kernel_rfl) (hd 7 (by kernel_rfl)), (by exact Free.d_indexAddr rfl (Eq.trans (b := vals 8) (by kernel_rfl) (hd 8 (by kernel_rfl))) (show _ = (.int .i64 0 : Value) from rfl) (run_idx 22 Tryd.underlying22 (by kernel_rfl) _ _ _ _ 0 0 rfl (by omega)) rfl)⟩
                    · exact Free.ob_guard _ rfl 7 49 false rfl rfl fun vals wq hC hd => ⟨Eq.trans (b := vals 7) (by kernel_rfl) (hd 7 (by kernel_rfl)), (by exact Free.d_load rfl (Eq.trans (b := vals 9) (by kernel_rfl) (hd 9 (by kernel_rfl))) (by have hcc := HCY.out wq (bt HB7.out hC); go_simp) rfl)⟩
                    · exact Free.ob_guard _ rfl 7 49 false rfl rfl fun vals wq hC hd => ⟨Eq.trans (b := vals 7) (by kernel_rfl) (hd 7 (by kernel_rfl)), (by exact Free.d_move rfl (by kernel_rfl) rfl)⟩
                    · exact Free.ob_guard _ rfl 7 49 false rfl rfl fun vals wq hC hd => ⟨Eq.trans (b := vals 7) (by kernel_rfl) (hd 7 (by kernel_rfl)), (by exact Free.d_indexAddr rfl (Eq.trans (b := vals 11) (by kernel_rfl) (hd 11 (by kernel_rfl))) (show _ = (.int .i64 0 : Value) from rfl) (run_idx 22 Tryd.underlying22 (by kernel_rfl) _ _ _ _ 0 0 rfl (by omega)) rfl)⟩
                    · exact Free.ob_guard _ rfl 7 49 false rfl rfl fun vals wq hC hd => ⟨Eq.trans (b := vals 7) (by kernel_rfl) (hd 7 (by kernel_rfl)), (by exact Free.d_load rfl (Eq.trans (b := vals 12) (by kernel_rfl) (hd 12 (by kernel_rfl))) (by have hcc := HCX.out wq (bt HB7.out hC); go_simp) rfl)⟩
                    · exact Free.ob_guard _ rfl 7 49 false rfl rfl fun vals wq hC hd => ⟨Eq.trans (b := vals 7) (by kernel_rfl) (hd 7 (by kernel_rfl)), (by exact Free.d_bin rfl (Eq.trans (b := vals 10) (by kernel_rfl) (hd 10 (by kernel_rfl))) (Eq.trans (b := vals 13) (by kernel_rfl) (hd 13 (by kernel_rfl))) (by go_simp) (by go_simp) rfl)⟩
                    · exact Free.ob_guard _ rfl 3 45 true rfl rfl fun vals wq hC hd => ⟨Eq.trans (b := vals 3) (by kernel_rfl) (hd 3 (by kernel_rfl)), (by exact Free.d_pick rfl (Eq.trans (b := vals 7) (by kernel_rfl) (hd 7 (by kernel_rfl))) (Eq.trans (b := vals 14) (by kernel_rfl) (hd 14 (by kernel_rfl))) rfl)⟩
                    · exact Free.ob_plain _ rfl rfl fun vals wq hC hd => (by exact Free.d_pick rfl (Eq.trans (b := vals 3) (by kernel_rfl) (hd 3 (by kernel_rfl))) (Eq.trans (b := vals 15) (by kernel_rfl) (hd 15 (by kernel_rfl))) rfl)
                    · exact Free.ob_plain _ rfl rfl fun vals wq hC hd => (by exact Free.d_assign rfl (Eq.trans (b := vals 16) (by kernel_rfl) (hd 16 (by kernel_rfl))) rfl)
                  · intro vals wq hC hd
                    have e0 : vals 0 = (.slice (some ⟨bb, ob, none⟩) nb cb) := hd 0 (by decide)
                    have e1 : vals 1 = (.int .i64 (nb : Int)) := hd 1 (by decide)
                    have e2 : vals 2 = (.bool true) := hd 2 (by decide)
                    have e3 : vals 3 = (.bool true) := hd 3 (by decide)
                    have e4 : vals 4 = (.slice (some ⟨ba, oa, none⟩) na ca) := hd 4 (by decide)
                    have e5 : vals 5 = (.int .i64 (na : Int)) := hd 5 (by decide)
                    have e6 : vals 6 = (.bool false) := hd 6 (by decide)
                    have e7 : vals 7 = (.bool false) := hd 7 (by decide)
                    have e8 : vals 8 = (.slice (some ⟨bb, ob, none⟩) nb cb) := hd 8 (by decide)
                    have e9 : vals 9 = (.pointer (some ⟨bb, ob, none⟩)) := hd 9 (by decide)
                    have e10 : vals 10 = (.int .i64 y) := hd 10 (by decide)
                    have e11 : vals 11 = (.slice (some ⟨ba, oa, none⟩) na ca) := hd 11 (by decide)
                    have e12 : vals 12 = (.pointer (some ⟨ba, oa, none⟩)) := hd 12 (by decide)
                    have e13 : vals 13 = (.int .i64 x) := hd 13 (by decide)
                    have e14 : vals 14 = (.bool true) := hd 14 (by decide)
                    have e15 : vals 15 = (.bool true) := hd 15 (by decide)
                    have e16 : vals 16 = (.bool true) := hd 16 (by decide)
                    have e17 : vals 17 = (.bool true) := hd 17 (by decide)
                    simp only [Free.frameOf, List.range, List.range.loop, List.foldl, Free.dstOf, List.getElem?_toArray, List.getElem?_cons_zero, List.getElem?_cons_succ, Option.bind_some, Act.put, List.setIfInBounds_toArray, List.set_cons_zero, List.set_cons_succ, e0, e1, e2, e3, e4, e5, e6, e7, e8, e9, e10, e11, e12, e13, e14, e15, e16, e17]
                    refine wpList_nil ?_
                    clear hd e0 e1 e2 e3 e4 e5 e6 e7 e8 e9 e10 e11 e12 e13 e14 e15 e16 e17
                    have HB8 := Lib.hid (bt HB7.out hC)
                    have HBR := Lib.hid (bt HBR.out hC)
                    obtain ⟨w8, hw8⟩ : ∃ W, wq = W := ⟨_, rfl⟩
                    rw [hw8] at HB8 HBR ⊢
                    clear hw8 hC
                    go_wp2_with fail
                    refine Free.wp_free_l 7 (fun W => Below w8.heap.size w8 W) [Free.kc (.slice (some ⟨bb, ob, none⟩) nb cb), Free.kc (.pointer (some ⟨bb, ob, none⟩)), Free.kc (.int .i64 y), Free.kc (.slice (some ⟨bb, ob, none⟩) nb cb), Free.kc (.slice B2 (nb - 1) (cb - 1)), Free.kc (.int .i64 y), Free.kc (.slice B2 (nb - 1) (cb - 1))] (by kernel_rfl) (by kernel_rfl) (by decide) (Below.refl _ _).drew (fun w w' h g => bt h g) ?_ ?_
                    · refine Free.forall_succ (Free.forall_succ (Free.forall_succ (Free.forall_succ (Free.forall_succ (Free.forall_succ (Free.forall_succ (Free.forall_zero) ?_) ?_) ?_) ?_) ?_) ?_) ?_
                      · exact Free.ob_plain _ rfl rfl fun vals wq hC hd => (by exact Free.d_move rfl (by kernel_rfl) rfl)
                      · exact Free.ob_plain _ rfl rfl fun vals wq hC hd => (by exact Free.d_indexAddr rfl (Eq.trans (b := vals 0) (by kernel_rfl) (hd 0 (by kernel_rfl))) (show _ = (.int .i64 0 : Value) from rfl) (run_idx 22 Tryd.underlying22 (by kernel_rfl) _ _ _ _ 0 0 rfl (by omega)) rfl)
                      · exact Free.ob_plain _ rfl rfl fun vals wq hC hd => (by exact Free.d_load rfl (Eq.trans (b := vals 1) (by kernel_rfl) (hd 1 (by kernel_rfl))) (by have hcc := HCY.out wq (bt HB8.out hC); go_simp) rfl)
                      · exact Free.ob_plain _ rfl rfl fun vals wq hC hd => (by exact Free.d_move rfl (by kernel_rfl) rfl)
                      · exact Free.ob_plain _ rfl rfl fun vals wq hC hd => (by exact Free.d_slice rfl (Eq.trans (b := vals 3) (by kernel_rfl) (hd 3 (by kernel_rfl))) rfl rfl rfl (HTB.out wq) rfl)
                      · exact Free.ob_plain _ rfl rfl fun vals wq hC hd => (by exact Free.d_assign rfl (Eq.trans (b := vals 2) (by kernel_rfl) (hd 2 (by kernel_rfl))) rfl)
                      · exact Free.ob_plain _ rfl rfl fun vals wq hC hd => (by exact Free.d_assign rfl (Eq.trans (b := vals 4) (by kernel_rfl) (hd 4 (by kernel_rfl))) rfl)
                    · intro vals wq hC hd
                      have e0 : vals 0 = (.slice (some ⟨bb, ob, none⟩) nb cb) := hd 0 (by decide)
                      have e1 : vals 1 = (.pointer (some ⟨bb, ob, none⟩)) := hd 1 (by decide)
                      have e2 : vals 2 = (.int .i64 y) := hd 2 (by decide)
                      have e3 : vals 3 = (.slice (some ⟨bb, ob, none⟩) nb cb) := hd 3 (by decide)
                      have e4 : vals 4 = (.slice B2 (nb - 1) (cb - 1)) := hd 4 (by decide)
                      have e5 : vals 5 = (.int .i64 y) := hd 5 (by decide)
                      have e6 : vals 6 = (.slice B2 (nb - 1) (cb - 1)) := hd 6 (by decide)
                      simp only [Free.frameOf, List.range, List.range.loop, List.foldl, Free.dstOf, List.getElem?_toArray, List.getElem?_cons_zero, List.getElem?_cons_succ, Option.bind_some, Act.put, List.setIfInBounds_toArray, List.set_cons_zero, List.set_cons_succ, e0, e1, e2, e3, e4, e5, e6]
                      refine wpList_nil ?_
                      clear hd e0 e1 e2 e3 e4 e5 e6
                      have HB10 := Lib.hid (bt HB8.out hC)
                      have HBR := Lib.hid (bt HBR.out hC)
                      obtain ⟨w10, hw10⟩ : ∃ W, wq = W := ⟨_, rfl⟩
                      rw [hw10] at HB10 HBR ⊢
                      clear hw10 hC
                      cases hkv : keep y false true with
                      | true =>
                        have HKV := Lib.hid hkv
                        clear hkv
                        have hz := hr.own.keep (show Below wr.heap.size wr w10 from HBR.out)
                        go_wp2_with (first | (refine wl_callv rfl (t := 71) rfl rfl HFN.out.1 HFN.out.2.1 HFN.out.2.2 (Free.arg3 (c := .int .i64 y) (d := .bool false) (e := .bool true) rfl rfl rfl) ((HKC.out _ HB10.out).mono ?_); rintro e w11 ⟨rfl, rfl⟩; rw [HKV.out]; refine ⟨_, rfl, ?_, Below.refl _ _⟩; simp only [Act.put, List.setIfInBounds_toArray, List.set_cons_succ, List.set_cons_zero]) | (at_builtin; refine wl_appZ1 rfl (.tmp 76) (.tmp 78) rfl rfl hz y rfl (by omega) (by omega) HB10.out.size ?_; intro A4 n4 c4 w12 ho4 hb4 _))
                        go_roundw
                        case rel => exact ⟨_, na, ca, x :: s, B2, nb - 1, cb - 1, t, A4, n4, c4, _, rfl, rfl, rfl, hr.a, htb, ho4, by rw [List.append_assoc, List.singleton_append, ← HEQ.out, HKV.out, ifs_true], HB10.out.trans hb4, by have a := ho4.len; have b := hr.own.len; rw [List.length_append, b] at a; simp at a; omega⟩
                        case measure => simp [lenZ]; omega
                      | false =>
                        have HKV := Lib.hid hkv
                        clear hkv
                        go_wp2_with (refine wl_callv rfl (t := 71) rfl rfl HFN.out.1 HFN.out.2.1 HFN.out.2.2 (Free.arg3 (c := .int .i64 y) (d := .bool false) (e := .bool true) rfl rfl rfl) ((HKC.out _ HB10.out).mono ?_); rintro e w11 ⟨rfl, rfl⟩; rw [HKV.out]; refine ⟨_, rfl, ?_, Below.refl _ _⟩; simp only [Act.put, List.setIfInBounds_toArray, List.set_cons_succ, List.set_cons_zero])
                        go_roundw
                        case rel => exact ⟨_, na, ca, x :: s, B2, nb - 1, cb - 1, t, Al, nl, cl, acc, rfl, rfl, rfl, hr.a, htb, hr.own.keep HBR.out, by rw [← HEQ.out, HKV.out, ifs_false], HB10.out, by omega⟩
                        case measure => simp [lenZ]; omega
              · have hle1 : x ≤ y := by omega
                have hle2 : y ≤ x := by omega
                have HEQ := Lib.hid (show acc ++ Post.ifs (keep y true true) y (Post.pickM keep s t) = Post.pickM keep (Post.good la) (Post.good lb) from by have e := hr.eq; rw [Post.pickM, if_neg hxy, if_neg hyx, show x = y by omega] at e; exact e)
                obtain ⟨hpa, hxb, ba, oa, rfl, hcx⟩ := zs_head hr.a
                obtain ⟨A2, hta, hcuta⟩ := zs_tail hr.a
                have HCX := Lib.hid hcx
                have HTA := Lib.hid hcuta
                clear hcx hcuta
                obtain ⟨hpb, hyb, bb, ob, rfl, hcy⟩ := zs_head hr.b
                obtain ⟨B2, htb, hcutb⟩ := zs_tail hr.b
                have HCY := Lib.hid hcy
                have HTB := Lib.hid hcutb
                clear hcy hcutb
                have HB := Lib.hid hr.below
                have HKC := Lib.hid (fun W hW => hk.call W y true true (by omega) (by omega) hW)
                go_wp2_with fail
                refine Free.wp_free_l 18 (fun W => Below wr.heap.size wr W) [Free.kc (.slice (some ⟨ba, oa, none⟩) na ca), Free.kc (.int .i64 (na : Int)), Free.kc (.bool true), Free.kc (.bool true), Free.kc (.slice (some ⟨bb, ob, none⟩) nb cb), Free.kc (.int .i64 (nb : Int)), Free.kc (.bool false), Free.kc (.bool false), Free.kc (.slice (some ⟨ba, oa, none⟩) na ca), Free.kc (.pointer (some ⟨ba, oa, none⟩)), Free.kc (.int .i64 x), Free.kc (.slice (some ⟨bb, ob, none⟩) nb cb), Free.kc (.pointer (some ⟨bb, ob, none⟩)), Free.kc (.int .i64 y), Free.kc (.bool true), Free.kc (.bool true), Free.kc (.bool true), Free.kc (.bool true)] (by kernel_rfl) (by kernel_rfl) (by decide) (Below.refl _ _).drew (fun w w' h g => bt h g) ?_ ?_
                · refine Free.forall_succ (Free.forall_succ (Free.forall_succ (Free.forall_succ (Free.forall_succ (Free.forall_succ (Free.forall_succ (Free.forall_succ (Free.forall_succ (Free.forall_succ (Free.forall_succ (Free.forall_succ (Free.forall_succ (Free.forall_succ (Free.forall_succ (Free.forall_succ (Free.forall_succ (Free.forall_succ (Free.forall_zero) ?_) ?_) ?_) ?_) ?_) ?_) ?_) ?_) ?_) ?_) ?_) ?_) ?_) ?_) ?_) ?_) ?_) ?_
                  · exact Free.ob_plain _ rfl rfl fun vals wq hC hd => (by exact Free.d_move rfl (by kernel_rfl) rfl)
                  · exact Free.ob_plain _ rfl rfl fun vals wq hC hd => (by exact Free.d_len rfl Tryd.underlying22 (Eq.trans (b := vals 0) (by kernel_rfl) (hd 0 (by kernel_rfl))) rfl)
                  · exact Free.ob_plain _ rfl rfl fun vals wq hC hd => (by exact Free.d_bin rfl (Eq.trans (b := vals 1) (by kernel_rfl) (hd 1 (by kernel_rfl))) (show _ = (.int .i64 0 : Value) from rfl) (by go_simp) (by go_simp) rfl)
                  · exact Free.ob_plain _ rfl rfl fun vals wq hC hd => (by exact Free.d_move rfl (Eq.trans (b := vals 2) (by kernel_rfl) (hd 2 (by kernel_rfl))) rfl)
                  · exact Free.ob_guard _ rfl 3 28 true rfl rfl fun vals wq hC hd => ⟨Eq.trans (b := vals 3) (by kernel_rfl) (hd 3 (by kernel_rfl)), (by exact Free.d_move rfl (by kernel_rfl) rfl)⟩
                  · exact Free.ob_guard _ rfl 3 28 true rfl rfl fun vals wq hC hd => ⟨Eq.trans (b := vals 3) (by kernel_rfl) (hd 3 (by kernel_rfl)), (by exact Free.d_len rfl Tryd.underlying22 (Eq.trans (b := vals 4) (by kernel_rfl) (hd 4 (by kernel_rfl))) rfl)⟩
                  · exact Free.ob_guard _ rfl 3 28 true rfl rfl fun vals wq hC hd => ⟨Eq.trans (b := vals 3) (by kernel_rfl) (hd 3 (by kernel_rfl)), (by exact Free.d_bin rfl (Eq.trans (b := vals 5) (by kernel_rfl) (hd 5 (by kernel_rfl))) (show _ = (.int .i64 0 : Value) from rfl) (by go_simp) (by first | (go_simp; done) | (go_simp; omega)) rfl)⟩
                  · exact Free.ob_guard _ rfl 3 28 true rfl rfl fun vals wq hC hd => ⟨Eq.trans (b := vals 3) (by kernel_rfl) (hd 3 (by kernel_rfl)), (by exact Free.d_move rfl (Eq.trans (b := vals 6) (by kernel_rfl) (hd 6 (by kernel_rfl))) rfl)⟩
                  · exact Free.ob_guard _ rfl 7 32 false rfl rfl fun vals wq hC hd => ⟨Eq.trans (b := vals 7) (by kernel_rfl) (hd 7 (by kernel_rfl)), (by exact Free.d_move rfl (by kernel_rfl) rfl)⟩
                  · exact Free.ob_guard _ rfl 7 32 false rfl rfl fun vals wq hC hd => ⟨Eq.trans (b := vals 7) (by kernel_rfl) (hd 7 (by kernel_rfl)), (by exact Free.d_indexAddr rfl (Eq.trans (b := vals 8) (by kernel_rfl) (hd 8 (by kernel_rfl))) (show _ = (.int .i64 0 : Value) from rfl) (run_idx 22 Tryd.underlying22 (by kernel_rfl) _ _ _ _ 0 0 rfl (by omega)) rfl)⟩
                  · exact Free.ob_guard _ rfl 7 32 false rfl rfl fun vals wq hC hd => ⟨Eq.trans (b := vals 7) (by kernel_rfl) (hd 7 (by kernel_rfl)), (by exact Free.d_load rfl (Eq.trans (b := vals 9) (by kernel_rfl) (hd 9 (by kernel_rfl))) (by have hcc := HCX.out wq (bt HB.out hC); go_simp) rfl)⟩
                  · exact Free.ob_guard _ rfl 7 32 false rfl rfl fun vals wq hC hd => ⟨Eq.trans (b := vals 7) (by kernel_rfl) (hd 7 (by kernel_rfl)), (by exact Free.d_move rfl (by kernel_rfl) rfl)⟩
                  · exact Free.ob_guard _ rfl 7 32 false rfl rfl fun vals wq hC hd => ⟨Eq.trans (b := vals 7) (by kernel_rfl) (hd 7 (by kernel_rfl)), (by exact Free.d_indexAddr rfl (Eq.trans (b := vals 11) (by kernel_rfl) (hd 11 (by kernel_rfl))) (show _ = (.int .i64 0 : Value) from rfl) (run_idx 22 Tryd.underlying22 (by kernel_rfl) _ _ _ _ 0 0 rfl (by omega)) rfl)⟩
                  · exact Free.ob_guard _ rfl 7 32 false rfl rfl fun vals wq hC hd => ⟨Eq.trans (b := vals 7) (by kernel_rfl) (hd 7 (by kernel_rfl)), (by exact Free.d_load rfl (Eq.trans (b := vals 12) (by kernel_rfl) (hd 12 (by kernel_rfl))) (by have hcc := HCY.out wq (bt HB.out hC); go_simp) rfl)⟩
                  · exact Free.ob_guard _ rfl 7 32 false rfl rfl fun vals wq hC hd => ⟨Eq.trans (b := vals 7) (by kernel_rfl) (hd 7 (by kernel_rfl)), (by exact Free.d_bin rfl (Eq.trans (b := vals 10) (by kernel_rfl) (hd 10 (by kernel_rfl))) (Eq.trans (b := vals 13) (by kernel_rfl) (hd 13 (by kernel_rfl))) (by go_simp) (by go_simp) rfl)⟩
                  · exact Free.ob_guard _ rfl 3 28 true rfl rfl fun vals wq hC hd => ⟨Eq.trans (b := vals 3) (by kernel_rfl) (hd 3 (by kernel_rfl)), (by exact Free.d_pick rfl (Eq.trans (b := vals 7) (by kernel_rfl) (hd 7 (by kernel_rfl))) (Eq.trans (b := vals 14) (by kernel_rfl) (hd 14 (by kernel_rfl))) rfl)⟩
                  · exact Free.ob_plain _ rfl rfl fun vals wq hC hd => (by exact Free.d_pick rfl (Eq.trans (b := vals 3) (by kernel_rfl) (hd 3 (by kernel_rfl))) (Eq.trans (b := vals 15) (by kernel_rfl) (hd 15 (by kernel_rfl))) rfl)
                  · exact Free.ob_plain _ rfl rfl fun vals wq hC hd => (by exact Free.d_assign rfl (Eq.trans (b := vals 16) (by kernel_rfl) (hd 16 (by kernel_rfl))) rfl)
                · intro vals wq hC hd
                  have e0 : vals 0 = (.slice (some ⟨ba, oa, none⟩) na ca) := hd 0 (by decide)
                  have e1 : vals 1 = (.int .i64 (na : Int)) := hd 1 (by decide)
                  have e2 : vals 2 = (.bool true) := hd 2 (by decide)
                  have e3 : vals 3 = (.bool true) := hd 3 (by decide)
                  have e4 : vals 4 = (.slice (some ⟨bb, ob, none⟩) nb cb) := hd 4 (by decide)
                  have e5 : vals 5 = (.int .i64 (nb : Int)) := hd 5 (by decide)
                  have e6 : vals 6 = (.bool false) := hd 6 (by decide)
                  have e7 : vals 7 = (.bool false) := hd 7 (by decide)
                  have e8 : vals 8 = (.slice (some ⟨ba, oa, none⟩) na ca) := hd 8 (by decide)
                  have e9 : vals 9 = (.pointer (some ⟨ba, oa, none⟩)) := hd 9 (by decide)
                  have e10 : vals 10 = (.int .i64 x) := hd 10 (by decide)
                  have e11 : vals 11 = (.slice (some ⟨bb, ob, none⟩) nb cb) := hd 11 (by decide)
                  have e12 : vals 12 = (.pointer (some ⟨bb, ob, none⟩)) := hd 12 (by decide)
                  have e13 : vals 13 = (.int .i64 y) := hd 13 (by decide)
                  have e14 : vals 14 = (.bool true) := hd 14 (by decide)
                  have e15 : vals 15 = (.bool true) := hd 15 (by decide)
                  have e16 : vals 16 = (.bool true) := hd 16 (by decide)
                  have e17 : vals 17 = (.bool true) := hd 17 (by decide)
                  simp only [Free.frameOf, List.range, List.range.loop, List.foldl, Free.dstOf, List.getElem?_toArray, List.getElem?_cons_zero, List.getElem?_cons_succ, Option.bind_some, Act.put, List.setIfInBounds_toArray, List.set_cons_zero, List.set_cons_succ, e0, e1, e2, e3, e4, e5, e6, e7, e8, e9, e10, e11, e12, e13, e14, e15, e16, e17]
                  refine wpList_nil ?_
                  clear hd e0 e1 e2 e3 e4 e5 e6 e7 e8 e9 e10 e11 e12 e13 e14 e15 e16 e17
                  have HB7 := Lib.hid (bt HB.out hC)
                  have HBR := Lib.hid hC
                  obtain ⟨w7, hw7⟩ : ∃ W, wq = W := ⟨_, rfl⟩
                  rw [hw7] at HB7 HBR ⊢
                  clear hw7 hC
                  go_wp2_with fail
                  refine Free.wp_free_l 18 (fun W => Below w7.heap.size w7 W) [Free.kc (.slice (some ⟨bb, ob, none⟩) nb cb), Free.kc (.int .i64 (nb : Int)), Free.kc (.bool true), Free.kc (.bool true), Free.kc (.slice (some ⟨ba, oa, none⟩) na ca), Free.kc (.int .i64 (na : Int)), Free.kc (.bool false), Free.kc (.bool false), Free.kc (.slice (some ⟨bb, ob, none⟩) nb cb), Free.kc (.pointer (some ⟨bb, ob, none⟩)), Free.kc (.int .i64 y), Free.kc (.slice (some ⟨ba, oa, none⟩) na ca), Free.kc (.pointer (some ⟨ba, oa, none⟩)), Free.kc (.int .i64 x), Free.kc (.bool true), Free.kc (.bool true), Free.kc (.bool true), Free.kc (.bool true)] (by kernel_rfl) (by kernel_rfl) (by decide) (Below.refl _ _).drew (fun w w' h g => bt h g) ?_ ?_
                  · refine Free.forall_succ (Free.forall_succ (Free.forall_succ (Free.forall_succ (Free.forall_succ (Free.forall_succ (Free.forall_succ (Free.forall_succ (Free.forall_succ (Free.forall_succ (Free.forall_succ (Free.forall_succ (Free.forall_succ (Free.forall_succ (Free.forall_succ (Free.forall_succ (Free.forall_succ (Free.forall_succ (Free.forall_zero) ?_) ?_) ?_) ?_) ?_) ?_) ?_) ?_) ?_) ?_) ?_) ?_) ?_) ?_) ?_) ?_) ?_) ?_
                    · exact Free.ob_plain _ rfl rfl fun vals wq hC hd => (by exact Free.d_move rfl (by kernel_rfl) rfl)
                    · exact Free.ob_plain _ rfl rfl fun vals wq hC hd => (by exact Free.d_len rfl Tryd.underlying22 (Eq.trans (b := vals 0) (by kernel_rfl) (hd 0 (by kernel_rfl))) rfl)
                    · exact Free.ob_plain _ rfl rfl fun vals wq hC hd => (by exact Free.d_bin rfl (Eq.trans (b := vals 1) (by kernel_rfl) (hd 1 (by kernel_rfl))) (show _ = (.int .i64 0 : Value) from rfl) (by go_simp) (by go_simp) rfl)
                    · exact Free.ob_plain _ rfl rfl fun vals wq hC hd => (by exact Free.d_move rfl (Eq.trans (b := vals 2) (by kernel_rfl) (hd 2 (by kernel_rfl))) rfl)
                    · exact Free.ob_guard _ rfl 3 45 true rfl rfl fun vals wq hC hd => ⟨Eq.trans (b := vals 3) (by kernel_rfl) (hd 3 (by kernel_rfl)), (by exact Free.d_move rfl (by kernel_rfl) rfl)⟩
                    · exact Free.ob_guard _ rfl 3 45 true rfl rfl fun vals wq hC hd => ⟨Eq.trans (b := vals 3) (by kernel_rfl) (hd 3 (by kernel_rfl)), (by exact Free.d_len rfl Tryd.underlying22 (Eq.trans (b := vals 4) (by kernel_rfl) (hd 4 (by kernel_rfl))) rfl)⟩
                    · exact Free.ob_guard _ rfl 3 45 true rfl rfl fun vals wq hC hd => ⟨Eq.trans (b := vals 3) (by kernel_rfl) (hd 3 (by kernel_rfl)), (by exact Free.d_bin rfl (Eq.trans (b := vals 5) (by kernel_rfl) (hd 5 (by kernel_rfl))) (show _ = (.int .i64 0 : Value) from rfl) (by go_simp) (by first | (go_simp; done) | (go_simp; omega)) rfl)⟩
                    · exact Free.ob_guard _ rfl 3 45 true rfl rfl fun vals wq hC hd => ⟨Eq.trans (b := vals 3) (by kernel_rfl) (hd 3 (by kernel_rfl)), (by exact Free.d_move rfl (Eq.trans (b := vals 6) (by kernel_rfl) (hd 6 (by kernel_rfl))) rfl)⟩
                    · exact Free.ob_guard _ rfl 7 49 false rfl rfl fun vals wq hC hd => ⟨Eq.trans (b := vals 7) (by kernel_rfl) (hd 7 (by kernel_rfl)), (by exact Free.d_move rfl (by kernel_rfl) rfl)⟩
                    · exact Free.ob_guard _ rfl 7 49 false rfl rfl fun vals wq hC hd => ⟨Eq.trans (b := vals 7) (by kernel_rfl) (hd 7 (by kernel_rfl)), (by exact Free.d_indexAddr rfl (Eq.trans (b := vals 8) (by kernel_rfl) (hd 8 (by kernel_rfl))) (show _ = (.int .i64 0 : Value) from rfl) (run_idx 22 Tryd.underlying22 (by kernel_rfl) _ _ _ _ 0 0 rfl (by omega)) rfl)⟩
                    · exact Free.ob_guard _ rfl 7 49 false rfl rfl fun vals wq hC hd => ⟨Eq.trans (b := vals 7) (by kernel_rfl) (hd 7 (by kernel_rfl)), (by exact Free.d_load rfl (Eq.trans (b := vals 9) (by kernel_rfl) (hd 9 (by kernel_rfl))) (by have hcc := HCY.out wq (bt HB7.out hC); go_simp) rfl)⟩
                    · exact Free.ob_guard _ rfl 7 49 false rfl rfl fun vals wq hC hd => ⟨Eq.trans (b := vals 7) (by kernel_rfl) (hd 7 (by kernel_rfl)), (by exact Free.d_move rfl (by kernel_rfl) rfl)⟩
                    · exact Free.ob_guard _ rfl 7 49 false rfl rfl fun vals wq hC hd => ⟨Eq.trans (b := vals 7) (by kernel_rfl) (hd 7 (by kernel_rfl)), (by exact Free.d_indexAddr rfl (Eq.trans (b := vals 11) (by kernel_rfl) (hd 11 (by kernel_rfl))) (show _ = (.int .i64 0 : Value) from rfl) (run_idx 22 Tryd.underlying22 (by kernel_rfl) _ _ _ _ 0 0 rfl (by omega)) rfl)⟩
                    · exact Free.ob_guard _ rfl 7 49 false rfl rfl fun vals wq hC hd => ⟨Eq.trans (b := vals 7) (by kernel_rfl) (hd 7 (by kernel_rfl)), (by exact Free.d_load rfl (Eq.trans (b := vals 12) (by kernel_rfl) (hd 12 (by kernel_rfl))) (by have hcc := HCX.out wq (bt HB7.out hC); go_simp) rfl)⟩
                    · exact Free.ob_guard _ rfl 7 49 false rfl rfl fun vals wq hC hd => ⟨Eq.trans (b := vals 7) (by kernel_rfl) (hd 7 (by kernel_rfl)), (by exact Free.d_bin rfl (Eq.trans (b := vals 10) (by kernel_rfl) (hd 10 (by kernel_rfl))) (Eq.trans (b := vals 13) (by kernel_rfl) (hd 13 (by kernel_rfl))) (by go_simp) (by go_simp) rfl)⟩
                    · exact Free.ob_guard _ rfl 3 45 true rfl rfl fun vals wq hC hd => ⟨Eq.trans (b := vals 3) (by kernel_rfl) (hd 3 (by kernel_rfl)), (by exact Free.d_pick rfl (Eq.trans (b := vals 7) (by kernel_rfl) (hd 7 (by kernel_rfl))) (Eq.trans (b := vals 14) (by kernel_rfl) (hd 14 (by kernel_rfl))) rfl)⟩
                    · exact Free.ob_plain _ rfl rfl fun vals wq hC hd => (by exact Free.d_pick rfl (Eq.trans (b := vals 3) (by kernel_rfl) (hd 3 (by kernel_rfl))) (Eq.trans (b := vals 15) (by kernel_rfl) (hd 15 (by kernel_rfl))) rfl)
                    · exact Free.ob_plain _ rfl rfl fun vals wq hC hd => (by exact Free.d_assign rfl (Eq.trans (b := vals 16) (by kernel_rfl) (hd 16 (by kernel_rfl))) rfl)
                  · intro vals wq hC hd
                    have e0 : vals 0 = (.slice (some ⟨bb, ob, none⟩) nb cb) := hd 0 (by decide)
                    have e1 : vals 1 = (.int .i64 (nb : Int)) := hd 1 (by decide)
                    have e2 : vals 2 = (.bool true) := hd 2 (by decide)
                    have e3 : vals 3 = (.bool true) := hd 3 (by decide)
                    have e4 : vals 4 = (.slice (some ⟨ba, oa, none⟩) na ca) := hd 4 (by decide)
                    have e5 : vals 5 = (.int .i64 (na : Int)) := hd 5 (by decide)
                    have e6 : vals 6 = (.bool false) := hd 6 (by decide)
                    have e7 : vals 7 = (.bool false) := hd 7 (by decide)
                    have e8 : vals 8 = (.slice (some ⟨bb, ob, none⟩) nb cb) := hd 8 (by decide)
                    have e9 : vals 9 = (.pointer (some ⟨bb, ob, none⟩)) := hd 9 (by decide)
                    have e10 : vals 10 = (.int .i64 y) := hd 10 (by decide)
                    have e11 : vals 11 = (.slice (some ⟨ba, oa, none⟩) na ca) := hd 11 (by decide)
                    have e12 : vals 12 = (.pointer (some ⟨ba, oa, none⟩)) := hd 12 (by decide)
                    have e13 : vals 13 = (.int .i64 x) := hd 13 (by decide)
                    have e14 : vals 14 = (.bool true) := hd 14 (by decide)
                    have e15 : vals 15 = (.bool true) := hd 15 (by decide)
                    have e16 : vals 16 = (.bool true) := hd 16 (by decide)
                    have e17 : vals 17 = (.bool true) := hd 17 (by decide)
                    simp only [Free.frameOf, List.range, List.range.loop, List.foldl, Free.dstOf, List.getElem?_toArray, List.getElem?_cons_zero, List.getElem?_cons_succ, Option.bind_some, Act.put, List.setIfInBounds_toArray, List.set_cons_zero, List.set_cons_succ, e0, e1, e2, e3, e4, e5, e6, e7, e8, e9, e10, e11, e12, e13, e14, e15, e16, e17]
                    refine wpList_nil ?_
                    clear hd e0 e1 e2 e3 e4 e5 e6 e7 e8 e9 e10 e11 e12 e13 e14 e15 e16 e17
                    have HB8 := Lib.hid (bt HB7.out hC)
                    have HBR := Lib.hid (bt HBR.out hC)
                    obtain ⟨w8, hw8⟩ : ∃ W, wq = W := ⟨_, rfl⟩
                    rw [hw8] at HB8 HBR ⊢
                    clear hw8 hC
                    go_wp2_with fail
                    refine Free.wp_free_l 7 (fun W => Below w8.heap.size w8 W) [Free.kc (.slice (some ⟨ba, oa, none⟩) na ca), Free.kc (.pointer (some ⟨ba, oa, none⟩)), Free.kc (.int .i64 x), Free.kc (.slice (some ⟨ba, oa, none⟩) na ca), Free.kc (.slice A2 (na - 1) (ca - 1)), Free.kc (.int .i64 x), Free.kc (.slice A2 (na - 1) (ca - 1))] (by kernel_rfl) (by kernel_rfl) (by decide) (Below.refl _ _).drew (fun w w' h g => bt h g) ?_ ?_
                    · refine Free.forall_succ (Free.forall_succ (Free.forall_succ (Free.forall_succ (Free.forall_succ (Free.forall_succ (Free.forall_succ (Free.forall_zero) ?_) ?_) ?_) ?_) ?_) ?_) ?_
                      · exact Free.ob_plain _ rfl rfl fun vals wq hC hd => (by exact Free.d_move rfl (by kernel_rfl) rfl)
                      · exact Free.ob_plain _ rfl rfl fun vals wq hC hd => (by exact Free.d_indexAddr rfl (Eq.trans (b := vals 0) (by kernel_rfl) (hd 0 (by kernel_rfl))) (show _ = (.int .i64 0 : Value) from rfl) (run_idx 22 Tryd.underlying22 (by kernel_rfl) _ _ _ _ 0 0 rfl (by omega)) rfl)
                      · exact Free.ob_plain _ rfl rfl fun vals wq hC hd => (by exact Free.d_load rfl (Eq.trans (b := vals 1) (by kernel_rfl) (hd 1 (by kernel_rfl))) (by have hcc := HCX.out wq (bt HB8.out hC); go_simp) rfl)
                      · exact Free.ob_plain _ rfl rfl fun vals wq hC hd => (by exact Free.d_move rfl (by kernel_rfl) rfl)
                      · exact Free.ob_plain _ rfl rfl fun vals wq hC hd => (by exact Free.d_slice rfl (Eq.trans (b := vals 3) (by kernel_rfl) (hd 3 (by kernel_rfl))) rfl rfl rfl (HTA.out wq) rfl)
                      · exact Free.ob_plain _ rfl rfl fun vals wq hC hd => (by exact Free.d_assign rfl (Eq.trans (b := vals 2) (by kernel_rfl) (hd 2 (by kernel_rfl))) rfl)
                      · exact Free.ob_plain _ rfl rfl fun vals wq hC hd => (by exact Free.d_assign rfl (Eq.trans (b := vals 4) (by kernel_rfl) (hd 4 (by kernel_rfl))) rfl)
                    · intro vals wq hC hd
                      have e0 : vals 0 = (.slice (some ⟨ba, oa, none⟩) na ca) := hd 0 (by decide)
                      have e1 : vals 1 = (.pointer (some ⟨ba, oa, none⟩)) := hd 1 (by decide)
                      have e2 : vals 2 = (.int .i64 x) := hd 2 (by decide)
                      have e3 : vals 3 = (.slice (some ⟨ba, oa, none⟩) na ca) := hd 3 (by decide)
                      have e4 : vals 4 = (.slice A2 (na - 1) (ca - 1)) := hd 4 (by decide)
                      have e5 : vals 5 = (.int .i64 x) := hd 5 (by decide)
                      have e6 : vals 6 = (.slice A2 (na - 1) (ca - 1)) := hd 6 (by decide)
                      simp only [Free.frameOf, List.range, List.range.loop, List.foldl, Free.dstOf, List.getElem?_toArray, List.getElem?_cons_zero, List.getElem?_cons_succ, Option.bind_some, Act.put, List.setIfInBounds_toArray, List.set_cons_zero, List.set_cons_succ, e0, e1, e2, e3, e4, e5, e6]
                      refine wpList_nil ?_
                      clear hd e0 e1 e2 e3 e4 e5 e6
                      have HB9 := Lib.hid (bt HB8.out hC)
                      have HBR := Lib.hid (bt HBR.out hC)
                      obtain ⟨w9, hw9⟩ : ∃ W, wq = W := ⟨_, rfl⟩
                      rw [hw9] at HB9 HBR ⊢
                      clear hw9 hC
                      go_wp2_with fail
                      refine Free.wp_free_l 7 (fun W => Below w9.heap.size w9 W) [Free.kc (.slice (some ⟨bb, ob, none⟩) nb cb), Free.kc (.pointer (some ⟨bb, ob, none⟩)), Free.kc (.int .i64 y), Free.kc (.slice (some ⟨bb, ob, none⟩) nb cb), Free.kc (.slice B2 (nb - 1) (cb - 1)), Free.kc (.int .i64 y), Free.kc (.slice B2 (nb - 1) (cb - 1))] (by kernel_rfl) (by kernel_rfl) (by decide) (Below.refl _ _).drew (fun w w' h g => bt h g) ?_ ?_
                      · refine Free.forall_succ (Free.forall_succ (Free.forall_succ (Free.forall_succ (Free.forall_succ (Free.forall_succ (Free.forall_succ (Free.forall_zero) ?_) ?_) ?_) ?_) ?_) ?_) ?_
                        · exact Free.ob_plain _ rfl rfl fun vals wq hC hd => (by exact Free.d_move rfl (by kernel_rfl) rfl)
                        · exact Free.ob_plain _ rfl rfl fun vals wq hC hd => (by exact Free.d_indexAddr rfl (Eq.trans (b := vals 0) (by kernel_rfl) (hd 0 (by kernel_rfl))) (show _ = (.int .i64 0 : Value) from rfl) (run_idx 22 Tryd.underlying22 (by kernel_rfl) _ _ _ _ 0 0 rfl (by omega)) rfl)
                        · exact Free.ob_plain _ rfl rfl fun vals wq hC hd => (by exact Free.d_load rfl (Eq.trans (b := vals 1) (by kernel_rfl) (hd 1 (by kernel_rfl))) (by have hcc := HCY.out wq (bt HB9.out hC); go_simp) rfl)
                        · exact Free.ob_plain _ rfl rfl fun vals wq hC hd => (by exact Free.d_move rfl (by kernel_rfl) rfl)
                        · exact Free.ob_plain _ rfl rfl fun vals wq hC hd => (by exact Free.d_slice rfl (Eq.trans (b := vals 3) (by kernel_rfl) (hd 3 (by kernel_rfl))) rfl rfl rfl (HTB.out wq) rfl)
                        · exact Free.ob_plain _ rfl rfl fun vals wq hC hd => (by exact Free.d_assign rfl (Eq.trans (b := vals 2) (by kernel_rfl) (hd 2 (by kernel_rfl))) rfl)
                        · exact Free.ob_plain _ rfl rfl fun vals wq hC hd => (by exact Free.d_assign rfl (Eq.trans (b := vals 4) (by kernel_rfl) (hd 4 (by kernel_rfl))) rfl)
                      · intro vals wq hC hd
                        have e0 : vals 0 = (.slice (some ⟨bb, ob, none⟩) nb cb) := hd 0 (by decide)
                        have e1 : vals 1 = (.pointer (some ⟨bb, ob, none⟩)) := hd 1 (by decide)
                        have e2 : vals 2 = (.int .i64 y) := hd 2 (by decide)
                        have e3 : vals 3 = (.slice (some ⟨bb, ob, none⟩) nb cb) := hd 3 (by decide)
                        have e4 : vals 4 = (.slice B2 (nb - 1) (cb - 1)) := hd 4 (by decide)
                        have e5 : vals 5 = (.int .i64 y) := hd 5 (by decide)
                        have e6 : vals 6 = (.slice B2 (nb - 1) (cb - 1)) := hd 6 (by decide)
                        simp only [Free.frameOf, List.range, List.range.loop, List.foldl, Free.dstOf, List.getElem?_toArray, List.getElem?_cons_zero, List.getElem?_cons_succ, Option.bind_some, Act.put, List.setIfInBounds_toArray, List.set_cons_zero, List.set_cons_succ, e0, e1, e2, e3, e4, e5, e6]
                        refine wpList_nil ?_
                        clear hd e0 e1 e2 e3 e4 e5 e6
                        have HB10 := Lib.hid (bt HB9.out hC)
                        have HBR := Lib.hid (bt HBR.out hC)
                        obtain ⟨w10, hw10⟩ : ∃ W, wq = W := ⟨_, rfl⟩
                        rw [hw10] at HB10 HBR ⊢
                        clear hw10 hC
                        cases hkv : keep y true true with
                        | true =>
                          have HKV := Lib.hid hkv
                          clear hkv
                          have hz := hr.own.keep (show Below wr.heap.size wr w10 from HBR.out)
                          go_wp2_with (first | (refine wl_callv rfl (t := 71) rfl rfl HFN.out.1 HFN.out.2.1 HFN.out.2.2 (Free.arg3 (c := .int .i64 y) (d := .bool true) (e := .bool true) rfl rfl rfl) ((HKC.out _ HB10.out).mono ?_); rintro e w11 ⟨rfl, rfl⟩; rw [HKV.out]; refine ⟨_, rfl, ?_, Below.refl _ _⟩; simp only [Act.put, List.setIfInBounds_toArray, List.set_cons_succ, List.set_cons_zero]) | (at_builtin; refine wl_appZ1 rfl (.tmp 76) (.tmp 78) rfl rfl hz y rfl (by omega) (by omega) HB10.out.size ?_; intro A4 n4 c4 w12 ho4 hb4 _))
                          go_roundw
                          case rel => exact ⟨A2, na - 1, ca - 1, s, B2, nb - 1, cb - 1, t, A4, n4, c4, _, rfl, rfl, rfl, hta, htb, ho4, by rw [List.append_assoc, List.singleton_append, ← HEQ.out, HKV.out, ifs_true], HB10.out.trans hb4, by have a := ho4.len; have b := hr.own.len; rw [List.length_append, b] at a; simp at a; omega⟩
                          case measure => simp [lenZ]; omega
                        | false =>
                          have HKV := Lib.hid hkv
                          clear hkv
                          go_wp2_with (refine wl_callv rfl (t := 71) rfl rfl HFN.out.1 HFN.out.2.1 HFN.out.2.2 (Free.arg3 (c := .int .i64 y) (d := .bool true) (e := .bool true) rfl rfl rfl) ((HKC.out _ HB10.out).mono ?_); rintro e w11 ⟨rfl, rfl⟩; rw [HKV.out]; refine ⟨_, rfl, ?_, Below.refl _ _⟩; simp only [Act.put, List.setIfInBounds_toArray, List.set_cons_succ, List.set_cons_zero])
                          go_roundw
                          case rel => exact ⟨A2, na - 1, ca - 1, s, B2, nb - 1, cb - 1, t, Al, nl, cl, acc, rfl, rfl, rfl, hta, htb, hr.own.keep HBR.out, by rw [← HEQ.out, HKV.out, ifs_false], HB10.out, by omega⟩
                          case measure => simp [lenZ]; omega
    clear h2
    have HK2 := Lib.hid key2
    clear key2
    cases hrb : Post.right lb with
    | true =>
      have hb1 : Zs w B m k (Post.good lb) := by rw [Post.good_of hrb]; exact hb
      have HX := Lib.hid hrb
      clear hrb
      go_wp2_with fail
      refine HRB.out.mono ?_
      rintro e w0 ⟨rfl, rfl⟩
      rw [HX.out]
      go_wp2_with fail
      exact HK2.out B m k _ _ _ hb1
    | false =>
      have hb1 : Zs w none 0 0 (Post.good lb) := by unfold Post.good; rw [hrb]; exact Zs.nil w
      have HX := Lib.hid hrb
      clear hrb
      go_wp2_with fail
      refine HRB.out.mono ?_
      rintro e w0 ⟨rfl, rfl⟩
      rw [HX.out]
      go_wp2_with fail
      exact HK2.out none 0 0 _ _ _ hb1
  clear h1
  have HK1 := Lib.hid key1
  clear key1
  cases hra : Post.right la with
  | true =>
    have ha1 : Zs w A n c (Post.good la) := by rw [Post.good_of hra]; exact ha
    have HX := Lib.hid hra
    clear hra
    go_wp2_with fail
    refine HRA.out.mono ?_
    rintro e w0 ⟨rfl, rfl⟩
    rw [HX.out]
    go_wp2_with fail
    exact HK1.out A n c _ _ _ ha1
  | false =>
    have ha1 : Zs w none 0 0 (Post.good la) := by unfold Post.good; rw [hra]; exact Zs.nil w
    have HX := Lib.hid hra
    clear hra
    go_wp2_with fail
    refine HRA.out.mono ?_
    rintro e w0 ⟨rfl, rfl⟩
    rw [HX.out]
    go_wp2_with fail
    exact HK1.out none 0 0 _ _ _ ha1
end Go.Proofs.YtkkliblndglniaaDoor
