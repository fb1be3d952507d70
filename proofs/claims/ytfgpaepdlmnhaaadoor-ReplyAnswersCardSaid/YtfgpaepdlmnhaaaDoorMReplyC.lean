/- MReplyC: several texts of this claim in one file. No statement of the seat is proved here. -/
import Derived.Test.YtfgpaepdlmnhaaaDoorMReplyB
import Derived.Test.YtfgpaepdlmnhaaaDoorMTreeA
namespace Go.Proofs.YtfgpaepdlmnhaaaDoor
set_option maxRecDepth 100000
set_option linter.unusedVariables false
open Go.RowKit
def RetV (v : Value) (w : World) (e : Ending) (w' : World) : Prop := e = .returned v ∧ Below w.heap.size w w'
theorem size_alloc (w : World) (o : Obj) : (w.alloc o).heap.size = w.heap.size + 1 := by unfold World.alloc; simp
set_option maxRecDepth 100000 in
set_option maxHeartbeats 4000000 in
theorem asSign_any (sg : Hd.Sg) (w : World) : Calls Tryd.prog 95 #[.agg #[.int .i64 sg.fr, .int .i64 sg.to, .int .i64 sg.lk, sv sg.rt]] w (RetV (.agg #[.int .i64 sg.fr, .int .i64 sg.to, .int .i64 sg.lk, sv sg.rt]) w) := by
  have h1 := row_new w #[.int .i64 sg.fr, .int .i64 sg.to, .int .i64 sg.lk, sv sg.rt] 130
  have h2 := row_new (w.alloc (.cells #[.int .i64 sg.fr, .int .i64 sg.to, .int .i64 sg.lk, sv sg.rt] 130)) #[.int .i64 0, .int .i64 0, .int .i64 0, .string { data := #[] }] 177
  rw [size_alloc] at h2
  have hb := ((Below.refl w.heap.size w).alloc (Nat.le_refl _) (.cells #[.int .i64 sg.fr, .int .i64 sg.to, .int .i64 sg.lk, sv sg.rt] 130)).alloc (by rw [size_alloc]; omega) (.cells #[.int .i64 0, .int .i64 0, .int .i64 0, .string { data := #[] }] 177)
  have h1 := h1.alloc (.cells #[.int .i64 0, .int .i64 0, .int .i64 0, .string { data := #[] }] 177)
  obtain ⟨w1, hw1⟩ : ∃ W, (w.alloc (.cells #[.int .i64 sg.fr, .int .i64 sg.to, .int .i64 sg.lk, sv sg.rt] 130)).alloc (.cells #[.int .i64 0, .int .i64 0, .int .i64 0, .string { data := #[] }] 177) = W := ⟨_, rfl⟩
  rw [hw1] at h1 h2 hb
  have HW1 := Lib.hid hw1
  have HB := Lib.hid hb
  have HR := Lib.hid h2
  clear hw1 hb
  go_enter Tryd.func95, Tryd.ntmps95
  go_upto_region 1 with fail
  rw [HW1.out]
  have x0 := h1.cellQ 0 _ rfl
  have x1 := h1.cellQ 1 _ rfl
  have x2 := h1.cellQ 2 _ rfl
  have x3 := h1.cellQ 3 _ rfl
  have z0 := h2.cellQ 0 _ rfl
  have z1 := h2.cellQ 1 _ rfl
  have z2 := h2.cellQ 2 _ rfl
  have z3 := h2.cellQ 3 _ rfl
  have y0 := h2.frozen 0
  have y1 := h2.frozen 1
  have y2 := h2.frozen 2
  have y3 := h2.frozen 3
  clear h1 h2
  go_wp2
  generalize hwf : World.setCell (World.setCell (World.setCell (World.setCell w1 _ _) _ _) _ _) _ _ = wf
  have hsf : setFrom (w.heap.size + 1) w1 0 [.int .i64 sg.fr, .int .i64 sg.to, .int .i64 sg.lk, sv sg.rt] = wf := by rw [← hwf]; rfl
  have hrow := HR.out.all [.int .i64 sg.fr, .int .i64 sg.to, .int .i64 sg.lk, sv sg.rt] rfl
  rw [hsf] at hrow
  have r0 := hrow.cellQ 0 _ rfl
  have r1 := hrow.cellQ 1 _ rfl
  have r2 := hrow.cellQ 2 _ rfl
  have r3 := hrow.cellQ 3 _ rfl
  refine bodyPost_ret (v := .agg #[.int .i64 sg.fr, .int .i64 sg.to, .int .i64 sg.lk, sv sg.rt]) (by simp [results, Tryd.results95, go_sem, r0, r1, r2, r3]) rfl ?_
  exact ⟨rfl, by rw [← hsf]; exact below_setFrom (by omega) _ 0 HB.out⟩
theorem rsignsT : ElemT Tryd.prog 35 177 4 40 := ElemT.mk' (z := .agg #[.int .i64 0, .int .i64 0, .int .i64 0, .string ByteArray.empty]) Tryd.underlying35 (by kernel_rfl) rfl (by omega)
abbrev OwnR (w : World) (B : Nat) (A : Option Addr) (n c : Nat) (L : List Hd.Sg) : Prop := OwnQ sgc 4 177 w B A n c L
def FreeP.kR (B : Nat) (L : List Hd.Sg) : FreeP.SV [] := ⟨fun v W => ∃ A n c, v = .slice A n c ∧ OwnR W B A n c L, fun v W W' ⟨A, n, c, h1, h2⟩ g => ⟨A, n, c, h1, h2.keep g⟩, fun v W W' ⟨A, n, c, h1, h2⟩ g => ⟨A, n, c, h1, h2.keepTy (by simp) g⟩⟩
theorem OwnQ.setA {α : Type} {cs : α → List Value} {k : Nat} {e : TypeId} {w : World} {B n c : Nat} {A : Option Addr} {L : List α} (h : OwnQ cs k e w B A n c L) {x : Nat} {ds : Array Value} {t : TypeId} (hx : Row w x ds t) (ht : t ≠ e) (vs : List Value) (j : Nat) : OwnQ cs k e (setFrom x w j vs) B A n c L := h.keepTy (S := [t]) (by simp only [List.mem_singleton]; exact Ne.symm ht) (KeepTy.setF (List.mem_singleton.2 rfl) vs j hx)
/-- What stands between two steps of a turning. -/
def AsD (w : World) (z g1 g2 g3 : Nat) (c1 c2 c3 : Array Value) (A : Option Addr) (n c : Nat) (L : List Hd.Sg) : Nat → World → Prop
  | 0, W => (Row W g1 c1 24 ∧ Row W g2 c2 37 ∧ Row W g3 c3 37 ∧ Below w.heap.size w W ∧ z ≤ W.heap.size) ∧ OwnR W w.heap.size A n c L
  | 1, W => (Row W g1 c1 24 ∧ Row W g2 c2 37 ∧ Row W g3 c3 37 ∧ Below w.heap.size w W ∧ z ≤ W.heap.size) ∧ OwnR W w.heap.size A n c L
  | _, W => Row W g1 c1 24 ∧ Row W g2 c2 37 ∧ Row W g3 c3 37 ∧ Below w.heap.size w W ∧ z ≤ W.heap.size
section
variable {w W W' : World} {z g1 g2 g3 n c : Nat} {c1 c2 c3 : Array Value} {A : Option Addr} {L : List Hd.Sg} {k : Nat}
theorem AsD.any (h : AsD w z g1 g2 g3 c1 c2 c3 A n c L k W) : Row W g1 c1 24 ∧ Row W g2 c2 37 ∧ Row W g3 c3 37 ∧ Below w.heap.size w W ∧ z ≤ W.heap.size := by
  match k, h with
  | 0, h => exact h.1
  | 1, h => exact h.1
  | k + 2, h => exact h
theorem AsD.keep (k : Nat) (h : AsD w z g1 g2 g3 c1 c2 c3 A n c L k W) (hb : Below W.heap.size W W') : AsD w z g1 g2 g3 c1 c2 c3 A n c L k W' := by
  have a := h.any
  have b : Row W' g1 c1 24 ∧ Row W' g2 c2 37 ∧ Row W' g3 c3 37 ∧ Below w.heap.size w W' ∧ z ≤ W'.heap.size := ⟨a.1.belowS hb (Nat.le_refl _), a.2.1.belowS hb (Nat.le_refl _), a.2.2.1.belowS hb (Nat.le_refl _), bt a.2.2.2.1 hb, Nat.le_trans a.2.2.2.2 hb.size⟩
  match k, h with
  | 0, h => exact ⟨b, h.2.keep hb⟩
  | 1, h => exact ⟨b, h.2.keep hb⟩
  | k + 2, h => exact b
theorem AsD.grown (h : AsD w z g1 g2 g3 c1 c2 c3 A n c L 1 W) {m : Nat} {v : Value} {xs : List Value} (ho : W.ownsRow w.heap.size 177 4 v m xs) (hg : W.grownBy W' v.ownBlock) (hb : Below w.heap.size W W') : AsD w z g1 g2 g3 c1 c2 c3 A n c L 2 W' := by
  have k := KeepTy.grown (S := [177]) ho (by decide) hg hb.size
  exact ⟨h.1.1.keepTy (by decide) k, h.1.2.1.keepTy (by decide) k, h.1.2.2.1.keepTy (by decide) k, h.1.2.2.2.1.trans hb, Nat.le_trans h.1.2.2.2.2 hb.size⟩
end
def AsHPost (h : Hd.H) (w : World) (e : Ending) (w' : World) : Prop := ∃ A n c, e = .returned (hdv A n c h) ∧ OwnR w' w.heap.size A n c h.segs ∧ Below w.heap.size w w'
set_option maxRecDepth 100000 in
set_option maxHeartbeats 16000000 in
theorem asHead_any (A : Option Addr) (n c : Nat) (h : Hd.H) (w : World) (hs : Sq sgc 4 w A n c h.segs) (hn : n ≤ 1000) : Calls Tryd.prog 47 #[.agg #[.int .i64 h.size, sv h.log, .slice A n c]] w (AsHPost h w) := by
  have hlen := hs.len
  have hcap := hs.cap
  have hmx := hs.max
  rw [maxLen_eq] at hmx
  have h1 := (row_new w #[.int .i64 h.size, sv h.log, .slice A n c] 24).alloc (.cells #[.int .i64 0, .string { data := #[] }, .slice none 0 0] 37)
  have h2 := row_new (w.alloc (.cells #[.int .i64 h.size, sv h.log, .slice A n c] 24)) #[.int .i64 0, .string { data := #[] }, .slice none 0 0] 37
  rw [size_alloc] at h2
  have hb := ((Below.refl w.heap.size w).alloc (Nat.le_refl _) (.cells #[.int .i64 h.size, sv h.log, .slice A n c] 24)).alloc (by rw [size_alloc]; omega) (.cells #[.int .i64 0, .string { data := #[] }, .slice none 0 0] 37)
  have hz1 : ((w.alloc (.cells #[.int .i64 h.size, sv h.log, .slice A n c] 24)).alloc (.cells #[.int .i64 0, .string { data := #[] }, .slice none 0 0] 37)).heap.size = w.heap.size + 1 + 1 := by rw [size_alloc, size_alloc]
  obtain ⟨w1, hw1⟩ : ∃ W, (w.alloc (.cells #[.int .i64 h.size, sv h.log, .slice A n c] 24)).alloc (.cells #[.int .i64 0, .string { data := #[] }, .slice none 0 0] 37) = W := ⟨_, rfl⟩
  rw [hw1] at h1 h2 hb hz1
  have h3 := row_new w1 #[.int .i64 h.size, sv h.log, .slice none 0 0] 37
  have hb2 := hb.alloc (by omega) (.cells #[.int .i64 h.size, sv h.log, .slice none 0 0] 37)
  have h1' := h1.alloc (.cells #[.int .i64 h.size, sv h.log, .slice none 0 0] 37)
  have h2' := h2.alloc (.cells #[.int .i64 h.size, sv h.log, .slice none 0 0] 37)
  rw [hz1] at h3
  obtain ⟨w2, hw2⟩ : ∃ W, w1.alloc (.cells #[.int .i64 h.size, sv h.log, .slice none 0 0] 37) = W := ⟨_, rfl⟩
  rw [hw2] at h3 hb2 h1' h2'
  have HA0 := Lib.hid (show (Row w2 w.heap.size #[.int .i64 h.size, sv h.log, .slice A n c] 24 ∧ Row w2 (w.heap.size + 1) #[.int .i64 0, .string { data := #[] }, .slice none 0 0] 37 ∧ Row w2 (w.heap.size + 1 + 1) #[.int .i64 h.size, sv h.log, .slice none 0 0] 37 ∧ Below w.heap.size w w2) from ⟨h1', h2', h3, hb2⟩)
  have HW1 := Lib.hid hw1
  have HW2 := Lib.hid hw2
  have HZ1 := Lib.hid hz1
  have HS := Lib.hid hs
  have x0 := h1.cellQ 0 _ rfl
  have x1 := h1.cellQ 1 _ rfl
  clear hs h1 h2 hb hz1 hw1 hw2 h3 hb2 h1' h2'
  go_enter Tryd.func47, Tryd.ntmps47
  go_upto_region 1 with fail
  rw [HW1.out]
  go_upto_region 2 with fail
  rw [HW2.out, HZ1.out]
  clear x0 x1 HW1 HW2 HZ1
  go_wp2
  go_loopw [4] (fun vi wr => ∃ (k : Nat) (A' : Option Addr) (c' : Nat), vi = .int .i64 (k : Int) ∧ k ≤ n ∧ Hid ((Row wr w.heap.size #[.int .i64 h.size, sv h.log, .slice A n c] 24 ∧ Row wr (w.heap.size + 1) #[.int .i64 0, .string { data := #[] }, .slice none 0 0] 37 ∧ Row wr (w.heap.size + 1 + 1) #[.int .i64 h.size, sv h.log, .slice A' k c'] 37 ∧ Below w.heap.size w wr) ∧ OwnR wr w.heap.size A' k c' (h.segs.take k))) (fun vi _ => n - (intOf vi).toNat)
  case atStart => exact ⟨0, none, 0, rfl, by omega, Lib.hid ⟨HA0.out, OwnQ.nil _ _⟩⟩
  case round =>
    obtain ⟨n', A', c', rfl, hk, HI⟩ := hrel
    have x2 := HI.out.1.1.cellQ 2 _ rfl
    by_cases hlt : n' < n
    · obtain ⟨b, off, sg, rfl, hbk, hsg, hcs⟩ := HS.out.at sgc_len (by omega) hlt
      have HCS := Lib.hid hcs
      have HTK := Lib.hid (show h.segs.take (n' + 1) = h.segs.take n' ++ [sg] by rw [List.take_add_one, hsg]; rfl)
      have hc2 := HI.out.2.cap
      have hm2 := HI.out.2.max
      rw [maxLen_eq] at hm2
      have HOB := Lib.hid HI.out.2.blk
      have HA := Lib.hid (show (AsD w wr.heap.size w.heap.size (w.heap.size + 1) (w.heap.size + 1 + 1) #[.int .i64 h.size, sv h.log, .slice (some ⟨b, off, none⟩) n c] #[.int .i64 0, .string { data := #[] }, .slice none 0 0] #[.int .i64 h.size, sv h.log, .slice A' n' c'] A' n' c' (h.segs.take n')) 0 wr from ⟨⟨HI.out.1.1, HI.out.1.2.1, HI.out.1.2.2.1, HI.out.1.2.2.2, Nat.le_refl _⟩, HI.out.2⟩)
      clear hcs hsg
      go_upto_region 5 with fail
      clear x2
      refine FreeP.wp_free2_l 11 7 9 [] wr.heap.size (AsD w wr.heap.size w.heap.size (w.heap.size + 1) (w.heap.size + 1 + 1) #[.int .i64 h.size, sv h.log, .slice (some ⟨b, off, none⟩) n c] #[.int .i64 0, .string { data := #[] }, .slice none 0 0] #[.int .i64 h.size, sv h.log, .slice A' n' c'] A' n' c' (h.segs.take n')) [FreeP.xc (.pointer (some ⟨w.heap.size + 1 + 1, 2, none⟩)), FreeP.xc (.slice A' n' c'), FreeP.xc (.pointer (some ⟨w.heap.size, 2, none⟩)), FreeP.xc (.slice (some ⟨b, off, none⟩) n c), FreeP.xc (.int .i64 (n' : Int)), FreeP.xc (.pointer (some ⟨b, off + n' * 4, none⟩)), FreeP.xc (.agg #[.int .i64 sg.fr, .int .i64 sg.to, .int .i64 sg.lk, sv sg.rt]), FreeP.xc (.agg #[.int .i64 sg.fr, .int .i64 sg.to, .int .i64 sg.lk, sv sg.rt]), FreeP.xL (wr.heap.size) (1) (177) (#[.int .i64 sg.fr, .int .i64 sg.to, .int .i64 sg.lk, sv sg.rt]) ((by decide)) ((Nat.le_refl _)), FreeP.xc (.slice none 0 0), FreeP.xc (.pointer (some ⟨w.heap.size + 1 + 1, 2, none⟩))] (FreeP.kR w.heap.size (h.segs.take (n' + 1))) (by kernel_rfl) (by kernel_rfl) (by decide) (by decide) (by decide) (by decide) (by kernel_rfl) (AsD.keep 0 HA.out (bel_drew _ _)) (fun k W W' h g => AsD.keep k h g) ?_ ?_
      · refine Free.forall_succ (Free.forall_succ (Free.forall_succ (Free.forall_succ (Free.forall_succ (Free.forall_succ (Free.forall_succ (Free.forall_succ (Free.forall_succ (Free.forall_succ (Free.forall_succ (Free.forall_zero) ?_) ?_) ?_) ?_) ?_) ?_) ?_) ?_) ?_) ?_) ?_
        · exact FreeP.ob2_plain _ rfl rfl (by decide) (by decide) fun T vals wq hb hT hcl hC hd => (by exact d_field (cx := .pointer (some ⟨(w.heap.size + 1 + 1), 0, none⟩)) rfl (by kernel_rfl) (by go_simp) rfl)
        · exact FreeP.ob2_plain _ rfl rfl (by decide) (by decide) fun T vals wq hb hT hcl hC hd => (by exact Free.d_load (cx := .pointer (some ⟨w.heap.size + 1 + 1, 2, none⟩)) rfl (Eq.trans (b := vals 0) (by kernel_rfl) (hd 0 (by kernel_rfl))) (by have hh := (FreeP.C2_or hC).elim fun _ h => AsD.any h; have hcc := hh.2.2.1.cellQ 2 _ rfl; go_simp) rfl)
        · exact FreeP.ob2_plain _ rfl rfl (by decide) (by decide) fun T vals wq hb hT hcl hC hd => (by exact d_field (cx := .pointer (some ⟨w.heap.size, 0, none⟩)) rfl (by kernel_rfl) (by go_simp) rfl)
        · exact FreeP.ob2_plain _ rfl rfl (by decide) (by decide) fun T vals wq hb hT hcl hC hd => (by exact Free.d_load (cx := .pointer (some ⟨w.heap.size, 2, none⟩)) rfl (Eq.trans (b := vals 2) (by kernel_rfl) (hd 2 (by kernel_rfl))) (by have hh := (FreeP.C2_or hC).elim fun _ h => AsD.any h; have hcc := hh.1.cellQ 2 _ rfl; go_simp) rfl)
        · exact FreeP.ob2_plain _ rfl rfl (by decide) (by decide) fun T vals wq hb hT hcl hC hd => (by exact Free.d_move rfl (by kernel_rfl) rfl)
        · exact FreeP.ob2_plain _ rfl rfl (by decide) (by decide) fun T vals wq hb hT hcl hC hd => (by exact Free.d_indexAddr rfl (Eq.trans (b := vals 3) (by kernel_rfl) (hd 3 (by kernel_rfl))) (Eq.trans (b := vals 4) (by kernel_rfl) (hd 4 (by kernel_rfl))) (run_idxK 22 Tryd.underlying22 (by kernel_rfl) b off n c n' _ rfl hlt) rfl)
        · exact FreeP.ob2_plain _ rfl rfl (by decide) (by decide) fun T vals wq hb hT hcl hC hd => (by exact Free.d_load (cx := .pointer (some ⟨b, off + n' * 4, none⟩)) rfl (Eq.trans (b := vals 5) (by kernel_rfl) (hd 5 (by kernel_rfl))) (by have hh := (FreeP.C2_or hC).elim fun _ h => AsD.any h; have s0 := HCS.out wq hh.2.2.2.1 0 _ rfl; rw [Nat.add_zero] at s0; have s1 := HCS.out wq hh.2.2.2.1 1 _ rfl; have s2 := HCS.out wq hh.2.2.2.1 2 _ rfl; have s3 := HCS.out wq hh.2.2.2.1 3 _ rfl; go_simp) rfl)
        · exact FreeP.ob2_one _ rfl rfl fun vals wq hC hd => (by exact FreeP.s_callF Tryd.func95 rfl rfl rfl rfl (Free.arg1 (Eq.trans (b := vals 6) (by kernel_rfl) (hd 6 (by kernel_rfl)))) ((asSign_any sg wq).mono fun e w2 ⟨he, hb⟩ => ⟨_, he, rfl, KeepTy.of hb, AsD.keep 0 hC hb⟩))
        · exact FreeP.ob2_plain _ rfl rfl (by decide) (by decide) fun T vals wq hb hT hcl hC hd => (by exact FreeP.d_lit rfl (Free.parts1 (Eq.trans (b := vals 7) (by kernel_rfl) (hd 7 (by kernel_rfl)))) (by go_simp) (by decide) (Nat.le_refl _) ((FreeP.C2_or hC).elim fun _ h => (AsD.any h).2.2.2.2))
        · exact FreeP.ob2_two _ rfl rfl (by decide) (by kernel_rfl) fun vals wq hC hd => (by obtain ⟨g8, e8, ge8, rw8⟩ := hd 8 (by kernel_rfl); exact FreeP.s_app rsignsT rfl (Eq.trans (b := vals 1) (by kernel_rfl) (hd 1 (by kernel_rfl))) hC.2.own (Eq.trans (b := vals 8) (by kernel_rfl) e8) (rd_of_row rw8) rfl (fun u hu => one_sg [sg] u (by simpa [sgc] using hu)) (by rw [maxLen_eq]; omega) (by omega) hC.1.2.2.2.1.size (fun A9 c9 w9 h1 h2 h3 h4 h5 => ⟨⟨A9, _, c9, rfl, ⟨by rw [HTK.out, sg_snoc]; exact h1, by rw [HTK.out, List.length_append, hC.2.len]; rfl, h4, h5⟩⟩, above_of_grown hC.2.own h2 h3.size HOB.out, AsD.grown hC hC.2.own h2 h3⟩))
        · exact FreeP.ob2_plain _ rfl rfl (by decide) (by decide) fun T vals wq hb hT hcl hC hd => (by exact d_field (cx := .pointer (some ⟨(w.heap.size + 1 + 1), 0, none⟩)) rfl (by kernel_rfl) (by go_simp) rfl)
      · intro vals wq hC hd
        have e0 : vals 0 = (.pointer (some ⟨w.heap.size + 1 + 1, 2, none⟩)) := hd 0 (by decide)
        have e1 : vals 1 = (.slice A' n' c') := hd 1 (by decide)
        have e2 : vals 2 = (.pointer (some ⟨w.heap.size, 2, none⟩)) := hd 2 (by decide)
        have e3 : vals 3 = (.slice (some ⟨b, off, none⟩) n c) := hd 3 (by decide)
        have e4 : vals 4 = (.int .i64 (n' : Int)) := hd 4 (by decide)
        have e5 : vals 5 = (.pointer (some ⟨b, off + n' * 4, none⟩)) := hd 5 (by decide)
        have e6 : vals 6 = (.agg #[.int .i64 sg.fr, .int .i64 sg.to, .int .i64 sg.lk, sv sg.rt]) := hd 6 (by decide)
        have e7 : vals 7 = (.agg #[.int .i64 sg.fr, .int .i64 sg.to, .int .i64 sg.lk, sv sg.rt]) := hd 7 (by decide)
        obtain ⟨g8, e8, ge8, rw8⟩ := hd 8 (by decide)
        obtain ⟨A9, n9, k9, e9, ow9⟩ := hd 9 (by decide)
        have e10 : vals 10 = (.pointer (some ⟨w.heap.size + 1 + 1, 2, none⟩)) := hd 10 (by decide)
        simp only [Free.frameOf, List.range, List.range.loop, List.foldl, Free.dstOf, List.getElem?_toArray, List.getElem?_cons_zero, List.getElem?_cons_succ, Option.bind_some, Act.put, List.setIfInBounds_toArray, List.set_cons_zero, List.set_cons_succ, e0, e1, e2, e3, e4, e5, e6, e7, e8, e9, e10]
        clear hd e0 e1 e2 e3 e4 e5 e6 e7 e8 e9 e10
        have z2 := hC.2.2.1.cellQ 2 _ rfl
        have y2 := hC.2.2.1.frozen 2
        have HC := Lib.hid hC
        have HO9 := Lib.hid ow9
        clear hC ow9
        go_upto_region 4 with fail
        generalize hwd : World.setCell wq _ _ = wd
        have hn9 : n9 = n' + 1 := by rw [← HO9.out.len, HTK.out, List.length_append, HA.out.2.len]; rfl
        subst hn9
        have HI2 := Lib.hid (show (Row wd w.heap.size #[.int .i64 h.size, sv h.log, .slice (some ⟨b, off, none⟩) n c] 24 ∧ Row wd (w.heap.size + 1) #[.int .i64 0, .string { data := #[] }, .slice none 0 0] 37 ∧ Row wd (w.heap.size + 1 + 1) #[.int .i64 h.size, sv h.log, .slice A9 (n' + 1) k9] 37 ∧ Below w.heap.size w wd) ∧ OwnR wd w.heap.size A9 (n' + 1) k9 (h.segs.take (n' + 1)) by
          rw [← hwd]
          exact ⟨⟨HC.out.1.far _ 2 _ (by omega), HC.out.2.1.far _ 2 _ (by omega), HC.out.2.2.1.set 2 _, HC.out.2.2.2.1.setCell (p := ⟨w.heap.size + 1 + 1, 2, none⟩) (show w.heap.size ≤ w.heap.size + 1 + 1 by omega) _⟩, HO9.out.setA HC.out.2.2.1 (by decide) [_] 2⟩)
        clear hwd z2 y2 HC HO9 HA
        go_wp2
        go_roundw
        case rel => exact ⟨n' + 1, A9, k9, by go_num, by omega, HI2⟩
        case measure => simp [intOf]; omega
    · obtain rfl : n' = n := by omega
      have HTK := Lib.hid (show h.segs.take n' = h.segs by rw [← hlen, List.take_length])
      have q0 := HI.out.1.2.2.1.cellQ 0 _ rfl
      have q1 := HI.out.1.2.2.1.cellQ 1 _ rfl
      have q2 := HI.out.1.2.2.1.cellQ 2 _ rfl
      have z0 := HI.out.1.2.1.cellQ 0 _ rfl
      have z1 := HI.out.1.2.1.cellQ 1 _ rfl
      have z2 := HI.out.1.2.1.cellQ 2 _ rfl
      have y0 := HI.out.1.2.1.frozen 0
      have y1 := HI.out.1.2.1.frozen 1
      have y2 := HI.out.1.2.1.frozen 2
      go_wp2
      generalize hwf : World.setCell (World.setCell (World.setCell wr _ _) _ _) _ _ = wf
      have hsf : setFrom (w.heap.size + 1) wr 0 [.int .i64 h.size, sv h.log, .slice A' n' c'] = wf := by rw [← hwf]; rfl
      have hrow := HI.out.1.2.1.all [.int .i64 h.size, sv h.log, .slice A' n' c'] rfl
      rw [hsf] at hrow
      have r0 := hrow.cellQ 0 _ rfl
      have r1 := hrow.cellQ 1 _ rfl
      have r2 := hrow.cellQ 2 _ rfl
      refine bodyPost_ret (v := .agg #[.int .i64 h.size, sv h.log, .slice A' n' c']) (by simp [results, Tryd.results47, go_sem, r0, r1, r2]) rfl ?_
      exact ⟨A', n', c', rfl, by rw [← hsf, ← HTK.out]; exact HI.out.2.setA HI.out.1.2.1 (by decide) _ 0, by rw [← hsf]; exact below_setFrom (by omega) _ 0 HI.out.1.2.2.2⟩
end Go.Proofs.YtfgpaepdlmnhaaaDoor

namespace Go.Proofs.YtfgpaepdlmnhaaaDoor
set_option maxRecDepth 100000
set_option linter.unusedVariables false
open Go.RowKit
def Hd.H.great (h : Hd.H) : Bool := h.segs.any (fun s => decide (200 < s.rt.length)) || (decide (200 < h.segs.length) || decide (200 < h.log.length))
theorem Hd.H.great_no {h : Hd.H} (k : h.great = false) : (∀ s ∈ h.segs, s.rt.length ≤ 200) ∧ h.segs.length ≤ 200 ∧ h.log.length ≤ 200 := by
  unfold Hd.H.great at k
  simp only [Bool.or_eq_false_iff, decide_eq_false_iff_not, List.any_eq_false] at k
  refine ⟨fun s hs => ?_, by omega, by omega⟩
  have := k.1 s hs
  simp only [decide_eq_true_eq] at this
  omega
set_option maxRecDepth 100000 in
set_option maxHeartbeats 8000000 in
theorem great15_any (A : Option Addr) (n c : Nat) (h : Hd.H) (w : World) (hs : Sq sgc 4 w A n c h.segs) (hrt : ∀ s ∈ h.segs, s.rt.length ≤ maxLen) (hlog : h.log.length ≤ maxLen) : Calls Tryd.prog 16 #[.agg #[.int .i64 h.size, sv h.log, .slice A n c]] w (RetB h.great w) := by
  have hlen := hs.len
  have hcap := hs.cap
  have hmx := hs.max
  rw [maxLen_eq] at hmx hrt hlog
  have h1 := row_new w #[.int .i64 h.size, sv h.log, .slice A n c] 24
  have hb := (Below.refl w.heap.size w).alloc (Nat.le_refl _) (.cells #[.int .i64 h.size, sv h.log, .slice A n c] 24)
  obtain ⟨w1, hw1⟩ : ∃ W, w.alloc (.cells #[.int .i64 h.size, sv h.log, .slice A n c] 24) = W := ⟨_, rfl⟩
  rw [hw1] at h1 hb
  have HW1 := Lib.hid hw1
  have HB := Lib.hid hb
  have HS := Lib.hid (hs.keep hb)
  have HRT := Lib.hid hrt
  have x1 := h1.cellQ 1 _ rfl
  have x2 := h1.cellQ 2 _ rfl
  have hsl : (str h.log).size = h.log.length := strLen _
  clear hs h1 hb hw1 hrt
  go_enter Tryd.func16, Tryd.ntmps16
  go_upto_region 1 with fail
  rw [HW1.out]
  go_wp2
  go_loopw [3] (fun vi wr => ∃ (k : Nat), vi = .int .i64 (k : Int) ∧ k ≤ n ∧ wr = w1 ∧ Hid (∀ j s, j < k → h.segs[j]? = some s → ¬ 200 < s.rt.length)) (fun vi _ => n - (intOf vi).toNat)
  case atStart => exact ⟨0, rfl, by omega, rfl, Lib.hid (fun j s hj => by omega)⟩
  case round =>
    obtain ⟨k, rfl, hk, rfl, HI⟩ := hrel
    by_cases hlt : k < n
    · obtain ⟨b, off, sg, rfl, hbk, hsg, hcs⟩ := HS.out.at sgc_len (by omega) hlt
      have s3 := hcs wr (Below.refl _ _) 3 _ rfl
      have HSG := Lib.hid hsg
      have hsz : (str sg.rt).size = sg.rt.length := strLen _
      have hsl2 := HRT.out sg (List.mem_of_getElem? hsg)
      clear hcs hsg
      by_cases hg : 200 < sg.rt.length
      · have HE := Lib.hid (show h.great = true by unfold Hd.H.great; rw [List.any_eq_true.2 ⟨sg, List.mem_of_getElem? HSG.out, decide_eq_true hg⟩]; rfl)
        have hg' : (200 : Int) < (sg.rt.length : Int) := by omega
        go_wp2
        go_ret
        rw [HE.out]
        exact ⟨rfl, HB.out⟩
      · have hg' : ¬ (200 : Int) < (sg.rt.length : Int) := by omega
        have HI2 := Lib.hid (show ∀ j s, j < k + 1 → h.segs[j]? = some s → ¬ 200 < s.rt.length from fun j s hj hs => by
          rcases Nat.lt_or_ge j k with h1 | h1
          · exact HI.out j s h1 hs
          · obtain rfl : j = k := by omega
            rw [HSG.out] at hs
            injection hs with hs
            rw [← hs]; exact hg)
        go_wp2
        go_roundw
        case rel => exact ⟨k + 1, by go_num, by omega, trivial, HI2⟩
        case measure => simp [intOf]; omega
    · obtain rfl : k = n := by omega
      have HA := Lib.hid (show h.segs.any (fun s => decide (200 < s.rt.length)) = false by
        rw [List.any_eq_false]
        intro s hs
        obtain ⟨j, hj, rfl⟩ := List.mem_iff_getElem.1 hs
        have := HI.out j _ (by omega) (List.getElem?_eq_getElem hj)
        simpa using this)
      by_cases h2 : 200 < k
      · have HE := Lib.hid (show h.great = true by unfold Hd.H.great; rw [HA.out, decide_eq_true (show 200 < h.segs.length by omega)]; rfl)
        have h2' : (200 : Int) < (k : Int) := by omega
        go_wp2
        go_ret
        rw [HE.out]
        exact ⟨rfl, HB.out⟩
      · have h2' : ¬ (200 : Int) < (k : Int) := by omega
        by_cases h3 : 200 < h.log.length
        · have HE := Lib.hid (show h.great = true by unfold Hd.H.great; rw [HA.out, decide_eq_false (show ¬ 200 < h.segs.length by omega), decide_eq_true h3]; rfl)
          have h3' : (200 : Int) < (h.log.length : Int) := by omega
          go_wp2
          go_ret
          rw [HE.out]
          exact ⟨rfl, HB.out⟩
        · have HE := Lib.hid (show h.great = false by unfold Hd.H.great; rw [HA.out, decide_eq_false (show ¬ 200 < h.segs.length by omega), decide_eq_false h3]; rfl)
          have h3' : ¬ (200 : Int) < (h.log.length : Int) := by omega
          go_wp2
          go_ret
          rw [HE.out]
          exact ⟨rfl, HB.out⟩
def Hd.pathsOk (L : List (List UInt8)) : Bool := decide (L.length ≤ 64) && Tree.all32 L
def Hd.pathB (L : List (List UInt8)) : List UInt8 := Code.num L.length ++ L.flatten
set_option maxHeartbeats 4000000 in
theorem paths_any (A : Option Addr) (n c : Nat) (L : List (List UInt8)) (w : World) (hs : Ss w A n c L) (hwf : ∀ s ∈ L, s.length ≤ maxLen) : Calls Tryd.prog 61 #[.slice A n c] w (RetV (.bool (Hd.pathsOk L)) w) := by
  have hlen := hs.len
  have hcap := hs.cap
  have hmx := hs.max
  rw [maxLen_eq] at hmx
  have CR := Lib.hid (right6_any A n c L w hs hwf)
  clear hs hwf
  by_cases h1 : n ≤ 64
  · have HE := Lib.hid (show Hd.pathsOk L = Tree.all32 L by unfold Hd.pathsOk; rw [decide_eq_true (show L.length ≤ 64 by omega)]; rfl)
    have h1' : (n : Int) ≤ 64 := by omega
    go_enter Tryd.func61, Tryd.ntmps61
    go_wp2_with fail
    (with_reducible refine CR.out.mono ?_)
    rintro e w1 ⟨rfl, rfl⟩
    go_wp2
    go_ret
    rw [HE.out]
    exact ⟨rfl, Below.refl _ _⟩
  · have HE := Lib.hid (show Hd.pathsOk L = false by unfold Hd.pathsOk; rw [decide_eq_false (show ¬ L.length ≤ 64 by omega)]; rfl)
    have h1' : ¬ (n : Int) ≤ 64 := by omega
    go_enter Tryd.func61, Tryd.ntmps61
    go_wp2
    go_ret
    rw [HE.out]
    exact ⟨rfl, Below.refl _ _⟩
set_option maxRecDepth 100000 in
set_option maxHeartbeats 8000000 in
theorem pathB_any (A : Option Addr) (n c : Nat) (L : List (List UInt8)) (w : World) (hs : Ss w A n c L) (hn : n ≤ 1000) (hL : ∀ s ∈ L, s.length ≤ 1000) : Calls Tryd.prog 66 #[.slice A n c] w (Ret8 w.heap.size (Hd.pathB L) w) := by
  have hlen := hs.len
  have hcap := hs.cap
  have hmx := hs.max
  rw [maxLen_eq] at hmx
  have HS := Lib.hid hs
  have HL := Lib.hid hL
  have CN := Lib.hid (rnum_any n n w (Nat.le_refl _) (by omega))
  have hnl := Code.num_len9 n (by omega)
  unfold Ret8 at CN ⊢
  clear hs hL
  go_enter Tryd.func66, Tryd.ntmps66
  go_wp2_with fail
  (with_reducible refine CN.out.mono ?_)
  rintro e w1 ⟨A1, n1, c1, rfl, ho1, hb1⟩
  have HO1 := Lib.hid ho1
  have HB1 := Lib.hid hb1
  clear ho1 hb1 CN
  go_wp2
  go_loopw [3, 4] (fun vb vi wr => ∃ (k : Nat) (A' : Option Addr) (n' c' : Nat), vb = .slice A' n' c' ∧ vi = .int .i64 (k : Int) ∧ k ≤ n ∧ n' ≤ 9 + 1000 * k ∧ Hid (Own8 wr w.heap.size A' n' c' (Code.num n ++ (L.take k).flatten) ∧ Below w.heap.size w wr)) (fun _ vi _ => n - (intOf vi).toNat)
  case atStart => exact ⟨0, A1, n1, c1, rfl, rfl, by omega, by rw [← HO1.out.len]; omega, Lib.hid ⟨by simpa using HO1.out, HB1.out⟩⟩
  case round =>
    obtain ⟨k, A', n', c', rfl, rfl, hk, hn', HI⟩ := hrel
    by_cases hlt : k < n
    · obtain ⟨b, off, rfl, hb, hcells, d, hd⟩ := (HS.out.keep HI.out.2).at hlt
      have x0 := hcells k d hd
      have hdl := HL.out d (List.mem_of_getElem? hd)
      have HTK := Lib.hid (show (L.take (k + 1)).flatten = (L.take k).flatten ++ d by rw [List.take_add_one, hd]; simp)
      have hBr := HI.out.2.size
      clear hcells hb hd
      go_wp2_with (at_builtin; refine wl_appS rfl (.tmp 14) (.tmp 18) rfl rfl HI.out.1 rfl (by omega) hBr ?_; intro A3 n3 c3 w3 ho3 hb3 hg3; have hn3 : n3 ≤ n' + 1000 := (by have a := ho3.len; have b := HI.out.1.len; rw [List.length_append] at a; omega); have HO3 := Lib.hid (And.intro ho3 hb3); clear ho3 hb3 hg3)
      go_roundw
      case rel => exact ⟨k + 1, A3, n3, c3, rfl, by go_num, by omega, by omega, Lib.hid ⟨by rw [HTK.out, ← List.append_assoc]; exact HO3.out.1, HI.out.2.trans HO3.out.2⟩⟩
      case measure => simp [intOf]; omega
    · obtain rfl : k = n := by omega
      have HE := Lib.hid (show Code.num k ++ (L.take k).flatten = Hd.pathB L by unfold Hd.pathB; rw [hlen, ← hlen, List.take_length])
      go_wp2
      go_ret
      exact ⟨A', n', c', rfl, by rw [← HE.out]; exact HI.out.1, HI.out.2⟩
set_option maxRecDepth 100000 in
set_option maxHeartbeats 4000000 in
theorem headB_any (A : Option Addr) (n c : Nat) (h : Hd.H) (w : World) (hs : Sq sgc 4 w A n c h.segs) (ok : h.Ok) : Calls Tryd.prog 49 #[.agg #[.int .i64 h.size, sv h.log, .slice A n c]] w (Ret8 w.heap.size (Code.text h.bytes) w) := by
  have h1 := row_new w #[.int .i64 h.size, sv h.log, .slice A n c] 37
  have hb := (Below.refl w.heap.size w).alloc (Nat.le_refl _) (.cells #[.int .i64 h.size, sv h.log, .slice A n c] 37)
  obtain ⟨w1, hw1⟩ : ∃ W, w.alloc (.cells #[.int .i64 h.size, sv h.log, .slice A n c] 37) = W := ⟨_, rfl⟩
  rw [hw1] at h1 hb
  have HW1 := Lib.hid hw1
  have HB := Lib.hid hb
  have CW := Lib.hid (rhwrite_any A n c h w1 (hs.keep hb) ok)
  have hbl : h.bytes.length ≤ 10000 := by rw [← Hd.H.till_all rfl]; exact Hd.H.till_len ok _
  have CT := Lib.hid (fun W => rtext_any h.bytes W (by omega))
  unfold hdv Ret8 at CW
  unfold Ret8 at CT ⊢
  have x0 := h1.cellQ 0 _ rfl
  have x1 := h1.cellQ 1 _ rfl
  have x2 := h1.cellQ 2 _ rfl
  clear hs h1 hb hw1 ok
  go_enter Tryd.func49, Tryd.ntmps49
  go_upto_region 1 with fail
  rw [HW1.out]
  go_wp2_with fail
  (with_reducible refine CW.out.mono ?_)
  rintro e w2 ⟨A2, n2, c2, rfl, ho2, hb2⟩
  have HO2 := Lib.hid ho2
  have HB2 := Lib.hid (bt HB.out hb2)
  clear ho2 hb2 x0 x1 x2 CW
  go_wp2_with (refine wl_str rfl 30 9 (.tmp 4) rfl 5 Tryd.underlying30 Tryd.underlying5 Tryd.underlying9 A2 n2 c2 rfl _ h.bytes HO2.out.bs.rd HO2.out.len ?_)
  (with_reducible refine (CT.out _).mono ?_)
  rintro e w3 ⟨A3, n3, c3, rfl, ho3, hb3⟩
  have HO3 := Lib.hid (ho3.base HB2.out.size)
  have HB3 := Lib.hid (bt HB2.out hb3)
  clear ho3 hb3 CT
  go_wp2
  go_ret
  exact ⟨A3, n3, c3, rfl, HO3.out, HB3.out⟩
end Go.Proofs.YtfgpaepdlmnhaaaDoor

namespace Go.Proofs.YtfgpaepdlmnhaaaDoor
set_option maxRecDepth 100000
set_option linter.unusedVariables false
open Go.RowKit
theorem flatten_le : ∀ (l : List (List UInt8)) (m : Nat), (∀ d ∈ l, d.length ≤ m) → l.flatten.length ≤ m * l.length
  | [], m, _ => by simp
  | d :: l, m, h => by
    rw [List.flatten_cons, List.length_append, List.length_cons, Nat.mul_succ]
    have h1 := h d (List.mem_cons_self ..)
    have h2 := flatten_le l m (fun x hx => h x (List.mem_cons_of_mem _ hx))
    omega
namespace Hd
def Pg.fair (p : Pg) : Bool := p.h.ok && (decide (0 ≤ p.at_) && (decide (p.at_ ≤ 4611686018427387904) && (decide (p.doc.length ≤ 2000) && pathsOk p.path)))
def Stp.fair (p : Stp) : Bool := p.old.ok && (p.new.ok && pathsOk p.proof)
def Pg.bytes (p : Pg) : By := ((([2] ++ Code.text p.h.bytes) ++ Code.num p.at_.toNat) ++ Code.text p.doc) ++ pathB p.path
def Stp.bytes (p : Stp) : By := (([3] ++ Code.text p.old.bytes) ++ Code.text p.new.bytes) ++ pathB p.proof
end Hd
def Free.xH (B : Nat) (h : Hd.H) : Free.SV := ⟨fun v W => ∃ A n c, v = .agg #[.int .i64 h.size, sv h.log, .slice A n c] ∧ OwnR W B A n c h.segs, fun v W W' ⟨A, n, c, h1, h2⟩ g => ⟨A, n, c, h1, h2.keep g⟩⟩
theorem OwnR.sqK {w : World} {B n c : Nat} {A : Option Addr} {L : List Hd.Sg} (h : OwnR w B A n c L) : Sq sgc 4 w A n c L := h.sq
structure At_page (w : World) (A : Option Addr) (n c : Nat) (Ad : Option Addr) (nd cd : Nat) (Ap : Option Addr) (np cp : Nat) (p : Hd.Pg) : Prop where
  qh : Sq sgc 4 w A n c p.h.segs
  rh : ∀ s ∈ p.h.segs, s.rt.length ≤ 1000
  lh : p.h.log.length ≤ 1000
  nh : p.h.segs.length ≤ 1000
  lat_ : -9223372036854775808 ≤ p.at_ ∧ p.at_ ≤ 9223372036854775807
  qdoc : Bs w Ad nd cd p.doc
  ldoc : p.doc.length ≤ 100000
  qpath : Ss w Ap np cp p.path
  lpath : ∀ d ∈ p.path, d.length ≤ 1000
  npath : p.path.length ≤ 1000
theorem At_page.keep {w w' : World} {A : Option Addr} {n c : Nat} {Ad : Option Addr} {nd cd : Nat} {Ap : Option Addr} {np cp : Nat} {p : Hd.Pg} (h : At_page w A n c Ad nd cd Ap np cp p) (hb : Below w.heap.size w w') : At_page w' A n c Ad nd cd Ap np cp p := ⟨h.qh.keep hb, h.rh, h.lh, h.nh, h.lat_, h.qdoc.keep hb, h.ldoc, h.qpath.keep hb, h.lpath, h.npath⟩
def AsPost_page (A : Option Addr) (n c : Nat) (Ad : Option Addr) (nd cd : Nat) (Ap : Option Addr) (np cp : Nat) (p : Hd.Pg) (w : World) (e : Ending) (w' : World) : Prop := ∃ A1' n1' c1', e = .returned (.agg #[.int .i64 p.h.size, sv p.h.log, .slice A1' n1' c1', .int .i64 p.at_, .slice Ad nd cd, .slice Ap np cp]) ∧ OwnR w' w.heap.size A1' n1' c1' p.h.segs ∧ Below w.heap.size w w'
def Free.xMpage (B : Nat) (A : Option Addr) (n c : Nat) (Ad : Option Addr) (nd cd : Nat) (Ap : Option Addr) (np cp : Nat) (p : Hd.Pg) : Free.SV := ⟨fun v W => ∃ A1' n1' c1', v = .agg #[.int .i64 p.h.size, sv p.h.log, .slice A1' n1' c1', .int .i64 p.at_, .slice Ad nd cd, .slice Ap np cp] ∧ OwnR W B A1' n1' c1' p.h.segs, fun v W W' ⟨A1', n1', c1', h1, g0⟩ g => ⟨A1', n1', c1', h1, g0.keep g⟩⟩
set_option maxRecDepth 100000 in
set_option maxHeartbeats 16000000 in
theorem as_page (A : Option Addr) (n c : Nat) (Ad : Option Addr) (nd cd : Nat) (Ap : Option Addr) (np cp : Nat) (p : Hd.Pg) (w : World) (hm : At_page w A n c Ad nd cd Ap np cp p) : Calls Tryd.prog 20 #[.agg #[.int .i64 p.h.size, sv p.h.log, .slice A n c, .int .i64 p.at_, .slice Ad nd cd, .slice Ap np cp]] w (AsPost_page A n c Ad nd cd Ap np cp p w) := by
  have h1 := (row_new w #[.int .i64 p.h.size, sv p.h.log, .slice A n c, .int .i64 p.at_, .slice Ad nd cd, .slice Ap np cp] 48).alloc (.cells #[.int .i64 0, .string { data := #[] }, .slice none 0 0, .int .i64 0, .slice none 0 0, .slice none 0 0] 54)
  have h2 := row_new (w.alloc (.cells #[.int .i64 p.h.size, sv p.h.log, .slice A n c, .int .i64 p.at_, .slice Ad nd cd, .slice Ap np cp] 48)) #[.int .i64 0, .string { data := #[] }, .slice none 0 0, .int .i64 0, .slice none 0 0, .slice none 0 0] 54
  rw [size_alloc] at h2
  have hb := ((Below.refl w.heap.size w).alloc (Nat.le_refl _) (.cells #[.int .i64 p.h.size, sv p.h.log, .slice A n c, .int .i64 p.at_, .slice Ad nd cd, .slice Ap np cp] 48)).alloc (by rw [size_alloc]; omega) (.cells #[.int .i64 0, .string { data := #[] }, .slice none 0 0, .int .i64 0, .slice none 0 0, .slice none 0 0] 54)
  obtain ⟨w1, hw1⟩ : ∃ W, (w.alloc (.cells #[.int .i64 p.h.size, sv p.h.log, .slice A n c, .int .i64 p.at_, .slice Ad nd cd, .slice Ap np cp] 48)).alloc (.cells #[.int .i64 0, .string { data := #[] }, .slice none 0 0, .int .i64 0, .slice none 0 0, .slice none 0 0] 54) = W := ⟨_, rfl⟩
  rw [hw1] at h1 h2 hb
  have HW1 := Lib.hid hw1
  have HR1 := Lib.hid h1
  have HR2 := Lib.hid h2
  have HB := Lib.hid hb
  have HM := Lib.hid hm
  clear hw1 h1 h2 hb hm
  go_enter Tryd.func20, Tryd.ntmps20
  go_upto_region 1 with fail
  rw [HW1.out]
  refine Free.wp_free_l 10 (fun W => (Row W w.heap.size #[.int .i64 p.h.size, sv p.h.log, .slice A n c, .int .i64 p.at_, .slice Ad nd cd, .slice Ap np cp] 48 ∧ Row W (w.heap.size + 1) #[.int .i64 0, .string { data := #[] }, .slice none 0 0, .int .i64 0, .slice none 0 0, .slice none 0 0] 54) ∧ Below w.heap.size w W) [Free.kc (.pointer (some ⟨w.heap.size, 0, none⟩)), Free.kc (.agg #[.int .i64 p.h.size, sv p.h.log, .slice A n c]), Free.xH (w.heap.size) (p.h), Free.kc (.pointer (some ⟨w.heap.size, 3, none⟩)), Free.kc (.int .i64 p.at_), Free.kc (.pointer (some ⟨w.heap.size, 4, none⟩)), Free.kc (.slice Ad nd cd), Free.kc (.pointer (some ⟨w.heap.size, 5, none⟩)), Free.kc (.slice Ap np cp), Free.xMpage (w.heap.size) (A) (n) (c) (Ad) (nd) (cd) (Ap) (np) (cp) (p)] (by kernel_rfl) (by kernel_rfl) (by decide) ⟨⟨HR1.out.drew, HR2.out.drew⟩, HB.out.trans (bel_drew _ _)⟩ (fun W W' h g => ⟨⟨h.1.1.belowS g (Nat.le_refl _), h.1.2.belowS g (Nat.le_refl _)⟩, bt h.2 g⟩) ?_ ?_
  · refine Free.forall_succ (Free.forall_succ (Free.forall_succ (Free.forall_succ (Free.forall_succ (Free.forall_succ (Free.forall_succ (Free.forall_succ (Free.forall_succ (Free.forall_succ (Free.forall_zero) ?_) ?_) ?_) ?_) ?_) ?_) ?_) ?_) ?_) ?_
    · exact Free.ob_plain _ rfl rfl fun vals wq hC hd => (by exact d_field (cx := .pointer (some ⟨w.heap.size, 0, none⟩)) rfl (by kernel_rfl) (by go_simp) rfl)
    · exact Free.ob_plain _ rfl rfl fun vals wq hC hd => (by exact Free.d_load (cx := .pointer (some ⟨w.heap.size, 0, none⟩)) rfl (Eq.trans (b := vals 0) (by kernel_rfl) (hd 0 (by kernel_rfl))) (by have a0 := hC.1.1.cellQ 0 _ rfl; have a1 := hC.1.1.cellQ 1 _ rfl; have a2 := hC.1.1.cellQ 2 _ rfl; go_simp) rfl)
    · exact Free.ob_plain _ rfl rfl fun vals wq hC hd => (by exact Free.d_call Tryd.func47 rfl rfl rfl rfl (Free.arg1 (Eq.trans (b := vals 1) (by kernel_rfl) (hd 1 (by kernel_rfl)))) ((asHead_any A n c p.h wq ((HM.out.qh.keep hC.2)) (by have := HM.out.qh.len; have := HM.out.nh; omega)).mono fun e w2 ⟨A9, n9, c9, he, ho, hb⟩ => ⟨_, he, ⟨A9, n9, c9, rfl, ho.base hC.2.size⟩, hb⟩))
    · exact Free.ob_plain _ rfl rfl fun vals wq hC hd => (by exact d_field (cx := .pointer (some ⟨w.heap.size, 0, none⟩)) rfl (by kernel_rfl) (by go_simp) rfl)
    · exact Free.ob_plain _ rfl rfl fun vals wq hC hd => (by exact Free.d_load (cx := .pointer (some ⟨w.heap.size, 3, none⟩)) rfl (Eq.trans (b := vals 3) (by kernel_rfl) (hd 3 (by kernel_rfl))) (by have a0 := hC.1.1.cellQ 3 _ rfl; go_simp) rfl)
    · exact Free.ob_plain _ rfl rfl fun vals wq hC hd => (by exact d_field (cx := .pointer (some ⟨w.heap.size, 0, none⟩)) rfl (by kernel_rfl) (by go_simp) rfl)
    · exact Free.ob_plain _ rfl rfl fun vals wq hC hd => (by exact Free.d_load (cx := .pointer (some ⟨w.heap.size, 4, none⟩)) rfl (Eq.trans (b := vals 5) (by kernel_rfl) (hd 5 (by kernel_rfl))) (by have a0 := hC.1.1.cellQ 4 _ rfl; go_simp) rfl)
    · exact Free.ob_plain _ rfl rfl fun vals wq hC hd => (by exact d_field (cx := .pointer (some ⟨w.heap.size, 0, none⟩)) rfl (by kernel_rfl) (by go_simp) rfl)
    · exact Free.ob_plain _ rfl rfl fun vals wq hC hd => (by exact Free.d_load (cx := .pointer (some ⟨w.heap.size, 5, none⟩)) rfl (Eq.trans (b := vals 7) (by kernel_rfl) (hd 7 (by kernel_rfl))) (by have a0 := hC.1.1.cellQ 5 _ rfl; go_simp) rfl)
    · exact Free.ob_plain _ rfl rfl fun vals wq hC hd => (by obtain ⟨A2, n2, k2, e2, ow2⟩ := hd 2 (by kernel_rfl); exact FreeP.d_buildS rfl (Free.parts4 (Eq.trans (b := vals 2) (by kernel_rfl) e2) (Eq.trans (b := vals 4) (by kernel_rfl) (hd 4 (by kernel_rfl))) (Eq.trans (b := vals 6) (by kernel_rfl) (hd 6 (by kernel_rfl))) (Eq.trans (b := vals 8) (by kernel_rfl) (hd 8 (by kernel_rfl)))) (by go_simp) ⟨A2, n2, k2, rfl, ow2⟩)
  · intro vals wq hC hd
    have e0 : vals 0 = (.pointer (some ⟨w.heap.size, 0, none⟩)) := hd 0 (by decide)
    have e1 : vals 1 = (.agg #[.int .i64 p.h.size, sv p.h.log, .slice A n c]) := hd 1 (by decide)
    obtain ⟨A2, n2, k2, e2, ow2⟩ := hd 2 (by decide)
    have e3 : vals 3 = (.pointer (some ⟨w.heap.size, 3, none⟩)) := hd 3 (by decide)
    have e4 : vals 4 = (.int .i64 p.at_) := hd 4 (by decide)
    have e5 : vals 5 = (.pointer (some ⟨w.heap.size, 4, none⟩)) := hd 5 (by decide)
    have e6 : vals 6 = (.slice Ad nd cd) := hd 6 (by decide)
    have e7 : vals 7 = (.pointer (some ⟨w.heap.size, 5, none⟩)) := hd 7 (by decide)
    have e8 : vals 8 = (.slice Ap np cp) := hd 8 (by decide)
    obtain ⟨A1', n1', c1', e9, ob0⟩ := hd 9 (by decide)
    simp only [Free.frameOf, List.range, List.range.loop, List.foldl, Free.dstOf, List.getElem?_toArray, List.getElem?_cons_zero, List.getElem?_cons_succ, Option.bind_some, Act.put, List.setIfInBounds_toArray, List.set_cons_zero, List.set_cons_succ, e0, e1, e2, e3, e4, e5, e6, e7, e8, e9]
    clear hd e0 e1 e2 e3 e4 e5 e6 e7 e8 e9
    have z0 := hC.1.2.cellQ 0 _ rfl
    have y0 := hC.1.2.frozen 0
    have z1 := hC.1.2.cellQ 1 _ rfl
    have y1 := hC.1.2.frozen 1
    have z2 := hC.1.2.cellQ 2 _ rfl
    have y2 := hC.1.2.frozen 2
    have z3 := hC.1.2.cellQ 3 _ rfl
    have y3 := hC.1.2.frozen 3
    have z4 := hC.1.2.cellQ 4 _ rfl
    have y4 := hC.1.2.frozen 4
    have z5 := hC.1.2.cellQ 5 _ rfl
    have y5 := hC.1.2.frozen 5
    have HC := Lib.hid hC
    clear hC
    have OB0 := Lib.hid ob0
    clear ob0
    go_wp2
    generalize hwf : World.setCell (World.setCell (World.setCell (World.setCell (World.setCell (World.setCell wq _ _) _ _) _ _) _ _) _ _) _ _ = wf
    have hsf : setFrom (w.heap.size + 1) wq 0 [.int .i64 p.h.size, sv p.h.log, .slice A1' n1' c1', .int .i64 p.at_, .slice Ad nd cd, .slice Ap np cp] = wf := by rw [← hwf]; rfl
    have hrow := HC.out.1.2.all [.int .i64 p.h.size, sv p.h.log, .slice A1' n1' c1', .int .i64 p.at_, .slice Ad nd cd, .slice Ap np cp] rfl
    rw [hsf] at hrow
    have r0 := hrow.cellQ 0 _ rfl
    have r1 := hrow.cellQ 1 _ rfl
    have r2 := hrow.cellQ 2 _ rfl
    have r3 := hrow.cellQ 3 _ rfl
    have r4 := hrow.cellQ 4 _ rfl
    have r5 := hrow.cellQ 5 _ rfl
    refine bodyPost_ret (v := .agg #[.int .i64 p.h.size, sv p.h.log, .slice A1' n1' c1', .int .i64 p.at_, .slice Ad nd cd, .slice Ap np cp]) (by simp [results, Tryd.results20, go_sem, r0, r1, r2, r3, r4, r5]) rfl ?_
    exact ⟨A1', n1', c1', rfl, (by rw [← hsf]; exact OB0.out.setA HC.out.1.2 (by decide) _ 0), (by rw [← hsf]; exact below_setFrom (by omega) _ 0 HC.out.2)⟩
set_option maxRecDepth 100000 in
set_option maxHeartbeats 16000000 in
theorem fair_page (A : Option Addr) (n c : Nat) (Ad : Option Addr) (nd cd : Nat) (Ap : Option Addr) (np cp : Nat) (p : Hd.Pg) (w : World) (hm : At_page w A n c Ad nd cd Ap np cp p) : Calls Tryd.prog 19 #[.agg #[.int .i64 p.h.size, sv p.h.log, .slice A n c, .int .i64 p.at_, .slice Ad nd cd, .slice Ap np cp]] w (RetB p.fair w) := by
  have h1 := row_new w #[.int .i64 p.h.size, sv p.h.log, .slice A n c, .int .i64 p.at_, .slice Ad nd cd, .slice Ap np cp] 54
  have hb := (Below.refl w.heap.size w).alloc (Nat.le_refl _) (.cells #[.int .i64 p.h.size, sv p.h.log, .slice A n c, .int .i64 p.at_, .slice Ad nd cd, .slice Ap np cp] 54)
  obtain ⟨w1, hw1⟩ : ∃ W, w.alloc (.cells #[.int .i64 p.h.size, sv p.h.log, .slice A n c, .int .i64 p.at_, .slice Ad nd cd, .slice Ap np cp] 54) = W := ⟨_, rfl⟩
  rw [hw1] at h1 hb
  have HW1 := Lib.hid hw1
  have HR1 := Lib.hid h1
  have HB0 := Lib.hid hb
  have HM := Lib.hid hm
  clear hw1 h1 hb hm
  have hlndoc := HM.out.qdoc.len
  have hcpdoc := HM.out.qdoc.cap
  have hmxdoc := HM.out.qdoc.max
  rw [maxLen_eq] at hmxdoc
  by_cases ht0 : p.h.ok = true
  rotate_left
  · have HT0 := Lib.hid (show p.h.ok = false by simpa using ht0)
    have HE := Lib.hid (show p.fair = false by unfold Hd.Pg.fair; simp [ht0])
    clear ht0
    go_enter Tryd.func19, Tryd.ntmps19
    go_upto_region 1 with fail
    rw [HW1.out]
    have x0 := HR1.out.cellQ 0 _ rfl
    have x1 := HR1.out.cellQ 1 _ rfl
    have x2 := HR1.out.cellQ 2 _ rfl
    have x3 := HR1.out.cellQ 3 _ rfl
    have x4 := HR1.out.cellQ 4 _ rfl
    have x5 := HR1.out.cellQ 5 _ rfl
    have C := Lib.hid (rhright_any A n c p.h w1 (HM.out.keep HB0.out).qh HM.out.rh HM.out.lh)
    unfold hdv RetB at C
    go_wp2_with fail
    (with_reducible refine C.out.mono ?_)
    rintro e w20 ⟨rfl, hb9⟩
    clear C
    rw [HT0.out]
    have HB1 := Lib.hid (bt HB0.out hb9)
    have HR9 := Lib.hid (HR1.out.belowS hb9 (Nat.le_refl _))
    clear hb9 x0 x1 x2 x3 x4 x5
    have x0 := HR9.out.cellQ 0 _ rfl
    have x1 := HR9.out.cellQ 1 _ rfl
    have x2 := HR9.out.cellQ 2 _ rfl
    have x3 := HR9.out.cellQ 3 _ rfl
    have x4 := HR9.out.cellQ 4 _ rfl
    have x5 := HR9.out.cellQ 5 _ rfl
    go_wp2
    go_ret
    rw [HE.out]
    exact ⟨rfl, HB1.out⟩
  have HT0 := Lib.hid ht0
  by_cases ht1 : 0 ≤ p.at_
  rotate_left
  · have HE := Lib.hid (show p.fair = false by unfold Hd.Pg.fair; simp [ht0, ht1])
    clear ht0
    go_enter Tryd.func19, Tryd.ntmps19
    go_upto_region 1 with fail
    rw [HW1.out]
    have x0 := HR1.out.cellQ 0 _ rfl
    have x1 := HR1.out.cellQ 1 _ rfl
    have x2 := HR1.out.cellQ 2 _ rfl
    have x3 := HR1.out.cellQ 3 _ rfl
    have x4 := HR1.out.cellQ 4 _ rfl
    have x5 := HR1.out.cellQ 5 _ rfl
    have C := Lib.hid (rhright_any A n c p.h w1 (HM.out.keep HB0.out).qh HM.out.rh HM.out.lh)
    unfold hdv RetB at C
    go_wp2_with fail
    (with_reducible refine C.out.mono ?_)
    rintro e w20 ⟨rfl, hb9⟩
    clear C
    rw [HT0.out]
    have HB1 := Lib.hid (bt HB0.out hb9)
    have HR9 := Lib.hid (HR1.out.belowS hb9 (Nat.le_refl _))
    clear hb9 x0 x1 x2 x3 x4 x5
    have x0 := HR9.out.cellQ 0 _ rfl
    have x1 := HR9.out.cellQ 1 _ rfl
    have x2 := HR9.out.cellQ 2 _ rfl
    have x3 := HR9.out.cellQ 3 _ rfl
    have x4 := HR9.out.cellQ 4 _ rfl
    have x5 := HR9.out.cellQ 5 _ rfl
    go_wp2
    go_ret
    rw [HE.out]
    exact ⟨rfl, HB1.out⟩
  by_cases ht2 : p.at_ ≤ 4611686018427387904
  rotate_left
  · have HE := Lib.hid (show p.fair = false by unfold Hd.Pg.fair; simp [ht0, ht1, ht2])
    clear ht0
    go_enter Tryd.func19, Tryd.ntmps19
    go_upto_region 1 with fail
    rw [HW1.out]
    have x0 := HR1.out.cellQ 0 _ rfl
    have x1 := HR1.out.cellQ 1 _ rfl
    have x2 := HR1.out.cellQ 2 _ rfl
    have x3 := HR1.out.cellQ 3 _ rfl
    have x4 := HR1.out.cellQ 4 _ rfl
    have x5 := HR1.out.cellQ 5 _ rfl
    have C := Lib.hid (rhright_any A n c p.h w1 (HM.out.keep HB0.out).qh HM.out.rh HM.out.lh)
    unfold hdv RetB at C
    go_wp2_with fail
    (with_reducible refine C.out.mono ?_)
    rintro e w20 ⟨rfl, hb9⟩
    clear C
    rw [HT0.out]
    have HB1 := Lib.hid (bt HB0.out hb9)
    have HR9 := Lib.hid (HR1.out.belowS hb9 (Nat.le_refl _))
    clear hb9 x0 x1 x2 x3 x4 x5
    have x0 := HR9.out.cellQ 0 _ rfl
    have x1 := HR9.out.cellQ 1 _ rfl
    have x2 := HR9.out.cellQ 2 _ rfl
    have x3 := HR9.out.cellQ 3 _ rfl
    have x4 := HR9.out.cellQ 4 _ rfl
    have x5 := HR9.out.cellQ 5 _ rfl
    go_wp2
    go_ret
    rw [HE.out]
    exact ⟨rfl, HB1.out⟩
  by_cases ht3 : p.doc.length ≤ 2000
  rotate_left
  · have hti3 : ¬ (nd : Int) ≤ 2000 := by omega
    have HE := Lib.hid (show p.fair = false by unfold Hd.Pg.fair; simp [ht0, ht1, ht2, ht3])
    clear ht0 ht3
    go_enter Tryd.func19, Tryd.ntmps19
    go_upto_region 1 with fail
    rw [HW1.out]
    have x0 := HR1.out.cellQ 0 _ rfl
    have x1 := HR1.out.cellQ 1 _ rfl
    have x2 := HR1.out.cellQ 2 _ rfl
    have x3 := HR1.out.cellQ 3 _ rfl
    have x4 := HR1.out.cellQ 4 _ rfl
    have x5 := HR1.out.cellQ 5 _ rfl
    have C := Lib.hid (rhright_any A n c p.h w1 (HM.out.keep HB0.out).qh HM.out.rh HM.out.lh)
    unfold hdv RetB at C
    go_wp2_with fail
    (with_reducible refine C.out.mono ?_)
    rintro e w20 ⟨rfl, hb9⟩
    clear C
    rw [HT0.out]
    have HB1 := Lib.hid (bt HB0.out hb9)
    have HR9 := Lib.hid (HR1.out.belowS hb9 (Nat.le_refl _))
    clear hb9 x0 x1 x2 x3 x4 x5
    have x0 := HR9.out.cellQ 0 _ rfl
    have x1 := HR9.out.cellQ 1 _ rfl
    have x2 := HR9.out.cellQ 2 _ rfl
    have x3 := HR9.out.cellQ 3 _ rfl
    have x4 := HR9.out.cellQ 4 _ rfl
    have x5 := HR9.out.cellQ 5 _ rfl
    go_wp2
    go_ret
    rw [HE.out]
    exact ⟨rfl, HB1.out⟩
  have hti3 : (nd : Int) ≤ 2000 := by omega
  by_cases ht4 : Hd.pathsOk p.path = true
  rotate_left
  · have HT4 := Lib.hid (show Hd.pathsOk p.path = false by simpa using ht4)
    have HE := Lib.hid (show p.fair = false by unfold Hd.Pg.fair; simp [ht0, ht1, ht2, ht3, ht4])
    clear ht0 ht3 ht4
    go_enter Tryd.func19, Tryd.ntmps19
    go_upto_region 1 with fail
    rw [HW1.out]
    have x0 := HR1.out.cellQ 0 _ rfl
    have x1 := HR1.out.cellQ 1 _ rfl
    have x2 := HR1.out.cellQ 2 _ rfl
    have x3 := HR1.out.cellQ 3 _ rfl
    have x4 := HR1.out.cellQ 4 _ rfl
    have x5 := HR1.out.cellQ 5 _ rfl
    have C := Lib.hid (rhright_any A n c p.h w1 (HM.out.keep HB0.out).qh HM.out.rh HM.out.lh)
    unfold hdv RetB at C
    go_wp2_with fail
    (with_reducible refine C.out.mono ?_)
    rintro e w20 ⟨rfl, hb9⟩
    clear C
    rw [HT0.out]
    have HB1 := Lib.hid (bt HB0.out hb9)
    have HR9 := Lib.hid (HR1.out.belowS hb9 (Nat.le_refl _))
    clear hb9 x0 x1 x2 x3 x4 x5
    have x0 := HR9.out.cellQ 0 _ rfl
    have x1 := HR9.out.cellQ 1 _ rfl
    have x2 := HR9.out.cellQ 2 _ rfl
    have x3 := HR9.out.cellQ 3 _ rfl
    have x4 := HR9.out.cellQ 4 _ rfl
    have x5 := HR9.out.cellQ 5 _ rfl
    have C := Lib.hid (paths_any Ap np cp p.path w20 (HM.out.keep HB1.out).qpath (fun d hd => by have := HM.out.lpath d hd; rw [maxLen_eq]; omega))
    unfold RetV at C
    go_wp2_with fail
    (with_reducible refine C.out.mono ?_)
    rintro e w24 ⟨rfl, hb9⟩
    clear C
    rw [HT4.out]
    have HB5 := Lib.hid (bt HB1.out hb9)
    have HR9 := Lib.hid (HR9.out.belowS hb9 (Nat.le_refl _))
    clear hb9 x0 x1 x2 x3 x4 x5
    have x0 := HR9.out.cellQ 0 _ rfl
    have x1 := HR9.out.cellQ 1 _ rfl
    have x2 := HR9.out.cellQ 2 _ rfl
    have x3 := HR9.out.cellQ 3 _ rfl
    have x4 := HR9.out.cellQ 4 _ rfl
    have x5 := HR9.out.cellQ 5 _ rfl
    go_wp2
    go_ret
    rw [HE.out]
    exact ⟨rfl, HB5.out⟩
  have HT4 := Lib.hid ht4
  have HE := Lib.hid (show p.fair = true by unfold Hd.Pg.fair; simp [ht0, ht1, ht2, ht3, ht4])
  clear ht0 ht3 ht4
  go_enter Tryd.func19, Tryd.ntmps19
  go_upto_region 1 with fail
  rw [HW1.out]
  have x0 := HR1.out.cellQ 0 _ rfl
  have x1 := HR1.out.cellQ 1 _ rfl
  have x2 := HR1.out.cellQ 2 _ rfl
  have x3 := HR1.out.cellQ 3 _ rfl
  have x4 := HR1.out.cellQ 4 _ rfl
  have x5 := HR1.out.cellQ 5 _ rfl
  have C := Lib.hid (rhright_any A n c p.h w1 (HM.out.keep HB0.out).qh HM.out.rh HM.out.lh)
  unfold hdv RetB at C
  go_wp2_with fail
  (with_reducible refine C.out.mono ?_)
  rintro e w20 ⟨rfl, hb9⟩
  clear C
  rw [HT0.out]
  have HB1 := Lib.hid (bt HB0.out hb9)
  have HR9 := Lib.hid (HR1.out.belowS hb9 (Nat.le_refl _))
  clear hb9 x0 x1 x2 x3 x4 x5
  have x0 := HR9.out.cellQ 0 _ rfl
  have x1 := HR9.out.cellQ 1 _ rfl
  have x2 := HR9.out.cellQ 2 _ rfl
  have x3 := HR9.out.cellQ 3 _ rfl
  have x4 := HR9.out.cellQ 4 _ rfl
  have x5 := HR9.out.cellQ 5 _ rfl
  have C := Lib.hid (paths_any Ap np cp p.path w20 (HM.out.keep HB1.out).qpath (fun d hd => by have := HM.out.lpath d hd; rw [maxLen_eq]; omega))
  unfold RetV at C
  go_wp2_with fail
  (with_reducible refine C.out.mono ?_)
  rintro e w24 ⟨rfl, hb9⟩
  clear C
  rw [HT4.out]
  have HB5 := Lib.hid (bt HB1.out hb9)
  have HR9 := Lib.hid (HR9.out.belowS hb9 (Nat.le_refl _))
  clear hb9 x0 x1 x2 x3 x4 x5
  have x0 := HR9.out.cellQ 0 _ rfl
  have x1 := HR9.out.cellQ 1 _ rfl
  have x2 := HR9.out.cellQ 2 _ rfl
  have x3 := HR9.out.cellQ 3 _ rfl
  have x4 := HR9.out.cellQ 4 _ rfl
  have x5 := HR9.out.cellQ 5 _ rfl
  go_wp2
  go_ret
  rw [HE.out]
  exact ⟨rfl, HB5.out⟩
set_option maxRecDepth 100000 in
set_option maxHeartbeats 16000000 in
theorem wrB_page (A : Option Addr) (n c : Nat) (Ad : Option Addr) (nd cd : Nat) (Ap : Option Addr) (np cp : Nat) (p : Hd.Pg) (w : World) (hm : At_page w A n c Ad nd cd Ap np cp p) (okh : p.h.Ok) (h0at_ : 0 ≤ p.at_) (h1at_ : p.at_ ≤ 4611686018427387904) (h32path : p.path.length ≤ 64) : Calls Tryd.prog 22 #[.agg #[.int .i64 p.h.size, sv p.h.log, .slice A n c, .int .i64 p.at_, .slice Ad nd cd, .slice Ap np cp]] w (Ret8 w.heap.size p.bytes w) := by
  have h1 := row_new w #[.int .i64 p.h.size, sv p.h.log, .slice A n c, .int .i64 p.at_, .slice Ad nd cd, .slice Ap np cp] 54
  have hb := (Below.refl w.heap.size w).alloc (Nat.le_refl _) (.cells #[.int .i64 p.h.size, sv p.h.log, .slice A n c, .int .i64 p.at_, .slice Ad nd cd, .slice Ap np cp] 54)
  obtain ⟨w1, hw1⟩ : ∃ W, w.alloc (.cells #[.int .i64 p.h.size, sv p.h.log, .slice A n c, .int .i64 p.at_, .slice Ad nd cd, .slice Ap np cp] 54) = W := ⟨_, rfl⟩
  rw [hw1] at h1 hb
  have HW1 := Lib.hid hw1
  have h2 := h1.alloc (.cells #[.int .u8 2] 5)
  have o2 := Own8.new w1 [2] [.int .u8 2] (B := w.heap.size) (n := 1) hb.size rfl rfl (by decide)
  have hb2 := hb.alloc (Nat.le_trans (Nat.le_refl _) hb.size) (.cells #[.int .u8 2] 5)
  obtain ⟨w2, hw2⟩ : ∃ W, w1.alloc (.cells #[.int .u8 2] 5) = W := ⟨_, rfl⟩
  rw [show (([Value.int .u8 2] : List Value).toArray) = #[.int .u8 2] from rfl, hw2] at o2
  rw [hw2] at h2 hb2
  have HW2 := Lib.hid hw2
  have HR0 := Lib.hid h2
  have HB0 := Lib.hid hb2
  have HO0 := Lib.hid o2
  have HM := Lib.hid hm
  clear hw1 hw2 h1 h2 hb hb2 o2 hm
  have hb_h : (Code.text p.h.bytes).length ≤ 10009 := by have h1 := text_len p.h.bytes (by rw [← Hd.H.till_all rfl]; have := Hd.H.till_len okh p.h.segs.length; omega); have h2 : p.h.bytes.length ≤ 10000 := (by rw [← Hd.H.till_all rfl]; exact Hd.H.till_len okh _); omega
  have hb_at_ := Code.num_len9 p.at_.toNat (by omega)
  have hb_doc := text_len p.doc (by have := HM.out.ldoc; omega)
  have hl_doc := HM.out.ldoc
  have hb_path : (Hd.pathB p.path).length ≤ 64009 := by
    unfold Hd.pathB
    have h1 := Code.num_len9 p.path.length (by omega)
    have h2 := flatten_le p.path 1000 HM.out.lpath
    rw [List.length_append]
    omega
  go_enter Tryd.func22, Tryd.ntmps22
  go_upto_region 1 with fail
  rw [HW1.out]
  have x0 := HR0.out.cellQ 0 _ rfl
  have x1 := HR0.out.cellQ 1 _ rfl
  have x2 := HR0.out.cellQ 2 _ rfl
  have C := Lib.hid (headB_any A n c p.h w2 (HM.out.keep HB0.out).qh okh)
  unfold Ret8 at C
  have xl : w1.alloc (.cells #[.int .u8 2] 5) = w2 := HW2.out
  go_wp2_with fail
  (with_reducible refine C.out.mono ?_)
  rintro e w10 ⟨A0', n0', c0', rfl, ho, hb⟩
  have HP0 := Lib.hid ho
  have HX0 := Lib.hid (HO0.out.keep hb)
  have HS0 := Lib.hid (HR0.out.belowS hb (Nat.le_refl _))
  have HC0 := Lib.hid (bt HB0.out hb)
  have hl0 := HX0.out.len
  have hm0 := ho.len
  simp only [List.length_cons, List.length_nil] at hl0
  have hBB := HC0.out.size
  clear ho hb C x0 x1 x2 xl
  go_upto_region 2 with (at_builtin; refine wl_app8 rfl (.tmp 4) (.tmp 7) rfl rfl HX0.out rfl HP0.out.bs (by omega) hBB ?_; intro A9 n9 c9 w20 ho9 hb9 hg9; have HO1 := Lib.hid ho9; have HB1 := Lib.hid (HC0.out.trans hb9); have HR1 := Lib.hid (HS0.out.keepTy (by decide) (KeepTy.grown (S := [5]) HX0.out.own (by decide) hg9 hb9.size)); clear ho9 hb9 hg9 hBB)
  have x3 := HR1.out.cellQ 3 _ rfl
  have C := Lib.hid ((show Calls Tryd.prog 50 #[.int .i64 p.at_] w20 (Ret8 w20.heap.size (Code.num p.at_.toNat) w20) from by have := rnum_any p.at_.toNat p.at_.toNat w20 (Nat.le_refl _) (by omega); rw [Int.toNat_of_nonneg h0at_] at this; exact this))
  unfold Ret8 at C
  go_wp2_with fail
  (with_reducible refine C.out.mono ?_)
  rintro e w11 ⟨A1', n1', c1', rfl, ho, hb⟩
  have HP1 := Lib.hid ho
  have HX1 := Lib.hid (HO1.out.keep hb)
  have HS1 := Lib.hid (HR1.out.belowS hb (Nat.le_refl _))
  have HC1 := Lib.hid (bt HB1.out hb)
  have hl1 := HX1.out.len
  have hm1 := ho.len
  simp only [List.length_append, List.length_cons, List.length_nil] at hl1
  have hBB := HC1.out.size
  clear ho hb C x3
  go_upto_region 3 with (at_builtin; refine wl_app8 rfl (.tmp 9) (.tmp 12) rfl rfl HX1.out rfl HP1.out.bs (by omega) hBB ?_; intro A9 n9 c9 w21 ho9 hb9 hg9; have HO2 := Lib.hid ho9; have HB2 := Lib.hid (HC1.out.trans hb9); have HR2 := Lib.hid (HS1.out.keepTy (by decide) (KeepTy.grown (S := [5]) HX1.out.own (by decide) hg9 hb9.size)); clear ho9 hb9 hg9 hBB)
  have x4 := HR2.out.cellQ 4 _ rfl
  have C := Lib.hid (rtext_any p.doc w21 (by omega))
  unfold Ret8 at C
  go_wp2_with (refine wl_str rfl 30 9 (.tmp 16) rfl 5 Tryd.underlying30 Tryd.underlying5 Tryd.underlying9 Ad nd cd rfl _ p.doc (HM.out.keep HB2.out).qdoc.rd (HM.out.keep HB2.out).qdoc.len ?_)
  (with_reducible refine C.out.mono ?_)
  rintro e w12 ⟨A2', n2', c2', rfl, ho, hb⟩
  have HP2 := Lib.hid ho
  have HX2 := Lib.hid (HO2.out.keep hb)
  have HS2 := Lib.hid (HR2.out.belowS hb (Nat.le_refl _))
  have HC2 := Lib.hid (bt HB2.out hb)
  have hl2 := HX2.out.len
  have hm2 := ho.len
  simp only [List.length_append, List.length_cons, List.length_nil] at hl2
  have hBB := HC2.out.size
  clear ho hb C x4
  go_upto_region 4 with (at_builtin; refine wl_app8 rfl (.tmp 14) (.tmp 18) rfl rfl HX2.out rfl HP2.out.bs (by omega) hBB ?_; intro A9 n9 c9 w22 ho9 hb9 hg9; have HO3 := Lib.hid ho9; have HB3 := Lib.hid (HC2.out.trans hb9); have HR3 := Lib.hid (HS2.out.keepTy (by decide) (KeepTy.grown (S := [5]) HX2.out.own (by decide) hg9 hb9.size)); clear ho9 hb9 hg9 hBB)
  have x5 := HR3.out.cellQ 5 _ rfl
  have C := Lib.hid (pathB_any Ap np cp p.path w22 (HM.out.keep HB3.out).qpath (by have := HM.out.qpath.len; omega) HM.out.lpath)
  unfold Ret8 at C
  go_wp2_with fail
  (with_reducible refine C.out.mono ?_)
  rintro e w13 ⟨A3', n3', c3', rfl, ho, hb⟩
  have HP3 := Lib.hid ho
  have HX3 := Lib.hid (HO3.out.keep hb)
  have HS3 := Lib.hid (HR3.out.belowS hb (Nat.le_refl _))
  have HC3 := Lib.hid (bt HB3.out hb)
  have hl3 := HX3.out.len
  have hm3 := ho.len
  simp only [List.length_append, List.length_cons, List.length_nil] at hl3
  have hBB := HC3.out.size
  clear ho hb C x5
  go_wp2_with (at_builtin; refine wl_app8 rfl (.tmp 20) (.tmp 23) rfl rfl HX3.out rfl HP3.out.bs (by omega) hBB ?_; intro A9 n9 c9 w23 ho9 hb9 hg9; have HO4 := Lib.hid ho9; have HB4 := Lib.hid (HC3.out.trans hb9); have HR4 := Lib.hid (HS3.out.keepTy (by decide) (KeepTy.grown (S := [5]) HX3.out.own (by decide) hg9 hb9.size)); clear ho9 hb9 hg9 hBB)
  go_ret
  exact ⟨_, _, _, rfl, HO4.out, HB4.out⟩
structure At_step (w : World) (A : Option Addr) (n c : Nat) (Ad : Option Addr) (nd cd : Nat) (Ap : Option Addr) (np cp : Nat) (p : Hd.Stp) : Prop where
  qold : Sq sgc 4 w A n c p.old.segs
  rold : ∀ s ∈ p.old.segs, s.rt.length ≤ 1000
  lold : p.old.log.length ≤ 1000
  nold : p.old.segs.length ≤ 1000
  qnew : Sq sgc 4 w Ad nd cd p.new.segs
  rnew : ∀ s ∈ p.new.segs, s.rt.length ≤ 1000
  lnew : p.new.log.length ≤ 1000
  nnew : p.new.segs.length ≤ 1000
  qproof : Ss w Ap np cp p.proof
  lproof : ∀ d ∈ p.proof, d.length ≤ 1000
  nproof : p.proof.length ≤ 1000
theorem At_step.keep {w w' : World} {A : Option Addr} {n c : Nat} {Ad : Option Addr} {nd cd : Nat} {Ap : Option Addr} {np cp : Nat} {p : Hd.Stp} (h : At_step w A n c Ad nd cd Ap np cp p) (hb : Below w.heap.size w w') : At_step w' A n c Ad nd cd Ap np cp p := ⟨h.qold.keep hb, h.rold, h.lold, h.nold, h.qnew.keep hb, h.rnew, h.lnew, h.nnew, h.qproof.keep hb, h.lproof, h.nproof⟩
def AsPost_step (A : Option Addr) (n c : Nat) (Ad : Option Addr) (nd cd : Nat) (Ap : Option Addr) (np cp : Nat) (p : Hd.Stp) (w : World) (e : Ending) (w' : World) : Prop := ∃ A1' n1' c1' A2' n2' c2', e = .returned (.agg #[.int .i64 p.old.size, sv p.old.log, .slice A1' n1' c1', .int .i64 p.new.size, sv p.new.log, .slice A2' n2' c2', .slice Ap np cp]) ∧ OwnR w' w.heap.size A1' n1' c1' p.old.segs ∧ OwnR w' w.heap.size A2' n2' c2' p.new.segs ∧ Below w.heap.size w w'
def Free.xMstep (B : Nat) (A : Option Addr) (n c : Nat) (Ad : Option Addr) (nd cd : Nat) (Ap : Option Addr) (np cp : Nat) (p : Hd.Stp) : Free.SV := ⟨fun v W => ∃ A1' n1' c1' A2' n2' c2', v = .agg #[.int .i64 p.old.size, sv p.old.log, .slice A1' n1' c1', .int .i64 p.new.size, sv p.new.log, .slice A2' n2' c2', .slice Ap np cp] ∧ OwnR W B A1' n1' c1' p.old.segs ∧ OwnR W B A2' n2' c2' p.new.segs, fun v W W' ⟨A1', n1', c1', A2', n2', c2', h1, g0, g1⟩ g => ⟨A1', n1', c1', A2', n2', c2', h1, g0.keep g, g1.keep g⟩⟩
set_option maxRecDepth 100000 in
set_option maxHeartbeats 16000000 in
theorem as_step (A : Option Addr) (n c : Nat) (Ad : Option Addr) (nd cd : Nat) (Ap : Option Addr) (np cp : Nat) (p : Hd.Stp) (w : World) (hm : At_step w A n c Ad nd cd Ap np cp p) : Calls Tryd.prog 26 #[.agg #[.int .i64 p.old.size, sv p.old.log, .slice A n c, .int .i64 p.new.size, sv p.new.log, .slice Ad nd cd, .slice Ap np cp]] w (AsPost_step A n c Ad nd cd Ap np cp p w) := by
  have h1 := (row_new w #[.int .i64 p.old.size, sv p.old.log, .slice A n c, .int .i64 p.new.size, sv p.new.log, .slice Ad nd cd, .slice Ap np cp] 62).alloc (.cells #[.int .i64 0, .string { data := #[] }, .slice none 0 0, .int .i64 0, .string { data := #[] }, .slice none 0 0, .slice none 0 0] 66)
  have h2 := row_new (w.alloc (.cells #[.int .i64 p.old.size, sv p.old.log, .slice A n c, .int .i64 p.new.size, sv p.new.log, .slice Ad nd cd, .slice Ap np cp] 62)) #[.int .i64 0, .string { data := #[] }, .slice none 0 0, .int .i64 0, .string { data := #[] }, .slice none 0 0, .slice none 0 0] 66
  rw [size_alloc] at h2
  have hb := ((Below.refl w.heap.size w).alloc (Nat.le_refl _) (.cells #[.int .i64 p.old.size, sv p.old.log, .slice A n c, .int .i64 p.new.size, sv p.new.log, .slice Ad nd cd, .slice Ap np cp] 62)).alloc (by rw [size_alloc]; omega) (.cells #[.int .i64 0, .string { data := #[] }, .slice none 0 0, .int .i64 0, .string { data := #[] }, .slice none 0 0, .slice none 0 0] 66)
  obtain ⟨w1, hw1⟩ : ∃ W, (w.alloc (.cells #[.int .i64 p.old.size, sv p.old.log, .slice A n c, .int .i64 p.new.size, sv p.new.log, .slice Ad nd cd, .slice Ap np cp] 62)).alloc (.cells #[.int .i64 0, .string { data := #[] }, .slice none 0 0, .int .i64 0, .string { data := #[] }, .slice none 0 0, .slice none 0 0] 66) = W := ⟨_, rfl⟩
  rw [hw1] at h1 h2 hb
  have HW1 := Lib.hid hw1
  have HR1 := Lib.hid h1
  have HR2 := Lib.hid h2
  have HB := Lib.hid hb
  have HM := Lib.hid hm
  clear hw1 h1 h2 hb hm
  go_enter Tryd.func26, Tryd.ntmps26
  go_upto_region 1 with fail
  rw [HW1.out]
  refine Free.wp_free_l 9 (fun W => (Row W w.heap.size #[.int .i64 p.old.size, sv p.old.log, .slice A n c, .int .i64 p.new.size, sv p.new.log, .slice Ad nd cd, .slice Ap np cp] 62 ∧ Row W (w.heap.size + 1) #[.int .i64 0, .string { data := #[] }, .slice none 0 0, .int .i64 0, .string { data := #[] }, .slice none 0 0, .slice none 0 0] 66) ∧ Below w.heap.size w W) [Free.kc (.pointer (some ⟨w.heap.size, 0, none⟩)), Free.kc (.agg #[.int .i64 p.old.size, sv p.old.log, .slice A n c]), Free.xH (w.heap.size) (p.old), Free.kc (.pointer (some ⟨w.heap.size, 3, none⟩)), Free.kc (.agg #[.int .i64 p.new.size, sv p.new.log, .slice Ad nd cd]), Free.xH (w.heap.size) (p.new), Free.kc (.pointer (some ⟨w.heap.size, 6, none⟩)), Free.kc (.slice Ap np cp), Free.xMstep (w.heap.size) (A) (n) (c) (Ad) (nd) (cd) (Ap) (np) (cp) (p)] (by kernel_rfl) (by kernel_rfl) (by decide) ⟨⟨HR1.out.drew, HR2.out.drew⟩, HB.out.trans (bel_drew _ _)⟩ (fun W W' h g => ⟨⟨h.1.1.belowS g (Nat.le_refl _), h.1.2.belowS g (Nat.le_refl _)⟩, bt h.2 g⟩) ?_ ?_
  · refine Free.forall_succ (Free.forall_succ (Free.forall_succ (Free.forall_succ (Free.forall_succ (Free.forall_succ (Free.forall_succ (Free.forall_succ (Free.forall_succ (Free.forall_zero) ?_) ?_) ?_) ?_) ?_) ?_) ?_) ?_) ?_
    · exact Free.ob_plain _ rfl rfl fun vals wq hC hd => (by exact d_field (cx := .pointer (some ⟨w.heap.size, 0, none⟩)) rfl (by kernel_rfl) (by go_simp) rfl)
    · exact Free.ob_plain _ rfl rfl fun vals wq hC hd => (by exact Free.d_load (cx := .pointer (some ⟨w.heap.size, 0, none⟩)) rfl (Eq.trans (b := vals 0) (by kernel_rfl) (hd 0 (by kernel_rfl))) (by have a0 := hC.1.1.cellQ 0 _ rfl; have a1 := hC.1.1.cellQ 1 _ rfl; have a2 := hC.1.1.cellQ 2 _ rfl; go_simp) rfl)
    · exact Free.ob_plain _ rfl rfl fun vals wq hC hd => (by exact Free.d_call Tryd.func47 rfl rfl rfl rfl (Free.arg1 (Eq.trans (b := vals 1) (by kernel_rfl) (hd 1 (by kernel_rfl)))) ((asHead_any A n c p.old wq ((HM.out.qold.keep hC.2)) (by have := HM.out.qold.len; have := HM.out.nold; omega)).mono fun e w2 ⟨A9, n9, c9, he, ho, hb⟩ => ⟨_, he, ⟨A9, n9, c9, rfl, ho.base hC.2.size⟩, hb⟩))
    · exact Free.ob_plain _ rfl rfl fun vals wq hC hd => (by exact d_field (cx := .pointer (some ⟨w.heap.size, 0, none⟩)) rfl (by kernel_rfl) (by go_simp) rfl)
    · exact Free.ob_plain _ rfl rfl fun vals wq hC hd => (by exact Free.d_load (cx := .pointer (some ⟨w.heap.size, 3, none⟩)) rfl (Eq.trans (b := vals 3) (by kernel_rfl) (hd 3 (by kernel_rfl))) (by have a0 := hC.1.1.cellQ 3 _ rfl; have a1 := hC.1.1.cellQ 4 _ rfl; have a2 := hC.1.1.cellQ 5 _ rfl; go_simp) rfl)
    · exact Free.ob_plain _ rfl rfl fun vals wq hC hd => (by exact Free.d_call Tryd.func47 rfl rfl rfl rfl (Free.arg1 (Eq.trans (b := vals 4) (by kernel_rfl) (hd 4 (by kernel_rfl)))) ((asHead_any Ad nd cd p.new wq ((HM.out.qnew.keep hC.2)) (by have := HM.out.qnew.len; have := HM.out.nnew; omega)).mono fun e w2 ⟨A9, n9, c9, he, ho, hb⟩ => ⟨_, he, ⟨A9, n9, c9, rfl, ho.base hC.2.size⟩, hb⟩))
    · exact Free.ob_plain _ rfl rfl fun vals wq hC hd => (by exact d_field (cx := .pointer (some ⟨w.heap.size, 0, none⟩)) rfl (by kernel_rfl) (by go_simp) rfl)
    · exact Free.ob_plain _ rfl rfl fun vals wq hC hd => (by exact Free.d_load (cx := .pointer (some ⟨w.heap.size, 6, none⟩)) rfl (Eq.trans (b := vals 6) (by kernel_rfl) (hd 6 (by kernel_rfl))) (by have a0 := hC.1.1.cellQ 6 _ rfl; go_simp) rfl)
    · exact Free.ob_plain _ rfl rfl fun vals wq hC hd => (by obtain ⟨A2, n2, k2, e2, ow2⟩ := hd 2 (by kernel_rfl); obtain ⟨A5, n5, k5, e5, ow5⟩ := hd 5 (by kernel_rfl); exact FreeP.d_buildS rfl (FreeP.parts3 (Eq.trans (b := vals 2) (by kernel_rfl) e2) (Eq.trans (b := vals 5) (by kernel_rfl) e5) (Eq.trans (b := vals 7) (by kernel_rfl) (hd 7 (by kernel_rfl)))) (by go_simp) ⟨A2, n2, k2, A5, n5, k5, rfl, ow2, ow5⟩)
  · intro vals wq hC hd
    have e0 : vals 0 = (.pointer (some ⟨w.heap.size, 0, none⟩)) := hd 0 (by decide)
    have e1 : vals 1 = (.agg #[.int .i64 p.old.size, sv p.old.log, .slice A n c]) := hd 1 (by decide)
    obtain ⟨A2, n2, k2, e2, ow2⟩ := hd 2 (by decide)
    have e3 : vals 3 = (.pointer (some ⟨w.heap.size, 3, none⟩)) := hd 3 (by decide)
    have e4 : vals 4 = (.agg #[.int .i64 p.new.size, sv p.new.log, .slice Ad nd cd]) := hd 4 (by decide)
    obtain ⟨A5, n5, k5, e5, ow5⟩ := hd 5 (by decide)
    have e6 : vals 6 = (.pointer (some ⟨w.heap.size, 6, none⟩)) := hd 6 (by decide)
    have e7 : vals 7 = (.slice Ap np cp) := hd 7 (by decide)
    obtain ⟨A1', n1', c1', A2', n2', c2', e8, ob0, ob1⟩ := hd 8 (by decide)
    simp only [Free.frameOf, List.range, List.range.loop, List.foldl, Free.dstOf, List.getElem?_toArray, List.getElem?_cons_zero, List.getElem?_cons_succ, Option.bind_some, Act.put, List.setIfInBounds_toArray, List.set_cons_zero, List.set_cons_succ, e0, e1, e2, e3, e4, e5, e6, e7, e8]
    clear hd e0 e1 e2 e3 e4 e5 e6 e7 e8
    have z0 := hC.1.2.cellQ 0 _ rfl
    have y0 := hC.1.2.frozen 0
    have z1 := hC.1.2.cellQ 1 _ rfl
    have y1 := hC.1.2.frozen 1
    have z2 := hC.1.2.cellQ 2 _ rfl
    have y2 := hC.1.2.frozen 2
    have z3 := hC.1.2.cellQ 3 _ rfl
    have y3 := hC.1.2.frozen 3
    have z4 := hC.1.2.cellQ 4 _ rfl
    have y4 := hC.1.2.frozen 4
    have z5 := hC.1.2.cellQ 5 _ rfl
    have y5 := hC.1.2.frozen 5
    have z6 := hC.1.2.cellQ 6 _ rfl
    have y6 := hC.1.2.frozen 6
    have HC := Lib.hid hC
    clear hC
    have OB0 := Lib.hid ob0
    clear ob0
    have OB1 := Lib.hid ob1
    clear ob1
    go_wp2
    generalize hwf : World.setCell (World.setCell (World.setCell (World.setCell (World.setCell (World.setCell (World.setCell wq _ _) _ _) _ _) _ _) _ _) _ _) _ _ = wf
    have hsf : setFrom (w.heap.size + 1) wq 0 [.int .i64 p.old.size, sv p.old.log, .slice A1' n1' c1', .int .i64 p.new.size, sv p.new.log, .slice A2' n2' c2', .slice Ap np cp] = wf := by rw [← hwf]; rfl
    have hrow := HC.out.1.2.all [.int .i64 p.old.size, sv p.old.log, .slice A1' n1' c1', .int .i64 p.new.size, sv p.new.log, .slice A2' n2' c2', .slice Ap np cp] rfl
    rw [hsf] at hrow
    have r0 := hrow.cellQ 0 _ rfl
    have r1 := hrow.cellQ 1 _ rfl
    have r2 := hrow.cellQ 2 _ rfl
    have r3 := hrow.cellQ 3 _ rfl
    have r4 := hrow.cellQ 4 _ rfl
    have r5 := hrow.cellQ 5 _ rfl
    have r6 := hrow.cellQ 6 _ rfl
    refine bodyPost_ret (v := .agg #[.int .i64 p.old.size, sv p.old.log, .slice A1' n1' c1', .int .i64 p.new.size, sv p.new.log, .slice A2' n2' c2', .slice Ap np cp]) (by simp [results, Tryd.results26, go_sem, r0, r1, r2, r3, r4, r5, r6]) rfl ?_
    exact ⟨A1', n1', c1', A2', n2', c2', rfl, (by rw [← hsf]; exact OB0.out.setA HC.out.1.2 (by decide) _ 0), (by rw [← hsf]; exact OB1.out.setA HC.out.1.2 (by decide) _ 0), (by rw [← hsf]; exact below_setFrom (by omega) _ 0 HC.out.2)⟩
set_option maxRecDepth 100000 in
set_option maxHeartbeats 16000000 in
theorem fair_step (A : Option Addr) (n c : Nat) (Ad : Option Addr) (nd cd : Nat) (Ap : Option Addr) (np cp : Nat) (p : Hd.Stp) (w : World) (hm : At_step w A n c Ad nd cd Ap np cp p) : Calls Tryd.prog 25 #[.agg #[.int .i64 p.old.size, sv p.old.log, .slice A n c, .int .i64 p.new.size, sv p.new.log, .slice Ad nd cd, .slice Ap np cp]] w (RetB p.fair w) := by
  have h1 := row_new w #[.int .i64 p.old.size, sv p.old.log, .slice A n c, .int .i64 p.new.size, sv p.new.log, .slice Ad nd cd, .slice Ap np cp] 66
  have hb := (Below.refl w.heap.size w).alloc (Nat.le_refl _) (.cells #[.int .i64 p.old.size, sv p.old.log, .slice A n c, .int .i64 p.new.size, sv p.new.log, .slice Ad nd cd, .slice Ap np cp] 66)
  obtain ⟨w1, hw1⟩ : ∃ W, w.alloc (.cells #[.int .i64 p.old.size, sv p.old.log, .slice A n c, .int .i64 p.new.size, sv p.new.log, .slice Ad nd cd, .slice Ap np cp] 66) = W := ⟨_, rfl⟩
  rw [hw1] at h1 hb
  have HW1 := Lib.hid hw1
  have HR1 := Lib.hid h1
  have HB0 := Lib.hid hb
  have HM := Lib.hid hm
  clear hw1 h1 hb hm
  by_cases ht0 : p.old.ok = true
  rotate_left
  · have HT0 := Lib.hid (show p.old.ok = false by simpa using ht0)
    have HE := Lib.hid (show p.fair = false by unfold Hd.Stp.fair; simp [ht0])
    clear ht0
    go_enter Tryd.func25, Tryd.ntmps25
    go_upto_region 1 with fail
    rw [HW1.out]
    have x0 := HR1.out.cellQ 0 _ rfl
    have x1 := HR1.out.cellQ 1 _ rfl
    have x2 := HR1.out.cellQ 2 _ rfl
    have x3 := HR1.out.cellQ 3 _ rfl
    have x4 := HR1.out.cellQ 4 _ rfl
    have x5 := HR1.out.cellQ 5 _ rfl
    have x6 := HR1.out.cellQ 6 _ rfl
    have C := Lib.hid (rhright_any A n c p.old w1 (HM.out.keep HB0.out).qold HM.out.rold HM.out.lold)
    unfold hdv RetB at C
    go_wp2_with fail
    (with_reducible refine C.out.mono ?_)
    rintro e w20 ⟨rfl, hb9⟩
    clear C
    rw [HT0.out]
    have HB1 := Lib.hid (bt HB0.out hb9)
    have HR9 := Lib.hid (HR1.out.belowS hb9 (Nat.le_refl _))
    clear hb9 x0 x1 x2 x3 x4 x5 x6
    have x0 := HR9.out.cellQ 0 _ rfl
    have x1 := HR9.out.cellQ 1 _ rfl
    have x2 := HR9.out.cellQ 2 _ rfl
    have x3 := HR9.out.cellQ 3 _ rfl
    have x4 := HR9.out.cellQ 4 _ rfl
    have x5 := HR9.out.cellQ 5 _ rfl
    have x6 := HR9.out.cellQ 6 _ rfl
    go_wp2
    go_ret
    rw [HE.out]
    exact ⟨rfl, HB1.out⟩
  have HT0 := Lib.hid ht0
  by_cases ht1 : p.new.ok = true
  rotate_left
  · have HT1 := Lib.hid (show p.new.ok = false by simpa using ht1)
    have HE := Lib.hid (show p.fair = false by unfold Hd.Stp.fair; simp [ht0, ht1])
    clear ht0 ht1
    go_enter Tryd.func25, Tryd.ntmps25
    go_upto_region 1 with fail
    rw [HW1.out]
    have x0 := HR1.out.cellQ 0 _ rfl
    have x1 := HR1.out.cellQ 1 _ rfl
    have x2 := HR1.out.cellQ 2 _ rfl
    have x3 := HR1.out.cellQ 3 _ rfl
    have x4 := HR1.out.cellQ 4 _ rfl
    have x5 := HR1.out.cellQ 5 _ rfl
    have x6 := HR1.out.cellQ 6 _ rfl
    have C := Lib.hid (rhright_any A n c p.old w1 (HM.out.keep HB0.out).qold HM.out.rold HM.out.lold)
    unfold hdv RetB at C
    go_wp2_with fail
    (with_reducible refine C.out.mono ?_)
    rintro e w20 ⟨rfl, hb9⟩
    clear C
    rw [HT0.out]
    have HB1 := Lib.hid (bt HB0.out hb9)
    have HR9 := Lib.hid (HR1.out.belowS hb9 (Nat.le_refl _))
    clear hb9 x0 x1 x2 x3 x4 x5 x6
    have x0 := HR9.out.cellQ 0 _ rfl
    have x1 := HR9.out.cellQ 1 _ rfl
    have x2 := HR9.out.cellQ 2 _ rfl
    have x3 := HR9.out.cellQ 3 _ rfl
    have x4 := HR9.out.cellQ 4 _ rfl
    have x5 := HR9.out.cellQ 5 _ rfl
    have x6 := HR9.out.cellQ 6 _ rfl
    have C := Lib.hid (rhright_any Ad nd cd p.new w20 (HM.out.keep HB1.out).qnew HM.out.rnew HM.out.lnew)
    unfold hdv RetB at C
    go_wp2_with fail
    (with_reducible refine C.out.mono ?_)
    rintro e w21 ⟨rfl, hb9⟩
    clear C
    rw [HT1.out]
    have HB2 := Lib.hid (bt HB1.out hb9)
    have HR9 := Lib.hid (HR9.out.belowS hb9 (Nat.le_refl _))
    clear hb9 x0 x1 x2 x3 x4 x5 x6
    have x0 := HR9.out.cellQ 0 _ rfl
    have x1 := HR9.out.cellQ 1 _ rfl
    have x2 := HR9.out.cellQ 2 _ rfl
    have x3 := HR9.out.cellQ 3 _ rfl
    have x4 := HR9.out.cellQ 4 _ rfl
    have x5 := HR9.out.cellQ 5 _ rfl
    have x6 := HR9.out.cellQ 6 _ rfl
    go_wp2
    go_ret
    rw [HE.out]
    exact ⟨rfl, HB2.out⟩
  have HT1 := Lib.hid ht1
  by_cases ht2 : Hd.pathsOk p.proof = true
  rotate_left
  · have HT2 := Lib.hid (show Hd.pathsOk p.proof = false by simpa using ht2)
    have HE := Lib.hid (show p.fair = false by unfold Hd.Stp.fair; simp [ht0, ht1, ht2])
    clear ht0 ht1 ht2
    go_enter Tryd.func25, Tryd.ntmps25
    go_upto_region 1 with fail
    rw [HW1.out]
    have x0 := HR1.out.cellQ 0 _ rfl
    have x1 := HR1.out.cellQ 1 _ rfl
    have x2 := HR1.out.cellQ 2 _ rfl
    have x3 := HR1.out.cellQ 3 _ rfl
    have x4 := HR1.out.cellQ 4 _ rfl
    have x5 := HR1.out.cellQ 5 _ rfl
    have x6 := HR1.out.cellQ 6 _ rfl
    have C := Lib.hid (rhright_any A n c p.old w1 (HM.out.keep HB0.out).qold HM.out.rold HM.out.lold)
    unfold hdv RetB at C
    go_wp2_with fail
    (with_reducible refine C.out.mono ?_)
    rintro e w20 ⟨rfl, hb9⟩
    clear C
    rw [HT0.out]
    have HB1 := Lib.hid (bt HB0.out hb9)
    have HR9 := Lib.hid (HR1.out.belowS hb9 (Nat.le_refl _))
    clear hb9 x0 x1 x2 x3 x4 x5 x6
    have x0 := HR9.out.cellQ 0 _ rfl
    have x1 := HR9.out.cellQ 1 _ rfl
    have x2 := HR9.out.cellQ 2 _ rfl
    have x3 := HR9.out.cellQ 3 _ rfl
    have x4 := HR9.out.cellQ 4 _ rfl
    have x5 := HR9.out.cellQ 5 _ rfl
    have x6 := HR9.out.cellQ 6 _ rfl
    have C := Lib.hid (rhright_any Ad nd cd p.new w20 (HM.out.keep HB1.out).qnew HM.out.rnew HM.out.lnew)
    unfold hdv RetB at C
    go_wp2_with fail
    (with_reducible refine C.out.mono ?_)
    rintro e w21 ⟨rfl, hb9⟩
    clear C
    rw [HT1.out]
    have HB2 := Lib.hid (bt HB1.out hb9)
    have HR9 := Lib.hid (HR9.out.belowS hb9 (Nat.le_refl _))
    clear hb9 x0 x1 x2 x3 x4 x5 x6
    have x0 := HR9.out.cellQ 0 _ rfl
    have x1 := HR9.out.cellQ 1 _ rfl
    have x2 := HR9.out.cellQ 2 _ rfl
    have x3 := HR9.out.cellQ 3 _ rfl
    have x4 := HR9.out.cellQ 4 _ rfl
    have x5 := HR9.out.cellQ 5 _ rfl
    have x6 := HR9.out.cellQ 6 _ rfl
    have C := Lib.hid (paths_any Ap np cp p.proof w21 (HM.out.keep HB2.out).qproof (fun d hd => by have := HM.out.lproof d hd; rw [maxLen_eq]; omega))
    unfold RetV at C
    go_wp2_with fail
    (with_reducible refine C.out.mono ?_)
    rintro e w22 ⟨rfl, hb9⟩
    clear C
    rw [HT2.out]
    have HB3 := Lib.hid (bt HB2.out hb9)
    have HR9 := Lib.hid (HR9.out.belowS hb9 (Nat.le_refl _))
    clear hb9 x0 x1 x2 x3 x4 x5 x6
    have x0 := HR9.out.cellQ 0 _ rfl
    have x1 := HR9.out.cellQ 1 _ rfl
    have x2 := HR9.out.cellQ 2 _ rfl
    have x3 := HR9.out.cellQ 3 _ rfl
    have x4 := HR9.out.cellQ 4 _ rfl
    have x5 := HR9.out.cellQ 5 _ rfl
    have x6 := HR9.out.cellQ 6 _ rfl
    go_wp2
    go_ret
    rw [HE.out]
    exact ⟨rfl, HB3.out⟩
  have HT2 := Lib.hid ht2
  have HE := Lib.hid (show p.fair = true by unfold Hd.Stp.fair; simp [ht0, ht1, ht2])
  clear ht0 ht1 ht2
  go_enter Tryd.func25, Tryd.ntmps25
  go_upto_region 1 with fail
  rw [HW1.out]
  have x0 := HR1.out.cellQ 0 _ rfl
  have x1 := HR1.out.cellQ 1 _ rfl
  have x2 := HR1.out.cellQ 2 _ rfl
  have x3 := HR1.out.cellQ 3 _ rfl
  have x4 := HR1.out.cellQ 4 _ rfl
  have x5 := HR1.out.cellQ 5 _ rfl
  have x6 := HR1.out.cellQ 6 _ rfl
  have C := Lib.hid (rhright_any A n c p.old w1 (HM.out.keep HB0.out).qold HM.out.rold HM.out.lold)
  unfold hdv RetB at C
  go_wp2_with fail
  (with_reducible refine C.out.mono ?_)
  rintro e w20 ⟨rfl, hb9⟩
  clear C
  rw [HT0.out]
  have HB1 := Lib.hid (bt HB0.out hb9)
  have HR9 := Lib.hid (HR1.out.belowS hb9 (Nat.le_refl _))
  clear hb9 x0 x1 x2 x3 x4 x5 x6
  have x0 := HR9.out.cellQ 0 _ rfl
  have x1 := HR9.out.cellQ 1 _ rfl
  have x2 := HR9.out.cellQ 2 _ rfl
  have x3 := HR9.out.cellQ 3 _ rfl
  have x4 := HR9.out.cellQ 4 _ rfl
  have x5 := HR9.out.cellQ 5 _ rfl
  have x6 := HR9.out.cellQ 6 _ rfl
  have C := Lib.hid (rhright_any Ad nd cd p.new w20 (HM.out.keep HB1.out).qnew HM.out.rnew HM.out.lnew)
  unfold hdv RetB at C
  go_wp2_with fail
  (with_reducible refine C.out.mono ?_)
  rintro e w21 ⟨rfl, hb9⟩
  clear C
  rw [HT1.out]
  have HB2 := Lib.hid (bt HB1.out hb9)
  have HR9 := Lib.hid (HR9.out.belowS hb9 (Nat.le_refl _))
  clear hb9 x0 x1 x2 x3 x4 x5 x6
  have x0 := HR9.out.cellQ 0 _ rfl
  have x1 := HR9.out.cellQ 1 _ rfl
  have x2 := HR9.out.cellQ 2 _ rfl
  have x3 := HR9.out.cellQ 3 _ rfl
  have x4 := HR9.out.cellQ 4 _ rfl
  have x5 := HR9.out.cellQ 5 _ rfl
  have x6 := HR9.out.cellQ 6 _ rfl
  have C := Lib.hid (paths_any Ap np cp p.proof w21 (HM.out.keep HB2.out).qproof (fun d hd => by have := HM.out.lproof d hd; rw [maxLen_eq]; omega))
  unfold RetV at C
  go_wp2_with fail
  (with_reducible refine C.out.mono ?_)
  rintro e w22 ⟨rfl, hb9⟩
  clear C
  rw [HT2.out]
  have HB3 := Lib.hid (bt HB2.out hb9)
  have HR9 := Lib.hid (HR9.out.belowS hb9 (Nat.le_refl _))
  clear hb9 x0 x1 x2 x3 x4 x5 x6
  have x0 := HR9.out.cellQ 0 _ rfl
  have x1 := HR9.out.cellQ 1 _ rfl
  have x2 := HR9.out.cellQ 2 _ rfl
  have x3 := HR9.out.cellQ 3 _ rfl
  have x4 := HR9.out.cellQ 4 _ rfl
  have x5 := HR9.out.cellQ 5 _ rfl
  have x6 := HR9.out.cellQ 6 _ rfl
  go_wp2
  go_ret
  rw [HE.out]
  exact ⟨rfl, HB3.out⟩
set_option maxRecDepth 100000 in
set_option maxHeartbeats 16000000 in
theorem wrB_step (A : Option Addr) (n c : Nat) (Ad : Option Addr) (nd cd : Nat) (Ap : Option Addr) (np cp : Nat) (p : Hd.Stp) (w : World) (hm : At_step w A n c Ad nd cd Ap np cp p) (okold : p.old.Ok) (oknew : p.new.Ok) (h32proof : p.proof.length ≤ 64) : Calls Tryd.prog 28 #[.agg #[.int .i64 p.old.size, sv p.old.log, .slice A n c, .int .i64 p.new.size, sv p.new.log, .slice Ad nd cd, .slice Ap np cp]] w (Ret8 w.heap.size p.bytes w) := by
  have h1 := row_new w #[.int .i64 p.old.size, sv p.old.log, .slice A n c, .int .i64 p.new.size, sv p.new.log, .slice Ad nd cd, .slice Ap np cp] 66
  have hb := (Below.refl w.heap.size w).alloc (Nat.le_refl _) (.cells #[.int .i64 p.old.size, sv p.old.log, .slice A n c, .int .i64 p.new.size, sv p.new.log, .slice Ad nd cd, .slice Ap np cp] 66)
  obtain ⟨w1, hw1⟩ : ∃ W, w.alloc (.cells #[.int .i64 p.old.size, sv p.old.log, .slice A n c, .int .i64 p.new.size, sv p.new.log, .slice Ad nd cd, .slice Ap np cp] 66) = W := ⟨_, rfl⟩
  rw [hw1] at h1 hb
  have HW1 := Lib.hid hw1
  have h2 := h1.alloc (.cells #[.int .u8 3] 5)
  have o2 := Own8.new w1 [3] [.int .u8 3] (B := w.heap.size) (n := 1) hb.size rfl rfl (by decide)
  have hb2 := hb.alloc (Nat.le_trans (Nat.le_refl _) hb.size) (.cells #[.int .u8 3] 5)
  obtain ⟨w2, hw2⟩ : ∃ W, w1.alloc (.cells #[.int .u8 3] 5) = W := ⟨_, rfl⟩
  rw [show (([Value.int .u8 3] : List Value).toArray) = #[.int .u8 3] from rfl, hw2] at o2
  rw [hw2] at h2 hb2
  have HW2 := Lib.hid hw2
  have HR0 := Lib.hid h2
  have HB0 := Lib.hid hb2
  have HO0 := Lib.hid o2
  have HM := Lib.hid hm
  clear hw1 hw2 h1 h2 hb hb2 o2 hm
  have hb_old : (Code.text p.old.bytes).length ≤ 10009 := by have h1 := text_len p.old.bytes (by rw [← Hd.H.till_all rfl]; have := Hd.H.till_len okold p.old.segs.length; omega); have h2 : p.old.bytes.length ≤ 10000 := (by rw [← Hd.H.till_all rfl]; exact Hd.H.till_len okold _); omega
  have hb_new : (Code.text p.new.bytes).length ≤ 10009 := by have h1 := text_len p.new.bytes (by rw [← Hd.H.till_all rfl]; have := Hd.H.till_len oknew p.new.segs.length; omega); have h2 : p.new.bytes.length ≤ 10000 := (by rw [← Hd.H.till_all rfl]; exact Hd.H.till_len oknew _); omega
  have hb_proof : (Hd.pathB p.proof).length ≤ 64009 := by
    unfold Hd.pathB
    have h1 := Code.num_len9 p.proof.length (by omega)
    have h2 := flatten_le p.proof 1000 HM.out.lproof
    rw [List.length_append]
    omega
  go_enter Tryd.func28, Tryd.ntmps28
  go_upto_region 1 with fail
  rw [HW1.out]
  have x0 := HR0.out.cellQ 0 _ rfl
  have x1 := HR0.out.cellQ 1 _ rfl
  have x2 := HR0.out.cellQ 2 _ rfl
  have C := Lib.hid (headB_any A n c p.old w2 (HM.out.keep HB0.out).qold okold)
  unfold Ret8 at C
  have xl : w1.alloc (.cells #[.int .u8 3] 5) = w2 := HW2.out
  go_wp2_with fail
  (with_reducible refine C.out.mono ?_)
  rintro e w10 ⟨A0', n0', c0', rfl, ho, hb⟩
  have HP0 := Lib.hid ho
  have HX0 := Lib.hid (HO0.out.keep hb)
  have HS0 := Lib.hid (HR0.out.belowS hb (Nat.le_refl _))
  have HC0 := Lib.hid (bt HB0.out hb)
  have hl0 := HX0.out.len
  have hm0 := ho.len
  simp only [List.length_cons, List.length_nil] at hl0
  have hBB := HC0.out.size
  clear ho hb C x0 x1 x2 xl
  go_upto_region 2 with (at_builtin; refine wl_app8 rfl (.tmp 4) (.tmp 7) rfl rfl HX0.out rfl HP0.out.bs (by omega) hBB ?_; intro A9 n9 c9 w20 ho9 hb9 hg9; have HO1 := Lib.hid ho9; have HB1 := Lib.hid (HC0.out.trans hb9); have HR1 := Lib.hid (HS0.out.keepTy (by decide) (KeepTy.grown (S := [5]) HX0.out.own (by decide) hg9 hb9.size)); clear ho9 hb9 hg9 hBB)
  have x3 := HR1.out.cellQ 3 _ rfl
  have x4 := HR1.out.cellQ 4 _ rfl
  have x5 := HR1.out.cellQ 5 _ rfl
  have C := Lib.hid (headB_any Ad nd cd p.new w20 (HM.out.keep HB1.out).qnew oknew)
  unfold Ret8 at C
  go_wp2_with fail
  (with_reducible refine C.out.mono ?_)
  rintro e w11 ⟨A1', n1', c1', rfl, ho, hb⟩
  have HP1 := Lib.hid ho
  have HX1 := Lib.hid (HO1.out.keep hb)
  have HS1 := Lib.hid (HR1.out.belowS hb (Nat.le_refl _))
  have HC1 := Lib.hid (bt HB1.out hb)
  have hl1 := HX1.out.len
  have hm1 := ho.len
  simp only [List.length_append, List.length_cons, List.length_nil] at hl1
  have hBB := HC1.out.size
  clear ho hb C x3 x4 x5
  go_upto_region 3 with (at_builtin; refine wl_app8 rfl (.tmp 9) (.tmp 12) rfl rfl HX1.out rfl HP1.out.bs (by omega) hBB ?_; intro A9 n9 c9 w21 ho9 hb9 hg9; have HO2 := Lib.hid ho9; have HB2 := Lib.hid (HC1.out.trans hb9); have HR2 := Lib.hid (HS1.out.keepTy (by decide) (KeepTy.grown (S := [5]) HX1.out.own (by decide) hg9 hb9.size)); clear ho9 hb9 hg9 hBB)
  have x6 := HR2.out.cellQ 6 _ rfl
  have C := Lib.hid (pathB_any Ap np cp p.proof w21 (HM.out.keep HB2.out).qproof (by have := HM.out.qproof.len; omega) HM.out.lproof)
  unfold Ret8 at C
  go_wp2_with fail
  (with_reducible refine C.out.mono ?_)
  rintro e w12 ⟨A2', n2', c2', rfl, ho, hb⟩
  have HP2 := Lib.hid ho
  have HX2 := Lib.hid (HO2.out.keep hb)
  have HS2 := Lib.hid (HR2.out.belowS hb (Nat.le_refl _))
  have HC2 := Lib.hid (bt HB2.out hb)
  have hl2 := HX2.out.len
  have hm2 := ho.len
  simp only [List.length_append, List.length_cons, List.length_nil] at hl2
  have hBB := HC2.out.size
  clear ho hb C x6
  go_wp2_with (at_builtin; refine wl_app8 rfl (.tmp 14) (.tmp 17) rfl rfl HX2.out rfl HP2.out.bs (by omega) hBB ?_; intro A9 n9 c9 w22 ho9 hb9 hg9; have HO3 := Lib.hid ho9; have HB3 := Lib.hid (HC2.out.trans hb9); have HR3 := Lib.hid (HS2.out.keepTy (by decide) (KeepTy.grown (S := [5]) HX2.out.own (by decide) hg9 hb9.size)); clear ho9 hb9 hg9 hBB)
  go_ret
  exact ⟨_, _, _, rfl, HO3.out, HB3.out⟩
end Go.Proofs.YtfgpaepdlmnhaaaDoor
