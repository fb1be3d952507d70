/- MDictB: several texts of this claim in one file. No statement of the seat is proved here. -/
import Derived.Test.YteoledjllpgcbaaGreatDoorMDictA
import Derived.Test.YteoledjllpgcbaaGreatDoorMPostA
import Derived.Test.YteoledjllpgcbaaGreatDoorMTreeC
namespace Go.Proofs.YteoledjllpgcbaaGreatDoor
set_option maxRecDepth 100000
set_option maxHeartbeats 64000000
set_option linter.unusedVariables false
open Go.RowKit
def pc1 (q : Piece) : List Value := [pv q]
theorem pc1_len (q : Piece) : (pc1 q).length = 1 := rfl
theorem piecesT : ElemT Tryz.prog 66 28 1 24 := ElemT.mk' (z := .slice none 0 0) Tryz.underlying66 (by kernel_rfl) rfl (by omega)
theorem pc1_one (q : Piece) : ∀ u ∈ pc1 q, u.oneCell' = true := fun u hu => by
 simp only [pc1, List.mem_cons, List.not_mem_nil, or_false] at hu
 subst hu; rfl
structure OwnP (w : World) (B : Nat) (A : Option Addr) (n c : Nat) (L : List Piece) : Prop where
 q : OwnQ pc1 1 28 w B A n c L
 i : ∀ q ∈ L, Own8 w B q.a q.n q.c q.l
section
variable {w w' : World} {B : Nat} {A : Option Addr} {n c : Nat} {L : List Piece}
theorem OwnP.nil (w : World) (B : Nat) : OwnP w B none 0 0 [] := ⟨OwnQ.nil w B, by simp⟩
theorem OwnP.keep (h : OwnP w B A n c L) (hb : Below w.heap.size w w') : OwnP w' B A n c L := ⟨h.q.keep hb, fun q hq => (h.i q hq).keep hb⟩
theorem OwnP.keepTy {S : List TypeId} (h : OwnP w B A n c L) (h1 : 28 ∉ S) (h2 : 5 ∉ S) (k : KeepTy S w w') : OwnP w' B A n c L := ⟨h.q.keepTy h1 k, fun q hq => (h.i q hq).keepTy h2 k⟩
def pf (L : List Piece) (i : Nat) : Piece := (L[i]?).getD ⟨none, 0, 0, []⟩
theorem OwnP.rows (h : OwnP w B A n c L) : RowsAt w A n (pf L) := fun hn => by
 have hl := h.q.len
 have hne : L.flatMap pc1 ≠ [] := fun e => by
  have := flat_len pc1_len L
  rw [e, List.length_nil] at this
  omega
 obtain ⟨b, off, e, hb, hc⟩ := h.q.sq.rd hne
 refine ⟨b, off, e, hb, fun i hi => ?_⟩
 have hx : L[i]? = some (L[i]'(by omega)) := List.getElem?_eq_getElem (by omega)
 have e2 : pf L i = L[i]'(by omega) := by unfold pf; rw [hx]; rfl
 rw [e2]
 refine ⟨?_, (h.i _ (List.getElem_mem _)).bs.rd, (h.i _ (List.getElem_mem _)).len, (h.i _ (List.getElem_mem _)).cap, (h.i _ (List.getElem_mem _)).max⟩
 have := hc i (pv (L[i]'(by omega))) (by
  have g := flat_at pc1_len L i 0 (L[i]'(by omega)) hx (by omega)
  rw [Nat.mul_one, Nat.add_zero] at g
  rw [g]; rfl)
 exact this
theorem pf_raws {L : List Piece} {n : Nat} (h : L.length = n) : raws (pf L) n = L.map (·.l) := by
 unfold raws
 apply List.ext_getElem?
 intro i
 rw [List.getElem?_map, List.getElem?_map]
 by_cases hi : i < n
 ·
  rw [List.getElem?_range hi, List.getElem?_eq_getElem (by omega)]
  simp only [Option.map_some, pf]
  rw [List.getElem?_eq_getElem (by omega)]
  rfl
 · rw [List.getElem?_eq_none (by rw [List.length_range]; omega), List.getElem?_eq_none (by omega)]; rfl
end
section
variable {ops : Array Oper} {rest : List Oper} {o : Oper} {a : Act} {Q : Exit → Act → World → Prop} {w : World}
theorem wl_appP1 (hgd : o.guard = none) (s x : Operand) (ho : o.op = .call { callee := .builtin .append, args := #[s, x], argTypes := #[66, 66] })
  {w0 : World} {B : Nat} {A : Option Addr} {n c : Nat} {L : List Piece} (hs : a.eval s = .slice A n c) (h1 : OwnP w0 B A n c L)
  (q : Piece) (hq : Own8 w0 B q.a q.n q.c q.l) (hx : a.eval x = .slice (some ⟨w0.heap.size, 0, none⟩) 1 1) (hsz : n ≤ 1000000000) (hB : B ≤ w0.heap.size)
  (h : ∀ A' c' w', OwnP w' B A' (n + 1) c' (L ++ [q]) → Below B w0 w' → wpList Tryz.prog ops Q rest (a.put o.dst (.slice A' (n + 1) c')) w') : wpList Tryz.prog ops Q (o :: rest) a (w0.alloc (.cells #[.slice q.a q.n q.c] 28)) := by
 have hb0 : Below w0.heap.size w0 (w0.alloc (.cells #[.slice q.a q.n q.c] 28)) := (Below.refl _ w0).alloc (Nat.le_refl _) _
 have k1 := h1.keep hb0
 refine wl_app hgd s x 66 ho B 28 1 24 piecesT _ n _ hs k1.q.own (w0.heap.size + 1) (some ⟨w0.heap.size, 0, none⟩) 1 1 [pv q] hx (rd_new w0 [pv q] 28 (0, 0)) rfl (pc1_one q) (by rw [maxLen_eq]; omega) (by omega) (Nat.le_trans hB hb0.size) fun A' c' w' g1 g2 _ g4 g5 g6 => ?_
 have kt := KeepTy.grown (S := [28]) k1.q.own (by decide) g2 g4.size
 refine h A' c' w' ⟨⟨by rw [List.flatMap_append]; exact g1, by rw [List.length_append, h1.q.len]; rfl, g5, g6⟩, fun r hr => ?_⟩ ((hb0.mono hB).trans g4)
 rcases List.mem_append.1 hr with hr | hr
 · exact (k1.i r hr).keepTy (by decide) kt
 · rw [List.mem_singleton.1 hr]; exact (hq.keep hb0).keepTy (by decide) kt
end
structure LinksAt (w : World) (A : Option Addr) (n c : Nat) (f : Nat → Piece) (l : List (List UInt8)) : Prop where
 rows : RowsAt w A n f
 cap : n ≤ c
 max : c ≤ maxLen
 raw : raws f n = l
 small : ∀ i, i < n → (f i).n ≤ 1000
theorem pieceAt_keep {w w' : World} {x : Piece} (h : PieceAt w x) (hb : Below w.heap.size w w') : PieceAt w' x := ⟨(h.rd.below' hb (Nat.le_refl _)).more hb.size, h.len, h.cap, h.max⟩
theorem rowsAt_keep {w w' : World} {A : Option Addr} {n : Nat} {f : Nat → Piece} (h : RowsAt w A n f) (hb : Below w.heap.size w w') : RowsAt w' A n f := fun hn => by
 obtain ⟨b, off, e, hlt, hc⟩ := h hn
 exact ⟨b, off, e, Nat.lt_of_lt_of_le hlt hb.size, fun i hi => ⟨(hb.cell (p := ⟨b, off + i, none⟩) hlt).trans (hc i hi).1, pieceAt_keep (hc i hi).2 hb⟩⟩
theorem LinksAt.of {w : World} {B : Nat} {A : Option Addr} {n c : Nat} {L : List Piece} {l : List (List UInt8)} (h : OwnP w B A n c L) (e : L.map (·.l) = l) (hs : ∀ x ∈ l, x.length ≤ 1000) : LinksAt w A n c (pf L) l :=
 ⟨h.rows, h.q.cap, h.q.max, by rw [pf_raws h.q.len, e], fun i hi => by
  have hi' : i < L.length := by rw [h.q.len]; exact hi
  have e2 : pf L i = L[i] := by unfold pf; rw [List.getElem?_eq_getElem hi']; rfl
  rw [e2, ← (h.i _ (List.getElem_mem hi')).len]
  exact hs _ (by rw [← e]; exact List.mem_map.2 ⟨_, List.getElem_mem hi', rfl⟩)⟩
theorem Dc.links_take (L : List EnD) (k : Nat) : ((List.range (k + 1)).map fun i => (Dc.linkAt L i).bytes) = ((List.range k).map fun i => (Dc.linkAt L i).bytes) ++ [(Dc.linkAt L k).bytes] := by rw [List.range_succ, List.map_append]; rfl
theorem Dc.links_small {L : List EnD} (h : Dc.Good L) : ∀ x ∈ Dc.links L, x.length ≤ 1000 := fun x hx => by
 obtain ⟨i, _, rfl⟩ := List.mem_map.1 hx
 have := Hd.Lk.bytes_le (Dc.linkAt_may h i)
 omega
def LinksPost (L : List EnD) (w : World) (e : Ending) (w' : World) : Prop := ∃ A c f, e = .returned (.tuple #[.slice A (L.length + 1) c, .int .i64 0]) ∧ LinksAt w' A (L.length + 1) c f (Dc.links L) ∧ Below w.heap.size w w'
def RLinksPost (L : List EnD) (w : World) (e : Ending) (w' : World) : Prop := ∃ A c f, e = .returned (.slice A (L.length + 1) c) ∧ LinksAt w' A (L.length + 1) c f (Dc.links L) ∧ Below w.heap.size w w'
structure LnC (w W : World) (L : List EnD) (k : Nat) (A : Option Addr) (c : Nat) (P : List Piece) : Prop where
 own : OwnP W w.heap.size A k c P
 eq : P.map (·.l) = (List.range k).map fun i => (Dc.linkAt L i).bytes
 bel : Below w.heap.size w W
theorem LnC.keepB {w W W' : World} {L : List EnD} {k : Nat} {A : Option Addr} {c : Nat} {P : List Piece} (h : LnC w W L k A c P) (hb : Below W.heap.size W W') : LnC w W' L k A c P := ⟨h.own.keep hb, h.eq, bt h.bel hb⟩
theorem LnC.set {w W : World} {L : List EnD} {k : Nat} {A : Option Addr} {c : Nat} {P : List Piece} (h : LnC w W L k A c P) {g : Nat} {cs : Array Value} {t : TypeId} (hr : Row W g cs t) (hg : w.heap.size ≤ g) (h1 : 28 ∉ [t]) (h2 : 5 ∉ [t]) (j : Nat) (v : Value) : LnC w (W.setCell ⟨g, j, none⟩ v) L k A c P :=
 ⟨h.own.keepTy h1 h2 (KeepTy.set (S := [t]) hr (by simp) j v), h.eq, h.bel.setCell (p := ⟨g, j, none⟩) hg v⟩
theorem dlinks_no (A : Option Addr) (n c : Nat) (L : List EnD) (w : World) (hs : InEs w A n c L) (hl : ∀ e ∈ L, e.t.length ≤ 200) (ht : Ut.UTabs w) (hr : Dc.right L = false) : Calls Tryz.prog 26 #[.slice A n c] w fun e w' => e = .returned (.tuple #[.slice none 0 0, .int .i64 1]) ∧ Below w.heap.size w w' := by
 have CR := dright_any A n c L w hs hl ht
 rw [hr] at CR
 unfold RetB at CR
 have CR := Lib.hid CR
 clear hs hl hr ht
 go_enter Tryz.func26, Tryz.ntmps26
 go_wp2_with fail
 (with_reducible refine CR.out.mono ?_)
 rintro v w1 ⟨rfl, hb1⟩
 have HB1 := Lib.hid hb1
 clear hb1 CR
 go_wp2
 go_ret2
 exact ⟨rfl, HB1.out⟩
theorem dlinks_yes (A : Option Addr) (n c : Nat) (L : List EnD) (w : World) (hs : InEs w A n c L) (hl : ∀ e ∈ L, e.t.length ≤ 200) (hn : n ≤ 1000) (ht : Ut.UTabs w) (htt : Tabs w) (hr : Dc.right L = true) : Calls Tryz.prog 26 #[.slice A n c] w (LinksPost L w) := by
 have hcap := hs.q.cap
 have hm := hs.q.max
 rw [maxLen_eq] at hm
 have CR := dright_any A n c L w hs hl ht
 rw [hr] at CR
 unfold RetB at CR
 have CR := Lib.hid CR
 have HS := Lib.hid hs
 have HT := Lib.hid htt
 have HG := Lib.hid (Dc.good_of hr)
 have HLN := Lib.hid hs.q.len
 clear hs hl hr ht htt
 go_enter Tryz.func26, Tryz.ntmps26
 go_wp2_with fail
 (with_reducible refine CR.out.mono ?_)
 rintro v w1 ⟨rfl, hb1⟩
 have HB1 := Lib.hid hb1
 clear hb1 CR
 go_wp2
 go_loopw [4, 16] (fun vl vi wr => ∃ (k : Nat) (A2 : Option Addr) (c2 : Nat) (P : List Piece), vl = .slice A2 k c2 ∧ vi = .int .i64 (k : Int) ∧ k ≤ n + 1 ∧ Hid (LnC w wr L k A2 c2 P)) (fun _ vi _ => n + 1 - (intOf vi).toNat)
 case atStart => exact ⟨0, none, 0, [], rfl, rfl, by omega, Lib.hid ⟨OwnP.nil _ _, rfl, HB1.out⟩⟩
 case round =>
  obtain ⟨k, A2, c2, P, rfl, rfl, hk, H⟩ := hrel
  by_cases hlt : k < n + 1
  ·
   have hk2 : (k : Int) < (n : Int) + 1 := by omega
   go_upto_region 9 with fail
   cases k with
   | zero =>
    by_cases hf0 : 0 < n
    ·
     have hf1 : (0 : Int) < (n : Int) := by omega
     have hbx : Below wr.heap.size wr (wr.alloc (.cells #[.string { data := #[] }, .string { data := #[] }, .string { data := #[] }] 26)) := (Below.refl _ wr).alloc (Nat.le_refl _) _
     have hrx : Row (wr.alloc (.cells #[.string { data := #[] }, .string { data := #[] }, .string { data := #[] }] 26)) wr.heap.size #[sv [], sv [], sv []] 26 := row_new wr #[.string { data := #[] }, .string { data := #[] }, .string { data := #[] }] 26
     obtain ⟨wy, hwy⟩ : ∃ wy, wr.alloc (.cells #[.string { data := #[] }, .string { data := #[] }, .string { data := #[] }] 26) = wy := ⟨_, rfl⟩
     obtain ⟨g, hg⟩ : ∃ g, wr.heap.size = g := ⟨_, rfl⟩
     have hg0 : w.heap.size ≤ g := by rw [← hg]; exact H.out.bel.size
     rw [hwy] at hbx hrx ⊢
     have HY := Lib.hid (H.out.keepB hbx)
     rw [hg] at hrx hbx ⊢
     have HRY := Lib.hid hrx
     clear hbx hrx hwy hg
     go_upto_region 11 with fail
     obtain ⟨b, off, f, rfl, hbk, hf, hin2, hcs⟩ := enc1_cells HS.out (show 0 < n by omega)
     obtain ⟨z0, z1⟩ := hcs wy HY.out.bel
     simp only [Nat.zero_mul, Nat.add_zero] at z0 z1
     have HF := Lib.hid hf
     have y1 := HRY.out.cellQ 1 _ rfl
     have f1 := HRY.out.frozen 1
     clear hcs hf hin2 hbk
     go_upto_region 13 with fail
     have hr1 : Row (wy.setCell ⟨g, 1, none⟩ (sv f.t)) g #[sv [], sv f.t, sv []] 26 := HRY.out.set 1 (sv f.t)
     have hl1 := HY.out.set HRY.out hg0 (by decide) (by decide) 1 (sv f.t)
     obtain ⟨w3, hw3⟩ : ∃ W, wy.setCell ⟨g, 1, none⟩ (sv f.t) = W := ⟨_, rfl⟩
     rw [hw3] at hr1 hl1 ⊢
     have HR3 := Lib.hid hr1
     have HL3 := Lib.hid hl1
     clear hr1 hl1 hw3 y1 f1 z0 z1
     have CD := Lib.hid (digest_yes none 0 0 [] w3 (Zs.nil _) rfl (HT.out.below HL3.out.bel))
     unfold DigPost at CD
     go_wp2_with fail
     (with_reducible refine CD.out.mono ?_)
     rintro v w4 ⟨rfl, hb4⟩
     have HL4 := Lib.hid (HL3.out.keepB hb4)
     have HR4 := Lib.hid (HR3.out.belowS hb4 (Nat.le_refl _))
     have y2 := HR4.out.cellQ 2 _ rfl
     have f2 := HR4.out.frozen 2
     clear hb4 CD
     go_upto_region 14 with fail
     have hr1 : Row (w4.setCell ⟨g, 2, none⟩ (sv (seal_ 2 (Post.write [])))) g #[sv [], sv f.t, (sv (seal_ 2 (Post.write [])))] 26 := HR4.out.set 2 _
     have hl1 := HL4.out.set HR4.out hg0 (by decide) (by decide) 2 (sv (seal_ 2 (Post.write [])))
     obtain ⟨w5, hw5⟩ : ∃ W, w4.setCell ⟨g, 2, none⟩ (sv (seal_ 2 (Post.write []))) = W := ⟨_, rfl⟩
     rw [hw5] at hr1 hl1 ⊢
     have HR5 := Lib.hid hr1
     have HL5 := Lib.hid hl1
     have v0 := hr1.cellQ 0 _ rfl
     have v1 := hr1.cellQ 1 _ rfl
     have v2 := hr1.cellQ 2 _ rfl
     clear hr1 hl1 hw5 y2 f2
     have HLK := Lib.hid (show Dc.linkAt L 0 = (⟨[], f.t, seal_ 2 (Post.write [])⟩ : Hd.Lk) from by
      unfold Dc.linkAt
      rw [show Dc.enT L 0 = f.t from ((Dc.enT_some HF.out).symm).symm]
      rfl)
     have HMY := Dc.linkAt_may HG.out 0
     rw [HLK.out] at HMY
     have CW := wlink_any ⟨[], f.t, seal_ 2 (Post.write [])⟩ w5
     unfold Hd.Lk.wr at CW
     rw [if_pos HMY] at CW
     unfold WPost at CW
     have CW := Lib.hid CW
     clear HMY
     go_wp2_with fail
     (with_reducible refine CW.out.mono ?_)
     rintro v w6 ⟨A6, n6, c6, rfl, ho6, hb6⟩
     have HO6 := Lib.hid (ho6.base HL5.out.bel.size)
     have HL6 := Lib.hid (HL5.out.keepB hb6)
     clear ho6 hb6 CW v0 v1 v2
     go_wp2_with (at_builtin; refine wl_appP1 rfl (.tmp 55) (.tmp 57) rfl rfl HL6.out.own ⟨A6, n6, c6, (⟨[], f.t, seal_ 2 (Post.write [])⟩ : Hd.Lk).bytes⟩ HO6.out rfl (by omega) HL6.out.bel.size ?_; intro A7 c7 w7 ho7 hb7; have HO7 := Lib.hid ho7; have HB7 := Lib.hid (HL6.out.bel.trans hb7); clear ho7 hb7)
     go_roundw
     case rel => exact ⟨1, A7, c7, _, rfl, (by first | rfl | go_num), by omega, Lib.hid ⟨HO7.out, by rw [List.map_append, HL6.out.eq, Dc.links_take L 0, HLK.out]; rfl, HB7.out⟩⟩
     case measure => first | (simp [intOf]; done) | (simp [intOf]; omega)
    ·
     have hf1 : ¬ (0 : Int) < (n : Int) := by omega
     have hf2 : (n : Int) ≤ 0 := by omega
     have hbx : Below wr.heap.size wr (wr.alloc (.cells #[.string { data := #[] }, .string { data := #[] }, .string { data := #[] }] 26)) := (Below.refl _ wr).alloc (Nat.le_refl _) _
     have hrx : Row (wr.alloc (.cells #[.string { data := #[] }, .string { data := #[] }, .string { data := #[] }] 26)) wr.heap.size #[sv [], sv [], sv []] 26 := row_new wr #[.string { data := #[] }, .string { data := #[] }, .string { data := #[] }] 26
     obtain ⟨wy, hwy⟩ : ∃ wy, wr.alloc (.cells #[.string { data := #[] }, .string { data := #[] }, .string { data := #[] }] 26) = wy := ⟨_, rfl⟩
     obtain ⟨g, hg⟩ : ∃ g, wr.heap.size = g := ⟨_, rfl⟩
     have hg0 : w.heap.size ≤ g := by rw [← hg]; exact H.out.bel.size
     rw [hwy] at hbx hrx ⊢
     have HY := Lib.hid (H.out.keepB hbx)
     rw [hg] at hrx hbx ⊢
     have HRY := Lib.hid hrx
     clear hbx hrx hwy hg
     go_upto_region 11 with fail
     go_upto_region 13 with fail
     have CD := Lib.hid (digest_yes none 0 0 [] wy (Zs.nil _) rfl (HT.out.below HY.out.bel))
     unfold DigPost at CD
     go_wp2_with fail
     (with_reducible refine CD.out.mono ?_)
     rintro v w4 ⟨rfl, hb4⟩
     have HL4 := Lib.hid (HY.out.keepB hb4)
     have HR4 := Lib.hid (HRY.out.belowS hb4 (Nat.le_refl _))
     have y2 := HR4.out.cellQ 2 _ rfl
     have f2 := HR4.out.frozen 2
     clear hb4 CD
     go_upto_region 14 with fail
     have hr1 : Row (w4.setCell ⟨g, 2, none⟩ (sv (seal_ 2 (Post.write [])))) g #[sv [], sv [], (sv (seal_ 2 (Post.write [])))] 26 := HR4.out.set 2 _
     have hl1 := HL4.out.set HR4.out hg0 (by decide) (by decide) 2 (sv (seal_ 2 (Post.write [])))
     obtain ⟨w5, hw5⟩ : ∃ W, w4.setCell ⟨g, 2, none⟩ (sv (seal_ 2 (Post.write []))) = W := ⟨_, rfl⟩
     rw [hw5] at hr1 hl1 ⊢
     have HR5 := Lib.hid hr1
     have HL5 := Lib.hid hl1
     have v0 := hr1.cellQ 0 _ rfl
     have v1 := hr1.cellQ 1 _ rfl
     have v2 := hr1.cellQ 2 _ rfl
     clear hr1 hl1 hw5 y2 f2
     have HLK := Lib.hid (show Dc.linkAt L 0 = (⟨[], [], seal_ 2 (Post.write [])⟩ : Hd.Lk) from by
      unfold Dc.linkAt
      rw [show Dc.enT L 0 = [] from ((Dc.enT_none (List.getElem?_eq_none (by rw [HLN.out]; omega))).symm).symm]
      rfl)
     have HMY := Dc.linkAt_may HG.out 0
     rw [HLK.out] at HMY
     have CW := wlink_any ⟨[], [], seal_ 2 (Post.write [])⟩ w5
     unfold Hd.Lk.wr at CW
     rw [if_pos HMY] at CW
     unfold WPost at CW
     have CW := Lib.hid CW
     clear HMY
     go_wp2_with fail
     (with_reducible refine CW.out.mono ?_)
     rintro v w6 ⟨A6, n6, c6, rfl, ho6, hb6⟩
     have HO6 := Lib.hid (ho6.base HL5.out.bel.size)
     have HL6 := Lib.hid (HL5.out.keepB hb6)
     clear ho6 hb6 CW v0 v1 v2
     go_wp2_with (at_builtin; refine wl_appP1 rfl (.tmp 55) (.tmp 57) rfl rfl HL6.out.own ⟨A6, n6, c6, (⟨[], [], seal_ 2 (Post.write [])⟩ : Hd.Lk).bytes⟩ HO6.out rfl (by omega) HL6.out.bel.size ?_; intro A7 c7 w7 ho7 hb7; have HO7 := Lib.hid ho7; have HB7 := Lib.hid (HL6.out.bel.trans hb7); clear ho7 hb7)
     go_roundw
     case rel => exact ⟨1, A7, c7, _, rfl, (by first | rfl | go_num), by omega, Lib.hid ⟨HO7.out, by rw [List.map_append, HL6.out.eq, Dc.links_take L 0, HLK.out]; rfl, HB7.out⟩⟩
     case measure => first | (simp [intOf]; done) | (simp [intOf]; omega)
   | succ m =>
    by_cases hf0 : m + 1 < n
    ·
     have hf1 : (m : Int) + 1 < (n : Int) := by omega
     have hbx : Below wr.heap.size wr (wr.alloc (.cells #[.string { data := #[] }, .string { data := #[] }, .string { data := #[] }] 26)) := (Below.refl _ wr).alloc (Nat.le_refl _) _
     have hrx : Row (wr.alloc (.cells #[.string { data := #[] }, .string { data := #[] }, .string { data := #[] }] 26)) wr.heap.size #[sv [], sv [], sv []] 26 := row_new wr #[.string { data := #[] }, .string { data := #[] }, .string { data := #[] }] 26
     obtain ⟨wy, hwy⟩ : ∃ wy, wr.alloc (.cells #[.string { data := #[] }, .string { data := #[] }, .string { data := #[] }] 26) = wy := ⟨_, rfl⟩
     obtain ⟨g, hg⟩ : ∃ g, wr.heap.size = g := ⟨_, rfl⟩
     have hg0 : w.heap.size ≤ g := by rw [← hg]; exact H.out.bel.size
     rw [hwy] at hbx hrx ⊢
     have HY := Lib.hid (H.out.keepB hbx)
     rw [hg] at hrx hbx ⊢
     have HRY := Lib.hid hrx
     clear hbx hrx hwy hg
     obtain ⟨b, off, e, rfl, hbk, he, hin, hcs⟩ := enc1_cells HS.out (show m < n by omega)
     have HX := Lib.hid (fun W (hW : Below wy.heap.size wy W) => hcs W (bt HY.out.bel hW))
     have HE := Lib.hid he
     have HIN := Lib.hid hin
     clear hcs he hin
     have hm0 : (0 : Int) < (m : Int) + 1 := by omega
     obtain ⟨z0, z1⟩ := HX.out wy (Below.refl _ _)
     have y0 := HRY.out.cellQ 0 _ rfl
     have f0 := HRY.out.frozen 0
     have n1 : ¬ b = g := by omega
     have n2 : ¬ g = b := by omega
     have hmn : (m : Int) < (n : Int) := by omega
     go_upto_region 10 with fail
     go_wp2_with fail
     go_region
     go_upto_region 11 with fail
     have hr1 : Row ((wy.setCell ⟨g, 0, none⟩ (sv e.t)).drew) g #[sv e.t, sv [], sv []] 26 := HRY.out.set 0 (sv e.t)
     have hl1 : LnC w ((wy.setCell ⟨g, 0, none⟩ (sv e.t)).drew) L (m + 1) A2 c2 P := (HY.out.set HRY.out hg0 (by decide) (by decide) 0 (sv e.t)).keepB (bel_drew _ _)
     obtain ⟨w2, hw2⟩ : ∃ W, (wy.setCell ⟨g, 0, none⟩ (sv e.t)).drew = W := ⟨_, rfl⟩
     rw [hw2] at hr1 hl1 ⊢
     have HR2 := Lib.hid hr1
     have HL2 := Lib.hid hl1
     clear hr1 hl1 hw2 y0 f0 z0 z1 n1 n2
     obtain ⟨b', off', f, hA', hbk, hf, hin2, hcs⟩ := enc1_cells HS.out (show m + 1 < n by omega)
     injection hA' with hA'
     injection hA' with h1 h2
     subst h1 h2
     obtain ⟨z0, z1⟩ := hcs w2 HL2.out.bel
     have HF := Lib.hid hf
     have y1 := HR2.out.cellQ 1 _ rfl
     have f1 := HR2.out.frozen 1
     clear hcs hf hin2 hbk
     go_upto_region 13 with fail
     have hr1 : Row (w2.setCell ⟨g, 1, none⟩ (sv f.t)) g #[sv e.t, sv f.t, sv []] 26 := HR2.out.set 1 (sv f.t)
     have hl1 := HL2.out.set HR2.out hg0 (by decide) (by decide) 1 (sv f.t)
     obtain ⟨w3, hw3⟩ : ∃ W, w2.setCell ⟨g, 1, none⟩ (sv f.t) = W := ⟨_, rfl⟩
     rw [hw3] at hr1 hl1 ⊢
     have HR3 := Lib.hid hr1
     have HL3 := Lib.hid hl1
     clear hr1 hl1 hw3 y1 f1 z0 z1
     have CD := Lib.hid (digest_yes e.a e.n e.c e.l w3 (HIN.out.z.keep HL3.out.bel) (Dc.okE_iff.1 (HG.out.ok m e HE.out)).2.1 (HT.out.below HL3.out.bel))
     unfold DigPost at CD
     go_wp2_with fail
     (with_reducible refine CD.out.mono ?_)
     rintro v w4 ⟨rfl, hb4⟩
     have HL4 := Lib.hid (HL3.out.keepB hb4)
     have HR4 := Lib.hid (HR3.out.belowS hb4 (Nat.le_refl _))
     have y2 := HR4.out.cellQ 2 _ rfl
     have f2 := HR4.out.frozen 2
     clear hb4 CD
     go_upto_region 14 with fail
     have hr1 : Row (w4.setCell ⟨g, 2, none⟩ (sv (seal_ 2 (Post.write e.l)))) g #[sv e.t, sv f.t, (sv (seal_ 2 (Post.write e.l)))] 26 := HR4.out.set 2 _
     have hl1 := HL4.out.set HR4.out hg0 (by decide) (by decide) 2 (sv (seal_ 2 (Post.write e.l)))
     obtain ⟨w5, hw5⟩ : ∃ W, w4.setCell ⟨g, 2, none⟩ (sv (seal_ 2 (Post.write e.l))) = W := ⟨_, rfl⟩
     rw [hw5] at hr1 hl1 ⊢
     have HR5 := Lib.hid hr1
     have HL5 := Lib.hid hl1
     have v0 := hr1.cellQ 0 _ rfl
     have v1 := hr1.cellQ 1 _ rfl
     have v2 := hr1.cellQ 2 _ rfl
     clear hr1 hl1 hw5 y2 f2
     have HLK := Lib.hid (show Dc.linkAt L (m + 1) = (⟨e.t, f.t, seal_ 2 (Post.write e.l)⟩ : Hd.Lk) from by
      unfold Dc.linkAt
      rw [show Dc.enT L (m + 1) = f.t from ((Dc.enT_some HF.out).symm).symm]
      show (⟨Dc.enT L m, _, seal_ 2 (Post.write (Dc.enL L m))⟩ : Hd.Lk) = _
      rw [Dc.enT_some HE.out, Dc.enL_some HE.out])
     have HMY := Dc.linkAt_may HG.out (m + 1)
     rw [HLK.out] at HMY
     have CW := wlink_any ⟨e.t, f.t, seal_ 2 (Post.write e.l)⟩ w5
     unfold Hd.Lk.wr at CW
     rw [if_pos HMY] at CW
     unfold WPost at CW
     have CW := Lib.hid CW
     clear HMY
     go_wp2_with fail
     (with_reducible refine CW.out.mono ?_)
     rintro v w6 ⟨A6, n6, c6, rfl, ho6, hb6⟩
     have HO6 := Lib.hid (ho6.base HL5.out.bel.size)
     have HL6 := Lib.hid (HL5.out.keepB hb6)
     clear ho6 hb6 CW v0 v1 v2
     go_wp2_with (at_builtin; refine wl_appP1 rfl (.tmp 55) (.tmp 57) rfl rfl HL6.out.own ⟨A6, n6, c6, (⟨e.t, f.t, seal_ 2 (Post.write e.l)⟩ : Hd.Lk).bytes⟩ HO6.out rfl (by omega) HL6.out.bel.size ?_; intro A7 c7 w7 ho7 hb7; have HO7 := Lib.hid ho7; have HB7 := Lib.hid (HL6.out.bel.trans hb7); clear ho7 hb7)
     go_roundw
     case rel => exact ⟨m + 1 + 1, A7, c7, _, rfl, (by first | rfl | go_num), by omega, Lib.hid ⟨HO7.out, by rw [List.map_append, HL6.out.eq, Dc.links_take L (m + 1), HLK.out]; rfl, HB7.out⟩⟩
     case measure => first | (simp [intOf]; done) | (simp [intOf]; omega)
    ·
     have hf1 : ¬ (m : Int) + 1 < (n : Int) := by omega
     have hf2 : (n : Int) ≤ (m : Int) + 1 := by omega
     have hbx : Below wr.heap.size wr (wr.alloc (.cells #[.string { data := #[] }, .string { data := #[] }, .string { data := #[] }] 26)) := (Below.refl _ wr).alloc (Nat.le_refl _) _
     have hrx : Row (wr.alloc (.cells #[.string { data := #[] }, .string { data := #[] }, .string { data := #[] }] 26)) wr.heap.size #[sv [], sv [], sv []] 26 := row_new wr #[.string { data := #[] }, .string { data := #[] }, .string { data := #[] }] 26
     obtain ⟨wy, hwy⟩ : ∃ wy, wr.alloc (.cells #[.string { data := #[] }, .string { data := #[] }, .string { data := #[] }] 26) = wy := ⟨_, rfl⟩
     obtain ⟨g, hg⟩ : ∃ g, wr.heap.size = g := ⟨_, rfl⟩
     have hg0 : w.heap.size ≤ g := by rw [← hg]; exact H.out.bel.size
     rw [hwy] at hbx hrx ⊢
     have HY := Lib.hid (H.out.keepB hbx)
     rw [hg] at hrx hbx ⊢
     have HRY := Lib.hid hrx
     clear hbx hrx hwy hg
     obtain ⟨b, off, e, rfl, hbk, he, hin, hcs⟩ := enc1_cells HS.out (show m < n by omega)
     have HX := Lib.hid (fun W (hW : Below wy.heap.size wy W) => hcs W (bt HY.out.bel hW))
     have HE := Lib.hid he
     have HIN := Lib.hid hin
     clear hcs he hin
     have hm0 : (0 : Int) < (m : Int) + 1 := by omega
     obtain ⟨z0, z1⟩ := HX.out wy (Below.refl _ _)
     have y0 := HRY.out.cellQ 0 _ rfl
     have f0 := HRY.out.frozen 0
     have n1 : ¬ b = g := by omega
     have n2 : ¬ g = b := by omega
     have hmn : (m : Int) < (n : Int) := by omega
     go_upto_region 10 with fail
     go_wp2_with fail
     go_region
     go_upto_region 11 with fail
     have hr1 : Row ((wy.setCell ⟨g, 0, none⟩ (sv e.t)).drew) g #[sv e.t, sv [], sv []] 26 := HRY.out.set 0 (sv e.t)
     have hl1 : LnC w ((wy.setCell ⟨g, 0, none⟩ (sv e.t)).drew) L (m + 1) A2 c2 P := (HY.out.set HRY.out hg0 (by decide) (by decide) 0 (sv e.t)).keepB (bel_drew _ _)
     obtain ⟨w2, hw2⟩ : ∃ W, (wy.setCell ⟨g, 0, none⟩ (sv e.t)).drew = W := ⟨_, rfl⟩
     rw [hw2] at hr1 hl1 ⊢
     have HR2 := Lib.hid hr1
     have HL2 := Lib.hid hl1
     clear hr1 hl1 hw2 y0 f0 z0 z1 n1 n2
     go_upto_region 13 with fail
     have CD := Lib.hid (digest_yes e.a e.n e.c e.l w2 (HIN.out.z.keep HL2.out.bel) (Dc.okE_iff.1 (HG.out.ok m e HE.out)).2.1 (HT.out.below HL2.out.bel))
     unfold DigPost at CD
     go_wp2_with fail
     (with_reducible refine CD.out.mono ?_)
     rintro v w4 ⟨rfl, hb4⟩
     have HL4 := Lib.hid (HL2.out.keepB hb4)
     have HR4 := Lib.hid (HR2.out.belowS hb4 (Nat.le_refl _))
     have y2 := HR4.out.cellQ 2 _ rfl
     have f2 := HR4.out.frozen 2
     clear hb4 CD
     go_upto_region 14 with fail
     have hr1 : Row (w4.setCell ⟨g, 2, none⟩ (sv (seal_ 2 (Post.write e.l)))) g #[sv e.t, sv [], (sv (seal_ 2 (Post.write e.l)))] 26 := HR4.out.set 2 _
     have hl1 := HL4.out.set HR4.out hg0 (by decide) (by decide) 2 (sv (seal_ 2 (Post.write e.l)))
     obtain ⟨w5, hw5⟩ : ∃ W, w4.setCell ⟨g, 2, none⟩ (sv (seal_ 2 (Post.write e.l))) = W := ⟨_, rfl⟩
     rw [hw5] at hr1 hl1 ⊢
     have HR5 := Lib.hid hr1
     have HL5 := Lib.hid hl1
     have v0 := hr1.cellQ 0 _ rfl
     have v1 := hr1.cellQ 1 _ rfl
     have v2 := hr1.cellQ 2 _ rfl
     clear hr1 hl1 hw5 y2 f2
     have HLK := Lib.hid (show Dc.linkAt L (m + 1) = (⟨e.t, [], seal_ 2 (Post.write e.l)⟩ : Hd.Lk) from by
      unfold Dc.linkAt
      rw [show Dc.enT L (m + 1) = [] from ((Dc.enT_none (List.getElem?_eq_none (by rw [HLN.out]; omega))).symm).symm]
      show (⟨Dc.enT L m, _, seal_ 2 (Post.write (Dc.enL L m))⟩ : Hd.Lk) = _
      rw [Dc.enT_some HE.out, Dc.enL_some HE.out])
     have HMY := Dc.linkAt_may HG.out (m + 1)
     rw [HLK.out] at HMY
     have CW := wlink_any ⟨e.t, [], seal_ 2 (Post.write e.l)⟩ w5
     unfold Hd.Lk.wr at CW
     rw [if_pos HMY] at CW
     unfold WPost at CW
     have CW := Lib.hid CW
     clear HMY
     go_wp2_with fail
     (with_reducible refine CW.out.mono ?_)
     rintro v w6 ⟨A6, n6, c6, rfl, ho6, hb6⟩
     have HO6 := Lib.hid (ho6.base HL5.out.bel.size)
     have HL6 := Lib.hid (HL5.out.keepB hb6)
     clear ho6 hb6 CW v0 v1 v2
     go_wp2_with (at_builtin; refine wl_appP1 rfl (.tmp 55) (.tmp 57) rfl rfl HL6.out.own ⟨A6, n6, c6, (⟨e.t, [], seal_ 2 (Post.write e.l)⟩ : Hd.Lk).bytes⟩ HO6.out rfl (by omega) HL6.out.bel.size ?_; intro A7 c7 w7 ho7 hb7; have HO7 := Lib.hid ho7; have HB7 := Lib.hid (HL6.out.bel.trans hb7); clear ho7 hb7)
     go_roundw
     case rel => exact ⟨m + 1 + 1, A7, c7, _, rfl, (by first | rfl | go_num), by omega, Lib.hid ⟨HO7.out, by rw [List.map_append, HL6.out.eq, Dc.links_take L (m + 1), HLK.out]; rfl, HB7.out⟩⟩
     case measure => first | (simp [intOf]; done) | (simp [intOf]; omega)
  ·
   obtain rfl : k = n + 1 := by omega
   have HZ := Lib.hid (LinksAt.of H.out.own (l := Dc.links L) (by rw [H.out.eq]; unfold Dc.links; rw [HLN.out]) (Dc.links_small HG.out))
   have hnn : (n : Int) + 1 ≤ 9223372036854775807 := by omega
   go_wp2
   go_ret2
   refine ⟨A2, c2, _, ?_, by rw [HLN.out]; exact HZ.out, H.out.bel⟩
   rw [HLN.out]
   first | rfl | simp
theorem rdlinks_any (A : Option Addr) (n c : Nat) (L : List EnD) (w : World) (hs : InEs w A n c L) (hn : n ≤ 1000) (hr : Dc.right L = true) : Calls Tryz.prog 39 #[.slice A n c] w (RLinksPost L w) := by
 have hcap := hs.q.cap
 have hm := hs.q.max
 rw [maxLen_eq] at hm
 have HS := Lib.hid hs
 have HG := Lib.hid (Dc.good_of hr)
 have HLN := Lib.hid hs.q.len
 clear hs hr
 go_enter Tryz.func39, Tryz.ntmps39
 go_wp2
 go_loopw [3, 4] (fun vl vi wr => ∃ (k : Nat) (a : Int) (A2 : Option Addr) (c2 : Nat) (P : List Piece), vl = .slice A2 k c2 ∧ vi = .int .i64 a ∧ k ≤ n + 1 ∧ Hid (a + 1 = (k : Int)) ∧ Hid (LnC w wr L k A2 c2 P)) (fun _ vi _ => n + 1 - (intOf vi + 1).toNat)
 case atStart => exact ⟨0, -1, none, 0, [], rfl, rfl, by omega, Lib.hid rfl, Lib.hid ⟨OwnP.nil _ _, rfl, Below.refl _ _⟩⟩
 case round =>
  obtain ⟨k, a, A2, c2, P, rfl, rfl, hk, HA, H⟩ := hrel
  by_cases hlt : k < n + 1
  ·
   cases k with
   | zero =>
    obtain rfl : a = -1 := by have := HA.out; omega
    have hn0 : (-1 : Int) < (n : Int) := by omega
    by_cases hf0 : 0 < n
    ·
     have hf1 : (0 : Int) < (n : Int) := by omega
     have CD := Lib.hid (rdigest_any none 0 0 [] wr (Zs.nil _) rfl)
     unfold SealPost at CD
     obtain ⟨sd, hsd⟩ : ∃ s, seal_ 2 (Post.write []) = s := ⟨_, rfl⟩
     rw [hsd] at CD
     have HSD := Lib.hid hsd
     clear hsd
     go_wp2_with fail
     (with_reducible refine CD.out.mono ?_)
     rintro v w2 ⟨rfl, hb2⟩
     have H2 := Lib.hid (H.out.keepB hb2)
     clear hb2 CD
     go_upto_region 6 with fail
     have hbx : Below w2.heap.size w2 (w2.alloc (.cells #[.string { data := #[] }, .string { data := #[] }, sv sd] 36)) := (Below.refl _ w2).alloc (Nat.le_refl _) _
     have hrx : Row (w2.alloc (.cells #[.string { data := #[] }, .string { data := #[] }, sv sd] 36)) w2.heap.size #[sv [], sv [], sv sd] 36 := row_new w2 #[.string { data := #[] }, .string { data := #[] }, sv sd] 36
     obtain ⟨wy, hwy⟩ : ∃ wy, w2.alloc (.cells #[.string { data := #[] }, .string { data := #[] }, sv sd] 36) = wy := ⟨_, rfl⟩
     obtain ⟨g, hg⟩ : ∃ g, w2.heap.size = g := ⟨_, rfl⟩
     have hg0 : w.heap.size ≤ g := by rw [← hg]; exact H2.out.bel.size
     rw [hwy] at hbx hrx ⊢
     have HY := Lib.hid (H2.out.keepB hbx)
     rw [hg] at hrx hbx ⊢
     have HRY := Lib.hid hrx
     clear hbx hrx hwy hg
     go_upto_region 9 with fail
     obtain ⟨b, off, f, rfl, hbk, hf, hin2, hcs⟩ := enc1_cells HS.out (show 0 < n by omega)
     obtain ⟨z0, z1⟩ := hcs wy HY.out.bel
     simp only [Nat.zero_mul, Nat.add_zero] at z0 z1
     have HF := Lib.hid hf
     have y1 := HRY.out.cellQ 1 _ rfl
     have f1 := HRY.out.frozen 1
     clear hcs hf hin2
     go_upto_region 11 with fail
     have hr1 : Row (wy.setCell ⟨g, 1, none⟩ (sv f.t)) g #[sv [], sv f.t, sv sd] 36 := HRY.out.set 1 (sv f.t)
     have hl1 := HY.out.set HRY.out hg0 (by decide) (by decide) 1 (sv f.t)
     obtain ⟨w6, hw6⟩ : ∃ W, wy.setCell ⟨g, 1, none⟩ (sv f.t) = W := ⟨_, rfl⟩
     rw [hw6] at hr1 hl1 ⊢
     have HR6 := Lib.hid hr1
     have HL6 := Lib.hid hl1
     clear hr1 hl1 hw6 y1 f1 z0 z1
     have v0 := HR6.out.cellQ 0 _ rfl
     have v1 := HR6.out.cellQ 1 _ rfl
     have v2 := HR6.out.cellQ 2 _ rfl
     have HLK := Lib.hid (show Dc.linkAt L 0 = (⟨[], f.t, sd⟩ : Hd.Lk) from by
      unfold Dc.linkAt
      rw [show Dc.enT L 0 = f.t from ((Dc.enT_some HF.out).symm).symm]
      rw [← HSD.out]; rfl)
     have HMY := Hd.Lk.may_iff.1 (Dc.linkAt_may HG.out 0)
     rw [HLK.out] at HMY
     have CW := Lib.hid (rwlink_any ⟨[], f.t, sd⟩ w6 (Nat.le_trans HMY.1 (by decide)) (Nat.le_trans HMY.2.1 (by decide)) (Nat.le_trans (Nat.le_of_eq HMY.2.2) (by decide)))
     unfold Ret8 at CW
     clear HMY
     go_wp2_with fail
     (with_reducible refine CW.out.mono ?_)
     rintro v w7 ⟨A7, n7, c7, rfl, ho7, hb7⟩
     have HO7 := Lib.hid (ho7.base HL6.out.bel.size)
     have HL7 := Lib.hid (HL6.out.keepB hb7)
     clear ho7 hb7 CW v0 v1 v2
     go_wp2_with (at_builtin; refine wl_appP1 rfl (.tmp 41) (.tmp 44) rfl rfl HL7.out.own ⟨A7, n7, c7, (⟨[], f.t, sd⟩ : Hd.Lk).bytes⟩ HO7.out rfl (by omega) HL7.out.bel.size ?_; intro A8 c8 w8 ho8 hb8; have HO8 := Lib.hid ho8; have HB8 := Lib.hid (HL7.out.bel.trans hb8); clear ho8 hb8)
     go_roundw
     case rel => exact ⟨1, 0, A8, c8, _, rfl, (by first | rfl | go_num), by omega, Lib.hid (by first | rfl | omega), Lib.hid ⟨HO8.out, by rw [List.map_append, HL7.out.eq, Dc.links_take L 0, HLK.out]; rfl, HB8.out⟩⟩
     case measure => first | (simp [intOf]; done) | (simp [intOf]; omega)
    ·
     have hf1 : ¬ (0 : Int) < (n : Int) := by omega
     have hf2 : (n : Int) ≤ 0 := by omega
     have CD := Lib.hid (rdigest_any none 0 0 [] wr (Zs.nil _) rfl)
     unfold SealPost at CD
     obtain ⟨sd, hsd⟩ : ∃ s, seal_ 2 (Post.write []) = s := ⟨_, rfl⟩
     rw [hsd] at CD
     have HSD := Lib.hid hsd
     clear hsd
     go_wp2_with fail
     (with_reducible refine CD.out.mono ?_)
     rintro v w2 ⟨rfl, hb2⟩
     have H2 := Lib.hid (H.out.keepB hb2)
     clear hb2 CD
     go_upto_region 6 with fail
     have hbx : Below w2.heap.size w2 (w2.alloc (.cells #[.string { data := #[] }, .string { data := #[] }, sv sd] 36)) := (Below.refl _ w2).alloc (Nat.le_refl _) _
     have hrx : Row (w2.alloc (.cells #[.string { data := #[] }, .string { data := #[] }, sv sd] 36)) w2.heap.size #[sv [], sv [], sv sd] 36 := row_new w2 #[.string { data := #[] }, .string { data := #[] }, sv sd] 36
     obtain ⟨wy, hwy⟩ : ∃ wy, w2.alloc (.cells #[.string { data := #[] }, .string { data := #[] }, sv sd] 36) = wy := ⟨_, rfl⟩
     obtain ⟨g, hg⟩ : ∃ g, w2.heap.size = g := ⟨_, rfl⟩
     have hg0 : w.heap.size ≤ g := by rw [← hg]; exact H2.out.bel.size
     rw [hwy] at hbx hrx ⊢
     have HY := Lib.hid (H2.out.keepB hbx)
     rw [hg] at hrx hbx ⊢
     have HRY := Lib.hid hrx
     clear hbx hrx hwy hg
     go_upto_region 9 with fail
     go_upto_region 11 with fail
     have v0 := HRY.out.cellQ 0 _ rfl
     have v1 := HRY.out.cellQ 1 _ rfl
     have v2 := HRY.out.cellQ 2 _ rfl
     have HLK := Lib.hid (show Dc.linkAt L 0 = (⟨[], [], sd⟩ : Hd.Lk) from by
      unfold Dc.linkAt
      rw [show Dc.enT L 0 = [] from ((Dc.enT_none (List.getElem?_eq_none (by rw [HLN.out]; omega))).symm).symm]
      rw [← HSD.out]; rfl)
     have HMY := Hd.Lk.may_iff.1 (Dc.linkAt_may HG.out 0)
     rw [HLK.out] at HMY
     have CW := Lib.hid (rwlink_any ⟨[], [], sd⟩ wy (Nat.le_trans HMY.1 (by decide)) (Nat.le_trans HMY.2.1 (by decide)) (Nat.le_trans (Nat.le_of_eq HMY.2.2) (by decide)))
     unfold Ret8 at CW
     clear HMY
     go_wp2_with fail
     (with_reducible refine CW.out.mono ?_)
     rintro v w7 ⟨A7, n7, c7, rfl, ho7, hb7⟩
     have HO7 := Lib.hid (ho7.base HY.out.bel.size)
     have HL7 := Lib.hid (HY.out.keepB hb7)
     clear ho7 hb7 CW v0 v1 v2
     go_wp2_with (at_builtin; refine wl_appP1 rfl (.tmp 41) (.tmp 44) rfl rfl HL7.out.own ⟨A7, n7, c7, (⟨[], [], sd⟩ : Hd.Lk).bytes⟩ HO7.out rfl (by omega) HL7.out.bel.size ?_; intro A8 c8 w8 ho8 hb8; have HO8 := Lib.hid ho8; have HB8 := Lib.hid (HL7.out.bel.trans hb8); clear ho8 hb8)
     go_roundw
     case rel => exact ⟨1, 0, A8, c8, _, rfl, (by first | rfl | go_num), by omega, Lib.hid (by first | rfl | omega), Lib.hid ⟨HO8.out, by rw [List.map_append, HL7.out.eq, Dc.links_take L 0, HLK.out]; rfl, HB8.out⟩⟩
     case measure => first | (simp [intOf]; done) | (simp [intOf]; omega)
   | succ m =>
    obtain rfl : a = (m : Int) := by have := HA.out; omega
    have hmn : (m : Int) < (n : Int) := by omega
    by_cases hf0 : m + 1 < n
    ·
     have hf1 : (m : Int) + 1 < (n : Int) := by omega
     have CD := Lib.hid (rdigest_any none 0 0 [] wr (Zs.nil _) rfl)
     unfold SealPost at CD
     obtain ⟨sd, hsd⟩ : ∃ s, seal_ 2 (Post.write []) = s := ⟨_, rfl⟩
     rw [hsd] at CD
     have HSD := Lib.hid hsd
     clear hsd
     go_wp2_with fail
     (with_reducible refine CD.out.mono ?_)
     rintro v w2 ⟨rfl, hb2⟩
     have H2 := Lib.hid (H.out.keepB hb2)
     clear hb2 CD
     go_upto_region 6 with fail
     have hbx : Below w2.heap.size w2 (w2.alloc (.cells #[.string { data := #[] }, .string { data := #[] }, sv sd] 36)) := (Below.refl _ w2).alloc (Nat.le_refl _) _
     have hrx : Row (w2.alloc (.cells #[.string { data := #[] }, .string { data := #[] }, sv sd] 36)) w2.heap.size #[sv [], sv [], sv sd] 36 := row_new w2 #[.string { data := #[] }, .string { data := #[] }, sv sd] 36
     obtain ⟨wy, hwy⟩ : ∃ wy, w2.alloc (.cells #[.string { data := #[] }, .string { data := #[] }, sv sd] 36) = wy := ⟨_, rfl⟩
     obtain ⟨g, hg⟩ : ∃ g, w2.heap.size = g := ⟨_, rfl⟩
     have hg0 : w.heap.size ≤ g := by rw [← hg]; exact H2.out.bel.size
     rw [hwy] at hbx hrx ⊢
     have HY := Lib.hid (H2.out.keepB hbx)
     rw [hg] at hrx hbx ⊢
     have HRY := Lib.hid hrx
     clear hbx hrx hwy hg
     obtain ⟨b, off, e, rfl, hbk, he, hin, hcs⟩ := enc1_cells HS.out (show m < n by omega)
     have HX := Lib.hid (fun W (hW : Below w.heap.size w W) => hcs W hW)
     have HE := Lib.hid he
     have HIN := Lib.hid hin
     clear hcs he hin
     have hm0 : (0 : Int) ≤ (m : Int) := by omega
     obtain ⟨z0, z1⟩ := HX.out wy HY.out.bel
     have y0 := HRY.out.cellQ 0 _ rfl
     have f0 := HRY.out.frozen 0
     go_upto_region 8 with fail
     have hr1 : Row (wy.setCell ⟨g, 0, none⟩ (sv e.t)) g #[sv e.t, sv [], sv sd] 36 := HRY.out.set 0 _
     have hl1 := HY.out.set HRY.out hg0 (by decide) (by decide) 0 (sv e.t)
     obtain ⟨w3, hw3⟩ : ∃ W, wy.setCell ⟨g, 0, none⟩ (sv e.t) = W := ⟨_, rfl⟩
     rw [hw3] at hr1 hl1 ⊢
     have HR3 := Lib.hid hr1
     have HL3 := Lib.hid hl1
     clear hr1 hl1 hw3
     clear y0 f0 z0 z1
     obtain ⟨z0, z1⟩ := HX.out w3 HL3.out.bel
     have CE := Lib.hid (rdigest_any e.a e.n e.c e.l w3 (HIN.out.z.keep HL3.out.bel) (Dc.okE_iff.1 (HG.out.ok m e HE.out)).2.1)
     unfold SealPost at CE
     obtain ⟨se, hse⟩ : ∃ s, seal_ 2 (Post.write e.l) = s := ⟨_, rfl⟩
     rw [hse] at CE
     have HSE := Lib.hid hse
     clear hse
     go_wp2_with fail
     (with_reducible refine CE.out.mono ?_)
     rintro v w4 ⟨rfl, hb4⟩
     have HL4 := Lib.hid (HL3.out.keepB hb4)
     have HR4 := Lib.hid (HR3.out.belowS hb4 (Nat.le_refl _))
     have y2 := HR4.out.cellQ 2 _ rfl
     have f2 := HR4.out.frozen 2
     clear hb4 CE z0 z1
     go_upto_region 9 with fail
     have hr1 : Row (w4.setCell ⟨g, 2, none⟩ (sv se)) g #[sv e.t, sv [], sv se] 36 := HR4.out.set 2 _
     have hl1 := HL4.out.set HR4.out hg0 (by decide) (by decide) 2 (sv se)
     obtain ⟨w5, hw3⟩ : ∃ W, w4.setCell ⟨g, 2, none⟩ (sv se) = W := ⟨_, rfl⟩
     rw [hw3] at hr1 hl1 ⊢
     have HR5 := Lib.hid hr1
     have HL5 := Lib.hid hl1
     clear hr1 hl1 hw3
     clear y2 f2
     obtain ⟨b', off', f, hA', hbk2, hf, hin2, hcs⟩ := enc1_cells HS.out (show m + 1 < n by omega)
     injection hA' with hA'
     injection hA' with h1 h2
     subst h1 h2
     obtain ⟨z0, z1⟩ := hcs w5 HL5.out.bel
     have HF := Lib.hid hf
     have y1 := HR5.out.cellQ 1 _ rfl
     have f1 := HR5.out.frozen 1
     clear hcs hf hin2
     go_upto_region 11 with fail
     have hr1 : Row (w5.setCell ⟨g, 1, none⟩ (sv f.t)) g #[sv e.t, sv f.t, sv se] 36 := HR5.out.set 1 (sv f.t)
     have hl1 := HL5.out.set HR5.out hg0 (by decide) (by decide) 1 (sv f.t)
     obtain ⟨w6, hw6⟩ : ∃ W, w5.setCell ⟨g, 1, none⟩ (sv f.t) = W := ⟨_, rfl⟩
     rw [hw6] at hr1 hl1 ⊢
     have HR6 := Lib.hid hr1
     have HL6 := Lib.hid hl1
     clear hr1 hl1 hw6 y1 f1 z0 z1
     have v0 := HR6.out.cellQ 0 _ rfl
     have v1 := HR6.out.cellQ 1 _ rfl
     have v2 := HR6.out.cellQ 2 _ rfl
     have HLK := Lib.hid (show Dc.linkAt L (m + 1) = (⟨e.t, f.t, se⟩ : Hd.Lk) from by
      unfold Dc.linkAt
      rw [show Dc.enT L (m + 1) = f.t from ((Dc.enT_some HF.out).symm).symm]
      show (⟨Dc.enT L m, _, seal_ 2 (Post.write (Dc.enL L m))⟩ : Hd.Lk) = _
      rw [Dc.enT_some HE.out, Dc.enL_some HE.out, HSE.out])
     have HMY := Hd.Lk.may_iff.1 (Dc.linkAt_may HG.out (m + 1))
     rw [HLK.out] at HMY
     have CW := Lib.hid (rwlink_any ⟨e.t, f.t, se⟩ w6 (Nat.le_trans HMY.1 (by decide)) (Nat.le_trans HMY.2.1 (by decide)) (Nat.le_trans (Nat.le_of_eq HMY.2.2) (by decide)))
     unfold Ret8 at CW
     clear HMY
     go_wp2_with fail
     (with_reducible refine CW.out.mono ?_)
     rintro v w7 ⟨A7, n7, c7, rfl, ho7, hb7⟩
     have HO7 := Lib.hid (ho7.base HL6.out.bel.size)
     have HL7 := Lib.hid (HL6.out.keepB hb7)
     clear ho7 hb7 CW v0 v1 v2
     go_wp2_with (at_builtin; refine wl_appP1 rfl (.tmp 41) (.tmp 44) rfl rfl HL7.out.own ⟨A7, n7, c7, (⟨e.t, f.t, se⟩ : Hd.Lk).bytes⟩ HO7.out rfl (by omega) HL7.out.bel.size ?_; intro A8 c8 w8 ho8 hb8; have HO8 := Lib.hid ho8; have HB8 := Lib.hid (HL7.out.bel.trans hb8); clear ho8 hb8)
     go_roundw
     case rel => exact ⟨m + 1 + 1, ((m : Int) + 1), A8, c8, _, rfl, (by first | rfl | go_num), by omega, Lib.hid (by first | rfl | omega), Lib.hid ⟨HO8.out, by rw [List.map_append, HL7.out.eq, Dc.links_take L (m + 1), HLK.out]; rfl, HB8.out⟩⟩
     case measure => first | (simp [intOf]; done) | (simp [intOf]; omega)
    ·
     have hf1 : ¬ (m : Int) + 1 < (n : Int) := by omega
     have hf2 : (n : Int) ≤ (m : Int) + 1 := by omega
     have CD := Lib.hid (rdigest_any none 0 0 [] wr (Zs.nil _) rfl)
     unfold SealPost at CD
     obtain ⟨sd, hsd⟩ : ∃ s, seal_ 2 (Post.write []) = s := ⟨_, rfl⟩
     rw [hsd] at CD
     have HSD := Lib.hid hsd
     clear hsd
     go_wp2_with fail
     (with_reducible refine CD.out.mono ?_)
     rintro v w2 ⟨rfl, hb2⟩
     have H2 := Lib.hid (H.out.keepB hb2)
     clear hb2 CD
     go_upto_region 6 with fail
     have hbx : Below w2.heap.size w2 (w2.alloc (.cells #[.string { data := #[] }, .string { data := #[] }, sv sd] 36)) := (Below.refl _ w2).alloc (Nat.le_refl _) _
     have hrx : Row (w2.alloc (.cells #[.string { data := #[] }, .string { data := #[] }, sv sd] 36)) w2.heap.size #[sv [], sv [], sv sd] 36 := row_new w2 #[.string { data := #[] }, .string { data := #[] }, sv sd] 36
     obtain ⟨wy, hwy⟩ : ∃ wy, w2.alloc (.cells #[.string { data := #[] }, .string { data := #[] }, sv sd] 36) = wy := ⟨_, rfl⟩
     obtain ⟨g, hg⟩ : ∃ g, w2.heap.size = g := ⟨_, rfl⟩
     have hg0 : w.heap.size ≤ g := by rw [← hg]; exact H2.out.bel.size
     rw [hwy] at hbx hrx ⊢
     have HY := Lib.hid (H2.out.keepB hbx)
     rw [hg] at hrx hbx ⊢
     have HRY := Lib.hid hrx
     clear hbx hrx hwy hg
     obtain ⟨b, off, e, rfl, hbk, he, hin, hcs⟩ := enc1_cells HS.out (show m < n by omega)
     have HX := Lib.hid (fun W (hW : Below w.heap.size w W) => hcs W hW)
     have HE := Lib.hid he
     have HIN := Lib.hid hin
     clear hcs he hin
     have hm0 : (0 : Int) ≤ (m : Int) := by omega
     obtain ⟨z0, z1⟩ := HX.out wy HY.out.bel
     have y0 := HRY.out.cellQ 0 _ rfl
     have f0 := HRY.out.frozen 0
     go_upto_region 8 with fail
     have hr1 : Row (wy.setCell ⟨g, 0, none⟩ (sv e.t)) g #[sv e.t, sv [], sv sd] 36 := HRY.out.set 0 _
     have hl1 := HY.out.set HRY.out hg0 (by decide) (by decide) 0 (sv e.t)
     obtain ⟨w3, hw3⟩ : ∃ W, wy.setCell ⟨g, 0, none⟩ (sv e.t) = W := ⟨_, rfl⟩
     rw [hw3] at hr1 hl1 ⊢
     have HR3 := Lib.hid hr1
     have HL3 := Lib.hid hl1
     clear hr1 hl1 hw3
     clear y0 f0 z0 z1
     obtain ⟨z0, z1⟩ := HX.out w3 HL3.out.bel
     have CE := Lib.hid (rdigest_any e.a e.n e.c e.l w3 (HIN.out.z.keep HL3.out.bel) (Dc.okE_iff.1 (HG.out.ok m e HE.out)).2.1)
     unfold SealPost at CE
     obtain ⟨se, hse⟩ : ∃ s, seal_ 2 (Post.write e.l) = s := ⟨_, rfl⟩
     rw [hse] at CE
     have HSE := Lib.hid hse
     clear hse
     go_wp2_with fail
     (with_reducible refine CE.out.mono ?_)
     rintro v w4 ⟨rfl, hb4⟩
     have HL4 := Lib.hid (HL3.out.keepB hb4)
     have HR4 := Lib.hid (HR3.out.belowS hb4 (Nat.le_refl _))
     have y2 := HR4.out.cellQ 2 _ rfl
     have f2 := HR4.out.frozen 2
     clear hb4 CE z0 z1
     go_upto_region 9 with fail
     have hr1 : Row (w4.setCell ⟨g, 2, none⟩ (sv se)) g #[sv e.t, sv [], sv se] 36 := HR4.out.set 2 _
     have hl1 := HL4.out.set HR4.out hg0 (by decide) (by decide) 2 (sv se)
     obtain ⟨w5, hw3⟩ : ∃ W, w4.setCell ⟨g, 2, none⟩ (sv se) = W := ⟨_, rfl⟩
     rw [hw3] at hr1 hl1 ⊢
     have HR5 := Lib.hid hr1
     have HL5 := Lib.hid hl1
     clear hr1 hl1 hw3
     clear y2 f2
     go_upto_region 11 with fail
     have v0 := HR5.out.cellQ 0 _ rfl
     have v1 := HR5.out.cellQ 1 _ rfl
     have v2 := HR5.out.cellQ 2 _ rfl
     have HLK := Lib.hid (show Dc.linkAt L (m + 1) = (⟨e.t, [], se⟩ : Hd.Lk) from by
      unfold Dc.linkAt
      rw [show Dc.enT L (m + 1) = [] from ((Dc.enT_none (List.getElem?_eq_none (by rw [HLN.out]; omega))).symm).symm]
      show (⟨Dc.enT L m, _, seal_ 2 (Post.write (Dc.enL L m))⟩ : Hd.Lk) = _
      rw [Dc.enT_some HE.out, Dc.enL_some HE.out, HSE.out])
     have HMY := Hd.Lk.may_iff.1 (Dc.linkAt_may HG.out (m + 1))
     rw [HLK.out] at HMY
     have CW := Lib.hid (rwlink_any ⟨e.t, [], se⟩ w5 (Nat.le_trans HMY.1 (by decide)) (Nat.le_trans HMY.2.1 (by decide)) (Nat.le_trans (Nat.le_of_eq HMY.2.2) (by decide)))
     unfold Ret8 at CW
     clear HMY
     go_wp2_with fail
     (with_reducible refine CW.out.mono ?_)
     rintro v w7 ⟨A7, n7, c7, rfl, ho7, hb7⟩
     have HO7 := Lib.hid (ho7.base HL5.out.bel.size)
     have HL7 := Lib.hid (HL5.out.keepB hb7)
     clear ho7 hb7 CW v0 v1 v2
     go_wp2_with (at_builtin; refine wl_appP1 rfl (.tmp 41) (.tmp 44) rfl rfl HL7.out.own ⟨A7, n7, c7, (⟨e.t, [], se⟩ : Hd.Lk).bytes⟩ HO7.out rfl (by omega) HL7.out.bel.size ?_; intro A8 c8 w8 ho8 hb8; have HO8 := Lib.hid ho8; have HB8 := Lib.hid (HL7.out.bel.trans hb8); clear ho8 hb8)
     go_roundw
     case rel => exact ⟨m + 1 + 1, ((m : Int) + 1), A8, c8, _, rfl, (by first | rfl | go_num), by omega, Lib.hid (by first | rfl | omega), Lib.hid ⟨HO8.out, by rw [List.map_append, HL7.out.eq, Dc.links_take L (m + 1), HLK.out]; rfl, HB8.out⟩⟩
     case measure => first | (simp [intOf]; done) | (simp [intOf]; omega)
  ·
   obtain rfl : k = n + 1 := by omega
   obtain rfl : a = (n : Int) := by have := HA.out; omega
   have HZ := Lib.hid (LinksAt.of H.out.own (l := Dc.links L) (by rw [H.out.eq]; unfold Dc.links; rw [HLN.out]) (Dc.links_small HG.out))
   go_wp2
   go_ret
   refine ⟨A2, c2, _, ?_, by rw [HLN.out]; exact HZ.out, H.out.bel⟩
   rw [HLN.out]
   rfl
theorem tleaves_lv (f : Nat → Piece) (n : Nat) : tleaves f n = Cl.lv (raws f n) := by
 unfold tleaves raws Cl.lv
 rw [List.map_map]; rfl
theorem LinksAt.leaves {w : World} {A : Option Addr} {n c : Nat} {f : Nat → Piece} {l : List (List UInt8)} (h : LinksAt w A n c f l) : tleaves f n = Cl.lv l := by rw [tleaves_lv, h.raw]
theorem droot_yes (A : Option Addr) (n c : Nat) (L : List EnD) (w : World) (hs : InEs w A n c L) (hl : ∀ e ∈ L, e.t.length ≤ 200) (hn : n ≤ 1000) (ht : Ut.UTabs w) (htt : Tabs w) (hr : Dc.right L = true) : Calls Tryz.prog 25 #[.slice A n c] w fun e w' => e = .returned (.tuple #[sv (Dc.root L), .int .i64 0]) ∧ Below w.heap.size w w' := by
 have CL := Lib.hid (dlinks_yes A n c L w hs hl hn ht htt hr)
 unfold LinksPost at CL
 have HT := Lib.hid htt
 have hln : L.length + 1 ≤ 1001 := by rw [hs.q.len]; omega
 clear hs hl ht htt hr
 go_enter Tryz.func25, Tryz.ntmps25
 go_wp2_with fail
 (with_reducible refine CL.out.mono ?_)
 rintro e w1 ⟨A1, c1, f1, rfl, hl1, hb1⟩
 have HL1 := Lib.hid hl1
 have HB1 := Lib.hid hb1
 clear hl1 hb1 CL
 obtain ⟨m, hm⟩ : ∃ m, L.length + 1 = m := ⟨_, rfl⟩
 rw [hm] at HL1 hln ⊢
 clear hm
 have C2 := leaves_any A1 m c1 f1 w1 HL1.out.rows HL1.out.cap HL1.out.max (by omega) (fun i hi => Nat.le_trans (HL1.out.small i hi) (by decide)) (HT.out.below HB1.out)
 rw [HL1.out.leaves] at C2
 unfold OwnSPost at C2
 have C2 := Lib.hid C2
 go_wp2_with fail
 (with_reducible refine C2.out.mono ?_)
 rintro e w2 ⟨A2, n2, c2, rfl, ho2, hb2⟩
 have HO2 := Lib.hid ho2
 have HB2 := Lib.hid (bt HB1.out hb2)
 have hn2 : n2 ≤ 1001 := by rw [← ho2.len, Dc.lv_len, ← HL1.out.raw]; simp [raws]; omega
 clear ho2 hb2 C2
 have C3 := Lib.hid (Root_any A2 n2 c2 (Cl.lv (Dc.links L)) w2 HO2.out.ss (Cl.lv_all _) (by omega) (HT.out.below HB2.out))
 go_wp2_with fail
 (with_reducible refine C3.out.mono ?_)
 rintro e w3 ⟨rfl, hb3⟩
 have HB3 := Lib.hid (bt HB2.out hb3)
 clear hb3 C3
 go_wp2
 go_ret2
 exact ⟨rfl, HB3.out⟩
theorem rdroot_any (A : Option Addr) (n c : Nat) (L : List EnD) (w : World) (hs : InEs w A n c L) (hn : n ≤ 1000) (hr : Dc.right L = true) : Calls Tryz.prog 23 #[.slice A n c] w (StrPost (Dc.root L) w) := by
 have CL := Lib.hid (rdlinks_any A n c L w hs hn hr)
 unfold RLinksPost at CL
 have hln : L.length + 1 ≤ 1001 := by rw [hs.q.len]; omega
 clear hs hr
 go_enter Tryz.func23, Tryz.ntmps23
 go_wp2_with fail
 (with_reducible refine CL.out.mono ?_)
 rintro e w1 ⟨A1, c1, f1, rfl, hl1, hb1⟩
 have HL1 := Lib.hid hl1
 have HB1 := Lib.hid hb1
 clear hl1 hb1 CL
 obtain ⟨m, hm⟩ : ∃ m, L.length + 1 = m := ⟨_, rfl⟩
 rw [hm] at HL1 hln ⊢
 clear hm
 have C2 := rleaves_any A1 m c1 f1 w1 HL1.out.rows HL1.out.cap HL1.out.max (by omega) (fun i hi => Nat.le_trans (HL1.out.small i hi) (by decide))
 rw [HL1.out.leaves] at C2
 unfold OwnSPost at C2
 have C2 := Lib.hid C2
 go_wp2_with fail
 (with_reducible refine C2.out.mono ?_)
 rintro e w2 ⟨A2, n2, c2, rfl, ho2, hb2⟩
 have HO2 := Lib.hid ho2
 have HB2 := Lib.hid (bt HB1.out hb2)
 have hn2 : n2 ≤ 1001 := by rw [← ho2.len, Dc.lv_len, ← HL1.out.raw]; simp [raws]; omega
 clear ho2 hb2 C2
 have C3 := rroot_any n2 A2 n2 c2 (Cl.lv (Dc.links L)) w2 (Nat.le_refl _) HO2.out.ss (Cl.lv_all _) (by omega)
 unfold StrPost at C3
 have C3 := Lib.hid C3
 go_wp2_with fail
 (with_reducible refine C3.out.mono ?_)
 rintro e w3 ⟨rfl, hb3⟩
 have HB3 := Lib.hid (bt HB2.out hb3)
 clear hb3 C3
 go_wp2
 go_ret
 exact ⟨rfl, HB3.out⟩
end Go.Proofs.YteoledjllpgcbaaGreatDoor
