/- MReplyE: several texts of this claim in one file. No statement of the seat is proved here. -/
import Derived.Test.YteoledjllpgcbaaDoorMReplyD
namespace Go.Proofs.YteoledjllpgcbaaDoor
set_option maxRecDepth 100000
set_option maxHeartbeats 64000000
set_option linter.unusedVariables false
open Go.RowKit
namespace Hd
structure Lk where
 term : By
 next : By
 posts : By
def Lk.may (k : Lk) : Bool := decide (k.term.length ≤ 64) && (decide (k.next.length ≤ 64) && decide (k.posts.length = 32))
def Lk.bytes (k : Lk) : By := (Code.text k.term ++ Code.text k.next) ++ k.posts
def Lk.wr (k : Lk) : Option By := if k.may = true then some k.bytes else none
end Hd
theorem wlink_any (k : Hd.Lk) (w : World) : Calls Tryd.prog 27 #[.agg #[sv k.term, sv k.next, sv k.posts]] w (WPost k.wr w) := by
 have h1 := row_new w #[sv k.term, sv k.next, sv k.posts] 26
 have hb := (Below.refl w.heap.size w).alloc (Nat.le_refl _) (.cells #[sv k.term, sv k.next, sv k.posts] 26)
 obtain ⟨w1, hw1⟩ : ∃ W, w.alloc (.cells #[sv k.term, sv k.next, sv k.posts] 26) = W := ⟨_, rfl⟩
 rw [hw1] at h1 hb
 have HW1 := Lib.hid hw1
 have HR0 := Lib.hid h1
 have HB0 := Lib.hid hb
 have x0 := h1.cellQ 0 _ rfl
 have x1 := h1.cellQ 1 _ rfl
 have x2 := h1.cellQ 2 _ rfl
 have z0 : (str k.term).size = k.term.length := strLen _
 have z1 : (str k.next).size = k.next.length := strLen _
 have z2 : (str k.posts).size = k.posts.length := strLen _
 clear hw1 h1 hb
 by_cases h0 : k.term.length ≤ 64
 ·
  have a0 : ¬ (64 : Int) < (k.term.length : Int) := by omega
  have b0 : (k.term.length : Int) ≤ 64 := by omega
  by_cases h1 : k.next.length ≤ 64
  ·
   have a1 : ¬ (64 : Int) < (k.next.length : Int) := by omega
   have b1 : (k.next.length : Int) ≤ 64 := by omega
   by_cases h2 : k.posts.length = 32
   ·
    have a2 : ((k.posts.length : Int) == 32) = true := by rw [h2]; rfl
    have b2 : (k.posts.length : Int) = 32 := by omega
    have HE := Lib.hid (show k.wr = some k.bytes by unfold Hd.Lk.wr Hd.Lk.may; simp [*])
    have t0 := text_len k.term (by omega)
    have t1 := text_len k.next (by omega)
    go_enter Tryd.func27, Tryd.ntmps27
    go_upto_region 1 with fail
    rw [HW1.out]
    go_wp2_with fail
    (with_reducible refine (text_any none 0 0 [] k.term w1 (Bs.nil _) (by omega) (by omega)).mono ?_)
    rintro e w2 ⟨A2, n2, c2, rfl, ho2, hb2⟩
    rw [List.nil_append] at ho2
    have HB2 := Lib.hid (bt HB0.out hb2)
    have HR2 := Lib.hid (HR0.out.belowS hb2 (Nat.le_refl _))
    have HO2 := Lib.hid ho2
    have hl2 := ho2.len
    clear hb2 ho2 x0 x1 x2
    have x1 := HR2.out.cellQ 1 _ rfl
    go_wp2_with fail
    (with_reducible refine (text_any A2 n2 c2 (Code.text k.term) k.next w2 HO2.out.bs (by omega) (by omega)).mono ?_)
    rintro e w3 ⟨A3, n3, c3, rfl, ho3, hb3⟩
    have HB3 := Lib.hid (bt HB2.out hb3)
    have HR3 := Lib.hid (HR2.out.belowS hb3 (Nat.le_refl _))
    have HO3 := Lib.hid (ho3.base HB2.out.size)
    have hl3 := ho3.len
    rw [List.length_append] at hl3
    have hBB := HB3.out.size
    clear hb3 ho3 x1
    have x2 := HR3.out.cellQ 2 _ rfl
    go_wp2_with (at_builtin; refine wl_appS rfl (.tmp 28) (.tmp 30) rfl rfl HO3.out rfl (by omega) hBB ?_; intro A4 n4 c4 w4 ho4 hb4 hg4; have HP := Lib.hid (And.intro ho4 hb4); clear ho4 hb4 hg4)
    go_ret2
    rw [HE.out]
    exact ⟨A4, n4, c4, rfl, HP.out.1, HB3.out.trans HP.out.2⟩
   ·
    have a2 : ((k.posts.length : Int) == 32) = false := beq_eq_false_iff_ne.2 (by omega)
    have b2 : ¬ (k.posts.length : Int) = 32 := by omega
    have HE := Lib.hid (show k.wr = none by unfold Hd.Lk.wr Hd.Lk.may; simp [*])
    go_enter Tryd.func27, Tryd.ntmps27
    go_upto_region 1 with fail
    rw [HW1.out]
    go_wp2
    go_ret2
    rw [HE.out]
    exact ⟨rfl, HB0.out⟩
  ·
   have a1 : (64 : Int) < (k.next.length : Int) := by omega
   have b1 : ¬ (k.next.length : Int) ≤ 64 := by omega
   have HE := Lib.hid (show k.wr = none by unfold Hd.Lk.wr Hd.Lk.may; simp [*])
   go_enter Tryd.func27, Tryd.ntmps27
   go_upto_region 1 with fail
   rw [HW1.out]
   go_wp2
   go_ret2
   rw [HE.out]
   exact ⟨rfl, HB0.out⟩
 ·
  have a0 : (64 : Int) < (k.term.length : Int) := by omega
  have b0 : ¬ (k.term.length : Int) ≤ 64 := by omega
  have HE := Lib.hid (show k.wr = none by unfold Hd.Lk.wr Hd.Lk.may; simp [*])
  go_enter Tryd.func27, Tryd.ntmps27
  go_upto_region 1 with fail
  rw [HW1.out]
  go_wp2
  go_ret2
  rw [HE.out]
  exact ⟨rfl, HB0.out⟩
def Free.x8b (B : Nat) (l : List UInt8) : Free.SV := ⟨fun v w => ∃ A n c, v = .slice A n c ∧ Own8 w B A n c l, fun v w w' ⟨A, n, c, h1, h2⟩ g => ⟨A, n, c, h1, h2.keep g⟩⟩
namespace Hd
def rdLk (l : By) : Except Nat Lk :=
 if doneX l (stDig l (stText l 64 (stText l 64 ⟨0, 0⟩).1).1).1 ≠ 0 then .error (doneX l (stDig l (stText l 64 (stText l 64 ⟨0, 0⟩).1).1).1) else .ok ⟨(stText l 64 ⟨0, 0⟩).2, (stText l 64 (stText l 64 ⟨0, 0⟩).1).2, (stDig l (stText l 64 (stText l 64 ⟨0, 0⟩).1).1).2⟩
end Hd
def RLkPost (r : Except Nat Hd.Lk) (w : World) (e : Ending) (w' : World) : Prop := Below w.heap.size w w' ∧ match r with
 | .ok k => e = .returned (.tuple #[.agg #[sv k.term, sv k.next, sv k.posts], .int .i64 0])
 | .error x => e = .returned (.tuple #[.agg #[.string { data := #[] }, .string { data := #[] }, .string { data := #[] }], .int .i64 (x : Int)]) ∧ x ≠ 0
structure RlC (w W : World) (g gl gr : Nat) (l : List UInt8) (s : Hd.RS) (cs : Array Value) : Prop where
 rd : HRd W w.heap.size g l s
 rl : Row W gl cs 26
 rr : Row W gr #[.string { data := #[] }, .string { data := #[] }, .string { data := #[] }] 26
 bel : Below w.heap.size w W
 g0 : w.heap.size ≤ gl
 r0 : w.heap.size ≤ gr
 ne : gr ≠ gl
section
variable {w W W' : World} {g gl gr : Nat} {l : List UInt8} {s s' : Hd.RS} {cs : Array Value}
theorem RlC.keep (h : RlC w W g gl gr l s cs) (hb : Below W.heap.size W W') : RlC w W' g gl gr l s cs := ⟨h.rd.keep hb, h.rl.belowS hb (Nat.le_refl _), h.rr.belowS hb (Nat.le_refl _), bt h.bel hb, h.g0, h.r0, h.ne⟩
theorem RlC.turn (h : RlC w W g gl gr l s cs) (hr : HRd W' w.heap.size g l s') (hb : Below w.heap.size W W') (k : KeepTy SR W W') : RlC w W' g gl gr l s' cs := ⟨hr, h.rl.keepTy (by decide) k, h.rr.keepTy (by decide) k, h.bel.trans hb, h.g0, h.r0, h.ne⟩
theorem RlC.setL (h : RlC w W g gl gr l s cs) (hu : cs.toList.all notU8 = true) (j : Nat) (v : Value) : RlC w (W.setCell ⟨gl, j, none⟩ v) g gl gr l s (cs.setIfInBounds j v) := ⟨HRd.setF h.rd h.rl (by decide) hu (by decide) [v] j, h.rl.set j v, h.rr.far gl j v h.ne, h.bel.setCell (p := ⟨gl, j, none⟩) h.g0 v, h.g0, h.r0, h.ne⟩
end
theorem HRd.doneC {w : World} {B g : Nat} {l : List UInt8} {s : Hd.RS} {d : Nat} (h : HRd w B g l s) (e : Hd.doneX l s = d) : ∃ A c, Row w g #[.slice A l.length c, .int .i64 (s.at_ : Int), .int .i64 (s.x : Int)] 79 ∧ ∀ W, Calls Tryd.prog 39 #[.agg #[.slice A l.length c, .int .i64 (s.at_ : Int), .int .i64 (s.x : Int)]] W fun e w' => e = .returned (.int .i64 (d : Int)) ∧ Below W.heap.size W w' := by
 subst e
 obtain ⟨A, c, r, hbs⟩ := h.ex
 exact ⟨A, c, r, fun W => done_st A l.length c l s W rfl h.at_ hbs.bs.cap hbs.bs.max⟩
theorem rlink_any (A : Option Addr) (n c : Nat) (l : List UInt8) (w : World) (h : Bs w A n c l) (hn : l.length ≤ 1000000000) : Calls Tryd.prog 17 #[.slice A n c] w (RLkPost (Hd.rdLk l) w) := by
 obtain rfl : n = l.length := h.len.symm
 obtain ⟨⟨s1, v1⟩, hs1⟩ : ∃ r, Hd.stText l 64 ⟨0, 0⟩ = r := ⟨_, rfl⟩
 obtain ⟨⟨s2, v2⟩, hs2⟩ : ∃ r, Hd.stText l 64 s1 = r := ⟨_, rfl⟩
 obtain ⟨⟨s3, v3⟩, hs3⟩ : ∃ r, Hd.stDig l s2 = r := ⟨_, rfl⟩
 obtain ⟨dx, hdx⟩ : ∃ x, Hd.doneX l s3 = x := ⟨_, rfl⟩
 have HE := Lib.hid (show Hd.rdLk l = if dx ≠ 0 then .error dx else .ok ⟨v1, v2, v3⟩ by unfold Hd.rdLk; simp only [hs1, hs2, hs3, hdx])
 have HA1 := Lib.hid (fun (s : Hd.RS) (h : s.at_ ≤ l.length) (r : Hd.RS × List UInt8) (e : Hd.stText l 64 s = r) => show r.1.at_ ≤ l.length by rw [← e]; exact Hd.stText_at h)
 have HA3 := Lib.hid (fun (s : Hd.RS) (h : s.at_ ≤ l.length) (r : Hd.RS × List UInt8) (e : Hd.stDig l s = r) => show r.1.at_ ≤ l.length by rw [← e]; exact Hd.stDig_at h)
 have HS1 := Lib.hid hs1
 have HS2 := Lib.hid hs2
 have HS3 := Lib.hid hs3
 have HDX := Lib.hid hdx
 have hz : ∀ (v : World) (o : Obj), (v.alloc o).heap.size = v.heap.size + 1 := size_alloc
 have q0 := ((row_new w #[.string { data := #[] }, .string { data := #[] }, .string { data := #[] }] 26).alloc (.cells #[.string { data := #[] }, .string { data := #[] }, .string { data := #[] }] 26)).alloc (.cells #[.slice A l.length c, .int .i64 0, .int .i64 0] 79)
 have q1 := (row_new (w.alloc (.cells #[.string { data := #[] }, .string { data := #[] }, .string { data := #[] }] 26)) #[.string { data := #[] }, .string { data := #[] }, .string { data := #[] }] 26).alloc (.cells #[.slice A l.length c, .int .i64 0, .int .i64 0] 79)
 have q2 := row_new ((w.alloc (.cells #[.string { data := #[] }, .string { data := #[] }, .string { data := #[] }] 26)).alloc (.cells #[.string { data := #[] }, .string { data := #[] }, .string { data := #[] }] 26)) #[.slice A l.length c, .int .i64 0, .int .i64 0] 79
 rw [size_alloc] at q1
 rw [size_alloc, size_alloc] at q2
 have qb := (((Below.refl w.heap.size w).alloc (Nat.le_refl _) (.cells #[.string { data := #[] }, .string { data := #[] }, .string { data := #[] }] 26)).alloc (by rw [size_alloc]; omega) (.cells #[.string { data := #[] }, .string { data := #[] }, .string { data := #[] }] 26)).alloc (by rw [size_alloc, size_alloc]; omega) (.cells #[.slice A l.length c, .int .i64 0, .int .i64 0] 79)
 obtain ⟨w1, hw1⟩ : ∃ W, ((w.alloc (.cells #[.string { data := #[] }, .string { data := #[] }, .string { data := #[] }] 26)).alloc (.cells #[.string { data := #[] }, .string { data := #[] }, .string { data := #[] }] 26)).alloc (.cells #[.slice A l.length c, .int .i64 0, .int .i64 0] 79) = W := ⟨_, rfl⟩
 rw [hw1] at q0 q1 q2 qb
 have HW1 := Lib.hid hw1
 have hf : ∀ p, A = some p → l ≠ [] → p.block < w.heap.size := fun p hp hl => by
  obtain ⟨b, off, e, hb, _⟩ := h.rd (fun e => hl (by cases l with | nil => rfl | cons => cases e))
  rw [hp] at e; injection e with e; subst e; exact hb
 have HC0 := Lib.hid (show RlC w w1 (w.heap.size + 1 + 1) (w.heap.size + 1) w.heap.size l ⟨0, 0⟩ #[.string { data := #[] }, .string { data := #[] }, .string { data := #[] }] from ⟨⟨⟨A, c, q2, ⟨h.keep qb, fun p hp hl => by have := hf p hp hl; omega, .inl hf⟩⟩, by omega, Nat.zero_le _⟩, q1, q0, qb, by omega, Nat.le_refl _, by omega⟩)
 clear hs1 hs2 hs3 hdx q0 q1 q2 qb hw1 h hf hz
 rw [HE.out]
 obtain ⟨R, hR⟩ : ∃ R, (if dx ≠ 0 then .error dx else .ok ⟨v1, v2, v3⟩ : Except Nat Hd.Lk) = R := ⟨_, rfl⟩
 have HR := Lib.hid hR
 rw [hR]
 clear hR HE
 have hne1 : ¬ w.heap.size + 1 + 1 = w.heap.size + 1 := by omega
 have hne2 : ¬ w.heap.size + 1 = w.heap.size + 1 + 1 := by omega
 go_enter Tryd.func17, Tryd.ntmps17
 go_upto_region 3 with fail
 rw [HW1.out]
 obtain ⟨A1, c1, r1, hbs⟩ := HC0.out.rd.ex
 have HAT := Lib.hid (HA1.out (⟨0, 0⟩ : Hd.RS) HC0.out.rd.at_ _ HS1.out)
 have C := readText_st A1 l.length c1 64 l (⟨0, 0⟩ : Hd.RS) w1 hbs.bs HC0.out.rd.at_ hn (by omega) (by omega)
 rw [HS1.out] at C
 have C := Lib.hid C
 unfold RSPost rv at C
 rw [show (((⟨0, 0⟩ : Hd.RS).at_ : Nat) : Int) = 0 from rfl] at C
 have x0 := r1.cellQ 0 _ rfl
 have x1 := r1.cellQ 1 _ rfl
 have x2 := r1.cellQ 2 _ rfl
 have HRR := Lib.hid r1
 clear r1 hbs
 go_wp2_with fail
 (with_reducible refine C.out.mono ?_)
 rintro e w20 ⟨B1, d1, ho, hb, rfl⟩
 have rr := HRR.out.belowS hb (Nat.le_refl _)
 have HL := Lib.hid (HC0.out.rl.belowS hb (Nat.le_refl _))
 have HP := Lib.hid (fun wd hd => hr_put (wd := wd) HC0.out.bel.size hb rr rfl HRR.out.lt HC0.out.rd.b1 HAT.out ho hd)
 clear x0 x1 x2 C
 have x0 := rr.cellQ 0 _ rfl
 have x1 := rr.cellQ 1 _ rfl
 have x2 := rr.cellQ 2 _ rfl
 have y0 := rr.frozen 0
 have y1 := rr.frozen 1
 have y2 := rr.frozen 2
 have z0 := HL.out.cellQ 0 _ rfl
 have u0 := HL.out.frozen 0
 clear rr ho hb
 go_upto_region 4 with fail
 generalize hwc : World.setCell (World.setCell (World.setCell w20 _ _) _ _) _ _ = wc
 have HP2 := HP.out wc (by rw [← hwc]; rfl)
 have HD := Lib.hid (HC0.out.turn HP2.1 HP2.2.1 HP2.2.2)
 generalize hwd : World.setCell wc _ _ = w11
 have HC1 := Lib.hid (show RlC w w11 (w.heap.size + 1 + 1) (w.heap.size + 1) w.heap.size l s1 #[sv v1, (.string { data := #[] }), (.string { data := #[] })] by rw [← hwd]; exact HD.out.setL rfl 0 _)
 clear hwc hwd HP HP2 HD HL HRR HAT x0 x1 x2 y0 y1 y2 z0 u0 HC0
 obtain ⟨A2, c2, r2, hbs⟩ := HC1.out.rd.ex
 have HAT := Lib.hid (HA1.out s1 HC1.out.rd.at_ _ HS2.out)
 have C := readText_st A2 l.length c2 64 l s1 w11 hbs.bs HC1.out.rd.at_ hn (by omega) (by omega)
 rw [HS2.out] at C
 have C := Lib.hid C
 unfold RSPost rv at C
 have x0 := r2.cellQ 0 _ rfl
 have x1 := r2.cellQ 1 _ rfl
 have x2 := r2.cellQ 2 _ rfl
 have HRR := Lib.hid r2
 clear r2 hbs
 go_wp2_with fail
 (with_reducible refine C.out.mono ?_)
 rintro e w21 ⟨B2, d2, ho, hb, rfl⟩
 have rr := HRR.out.belowS hb (Nat.le_refl _)
 have HL := Lib.hid (HC1.out.rl.belowS hb (Nat.le_refl _))
 have HP := Lib.hid (fun wd hd => hr_put (wd := wd) HC1.out.bel.size hb rr rfl HRR.out.lt HC1.out.rd.b1 HAT.out ho hd)
 clear x0 x1 x2 C
 have x0 := rr.cellQ 0 _ rfl
 have x1 := rr.cellQ 1 _ rfl
 have x2 := rr.cellQ 2 _ rfl
 have y0 := rr.frozen 0
 have y1 := rr.frozen 1
 have y2 := rr.frozen 2
 have z0 := HL.out.cellQ 1 _ rfl
 have u0 := HL.out.frozen 1
 clear rr ho hb
 go_upto_region 5 with fail
 generalize hwc : World.setCell (World.setCell (World.setCell w21 _ _) _ _) _ _ = wc
 have HP2 := HP.out wc (by rw [← hwc]; rfl)
 have HD := Lib.hid (HC1.out.turn HP2.1 HP2.2.1 HP2.2.2)
 generalize hwd : World.setCell wc _ _ = w12
 have HC2 := Lib.hid (show RlC w w12 (w.heap.size + 1 + 1) (w.heap.size + 1) w.heap.size l s2 #[sv v1, sv v2, (.string { data := #[] })] by rw [← hwd]; exact HD.out.setL rfl 1 _)
 clear hwc hwd HP HP2 HD HL HRR HAT x0 x1 x2 y0 y1 y2 z0 u0 HC1
 obtain ⟨A3, c3, r3, hbs⟩ := HC2.out.rd.ex
 have HAT := Lib.hid (HA3.out s2 HC2.out.rd.at_ _ HS3.out)
 have C := readDigest_st A3 l.length c3 l s2 w12 hbs.bs HC2.out.rd.at_ hn
 rw [HS3.out] at C
 have C := Lib.hid C
 unfold RSPost rv at C
 have x0 := r3.cellQ 0 _ rfl
 have x1 := r3.cellQ 1 _ rfl
 have x2 := r3.cellQ 2 _ rfl
 have HRR := Lib.hid r3
 clear r3 hbs
 go_wp2_with fail
 (with_reducible refine C.out.mono ?_)
 rintro e w22 ⟨B3, d3, ho, hb, rfl⟩
 have rr := HRR.out.belowS hb (Nat.le_refl _)
 have HL := Lib.hid (HC2.out.rl.belowS hb (Nat.le_refl _))
 have HP := Lib.hid (fun wd hd => hr_put (wd := wd) HC2.out.bel.size hb rr rfl HRR.out.lt HC2.out.rd.b1 HAT.out ho hd)
 clear x0 x1 x2 C
 have x0 := rr.cellQ 0 _ rfl
 have x1 := rr.cellQ 1 _ rfl
 have x2 := rr.cellQ 2 _ rfl
 have y0 := rr.frozen 0
 have y1 := rr.frozen 1
 have y2 := rr.frozen 2
 have z0 := HL.out.cellQ 2 _ rfl
 have u0 := HL.out.frozen 2
 clear rr ho hb
 go_upto_region 6 with fail
 generalize hwc : World.setCell (World.setCell (World.setCell w22 _ _) _ _) _ _ = wc
 have HP2 := HP.out wc (by rw [← hwc]; rfl)
 have HD := Lib.hid (HC2.out.turn HP2.1 HP2.2.1 HP2.2.2)
 generalize hwd : World.setCell wc _ _ = w13
 have HC3 := Lib.hid (show RlC w w13 (w.heap.size + 1 + 1) (w.heap.size + 1) w.heap.size l s3 #[sv v1, sv v2, sv v3] by rw [← hwd]; exact HD.out.setL rfl 2 _)
 clear hwc hwd HP HP2 HD HL HRR HAT x0 x1 x2 y0 y1 y2 z0 u0 HC2
 obtain ⟨Ag, cg, rg, CD⟩ := HC3.out.rd.doneC HDX.out
 have CD := Lib.hid CD
 have x0 := rg.cellQ 0 _ rfl
 have x1 := rg.cellQ 1 _ rfl
 have x2 := rg.cellQ 2 _ rfl
 clear rg
 go_wp2_with fail
 (with_reducible refine (CD.out _).mono ?_)
 rintro e w30 ⟨rfl, hb30⟩
 have HF := Lib.hid (HC3.out.keep hb30)
 clear hb30 x0 x1 x2 CD HC3
 have z0 := HF.out.rr.cellQ 0 _ rfl
 have z1 := HF.out.rr.cellQ 1 _ rfl
 have z2 := HF.out.rr.cellQ 2 _ rfl
 have u0 := HF.out.rr.frozen 0
 have u1 := HF.out.rr.frozen 1
 have u2 := HF.out.rr.frozen 2
 by_cases hd0 : dx = 0
 ·
  subst hd0
  have HR1 := Lib.hid (show R = .ok ⟨v1, v2, v3⟩ by rw [← HR.out, if_neg (by simp)])
  have q0 := HF.out.rl.cellQ 0 _ rfl
  have q1 := HF.out.rl.cellQ 1 _ rfl
  have q2 := HF.out.rl.cellQ 2 _ rfl
  go_wp2
  generalize hwf : World.setCell (World.setCell (World.setCell w30 _ _) _ _) _ _ = wf
  have hsf : setFrom w.heap.size w30 0 [sv v1, sv v2, sv v3] = wf := by rw [← hwf]; rfl
  have hrow := HF.out.rr.all [sv v1, sv v2, sv v3] rfl
  rw [hsf] at hrow
  have r0 := hrow.cellQ 0 _ rfl
  have r1 := hrow.cellQ 1 _ rfl
  have r2 := hrow.cellQ 2 _ rfl
  refine bodyPost_ret (v := .tuple #[.agg #[sv v1, sv v2, sv v3], .int .i64 0]) (by simp [results, Tryd.results17, go_sem, r0, r1, r2]) rfl ?_
  have hbel : Below w.heap.size w wf := by rw [← hsf]; exact below_setFrom (Nat.le_refl _) _ 0 HF.out.bel
  rw [HR1.out]
  exact ⟨hbel, rfl⟩
 ·
  have HR1 := Lib.hid (show R = .error dx by rw [← HR.out, if_pos hd0])
  have hdi : ((dx : Int) == 0) = false := beq_eq_false_iff_ne.2 (by omega)
  go_wp2
  generalize hwf : World.setCell (World.setCell (World.setCell w30 _ _) _ _) _ _ = wf
  have hsf : setFrom w.heap.size w30 0 [.string { data := #[] }, .string { data := #[] }, .string { data := #[] }] = wf := by rw [← hwf]; rfl
  have hrow := HF.out.rr.all [.string { data := #[] }, .string { data := #[] }, .string { data := #[] }] rfl
  rw [hsf] at hrow
  have r0 := hrow.cellQ 0 _ rfl
  have r1 := hrow.cellQ 1 _ rfl
  have r2 := hrow.cellQ 2 _ rfl
  refine bodyPost_ret (v := .tuple #[.agg #[.string { data := #[] }, .string { data := #[] }, .string { data := #[] }], .int .i64 (dx : Int)]) (by simp [results, Tryd.results17, go_sem, r0, r1, r2]) rfl ?_
  have hbel : Below w.heap.size w wf := by rw [← hsf]; exact below_setFrom (Nat.le_refl _) _ 0 HF.out.bel
  rw [HR1.out]
  exact ⟨hbel, rfl, hd0⟩
namespace Hd
def k00 : Lk := ⟨[], [], []⟩
def kOf : Except Nat Lk → Lk
 | .ok h => h
 | .error _ => k00
def stLink (l : By) (s : RS) : RS × Lk := if (stText l 200 s).1.x ≠ 0 then ((stText l 200 s).1, k00) else (⟨(stText l 200 s).1.at_, xOf (rdLk (stText l 200 s).2)⟩, kOf (rdLk (stText l 200 s).2))
structure Pf where
 at_ : Int
 link : Lk
 path : List By
 docs : By
def stProof (l : By) (s : RS) : RS × Pf := ((stText l 4000 (stPath l (stLink l (stNum l s).1).1).1).1, ⟨((stNum l s).2 : Int), (stLink l (stNum l s).1).2, (stPath l (stLink l (stNum l s).1).1).2, (stText l 4000 (stPath l (stLink l (stNum l s).1).1).1).2⟩)
end Hd
theorem RLkPost.un {r : Except Nat Hd.Lk} {w : World} {e : Ending} {w' : World} (h : RLkPost r w e w') : e = .returned (.tuple #[.agg #[sv (Hd.kOf r).term, sv (Hd.kOf r).next, sv (Hd.kOf r).posts], .int .i64 (Hd.xOf r : Int)]) ∧ Below w.heap.size w w' := by
 cases r with
 | ok x => exact ⟨h.2, h.1⟩
 | error x => exact ⟨h.2.1, h.1⟩
structure PfAt (w : World) (b : Nat) (Ap : Option Addr) (np cp : Nat) (Ad : Option Addr) (nd cd : Nat) (p : Hd.Pf) : Prop where
 path : OwnS w b Ap np cp p.path
 docs : Ty8 w b Ad nd cd p.docs
def pfv (Ap : Option Addr) (np cp : Nat) (Ad : Option Addr) (nd cd : Nat) (p : Hd.Pf) : Value := .agg #[.int .i64 p.at_, sv p.link.term, sv p.link.next, sv p.link.posts, .slice Ap np cp, .slice Ad nd cd]
def isPf (b : Nat) (p : Hd.Pf) (v : Value) (w : World) : Prop := ∃ Ap np cp Ad nd cd, v = pfv Ap np cp Ad nd cd p ∧ PfAt w b Ap np cp Ad nd cd p
section
variable {w W W' : World} {B g gr gp : Nat} {l : List UInt8} {s s' : Hd.RS} {ps : Array Value}
end
namespace Hd
def wProof (s : WS) (p : Pf) : WS := match p.link.wr with
 | none => ⟨(wNum s p.at_).l, true⟩
 | some b => wText (wPath (wText (wNum s p.at_) b 200) p.path) p.docs 4000
theorem wProof_len (s : WS) (p : Pf) : (wProof s p).l.length ≤ s.l.length + 7000 := by
 unfold wProof
 have h1 := wNum_len s p.at_
 cases p.link.wr with
 | none => show (wNum s p.at_).l.length ≤ _; omega
 | some b =>
  have h2 := wText_len (wNum s p.at_) b 200 (by omega)
  have h3 := wPath_len (wText (wNum s p.at_) b 200) p.path
  have h4 := wText_len (wPath (wText (wNum s p.at_) b 200) p.path) p.docs 4000 (by omega)
  show (wText (wPath (wText (wNum s p.at_) b 200) p.path) p.docs 4000).l.length ≤ _
  omega
end Hd
structure PfD where
 p : Hd.Pf
 ap : Option Addr
 np : Nat
 cp : Nat
 ad : Option Addr
 nd : Nat
 cd : Nat
structure RwD where
 a : Option Addr
 n : Nat
 c : Nat
 l : List PfD
def pfc (d : PfD) : List Value := [.int .i64 d.p.at_, sv d.p.link.term, sv d.p.link.next, sv d.p.link.posts, .slice d.ap d.np d.cp, .slice d.ad d.nd d.cd]
theorem pfc_len (d : PfD) : (pfc d).length = 6 := rfl
def rwc (r : RwD) : List Value := [.slice r.a r.n r.c]
theorem rwc_len (r : RwD) : (rwc r).length = 1 := rfl
structure InPf (W : World) (d : PfD) : Prop where
 s : Ss W d.ap d.np d.cp d.p.path
 b : Bs W d.ad d.nd d.cd d.p.docs
structure InRow (W : World) (r : RwD) : Prop where
 q : Sq pfc 6 W r.a r.n r.c r.l
 i : ∀ d ∈ r.l, InPf W d
structure InRows (W : World) (A : Option Addr) (n c : Nat) (L : List RwD) : Prop where
 q : Sq rwc 1 W A n c L
 i : ∀ r ∈ L, InRow W r
theorem InPf.keep {W W' : World} {d : PfD} (h : InPf W d) (hb : Below W.heap.size W W') : InPf W' d := ⟨h.s.keep hb, h.b.keep hb⟩
theorem InRow.keep {W W' : World} {r : RwD} (h : InRow W r) (hb : Below W.heap.size W W') : InRow W' r := ⟨h.q.keep hb, fun d hd => (h.i d hd).keep hb⟩
theorem InRows.keep {W W' : World} {A : Option Addr} {n c : Nat} {L : List RwD} (h : InRows W A n c L) (hb : Below W.heap.size W W') : InRows W' A n c L := ⟨h.q.keep hb, fun r hr => (h.i r hr).keep hb⟩
namespace Hd
structure An where
 h : H
 rows : List (List Pf)
def wRow (s : WS) (l : List Pf) : WS := l.foldl wProof (wNum s (l.length : Int))
def wRows (s : WS) : List (List Pf) → Option WS
 | [] => some s
 | l :: ls => if 16 < l.length then none else wRows (wRow s l) ls
def finO : Option WS → Except Nat By
 | none => .error 1
 | some s => wEnd s
def wrAns (a : An) : Except Nat By := if a.rows.length ≠ a.h.segs.length then .error 1 else finO (wRows (wHead ⟨[1], false⟩ a.h) a.rows)
structure Pf.Small (p : Pf) : Prop where
 a1 : -9223372036854775808 ≤ p.at_
 a2 : p.at_ ≤ 9223372036854775807
 pl : ∀ d ∈ p.path, d.length ≤ 1000000
end Hd
def RwD.ps (r : RwD) : List Hd.Pf := r.l.map PfD.p
namespace Hd
def stPK (l : By) (s0 : RS) : Nat → RS × List Pf
 | 0 => (s0, [])
 | k + 1 => ((stProof l (stPK l s0 k).1).1, (stPK l s0 k).2 ++ [(stProof l (stPK l s0 k).1).2])
theorem stPK_len (l : By) (s0 : RS) : ∀ k, (stPK l s0 k).2.length = k
 | 0 => rfl
 | k + 1 => by simp only [stPK, List.length_append, stPK_len l s0 k, List.length_singleton]
def stRow (l : By) (s : RS) : RS × List Pf := stPK l (stCount l 16 s).1 (stCount l 16 s).2
def stRK (l : By) (s0 : RS) : Nat → RS × List (List Pf)
 | 0 => (s0, [])
 | k + 1 => ((stRow l (stRK l s0 k).1).1, (stRK l s0 k).2 ++ [(stRow l (stRK l s0 k).1).2])
theorem stRK_len (l : By) (s0 : RS) : ∀ k, (stRK l s0 k).2.length = k
 | 0 => rfl
 | k + 1 => by simp only [stRK, List.length_append, stRK_len l s0 k, List.length_singleton]
def rdAns (l : By) : Except Nat An :=
 if begX l 1 ≠ 0 then .error (begX l 1) else
 if doneX l (stRK l (stHead l ⟨1, 0⟩).1 (stHead l ⟨1, 0⟩).2.segs.length).1 ≠ 0 then .error (doneX l (stRK l (stHead l ⟨1, 0⟩).1 (stHead l ⟨1, 0⟩).2.segs.length).1) else .ok ⟨(stHead l ⟨1, 0⟩).2, (stRK l (stHead l ⟨1, 0⟩).1 (stHead l ⟨1, 0⟩).2.segs.length).2⟩
theorem stHead_few (l : By) (s : RS) : (stHead l s).2.segs.length ≤ 64 := by
 unfold stHead
 split
 · exact Nat.zero_le _
 ·
  cases h : rdHd (stText l 10000 s).2 with
  | error x => exact Nat.zero_le _
  | ok hh =>
   show hh.segs.length ≤ 64
   unfold rdHd at h
   split at h
   · cases h
   ·
    split at h
    · cases h
    ·
     split at h
     ·
      rename_i ok
      injection h with h
      subst h
      exact (H.ok_iff ok).few
     · cases h
end Hd
section
variable {α : Type} {cs : α → List Value} {k bytes : Nat} {ops : Array Oper} {rest : List Oper} {o : Oper} {a : Act} {Q : Exit → Act → World → Prop} {w : World}
theorem wl_appQ1k {T e : TypeId} (hk : ∀ a, (cs a).length = k) (hT : ElemT Tryd.prog T e k bytes) (hbt : bytes ≤ 1000) (hone : ∀ a, ∀ u ∈ cs a, u.oneCell' = true) (hgd : o.guard = none) (s x : Operand) (ho : o.op = .call { callee := .builtin .append, args := #[s, x], argTypes := #[T, T] })
  {w0 : World} {B : Nat} {A : Option Addr} {n c : Nat} {l : List α} (hs : a.eval s = .slice A n c) (h1 : OwnQ cs k e w0 B A n c l) (hx : a.eval x = .slice (some ⟨w0.heap.size, 0, none⟩) 1 1) (b : α) {lit : Array Value} (hlit : lit.toList = cs b) (hsz : n ≤ 1000000000) (hB : B ≤ w0.heap.size)
  (h : ∀ A' c' w', OwnQ cs k e w' B A' (n + 1) c' (l ++ [b]) → (w0.alloc (.cells lit e)).grownBy w' (Value.slice A n c).ownBlock → Below B (w0.alloc (.cells lit e)) w' → wpList Tryd.prog ops Q rest (a.put o.dst (.slice A' (n + 1) c')) w') : wpList Tryd.prog ops Q (o :: rest) a (w0.alloc (.cells lit e)) := by
 have hb0 : Below w0.heap.size w0 (w0.alloc (.cells lit e)) := (Below.refl _ w0).alloc (Nat.le_refl _) _
 have hr : Rd (w0.alloc (.cells lit e)) (w0.heap.size + 1) (some ⟨w0.heap.size, 0, none⟩) (cs b) := by
  have := rd_new w0 (cs b) e (0, 0)
  rw [← hlit] at this ⊢
  simpa using this
 refine wl_app hgd s x T ho B e k bytes hT _ n _ hs (h1.keep hb0).own (w0.heap.size + 1) (some ⟨w0.heap.size, 0, none⟩) 1 1 (cs b) hx hr (by rw [hk, Nat.one_mul]) (hone b) (by rw [maxLen_eq]; omega) (by
  have : (n + 1) * bytes ≤ (n + 1) * 1000 := Nat.mul_le_mul_left _ hbt
  omega) (Nat.le_trans hB hb0.size) fun A' c' w' g1 g2 _ g4 g5 g6 => ?_
 exact h A' c' w' ⟨by rw [List.flatMap_append]; simpa using g1, by rw [List.length_append, h1.len]; rfl, g5, g6⟩ g2 g4
end
theorem pfc_one (d : PfD) : ∀ u ∈ pfc d, u.oneCell' = true := fun u hu => by
 simp only [pfc, List.mem_cons, List.not_mem_nil, or_false] at hu
 rcases hu with rfl | rfl | rfl | rfl | rfl | rfl <;> rfl
theorem rwc_one (d : RwD) : ∀ u ∈ rwc d, u.oneCell' = true := fun u hu => by
 simp only [rwc, List.mem_cons, List.not_mem_nil, or_false] at hu
 subst hu; rfl
theorem PfAt.keepTy {S : List TypeId} {w w' : World} {b : Nat} {Ap : Option Addr} {np cp : Nat} {Ad : Option Addr} {nd cd : Nat} {p : Hd.Pf} (h : PfAt w b Ap np cp Ad nd cd p) (h1 : 9 ∉ S) (h2 : 5 ∉ S) (k : KeepTy S w w') : PfAt w' b Ap np cp Ad nd cd p := ⟨h.path.keepTy h1 k, h.docs.keepTy h2 k⟩
theorem PfAt.base {w : World} {b b' : Nat} {Ap : Option Addr} {np cp : Nat} {Ad : Option Addr} {nd cd : Nat} {p : Hd.Pf} (h : PfAt w b Ap np cp Ad nd cd p) (hb : b' ≤ b) : PfAt w b' Ap np cp Ad nd cd p := ⟨h.path.base hb, h.docs.base hb⟩
structure OwnRw (W : World) (b : Nat) (r : RwD) : Prop where
 q : OwnQ pfc 6 30 W b r.a r.n r.c r.l
 i : ∀ d ∈ r.l, PfAt W b d.ap d.np d.cp d.ad d.nd d.cd d.p
theorem OwnRw.keepTy {S : List TypeId} {W W' : World} {b : Nat} {r : RwD} (h : OwnRw W b r) (h0 : 30 ∉ S) (h1 : 9 ∉ S) (h2 : 5 ∉ S) (k : KeepTy S W W') : OwnRw W' b r := ⟨h.q.keepTy h0 k, fun d hd => (h.i d hd).keepTy h1 h2 k⟩
theorem OwnRw.base {W : World} {b b' : Nat} {r : RwD} (h : OwnRw W b r) (hb : b' ≤ b) : OwnRw W b' r := ⟨h.q.base hb, fun d hd => (h.i d hd).base hb⟩
theorem OwnRw.inr {W : World} {b : Nat} {r : RwD} (h : OwnRw W b r) : InRow W r := ⟨h.q.sq, fun d hd => ⟨(h.i d hd).path.ss, (h.i d hd).docs.bs⟩⟩
section
variable {w W W' : World} {B g gr ga : Nat} {l : List UInt8} {s s' : Hd.RS} {cs : Array Value} {Ah : Option Addr} {nh ch : Nat} {hs : List Hd.Sg} {Ar : Option Addr} {nr cr : Nat} {LL : List RwD}
end
section
variable {wz W W' : World} {B g : Nat} {l : List UInt8} {s s' : Hd.RS} {A : Option Addr} {n c : Nat} {L : List PfD}
end
namespace Hd
theorem inv_num {l : By} {s : RS} (h : (stNum l s).1.x = 0) : s.x = 0 ∧ (stNum l s).2 ≤ 4611686018427387904 ∧ l.drop s.at_ = Code.num (stNum l s).2 ++ l.drop (stNum l s).1.at_ := by
 unfold stNum at h ⊢
 by_cases hx : s.x = 0
 ·
  rw [if_pos hx] at h ⊢
  cases hg : Code.getNum (l.drop s.at_) with
  | error e =>
   rw [hg] at h
   have := getNum_err hg
   simp only at h
   omega
  | ok r =>
   obtain ⟨v, k⟩ := r
   obtain ⟨h1, h2, _, h4, _⟩ := Code.getNum_ok hg
   refine ⟨hx, h2, ?_⟩
   show l.drop s.at_ = Code.num v ++ l.drop (s.at_ + k)
   rw [← h1, ← List.drop_drop, List.take_append_drop]
 ·
  rw [if_neg hx] at h
  exact absurd h hx
theorem inv_text {l : By} {most : Int} {s : RS} (h : (stText l most s).1.x = 0) : s.x = 0 ∧ ((stText l most s).2.length : Int) ≤ most ∧ l.drop s.at_ = Code.text (stText l most s).2 ++ l.drop (stText l most s).1.at_ := by
 unfold stText at h ⊢
 by_cases hx : s.x = 0
 ·
  rw [if_pos hx] at h ⊢
  cases hg : Code.getText most (l.drop s.at_) with
  | error e =>
   rw [hg] at h
   have := getText_err hg
   simp only at h
   omega
  | ok r =>
   obtain ⟨v, k⟩ := r
   obtain ⟨h1, _, _, h4, _⟩ := Code.getText_ok hg
   refine ⟨hx, h4, ?_⟩
   show l.drop s.at_ = Code.text v ++ l.drop (s.at_ + k)
   rw [← h1, ← List.drop_drop, List.take_append_drop]
 ·
  rw [if_neg hx] at h
  exact absurd h hx
theorem inv_dig {l : By} {s : RS} (h : (stDig l s).1.x = 0) : s.x = 0 ∧ (stDig l s).2.length = 32 ∧ l.drop s.at_ = (stDig l s).2 ++ l.drop (stDig l s).1.at_ := by
 unfold stDig at h ⊢
 by_cases hx : s.x = 0
 ·
  rw [if_pos hx] at h ⊢
  by_cases hm : l.length < s.at_ + 32
  ·
   rw [if_pos hm] at h
   cases h
  ·
   rw [if_neg hm]
   refine ⟨hx, ?_, ?_⟩
   ·
    show ((l.take (s.at_ + 32)).drop s.at_).length = 32
    rw [List.length_drop, List.length_take]; omega
   ·
    show l.drop s.at_ = (l.take (s.at_ + 32)).drop s.at_ ++ l.drop (s.at_ + 32)
    rw [List.drop_take, show s.at_ + 32 - s.at_ = 32 by omega, ← List.drop_drop, List.take_append_drop]
 ·
  rw [if_neg hx] at h
  exact absurd h hx
theorem inv_count {l : By} {m : Nat} {s : RS} (h : (stCount l m s).1.x = 0) : s.x = 0 ∧ (stCount l m s).2 ≤ m ∧ l.drop s.at_ = Code.num (stCount l m s).2 ++ l.drop (stCount l m s).1.at_ := by
 unfold stCount at h ⊢
 by_cases hm : m < (stNum l s).2
 · rw [if_pos hm] at h; cases h
 ·
  rw [if_neg hm] at h ⊢
  obtain ⟨h1, h2, h3⟩ := inv_num h
  exact ⟨h1, by omega, h3⟩
theorem inv_sg {l : By} {s : RS} {fr : Int} (h : (stSg l s fr).1.x = 0) : s.x = 0 ∧ l.drop s.at_ = (stSg l s fr).2.bytes ++ l.drop (stSg l s fr).1.at_ := by
 unfold stSg at h ⊢
 simp only at h ⊢
 obtain ⟨a1, a2, a3⟩ := inv_dig h
 obtain ⟨b1, b2, b3⟩ := inv_num a1
 obtain ⟨c1, c2, c3⟩ := inv_num b1
 refine ⟨c1, ?_⟩
 rw [c3, b3, a3]
 unfold Sg.bytes
 simp
theorem inv_K {l : By} {s0 : RS} : ∀ k, (stK l s0 k).1.x = 0 → s0.x = 0 ∧ l.drop s0.at_ = (stK l s0 k).2.2.flatMap Sg.bytes ++ l.drop (stK l s0 k).1.at_
 | 0, h => by simp only [stK] at h ⊢; exact ⟨h, by simp⟩
 | k + 1, h => by
  simp only [stK] at h ⊢
  obtain ⟨a1, a2⟩ := inv_sg h
  obtain ⟨b1, b2⟩ := inv_K k a1
  refine ⟨b1, ?_⟩
  rw [b2, a2, List.flatMap_append]
  simp
theorem done_inv {l : By} {s : RS} (h : doneX l s = 0) : s.x = 0 ∧ l.drop s.at_ = [] := by
 unfold doneX at h
 by_cases hx : s.x = 0
 ·
  rw [if_neg (by simpa using hx)] at h
  by_cases hl : s.at_ < l.length
  · rw [if_pos hl] at h; cases h
  · exact ⟨hx, List.drop_eq_nil_of_le (by omega)⟩
 · rw [if_pos hx] at h; exact absurd h hx
theorem rdHd_inv {l : By} {h : H} (e : rdHd l = .ok h) : h.ok = true ∧ h.bytes = l := by
 unfold rdHd at e
 split at e
 · cases e
 ·
  split at e
  · cases e
  ·
   rename_i hd
   split at e
   ·
    rename_i ok
    injection e with e
    obtain ⟨a1, a2⟩ := done_inv (by simpa using hd)
    obtain ⟨b1, b2⟩ := inv_K _ a1
    obtain ⟨c1, c2, c3⟩ := inv_num b1
    obtain ⟨d1, d2, d3⟩ := inv_dig c1
    obtain ⟨f1, f2, f3⟩ := inv_num d1
    rw [e] at ok
    refine ⟨ok, ?_⟩
    rw [← e]
    unfold H.bytes
    have hl : l = l.drop (⟨0, 0⟩ : RS).at_ := rfl
    conv => rhs; rw [hl, f3, d3, c3, b2, a2]
    simp only [Int.toNat_natCast, stK_len, List.append_nil]
   · cases e
theorem inv_head {l : By} {s : RS} (h : (stHead l s).1.x = 0) : s.x = 0 ∧ (stHead l s).2.ok = true ∧ l.drop s.at_ = Code.text (stHead l s).2.bytes ++ l.drop (stHead l s).1.at_ := by
 unfold stHead at h ⊢
 by_cases hx : (stText l 10000 s).1.x ≠ 0
 · rw [if_pos hx] at h; exact absurd h hx
 ·
  rw [if_neg hx] at h ⊢
  obtain ⟨a1, a2, a3⟩ := inv_text (by simpa using hx)
  cases hr : rdHd (stText l 10000 s).2 with
  | error x =>
   rw [hr] at h
   have hz : x ≠ 0 := by
    unfold rdHd at hr
    split at hr
    · injection hr with hr; omega
    ·
     split at hr
     ·
      rename_i hd
      injection hr with hr
      rw [← hr]; exact hd
     ·
      split at hr
      · cases hr
      · injection hr with hr; omega
   exact absurd h hz
  | ok hh =>
   obtain ⟨b1, b2⟩ := rdHd_inv hr
   refine ⟨a1, b1, ?_⟩
   show l.drop s.at_ = Code.text hh.bytes ++ l.drop (stText l 10000 s).1.at_
   rw [b2]; exact a3
theorem inv_DK {l : By} {s0 : RS} : ∀ k, (stDK l s0 k).1.x = 0 → s0.x = 0 ∧ (∀ d ∈ (stDK l s0 k).2, d.length = 32) ∧ l.drop s0.at_ = (stDK l s0 k).2.flatten ++ l.drop (stDK l s0 k).1.at_
 | 0, h => by simp only [stDK] at h ⊢; exact ⟨h, by simp, by simp⟩
 | k + 1, h => by
  simp only [stDK] at h ⊢
  obtain ⟨a1, a2, a3⟩ := inv_dig h
  obtain ⟨b1, b2, b3⟩ := inv_DK k a1
  refine ⟨b1, fun d hd => ?_, ?_⟩
  ·
   rcases List.mem_append.1 hd with hd | hd
   · exact b2 d hd
   · rw [List.mem_singleton.1 hd]; exact a2
  ·
   rw [b3, a3, List.flatten_append]
   simp
theorem inv_path {l : By} {s : RS} (h : (stPath l s).1.x = 0) : s.x = 0 ∧ pathsOk (stPath l s).2 = true ∧ l.drop s.at_ = pathB (stPath l s).2 ++ l.drop (stPath l s).1.at_ := by
 unfold stPath at h ⊢
 obtain ⟨a1, a2, a3⟩ := inv_DK _ h
 obtain ⟨b1, b2, b3⟩ := inv_count a1
 have hl := stDK_len l (stCount l 64 s).1 (stCount l 64 s).2
 refine ⟨b1, ?_, ?_⟩
 ·
  unfold pathsOk
  simp only [Bool.and_eq_true, decide_eq_true_eq]
  exact ⟨by omega, all32_iff.2 a2⟩
 ·
  unfold pathB
  rw [hl, b3, a3]
  simp
theorem beg_inv {l : By} {k : UInt8} (h : begX l k = 0) : l.length ≤ 1048576 ∧ l = k :: l.drop 1 := by
 unfold begX at h
 by_cases h3 : 1048576 < l.length
 · rw [if_pos h3] at h; cases h
 ·
  rw [if_neg h3] at h
  cases l with
  | nil => cases h
  | cons b l =>
   simp only at h
   by_cases hb : b = k
   · subst hb; exact ⟨by omega, rfl⟩
   · rw [if_neg hb] at h; cases h
theorem rdPage_inv {l : By} {p : Pg} (e : rdPage l = .ok p) : p.fair = true ∧ p.bytes = l ∧ begX l 2 = 0 := by
 unfold rdPage at e
 by_cases hb : begX l 2 ≠ 0
 · rw [if_pos hb] at e; cases e
 ·
  rw [if_neg hb] at e
  simp only at e
  split at e
  · cases e
  ·
   rename_i hd
   injection e with e
   obtain ⟨a1, a2⟩ := done_inv (by simpa using hd)
   obtain ⟨b1, b2, b3⟩ := inv_path a1
   obtain ⟨c1, c2, c3⟩ := inv_text b1
   obtain ⟨d1, d2, d3⟩ := inv_num c1
   obtain ⟨f1, f2, f3⟩ := inv_head d1
   have hb0 : begX l 2 = 0 := by simpa using hb
   obtain ⟨_, hl⟩ := beg_inv hb0
   rw [← e]
   refine ⟨Pg.fair_iff.2 ⟨f2, ⟨by show (0 : Int) ≤ ((stNum l (stHead l ⟨1, 0⟩).1).2 : Int); omega, by show ((stNum l (stHead l ⟨1, 0⟩).1).2 : Int) ≤ _; omega⟩, by show (stText l 2000 (stNum l (stHead l ⟨1, 0⟩).1).1).2.length ≤ 2000; omega, b2⟩, ?_, hb0⟩
   unfold Pg.bytes
   conv => rhs; rw [hl]
   have f3' : l.drop 1 = Code.text (stHead l ⟨1, 0⟩).2.bytes ++ l.drop (stHead l ⟨1, 0⟩).1.at_ := f3
   rw [f3', d3, c3, b3, a2]
   simp
theorem rdStep_inv {l : By} {p : Stp} (e : rdStep l = .ok p) : p.fair = true ∧ p.bytes = l ∧ begX l 3 = 0 := by
 unfold rdStep at e
 by_cases hb : begX l 3 ≠ 0
 · rw [if_pos hb] at e; cases e
 ·
  rw [if_neg hb] at e
  simp only at e
  split at e
  · cases e
  ·
   rename_i hd
   injection e with e
   obtain ⟨a1, a2⟩ := done_inv (by simpa using hd)
   obtain ⟨b1, b2, b3⟩ := inv_path a1
   obtain ⟨c1, c2, c3⟩ := inv_head b1
   obtain ⟨f1, f2, f3⟩ := inv_head c1
   have hb0 : begX l 3 = 0 := by simpa using hb
   obtain ⟨_, hl⟩ := beg_inv hb0
   rw [← e]
   refine ⟨Stp.fair_iff.2 ⟨f2, c2, b2⟩, ?_, hb0⟩
   unfold Stp.bytes
   conv => rhs; rw [hl]
   have f3' : l.drop 1 = Code.text (stHead l ⟨1, 0⟩).2.bytes ++ l.drop (stHead l ⟨1, 0⟩).1.at_ := f3
   rw [f3', c3, b3, a2]
   simp
end Hd
namespace Hd
/-! Links. -/
theorem Lk.may_iff {k : Lk} : k.may = true ↔ k.term.length ≤ 64 ∧ k.next.length ≤ 64 ∧ k.posts.length = 32 := by
 unfold Lk.may
 simp only [Bool.and_eq_true, decide_eq_true_eq]
theorem Lk.bytes_le {k : Lk} (h : k.may = true) : k.bytes.length ≤ 178 := by
 obtain ⟨h1, h2, h3⟩ := Lk.may_iff.1 h
 have a1 := text_le h1 (by omega)
 have a2 := text_le h2 (by omega)
 unfold Lk.bytes
 rw [List.length_append, List.length_append]
 omega
theorem rdLk_bytes {k : Lk} (h : k.may = true) : rdLk k.bytes = .ok k := by
 obtain ⟨h1, h2, h3⟩ := Lk.may_iff.1 h
 have d0 : k.bytes.drop 0 = Code.text k.term ++ (Code.text k.next ++ (k.posts ++ [])) := by unfold Lk.bytes; simp
 have e0 := stText_of (most := 64) d0 (by omega) (by omega)
 have d1 := drop_add d0
 have e1 := stText_of (most := 64) d1 (by omega) (by omega)
 have d2 := drop_add d1
 have e2 := stDig_of d2 h3
 have d3 := drop_add d2
 have hlen := congrArg List.length d3
 rw [List.length_drop, List.length_nil, h3] at hlen
 unfold rdLk
 simp only [e0, e1, e2]
 rw [if_neg]
 unfold doneX
 simp only [ne_eq, not_true, if_false]
 rw [if_neg (by omega)]
 simp
theorem rdLk_inv {l : By} {k : Lk} (e : rdLk l = .ok k) : k.may = true ∧ k.bytes = l := by
 unfold rdLk at e
 split at e
 · cases e
 ·
  rename_i hd
  injection e with e
  obtain ⟨a1, a2⟩ := done_inv (by simpa using hd)
  obtain ⟨b1, b2, b3⟩ := inv_dig a1
  obtain ⟨c1, c2, c3⟩ := inv_text b1
  obtain ⟨f1, f2, f3⟩ := inv_text c1
  rw [← e]
  refine ⟨Lk.may_iff.2 ⟨by show (stText l 64 ⟨0, 0⟩).2.length ≤ 64; omega, by show (stText l 64 (stText l 64 ⟨0, 0⟩).1).2.length ≤ 64; omega, b2⟩, ?_⟩
  unfold Lk.bytes
  have hl : l = l.drop (⟨0, 0⟩ : RS).at_ := rfl
  conv => rhs; rw [hl, f3, c3, b3, a2]
  simp
theorem rdLk_err {l : By} {x : Nat} (e : rdLk l = .error x) : x ≠ 0 := by
 unfold rdLk at e
 split at e
 ·
  rename_i hd
  injection e with e
  rw [← e]; exact hd
 · cases e
/-! Proofs. -/
def Pf.may (p : Pf) : Bool := decide (0 ≤ p.at_) && (decide (p.at_ ≤ 4611686018427387904) && (p.link.may && (pathsOk p.path && decide (p.docs.length ≤ 4000))))
def Pf.bytes (p : Pf) : By := ((Code.num p.at_.toNat ++ Code.text p.link.bytes) ++ pathB p.path) ++ Code.text p.docs
theorem Pf.may_iff {p : Pf} : p.may = true ↔ (0 ≤ p.at_ ∧ p.at_ ≤ 4611686018427387904) ∧ p.link.may = true ∧ pathsOk p.path = true ∧ p.docs.length ≤ 4000 := by
 unfold Pf.may
 simp only [Bool.and_eq_true, decide_eq_true_eq, and_assoc]
theorem wProof_ok (s : WS) {p : Pf} (h : p.may = true) : wProof s p = ⟨s.l ++ p.bytes, s.bad⟩ := by
 obtain ⟨h1, h2, h3, h4⟩ := Pf.may_iff.1 h
 unfold wProof
 rw [show p.link.wr = some p.link.bytes from if_pos h2]
 simp only
 rw [wNum_ok s h1, wText_ok (b := p.link.bytes) (m := 200) _ (by have := Lk.bytes_le h2; omega), wPath_ok _ h3, wText_ok (b := p.docs) (m := 4000) _ h4]
 unfold Pf.bytes
 simp
theorem wProof_bad (s : WS) (p : Pf) : (wProof s p).bad = (s.bad || !p.may) := by
 cases h : p.may with
 | true => rw [wProof_ok s h]; simp
 | false =>
  unfold wProof
  cases hl : p.link.may with
  | false => rw [show p.link.wr = none from if_neg (by rw [hl]; decide)]; simp
  | true =>
   rw [show p.link.wr = some p.link.bytes from if_pos hl]
   simp only
   rw [wText_bad, wPath_bad, wText_bad, wNum_bad]
   unfold Pf.may at h
   rw [hl] at h
   have hb : decide (p.link.bytes.length ≤ 200) = true := decide_eq_true (by have := Lk.bytes_le hl; omega)
   rw [hb]
   revert h
   generalize decide (0 ≤ p.at_) = a
   generalize decide (p.at_ ≤ 4611686018427387904) = b
   generalize pathsOk p.path = c
   generalize decide (p.docs.length ≤ 4000) = d
   cases a <;> cases b <;> cases c <;> cases d <;> simp
theorem stLink_of {l r : By} {a : Nat} {k : Lk} (h : k.may = true) (e : l.drop a = Code.text k.bytes ++ r) : stLink l ⟨a, 0⟩ = (⟨a + (Code.text k.bytes).length, 0⟩, k) := by
 have hl := Lk.bytes_le h
 have e1 := stText_of (most := 200) e (by omega) (by omega)
 unfold stLink
 rw [e1]
 simp only [ne_eq, not_true, if_false, rdLk_bytes h]
 rfl
theorem inv_link {l : By} {s : RS} (h : (stLink l s).1.x = 0) : s.x = 0 ∧ (stLink l s).2.may = true ∧ l.drop s.at_ = Code.text (stLink l s).2.bytes ++ l.drop (stLink l s).1.at_ := by
 unfold stLink at h ⊢
 by_cases hx : (stText l 200 s).1.x ≠ 0
 · rw [if_pos hx] at h; exact absurd h hx
 ·
  rw [if_neg hx] at h ⊢
  obtain ⟨a1, a2, a3⟩ := inv_text (by simpa using hx)
  cases hr : rdLk (stText l 200 s).2 with
  | error x =>
   rw [hr] at h
   exact absurd h (rdLk_err hr)
  | ok k =>
   obtain ⟨b1, b2⟩ := rdLk_inv hr
   refine ⟨a1, b1, ?_⟩
   show l.drop s.at_ = Code.text k.bytes ++ l.drop (stText l 200 s).1.at_
   rw [b2]; exact a3
theorem stProof_of {l r : By} {a : Nat} {p : Pf} (h : p.may = true) (e : l.drop a = p.bytes ++ r) : stProof l ⟨a, 0⟩ = (⟨a + p.bytes.length, 0⟩, p) := by
 obtain ⟨h1, h2, h3, h4⟩ := Pf.may_iff.1 h
 have d0 : l.drop a = Code.num p.at_.toNat ++ (Code.text p.link.bytes ++ (pathB p.path ++ (Code.text p.docs ++ r))) := by rw [e]; unfold Pf.bytes; simp
 have e0 := stNum_of d0 (by omega)
 have d1 := drop_add d0
 have e1 := stLink_of h2 d1
 have d2 := drop_add d1
 have e2 := stPath_of h3 d2
 have d3 := drop_add d2
 have e3 := stText_of (most := 4000) d3 (by omega) (by omega)
 unfold stProof
 simp only [e0, e1, e2, e3]
 rw [num_int h1.1]
 have hb : p.bytes.length = (Code.num p.at_.toNat).length + (Code.text p.link.bytes).length + (pathB p.path).length + (Code.text p.docs).length := by unfold Pf.bytes; simp only [List.length_append]
 rw [hb]
 simp only [Nat.add_assoc]
theorem inv_proof {l : By} {s : RS} (h : (stProof l s).1.x = 0) : s.x = 0 ∧ (stProof l s).2.may = true ∧ l.drop s.at_ = (stProof l s).2.bytes ++ l.drop (stProof l s).1.at_ := by
 unfold stProof at h ⊢
 simp only at h ⊢
 obtain ⟨a1, a2, a3⟩ := inv_text h
 obtain ⟨b1, b2, b3⟩ := inv_path a1
 obtain ⟨c1, c2, c3⟩ := inv_link b1
 obtain ⟨d1, d2, d3⟩ := inv_num c1
 refine ⟨d1, Pf.may_iff.2 ⟨⟨by show (0 : Int) ≤ ((stNum l s).2 : Int); omega, by show ((stNum l s).2 : Int) ≤ _; omega⟩, c2, b2, by show (stText l 4000 (stPath l (stLink l (stNum l s).1).1).1).2.length ≤ 4000; omega⟩, ?_⟩
 unfold Pf.bytes
 rw [d3, c3, b3, a3]
 simp
/-! Rows of proofs. -/
def rowB (l : List Pf) : By := Code.num l.length ++ l.flatMap Pf.bytes
theorem wRow_bad (s : WS) (l : List Pf) (hl : l.length ≤ 16) : (wRow s l).bad = (s.bad || !l.all Pf.may) := by
 unfold wRow
 have h : ∀ (l : List Pf) (s : WS), (l.foldl wProof s).bad = (s.bad || !l.all Pf.may) := by
  intro l
  induction l with
  | nil => intro s; simp
  | cons p l ih => intro s; rw [List.foldl_cons, ih, wProof_bad, List.all_cons]; cases s.bad <;> cases p.may <;> simp
 rw [h, wNum_bad]
 simp only [show (0 : Int) ≤ (l.length : Int) by omega, show (l.length : Int) ≤ 4611686018427387904 by omega, decide_true, Bool.and_self, Bool.not_true, Bool.or_false]
theorem wRow_ok (s : WS) {l : List Pf} (hl : l.length ≤ 16) (h : l.all Pf.may = true) : wRow s l = ⟨s.l ++ rowB l, s.bad⟩ := by
 unfold wRow
 have hf : ∀ (l : List Pf) (s : WS), l.all Pf.may = true → l.foldl wProof s = ⟨s.l ++ l.flatMap Pf.bytes, s.bad⟩ := by
  intro l
  induction l with
  | nil => intro s _; simp
  | cons p l ih =>
   intro s hp
   rw [List.all_cons, Bool.and_eq_true] at hp
   rw [List.foldl_cons, wProof_ok s hp.1, ih _ hp.2]
   simp
 rw [wNum_ok s ⟨by omega, by omega⟩, hf l _ h]
 unfold rowB
 simp
def rowsOk (L : List (List Pf)) : Bool := L.all fun l => decide (l.length ≤ 16) && l.all Pf.may
theorem wRows_ok : ∀ (L : List (List Pf)) (s : WS), rowsOk L = true → wRows s L = some ⟨s.l ++ L.flatMap rowB, s.bad⟩
 | [], s, _ => by simp [wRows]
 | l :: L, s, h => by
  unfold rowsOk at h
  rw [List.all_cons] at h
  simp only [Bool.and_eq_true, decide_eq_true_eq] at h
  rw [wRows, if_neg (by omega), wRow_ok s h.1.1 h.1.2, wRows_ok L _ h.2]
  simp
theorem wRows_no : ∀ (L : List (List Pf)) (s : WS), (rowsOk L = false ∨ s.bad = true) → finO (wRows s L) = .error 1
 | [], s, h => by
  rcases h with h | h
  · cases h
  · show wEnd s = _; unfold wEnd; rw [if_pos h]
 | l :: L, s, h => by
  rw [wRows]
  by_cases hl : 16 < l.length
  · rw [if_pos hl]; rfl
  ·
   rw [if_neg hl]
   refine wRows_no L _ ?_
   rw [wRow_bad s l (by omega)]
   unfold rowsOk at h ⊢
   rw [List.all_cons, decide_eq_true (show l.length ≤ 16 by omega), Bool.true_and] at h
   cases hp : l.all Pf.may with
   | false => exact .inr (by simp)
   | true =>
    rw [hp, Bool.true_and] at h
    rcases h with h | h
    · exact .inl h
    · exact .inr (by rw [h]; rfl)
def An.fair (a : An) : Bool := a.h.ok && (decide (a.rows.length = a.h.segs.length) && rowsOk a.rows)
def An.bytes (a : An) : By := ([1] ++ Code.text a.h.bytes) ++ a.rows.flatMap rowB
theorem An.fair_iff {a : An} : a.fair = true ↔ a.h.ok = true ∧ a.rows.length = a.h.segs.length ∧ rowsOk a.rows = true := by
 unfold An.fair
 simp only [Bool.and_eq_true, decide_eq_true_eq]
theorem wrAns_no {a : An} (h : a.fair = false) : wrAns a = .error 1 := by
 unfold wrAns
 by_cases hl : a.rows.length ≠ a.h.segs.length
 · rw [if_pos hl]
 ·
  rw [if_neg hl]
  refine wRows_no _ _ ?_
  unfold An.fair at h
  rw [decide_eq_true (show a.rows.length = a.h.segs.length by omega), Bool.true_and] at h
  rw [wHead_bad]
  cases ho : a.h.ok with
  | false => exact .inr (by simp)
  | true => rw [ho, Bool.true_and] at h; exact .inl h
theorem wrAns_ok {a : An} (h : a.fair = true) : wrAns a = if 1048576 < a.bytes.length then .error 3 else .ok a.bytes := by
 obtain ⟨h1, h2, h3⟩ := An.fair_iff.1 h
 unfold wrAns
 rw [if_neg (by omega), wHead_ok _ h1, wRows_ok _ _ h3]
 show wEnd ⟨a.bytes, false⟩ = _
 unfold wEnd
 simp only [Bool.false_eq_true, if_false]
theorem stPK_of {l r : By} {a : Nat} {L : List Pf} (hok : ∀ p ∈ L, p.may = true) (h : l.drop a = L.flatMap Pf.bytes ++ r) : ∀ k, k ≤ L.length → stPK l ⟨a, 0⟩ k = (⟨a + ((L.take k).flatMap Pf.bytes).length, 0⟩, L.take k)
 | 0, _ => by simp [stPK]
 | k + 1, hk => by
  have ih := stPK_of hok h k (by omega)
  have hs : L[k]? = some L[k] := List.getElem?_eq_getElem (by omega)
  have hd : l.drop (a + ((L.take k).flatMap Pf.bytes).length) = L[k].bytes ++ ((L.drop (k + 1)).flatMap Pf.bytes ++ r) := by
   refine drop_add (x := (L.take k).flatMap Pf.bytes) ?_
   rw [h]
   conv => lhs; rw [← List.take_append_drop k L]
   rw [List.flatMap_append, List.drop_eq_getElem_cons (by omega : k < L.length), List.flatMap_cons]
   simp
  have e := stProof_of (hok L[k] (List.getElem_mem _)) hd
  unfold stPK
  rw [ih]
  simp only [e]
  have ht : L.take (k + 1) = L.take k ++ [L[k]] := by rw [List.take_add_one, hs]; rfl
  rw [ht]
  simp only [List.flatMap_append, List.flatMap_cons, List.flatMap_nil, List.append_nil, List.length_append, Nat.add_assoc]
theorem stRow_of {l r : By} {a : Nat} {L : List Pf} (hl : L.length ≤ 16) (hok : L.all Pf.may = true) (h : l.drop a = rowB L ++ r) : stRow l ⟨a, 0⟩ = (⟨a + (rowB L).length, 0⟩, L) := by
 have h1 : l.drop a = Code.num L.length ++ (L.flatMap Pf.bytes ++ r) := by rw [h]; unfold rowB; simp
 have e1 := stNum_of h1 (by omega)
 have h2 := drop_add h1
 have e2 := stPK_of (fun p hp => List.all_eq_true.1 hok p hp) h2 L.length (Nat.le_refl _)
 rw [List.take_length] at e2
 unfold stRow stCount
 simp only [e1]
 rw [if_neg (by omega), e2]
 unfold rowB
 rw [List.length_append, Nat.add_assoc]
theorem stRK_of {l r : By} {a : Nat} {L : List (List Pf)} (hok : rowsOk L = true) (h : l.drop a = L.flatMap rowB ++ r) : ∀ k, k ≤ L.length → stRK l ⟨a, 0⟩ k = (⟨a + ((L.take k).flatMap rowB).length, 0⟩, L.take k)
 | 0, _ => by simp [stRK]
 | k + 1, hk => by
  have ih := stRK_of hok h k (by omega)
  have hs : L[k]? = some L[k] := List.getElem?_eq_getElem (by omega)
  have hd : l.drop (a + ((L.take k).flatMap rowB).length) = rowB L[k] ++ ((L.drop (k + 1)).flatMap rowB ++ r) := by
   refine drop_add (x := (L.take k).flatMap rowB) ?_
   rw [h]
   conv => lhs; rw [← List.take_append_drop k L]
   rw [List.flatMap_append, List.drop_eq_getElem_cons (by omega : k < L.length), List.flatMap_cons]
   simp
  have hk2 := List.all_eq_true.1 hok L[k] (List.getElem_mem _)
  simp only [Bool.and_eq_true, decide_eq_true_eq] at hk2
  have e := stRow_of hk2.1 hk2.2 hd
  unfold stRK
  rw [ih]
  simp only [e]
  have ht : L.take (k + 1) = L.take k ++ [L[k]] := by rw [List.take_add_one, hs]; rfl
  rw [ht]
  simp only [List.flatMap_append, List.flatMap_cons, List.flatMap_nil, List.append_nil, List.length_append, Nat.add_assoc]
theorem rdAns_bytes {a : An} (h : a.fair = true) (hb : a.bytes.length ≤ 1048576) : rdAns a.bytes = .ok a := by
 obtain ⟨h1, h2, h3⟩ := An.fair_iff.1 h
 have hbx : begX a.bytes 1 = 0 := by
  unfold begX
  rw [if_neg (by omega)]
  unfold An.bytes
  rfl
 have d0 : a.bytes.drop 1 = Code.text a.h.bytes ++ (a.rows.flatMap rowB ++ []) := by unfold An.bytes; simp
 have e0 := stHead_of h1 d0
 have d1 := drop_add d0
 have e1 := stRK_of h3 d1 a.rows.length (Nat.le_refl _)
 rw [List.take_length] at e1
 have d2 := drop_add d1
 have hlen := congrArg List.length d2
 rw [List.length_drop, List.length_nil] at hlen
 unfold rdAns
 rw [hbx]
 simp only [ne_eq, not_true, if_false, e0]
 rw [← h2, e1]
 rw [if_neg]
 unfold doneX
 simp only [ne_eq, not_true, if_false]
 rw [if_neg (by omega)]
 simp
theorem inv_PK {l : By} {s0 : RS} : ∀ k, (stPK l s0 k).1.x = 0 → s0.x = 0 ∧ (stPK l s0 k).2.all Pf.may = true ∧ l.drop s0.at_ = (stPK l s0 k).2.flatMap Pf.bytes ++ l.drop (stPK l s0 k).1.at_
 | 0, h => by simp only [stPK] at h ⊢; exact ⟨h, by simp, by simp⟩
 | k + 1, h => by
  simp only [stPK] at h ⊢
  obtain ⟨a1, a2, a3⟩ := inv_proof h
  obtain ⟨b1, b2, b3⟩ := inv_PK k a1
  refine ⟨b1, by rw [List.all_append, b2]; simpa using a2, ?_⟩
  rw [b3, a3, List.flatMap_append]
  simp
theorem inv_row {l : By} {s : RS} (h : (stRow l s).1.x = 0) : s.x = 0 ∧ (stRow l s).2.length ≤ 16 ∧ (stRow l s).2.all Pf.may = true ∧ l.drop s.at_ = rowB (stRow l s).2 ++ l.drop (stRow l s).1.at_ := by
 unfold stRow at h ⊢
 obtain ⟨a1, a2, a3⟩ := inv_PK _ h
 obtain ⟨b1, b2, b3⟩ := inv_count a1
 have hl := stPK_len l (stCount l 16 s).1 (stCount l 16 s).2
 refine ⟨b1, by omega, a2, ?_⟩
 unfold rowB
 rw [hl, b3, a3]
 simp
theorem inv_RK {l : By} {s0 : RS} : ∀ k, (stRK l s0 k).1.x = 0 → s0.x = 0 ∧ rowsOk (stRK l s0 k).2 = true ∧ l.drop s0.at_ = (stRK l s0 k).2.flatMap rowB ++ l.drop (stRK l s0 k).1.at_
 | 0, h => by simp only [stRK] at h ⊢; exact ⟨h, rfl, by simp⟩
 | k + 1, h => by
  simp only [stRK] at h ⊢
  obtain ⟨a1, a2, a3, a4⟩ := inv_row h
  obtain ⟨b1, b2, b3⟩ := inv_RK k a1
  refine ⟨b1, ?_, ?_⟩
  ·
   unfold rowsOk at b2 ⊢
   rw [List.all_append, b2]
   simp [a2, a3]
  ·
   rw [b3, a4, List.flatMap_append]
   simp
theorem rdAns_inv {l : By} {a : An} (e : rdAns l = .ok a) : a.fair = true ∧ a.bytes = l ∧ begX l 1 = 0 := by
 unfold rdAns at e
 by_cases hb : begX l 1 ≠ 0
 · rw [if_pos hb] at e; cases e
 ·
  rw [if_neg hb] at e
  split at e
  · cases e
  ·
   rename_i hd
   injection e with e
   obtain ⟨a1, a2⟩ := done_inv (by simpa using hd)
   obtain ⟨b1, b2, b3⟩ := inv_RK _ a1
   obtain ⟨f1, f2, f3⟩ := inv_head b1
   have hb0 : begX l 1 = 0 := by simpa using hb
   obtain ⟨_, hl⟩ := beg_inv hb0
   rw [← e]
   refine ⟨An.fair_iff.2 ⟨f2, stRK_len _ _ _, b2⟩, ?_, hb0⟩
   unfold An.bytes
   conv => rhs; rw [hl]
   have f3' : l.drop 1 = Code.text (stHead l ⟨1, 0⟩).2.bytes ++ l.drop (stHead l ⟨1, 0⟩).1.at_ := f3
   rw [f3', b3, a2]
   simp
theorem Pf.small_of {p : Pf} (h : p.may = true) : p.Small := by
 obtain ⟨h1, h2, h3, h4⟩ := Pf.may_iff.1 h
 unfold pathsOk at h3
 simp only [Bool.and_eq_true] at h3
 exact ⟨by omega, by omega, fun d hd => by rw [all32_iff.1 h3.2 d hd]; omega⟩
end Hd
end Go.Proofs.YteoledjllpgcbaaDoor
