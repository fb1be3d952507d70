/- Add, of the package that sums. No statement of the seat is proved here. -/
import Derived.Test.YtoiilhbjlfdfpaaDoorShaAdd
import Derived.Deep.CutRange
import Derived.Deep.RegionLaw
namespace Go.Proofs.YtoiilhbjlfdfpaaDoor
set_option linter.unusedVariables false
open Go.RowKit

/-- The ten cells of a state. -/
def tc (s : Sha.St) (v : Value) (n : Int) : List Value := [.int .u32 (nv s.a), .int .u32 (nv s.b), .int .u32 (nv s.c), .int .u32 (nv s.d), .int .u32 (nv s.e), .int .u32 (nv s.f), .int .u32 (nv s.g), .int .u32 (nv s.h), v, .int .i64 n]
abbrev TRow (w : World) (b : Nat) (s : Sha.St) (v : Value) (n : Int) : Prop := Row w b (tc s v n).toArray 70
structure Ten (w : World) (b : Nat) (s : Sha.St) (v : Value) (n : Int) : Prop where
  c0 : w.cell? ⟨b, 0, none⟩ = some (.int .u32 (nv s.a))
  c1 : w.cell? ⟨b, 1, none⟩ = some (.int .u32 (nv s.b))
  c2 : w.cell? ⟨b, 2, none⟩ = some (.int .u32 (nv s.c))
  c3 : w.cell? ⟨b, 3, none⟩ = some (.int .u32 (nv s.d))
  c4 : w.cell? ⟨b, 4, none⟩ = some (.int .u32 (nv s.e))
  c5 : w.cell? ⟨b, 5, none⟩ = some (.int .u32 (nv s.f))
  c6 : w.cell? ⟨b, 6, none⟩ = some (.int .u32 (nv s.g))
  c7 : w.cell? ⟨b, 7, none⟩ = some (.int .u32 (nv s.h))
  c8 : w.cell? ⟨b, 8, none⟩ = some v
  c9 : w.cell? ⟨b, 9, none⟩ = some (.int .i64 n)
theorem TRow.ten {w : World} {b : Nat} {s : Sha.St} {v : Value} {n : Int} (h : TRow w b s v n) : Ten w b s v n :=
  ⟨h.cellQ 0 _ rfl, h.cellQ 1 _ rfl, h.cellQ 2 _ rfl, h.cellQ 3 _ rfl, h.cellQ 4 _ rfl, h.cellQ 5 _ rfl, h.cellQ 6 _ rfl, h.cellQ 7 _ rfl, h.cellQ 8 _ rfl, h.cellQ 9 _ rfl⟩

/-- Ten cells that may be written. -/
structure Ten' (w : World) (b : Nat) : Prop where
  c0 : ∃ v, w.cell? ⟨b, 0, none⟩ = some v
  c1 : ∃ v, w.cell? ⟨b, 1, none⟩ = some v
  c2 : ∃ v, w.cell? ⟨b, 2, none⟩ = some v
  c3 : ∃ v, w.cell? ⟨b, 3, none⟩ = some v
  c4 : ∃ v, w.cell? ⟨b, 4, none⟩ = some v
  c5 : ∃ v, w.cell? ⟨b, 5, none⟩ = some v
  c6 : ∃ v, w.cell? ⟨b, 6, none⟩ = some v
  c7 : ∃ v, w.cell? ⟨b, 7, none⟩ = some v
  c8 : ∃ v, w.cell? ⟨b, 8, none⟩ = some v
  c9 : ∃ v, w.cell? ⟨b, 9, none⟩ = some v
theorem Row.ten' {w : World} {b : Nat} {cs : Array Value} {t : TypeId} (h : Row w b cs t) (hs : cs.size = 10) : Ten' w b :=
  ⟨⟨_, h.cell 0 (by omega)⟩, ⟨_, h.cell 1 (by omega)⟩, ⟨_, h.cell 2 (by omega)⟩, ⟨_, h.cell 3 (by omega)⟩, ⟨_, h.cell 4 (by omega)⟩, ⟨_, h.cell 5 (by omega)⟩, ⟨_, h.cell 6 (by omega)⟩, ⟨_, h.cell 7 (by omega)⟩, ⟨_, h.cell 8 (by omega)⟩, ⟨_, h.cell 9 (by omega)⟩⟩

/-- Is it taken as it is? -/
def takes (N : Int) (n m : Nat) : Bool := vld N n && decide ((m : Int) ≤ 1099511627776 - N)
def effS (s : Sha.St) (N : Int) (n m : Nat) : Sha.St := if takes N n m then s else Sha.begin_
def effR (rest : List UInt8) (N : Int) (n m : Nat) : List UInt8 := if takes N n m then rest else []
def effN (N : Int) (n m : Nat) : Int := if takes N n m then N else 0

def AddPost (s : Sha.St) (rest : List UInt8) (N : Int) (l : List UInt8) (w : World) (e : Ending) (w' : World) : Prop :=
  ∃ p : Sha.St × List UInt8, p = Sha.proc (effS s N rest.length l.length) (effR rest N rest.length l.length ++ l) ∧
    ∃ A c, e = .returned (tv p.1 (.slice A p.2.length c) (effN N rest.length l.length + l.length)) ∧ Rd w' w'.heap.size A (p.2.map bv) ∧ p.2.length ≤ c ∧ c ≤ maxLen ∧ Below w.heap.size w w'
/-- Behind the test: the state that is gone on with lies in its box. -/
structure ARel (s1 : Sha.St) (A1 : Option Addr) (n1 c1 : Nat) (r1 : List UInt8) (N1 : Int) (w wx : World) : Prop where
  below : Below w.heap.size w wx
  box : TRow wx w.heap.size s1 (.slice A1 n1 c1) N1
  res : ∃ cs, Row wx (w.heap.size + 1) cs 70 ∧ cs.size = 10
  rd : Rd wx w.heap.size A1 (r1.map bv)
  len : r1.length = n1
  cap : n1 ≤ c1
  max : c1 ≤ maxLen
  small : n1 < 64
  lo : 0 ≤ N1
  hi : N1 ≤ 1099511627776

set_option maxRecDepth 100000 in
set_option maxHeartbeats 4000000 in
theorem add_any (s : Sha.St) (A : Option Addr) (n c : Nat) (rest : List UInt8) (N : Int) (B : Option Addr) (m k : Nat) (l : List UInt8) (w : World)
    (hA : Rd w w.heap.size A (rest.map bv)) (hn : rest.length = n) (hc : n ≤ c) (hm : c ≤ maxLen)
    (hB : Rd w w.heap.size B (l.map bv)) (hl : l.length = m) (hk : m ≤ k) (hk2 : k ≤ maxLen) (hm2 : m ≤ 1099511627776) (hRL : RoundsLie w) (hBL : BeginLies w) :
    Calls Tryd.prog 52 #[tv s (.slice A n c) N, .slice B m k] w (AddPost s rest N l w) := by
  have HV := Lib.hid (fun w => valid_any s A n c N w hc hm)
  rw [maxLen_eq] at hm hk2
  obtain ⟨O1, hO1⟩ : ∃ O, O = Obj.cells (tc s (.slice A n c) N).toArray 70 := ⟨_, rfl⟩
  go_enter Tryd.func52, Tryd.ntmps52
  go_upto_region 1 with fail
  rename_i K1 h1 K h
  have key : ∀ (s1 : Sha.St) (A1 : Option Addr) (n1 c1 : Nat) (r1 : List UInt8) (N1 : Int) (u8 u9 u10 u11 u12 u13 u14 u15 u16 u17 u18 u19 : Value) (wx : World), ARel s1 A1 n1 c1 r1 N1 w wx → s1 = effS s N rest.length l.length → r1 = effR rest N rest.length l.length → N1 = effN N rest.length l.length →
      K1 { tmps := #[tv s (.slice A n c) N, .slice B m k, .pointer (some ⟨w.heap.size, 0, none⟩), undef, .pointer (some ⟨w.heap.size + 1, 0, none⟩), undef, undef, undef, u8, u9, u10, u11, u12, u13, u14, u15, u16, u17, u18, u19, undef, undef, undef, undef, undef, undef, undef, undef, undef, undef, undef, undef, undef, undef, undef, undef, undef, undef, undef, undef, undef, undef, undef, undef, undef, undef, undef, undef, undef, undef], defers := [] } wx := by
    clear h K HV
    intro s1 A1 n1 c1 r1 N1 u8 u9 u10 u11 u12 u13 u14 u15 u16 u17 u18 u19 wx hx e1 e2 e3
    have HX := Lib.hid hx
    have HE := Lib.hid (And.intro e1 (And.intro e2 e3))
    have hs := hx.small
    have hlo := hx.lo
    have hhi := hx.hi
    have hcap := hx.cap
    have hmax := hx.max
    rw [maxLen_eq] at hmax
    obtain ⟨c0, c1', c2, c3, c4, c5, c6, c7, c8, c9⟩ := hx.box.ten
    have h1l : (n1 : Int) + (m : Int) ≤ 1099511627840 := by omega
    clear hx e1 e2 e3
    refine h1 _ _ ?_
    clear h1
    clear c0 c1' c2 c3 c4 c5 c6 c7 c9
    have HRB := Lib.hid (And.intro hRL hBL)
    have HA := Lib.hid (And.intro hB hl)
    clear hA hB hn hl hRL hBL hc hm
    go_wp2_with (first
      | (at_make; refine wl_make rfl _ _ 50 rfl wx.heap.size 5 1 1 bytesT .i64 .i64 _ (n1 + m) rfl rfl (by push_cast; rfl) (by omega) (by rw [maxLen_eq]; omega) (Nat.le_refl _) ?_; intro w1 hown1 hb1; have HO1 := Lib.hid hown1; have HB1 := Lib.hid hb1; have d8 := (hb1.cell (p := ⟨w.heap.size, 8, none⟩) (Row.lt HX.out.box)).trans c8; clear hown1 hb1 c8)
      | (at_builtin; refine wl_app rfl (.tmp 27) (.tmp 29) 50 rfl wx.heap.size 5 1 1 bytesT _ 0 [] rfl HO1.out w.heap.size A1 n1 c1 (r1.map bv) rfl (HX.out.rd.below' HB1.out HX.out.below.size) (by simpa using HX.out.len) (by simp [bv, Value.oneCell']) (by rw [maxLen_eq]; omega) (by omega) HB1.out.size ?_; intro A2 c2 w2 hown2 hg2 hat2 hb2 hc2 hc2'; simp only [Nat.zero_add, List.nil_append] at hown2 hc2; have HO2 := Lib.hid hown2; have HB2 := Lib.hid (HB1.out.trans hb2); clear hown2 hg2 hat2 hb2 hc2 hc2' d8)
      | (at_builtin; refine wl_app rfl (.tmp 31) (.tmp 32) 50 rfl wx.heap.size 5 1 1 bytesT _ n1 _ rfl HO2.out w.heap.size B m k (l.map bv) rfl ((HA.out.1.below HX.out.below).below' HB2.out HX.out.below.size) (by simpa using HA.out.2) (by simp [bv, Value.oneCell']) (by rw [maxLen_eq]; omega) (by omega) HB2.out.size ?_; intro A3 c3 w3 hown3 hg3 hat3 hb3 hc3 hc3'; rw [← List.map_append] at hown3; have HR3 := Lib.hid (Rd.of_own hown3); have HB3 := Lib.hid (HB2.out.trans hb3); obtain ⟨q0, q1, q2, q3, q4, q5, q6, q7, _, _⟩ := TRow.ten (Row.belowS HX.out.box HB3.out (Nat.le_refl _)); clear hown3 hg3 hat3 hb3)
      | (go_at_call 66; refine (process_any s1 A3 c3 (r1 ++ l) (n1 + m) (by rw [List.length_append, HX.out.len, HA.out.2]) hc3 hc3' w3 HR3.out (HRB.out.1.below (HX.out.below.trans (HB3.out.mono HX.out.below.size)) (Nat.le_refl _))).mono ?_; rintro e w4 ⟨A4, c4, rfl, hr4, hc4, hc4', hb4⟩))
    obtain ⟨p, hp⟩ : ∃ p, Sha.proc s1 (r1 ++ l) = p := ⟨_, rfl⟩
    rw [hp] at hr4 hc4 ⊢
    have HP := Lib.hid hp
    have hp2 : p.2.length ≤ n1 + m := by
      rw [← hp, Sha.proc_rest, List.length_append, HX.out.len, HA.out.2]
      exact Nat.mod_le _ _
    have hB4 : Below wx.heap.size wx w4 := HB3.out.trans (hb4.mono HB3.out.size)
    generalize hw5 : w4.alloc _ = w5
    have hB5 : Below wx.heap.size wx w5 := by rw [← hw5]; exact hB4.alloc hB4.size _
    have h45 : Below w4.heap.size w4 w5 := by rw [← hw5]; exact (Below.refl _ _).alloc (Nat.le_refl _) _
    have hres : Row w5 w4.heap.size (ac p.1) 68 := by rw [← hw5]; exact row_new _ _ _
    have HR5 := Lib.hid (show Rd w5.drew w5.heap.size A4 (p.2.map bv) from (hr4.below' h45 hb4.size).more (Nat.le_trans hb4.size h45.size))
    have HB5 := Lib.hid hB5
    have HRES := Lib.hid hres
    have HC4 := Lib.hid (And.intro hc4 hc4')
    clear hw5 h45 hres hr4 hb4 hB4 hB5 hp q0 q1 q2 q3 q4 q5 q6 q7 hc4 hc4' HR3 HB3 HB2 HB1 HO1 HO2
    obtain ⟨cs, hcs, hcs2⟩ := HX.out.res
    have HCS := Lib.hid (And.intro (hcs.belowS HB5.out (Nat.le_refl _)) hcs2)
    have hlen : Rd w5.drew w5.heap.size A4 (p.2.map bv) → (p.2.map bv).length = p.2.length * 1 := fun _ => by simp
    have e9 := (TRow.ten (Row.belowS HX.out.box HB5.out (Nat.le_refl _))).c9
    obtain ⟨q0, q1, q2, q3, q4, q5, q6, q7⟩ := Box.eight HRES.out
    have hN1 : N1 + (m : Int) ≤ 2199023255552 := by omega
    have hN0 : (0 : Int) ≤ N1 + (m : Int) := by omega
    clear hcs hcs2 hlen
    go_region_law (refine st_of (by simp [Region.wanted]) (wp_app (.const (.slice none 0 0)) (.tmp 42) 50 rfl w5.heap.size 5 1 1 bytesT _ 0 [] rfl (own_nil _ _ _ _) w5.heap.size A4 p.2.length c4 (p.2.map bv) rfl HR5.out (by simp) (by simp [bv, Value.oneCell']) (by rw [maxLen_eq]; omega) (by omega) (Nat.le_refl _) ?_); intro A6 c6 w6 hown6 hg6 hat6 hb6' hc6 hc6'; simp only [Nat.zero_add, List.nil_append] at hown6 hc6; have HO6 := Lib.hid hown6; have hb6 := bdrew hb6'; have HB6 := Lib.hid hb6; obtain ⟨g0, g1, g2, g3, g4, g5, g6, g7⟩ := Box.eight (Row.belowS HRES.out hb6 (Nat.le_refl _)); have g9 := (TRow.ten (Row.belowS HX.out.box (HB5.out.trans (hb6.mono HB5.out.size)) (Nat.le_refl _))).c9; have hrow := Row.belowS HCS.out.1 hb6 (Nat.le_refl _); obtain ⟨⟨_, y0⟩, ⟨_, y1⟩, ⟨_, y2⟩, ⟨_, y3⟩, ⟨_, y4⟩, ⟨_, y5⟩, ⟨_, y6⟩, ⟨_, y7⟩, ⟨_, y8⟩, ⟨_, y9⟩⟩ := hrow.ten' HCS.out.2; have z := hrow.frozen; have z0 := z 0; have z1 := z 1; have z2 := z 2; have z3 := z 3; have z4 := z 4; have z5 := z 5; have z6 := z 6; have z7 := z 7; have z8 := z 8; have z9 := z 9; have HROW := Lib.hid hrow; clear z hrow hb6 hb6' hown6 hg6 hat6 q0 q1 q2 q3 q4 q5 q6 q7)
    all_goals
      generalize hwd : World.setCell (World.setCell (World.setCell (World.setCell (World.setCell (World.setCell (World.setCell (World.setCell (World.setCell (World.setCell w6 _ _) _ _) _ _) _ _) _ _) _ _) _ _) _ _) _ _) _ _ = wd
      have hsf : setFrom (w.heap.size + 1) w6 0 (tc p.1 (.slice A6 p.2.length c6) (N1 + (m : Int))) = wd := by
        rw [wrap_id _ (by omega) (by omega)] at hwd
        simp only [tc, setFrom, Nat.zero_add, Nat.reduceAdd]
        with_reducible exact hwd
      have hrow2 : TRow wd (w.heap.size + 1) p.1 (.slice A6 p.2.length c6) (N1 + (m : Int)) := by
        rw [← hsf]
        exact HROW.out.all _ (by rw [HCS.out.2]; rfl)
      have HS := Lib.hid hsf
      obtain ⟨r0, r1', r2, r3, r4, r5, r6, r7, r8, r9⟩ := hrow2.ten
      clear hwd hsf hrow2 y0 y1 y2 y3 y4 y5 y6 y7 y8 y9 z0 z1 z2 z3 z4 z5 z6 z7 z8 z9 g0 g1 g2 g3 g4 g5 g6 g7 g9 e9
      go_wp2
      refine bodyPost_ret (v := tv p.1 (.slice A6 p.2.length c6) (N1 + (m : Int))) (by simp [results, Tryd.results52, go_sem, r0, r1', r2, r3, r4, r5, r6, r7, r8, r9]) rfl ?_
      have hbb := HX.out.below.trans ((HB5.out.trans (HB6.out.mono HB5.out.size)).mono HX.out.below.size)
      have hxs := HX.out.below.size
      have hlt5 : w.heap.size + 1 < w5.heap.size := HCS.out.1.lt
      obtain ⟨x1, x2, x3⟩ := HE.out
      refine ⟨p, ?_, A6, c6, ?_, ?_, hc6, hc6', ?_⟩
      · rw [← x1, ← x2, HP.out]
      · rw [← x3, HA.out.2]
      · rw [← HS.out]
        exact Rd.of_own (own_setFrom HO6.out hlt5 _ 0)
      · rw [← HS.out]
        exact below_setFrom (Nat.le_succ _) _ 0 hbb
  clear h1
  have hsz1 : ∀ O : Obj, (w.alloc O).heap.size = w.heap.size + 1 := fun O => by unfold World.alloc; simp
  have hBT : ∀ O O2 : Obj, Below w.heap.size w ((w.alloc O).alloc O2) := fun O O2 => ((Below.refl _ w).alloc (Nat.le_refl _) _).alloc (by rw [hsz1]; omega) _
  have hbox : ∀ O2 : Obj, TRow ((w.alloc (.cells (tc s (.slice A n c) N).toArray 70)).alloc O2) w.heap.size s (.slice A n c) N := fun O2 => (row_new w _ _).alloc _
  have hres : ∀ (O : Obj) (cs : Array Value), Row ((w.alloc O).alloc (.cells cs 70)) (w.heap.size + 1) cs 70 := fun O cs => by
    rw [← hsz1 O]; exact row_new _ _ _
  have HBX := Lib.hid (And.intro hbox (And.intro hres hBT))
  clear hbox hres hBT hsz1
  generalize hW : World.alloc (World.alloc w _) _ = W0
  have hbx : TRow W0 w.heap.size s (.slice A n c) N := by rw [← hW]; exact HBX.out.1 _
  have hrs : ∃ cs, Row W0 (w.heap.size + 1) cs 70 ∧ cs.size = 10 := by rw [← hW]; exact ⟨_, HBX.out.2.1 _ _, rfl⟩
  have hbl : Below w.heap.size w W0 := by rw [← hW]; exact HBX.out.2.2 _ _
  have HW := Lib.hid (And.intro hbx (And.intro hrs hbl))
  have HBL := Lib.hid (hBL.below hbl (Nat.le_refl _))
  have HKEY := Lib.hid key
  have HA := Lib.hid (And.intro hA hn)
  have HL := Lib.hid hl
  obtain ⟨c0, c1, c2, c3, c4, c5, c6, c7, c8, c9⟩ := hbx.ten
  clear hW hbx hrs hbl hBL hRL hA hB hn hl key HBX hO1
  have new : ∀ w1 : World, Below W0.heap.size W0 w1 → vld N n = false ∨ ¬ (m : Int) ≤ 1099511627776 - N → ∀ w2 : World, Below w1.heap.size w1 w2 → TRow w2 w.heap.size s (.slice A n c) N ∧
      ∀ (u8 u9 u10 u11 u12 u13 u14 u15 u16 u17 u18 u19 : Value), K1 { tmps := #[tv s (.slice A n c) N, .slice B m k, .pointer (some ⟨w.heap.size, 0, none⟩), undef, .pointer (some ⟨w.heap.size + 1, 0, none⟩), undef, undef, undef, u8, u9, u10, u11, u12, u13, u14, u15, u16, u17, u18, u19, undef, undef, undef, undef, undef, undef, undef, undef, undef, undef, undef, undef, undef, undef, undef, undef, undef, undef, undef, undef, undef, undef, undef, undef, undef, undef, undef, undef, undef, undef], defers := [] } (setFrom w.heap.size w2 0 (tc Sha.begin_ (.slice none 0 0) 0)) := by
    intro w1 hb1 hno w2 hb2
    obtain ⟨hbx, ⟨cs, hcs, hcs2⟩, hbl⟩ := HW.out
    have hb02 : Below W0.heap.size W0 w2 := hb1.trans (hb2.mono hb1.size)
    have hbox2 := Row.belowS hbx hb02 (Nat.le_refl _)
    have htk : takes N rest.length l.length = false := by
      rw [HA.out.2, HL.out]
      unfold takes
      rcases hno with h | h
      · simp [h]
      · simp only [decide_eq_false h, Bool.and_false]
    refine ⟨hbox2, fun u8 u9 u10 u11 u12 u13 u14 u15 u16 u17 u18 u19 => HKEY.out Sha.begin_ none 0 0 [] 0 u8 u9 u10 u11 u12 u13 u14 u15 u16 u17 u18 u19 _ ?_ (by unfold effS; rw [htk]; rfl) (by unfold effR; rw [htk]; rfl) (by unfold effN; rw [htk]; rfl)⟩
    exact ⟨below_setFrom (Nat.le_refl _) _ 0 (hbl.trans (hb02.mono hbl.size)), Row.all hbox2 _ rfl, ⟨cs, Row.far_setFrom (by omega) _ 0 (hcs.belowS hb02 (Nat.le_refl _)), hcs2⟩, Rd.nil, rfl, Nat.le_refl _, Nat.zero_le _, by decide, by decide, by decide⟩
  have HNEW := Lib.hid new
  clear new
  by_cases hv : vld N n = true
  · have hv' : 0 ≤ N ∧ N ≤ 1099511627776 ∧ (n : Int) = N % 64 := by
      have := hv
      unfold vld at this
      exact of_decide_eq_true this
    obtain ⟨v1, v2, v3⟩ := hv'
    have HVV := Lib.hid hv
    have HV3 := Lib.hid v3
    by_cases hfit : (m : Int) ≤ 1099511627776 - N
    · clear hv v3
      have hnot : ¬ (1099511627776 - N < (m : Int)) := by omega
      go_wp2_with (go_at_call 65; refine (HV.out _).mono ?_; rintro e w1 ⟨rfl, hb1⟩; rw [HVV.out]; have HB1 := Lib.hid hb1; have d9 := (TRow.ten (Row.belowS HW.out.1 hb1 (Nat.le_refl _))).c9; clear hb1 c0 c1 c2 c3 c4 c5 c6 c7 c8 c9)
      obtain ⟨hbx, ⟨cs, hcs, hcs2⟩, hbl⟩ := HW.out
      have htk : takes N rest.length l.length = true := by
        rw [HA.out.2, HL.out]
        unfold takes
        rw [HVV.out]; simpa using hfit
      refine HKEY.out s A n c rest N _ _ _ _ _ _ _ _ _ _ _ _ w1 ?_ (by unfold effS; rw [htk]; rfl) (by unfold effR; rw [htk]; rfl) (by unfold effN; rw [htk]; rfl)
      have hb := HB1.out
      exact ⟨hbl.trans (hb.mono hbl.size), Row.belowS hbx hb (Nat.le_refl _), ⟨cs, hcs.belowS hb (Nat.le_refl _), hcs2⟩, HA.out.1.below (hbl.trans (hb.mono hbl.size)), HA.out.2, hc, by rw [maxLen_eq]; exact hm, by have := HV3.out; omega, v1, v2⟩
    · clear hv v3
      have HF := Lib.hid hfit
      go_wp2_with (first
        | (go_at_call 65; refine (HV.out _).mono ?_; rintro e w1 ⟨rfl, hb1⟩; rw [HVV.out]; have HB1 := Lib.hid hb1; have d9 := (TRow.ten (Row.belowS HW.out.1 hb1 (Nat.le_refl _))).c9; clear hb1 c0 c1 c2 c3 c4 c5 c6 c7 c8 c9)
        | (go_at_call 53; refine (new_any w1 (HBL.out.below HB1.out (Nat.le_refl _))).mono ?_; rintro e w2 ⟨rfl, hb2⟩; obtain ⟨hrow, HFIN⟩ := HNEW.out w1 HB1.out (.inr HF.out) w2 hb2; obtain ⟨y0, y1, y2, y3, y4, y5, y6, y7, y8, y9⟩ := hrow.ten; have z := hrow.frozen; have z0 := z 0; have z1 := z 1; have z2 := z 2; have z3 := z 3; have z4 := z 4; have z5 := z 5; have z6 := z 6; have z7 := z 7; have z8 := z 8; have z9 := z 9; have HFI := Lib.hid HFIN; clear HFIN hrow z hb2 d9))
      have hk := HFI.out
      simp only [tc, setFrom, Nat.zero_add, Nat.reduceAdd] at hk
      exact hk _ _ _ _ _ _ _ _ _ _ _ _
  · have hv' : vld N n = false := by simpa using hv
    have HVV := Lib.hid hv'
    clear hv hv'
    go_wp2_with (first
      | (go_at_call 65; refine (HV.out _).mono ?_; rintro e w1 ⟨rfl, hb1⟩; rw [HVV.out]; have HB1 := Lib.hid hb1; clear hb1 c0 c1 c2 c3 c4 c5 c6 c7 c8 c9)
      | (go_at_call 53; refine (new_any w1 (HBL.out.below HB1.out (Nat.le_refl _))).mono ?_; rintro e w2 ⟨rfl, hb2⟩; obtain ⟨hrow, HFIN⟩ := HNEW.out w1 HB1.out (.inl HVV.out) w2 hb2; obtain ⟨y0, y1, y2, y3, y4, y5, y6, y7, y8, y9⟩ := hrow.ten; have z := hrow.frozen; have z0 := z 0; have z1 := z 1; have z2 := z 2; have z3 := z 3; have z4 := z 4; have z5 := z 5; have z6 := z 6; have z7 := z 7; have z8 := z 8; have z9 := z 9; have HFI := Lib.hid HFIN; clear HFIN hrow z hb2))
    have hk := HFI.out
    simp only [tc, setFrom, Nat.zero_add, Nat.reduceAdd] at hk
    exact hk _ _ _ _ _ _ _ _ _ _ _ _
end Go.Proofs.YtoiilhbjlfdfpaaDoor
