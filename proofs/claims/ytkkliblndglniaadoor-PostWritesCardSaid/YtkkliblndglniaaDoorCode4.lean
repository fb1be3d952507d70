/- Texts and lists are read: getText, getList, start, Done, ReadNum, ReadText, ReadList. No statement of the seat is proved here. -/
import Derived.Test.YtkkliblndglniaaDoorCode2
import Derived.Test.YtkkliblndglniaaDoorCode3
namespace Go.Proofs.YtkkliblndglniaaDoor
set_option linter.unusedVariables false
open Go.RowKit

theorem scan_err : ∀ (b : List UInt8) (n acc x : Nat), Code.scan b n acc = .error x → x = 2 ∨ x = 4
  | [], n, acc, x, h => by
    unfold Code.scan at h
    split at h <;> (injection h with h; omega)
  | c :: t, n, acc, x, h => by
    rw [Code.scan] at h
    split at h
    · injection h with h; omega
    · split at h
      · cases h
      · exact scan_err t _ _ x h
theorem getNum_err {b : List UInt8} {x : Nat} (h : Code.getNum b = .error x) : x = 2 ∨ x = 4 := by
  unfold Code.getNum Code.fin at h
  generalize hs : Code.scan b 0 0 = r at h
  rcases r with e | ⟨v, m, c⟩
  · injection h with h
    subst h
    exact scan_err b 0 0 _ hs
  · simp only at h
    split at h
    · injection h with h; omega
    · cases h
theorem getText_err {most : Int} {b : List UInt8} {x : Nat} (h : Code.getText most b = .error x) : x = 2 ∨ x = 4 := by
  unfold Code.getText at h
  generalize hs : Code.getNum b = r at h
  rcases r with e | ⟨n, m⟩
  · injection h with h
    subst h
    exact getNum_err hs
  · simp only at h
    split at h
    · injection h with h; omega
    · split at h
      · injection h with h; omega
      · cases h
def GetTextRet (at_ : Nat) (e : Ending) : Except Nat (List UInt8 × Nat) → Prop
  | .ok (s, k) => e = .returned (.tuple #[sv s, .int .i64 ((at_ + k : Nat) : Int), .int .i64 0])
  | .error x => e = .returned (.tuple #[.string { data := #[] }, .int .i64 0, .int .i64 (x : Int)])
def GetTextPost (l : List UInt8) (at_ : Nat) (most : Int) (w : World) (e : Ending) (w' : World) : Prop := GetTextRet at_ e (Code.getText most (l.drop at_)) ∧ w = w'
theorem getText_ret {l : List UInt8} {at_ : Nat} {most : Int} {w : World} {e : Ending} {r : Except Nat (List UInt8 × Nat)} (h : Code.getText most (l.drop at_) = r) (he : GetTextRet at_ e r) : GetTextPost l at_ most w e w := ⟨by rw [h]; exact he, rfl⟩
/-- A slice of texts that is the call's own. -/
structure OwnS (w : World) (B : Nat) (A : Option Addr) (n c : Nat) (l : List (List UInt8)) : Prop where
  own : w.ownsRow B 9 1 (.slice A n c) n (l.map sv)
  len : l.length = n
  cap : n ≤ c
  max : c ≤ maxLen
section
variable {w w' : World} {B B' n c : Nat} {A : Option Addr} {l : List (List UInt8)}
theorem OwnS.keep (h : OwnS w B A n c l) (hb : Below w.heap.size w w') : OwnS w' B A n c l := ⟨own_keep h.own hb (Nat.le_refl _), h.len, h.cap, h.max⟩
theorem OwnS.base (h : OwnS w B A n c l) (hB : B' ≤ B) : OwnS w B' A n c l := ⟨own_base h.own hB, h.len, h.cap, h.max⟩
theorem OwnS.ss (h : OwnS w B A n c l) : Ss w A n c l := ⟨Rd.of_own h.own, h.len, h.cap, h.max⟩
theorem OwnS.nil (w : World) (B : Nat) : OwnS w B none 0 0 [] := ⟨own_nil _ _ _ _, rfl, Nat.le_refl _, Nat.zero_le _⟩
theorem info_str : (Tryd.prog.info? 9).map (fun i => (i.zero, i.size, i.bytes)) = some (some (.string ByteArray.empty), 1, 16) := by kernel_rfl
theorem one_s (l : List (List UInt8)) : ∀ u ∈ l.map sv, u.oneCell' = true := fun u hu => by
  obtain ⟨x, _, rfl⟩ := List.mem_map.1 hu
  rfl
end
section
variable {ops : Array Oper} {rest : List Oper} {o : Oper} {a : Act} {Q : Exit → Act → World → Prop} {w : World}
end
/-- Where the reading of a list is. -/
structure ItemsRel (l : List UInt8) (most : Int) (cnt at0 i : Nat) (ss : List (List UInt8)) (at' : Nat) : Prop where
  eq : Code.items most cnt (l.drop at0) = (match Code.items most (cnt - i) (l.drop at') with
    | .ok (ts, m) => .ok (ss ++ ts, at' - at0 + m)
    | .error x => .error x)
  lo : at0 ≤ at'
  hi : at' ≤ l.length
  few : i ≤ at' - at0
  le : i ≤ cnt
  len : ss.length = i
theorem ItemsRel.step {l : List UInt8} {most : Int} {cnt at0 i : Nat} {ss : List (List UInt8)} {at' : Nat} (h : ItemsRel l most cnt at0 i ss at') (hi : i < cnt) {s : List UInt8} {k : Nat} (hg : Code.getText most (l.drop at') = .ok (s, k)) :
    ItemsRel l most cnt at0 (i + 1) (ss ++ [s]) (at' + k) := by
  obtain ⟨_, hk1, hk, _⟩ := Code.getText_ok hg
  rw [List.length_drop] at hk
  have h1 := h.lo
  have h2 := h.hi
  have h3 := h.few
  refine ⟨?_, by omega, by omega, by omega, by omega, by rw [List.length_append, h.len]; rfl⟩
  rw [h.eq]
  obtain ⟨q, hq⟩ : ∃ q, cnt - i = q + 1 := ⟨cnt - i - 1, by omega⟩
  rw [hq, show cnt - (i + 1) = q by omega, Code.items, hg]
  simp only [List.drop_drop]
  cases Code.items most q (l.drop (at' + k)) with
  | error x => rfl
  | ok r =>
    obtain ⟨ts, m⟩ := r
    simp only [List.append_assoc, List.singleton_append]
    congr 2
    omega
theorem ItemsRel.bad {l : List UInt8} {most : Int} {cnt at0 i : Nat} {ss : List (List UInt8)} {at' : Nat} (h : ItemsRel l most cnt at0 i ss at') (hi : i < cnt) {x : Nat} (hg : Code.getText most (l.drop at') = .error x) :
    Code.items most cnt (l.drop at0) = .error x := by
  rw [h.eq]
  obtain ⟨q, hq⟩ : ∃ q, cnt - i = q + 1 := ⟨cnt - i - 1, by omega⟩
  rw [hq, Code.items, hg]
theorem ItemsRel.all {l : List UInt8} {most : Int} {cnt at0 : Nat} {ss : List (List UInt8)} {at' : Nat} (h : ItemsRel l most cnt at0 cnt ss at') : Code.items most cnt (l.drop at0) = .ok (ss, at' - at0) := by
  rw [h.eq, Nat.sub_self, Code.items]; simp
def GetListRet (at_ : Nat) (B : Nat) (w' : World) (e : Ending) : Except Nat (List (List UInt8) × Nat) → Prop
  | .ok (ss, k) => ∃ A n c, e = .returned (.tuple #[.slice A n c, .int .i64 ((at_ + k : Nat) : Int), .int .i64 0]) ∧ OwnS w' B A n c ss
  | .error x => e = .returned (.tuple #[.slice none 0 0, .int .i64 0, .int .i64 (x : Int)]) ∧ (x = 2 ∨ x = 4)
def GetListPost (l : List UInt8) (at_ : Nat) (many most : Int) (w : World) (e : Ending) (w' : World) : Prop := GetListRet at_ w.heap.size w' e (Code.getList many most (l.drop at_)) ∧ Below w.heap.size w w'
theorem getList_ret {l : List UInt8} {at_ : Nat} {many most : Int} {w w' : World} {e : Ending} {r : Except Nat (List (List UInt8) × Nat)} (h : Code.getList many most (l.drop at_) = r) (he : GetListRet at_ w.heap.size w' e r) (hb : Below w.heap.size w w') : GetListPost l at_ many most w e w' := ⟨by rw [h]; exact he, hb⟩
theorem done_ok (A : Option Addr) (n c at_ : Nat) (w : World) (hat : at_ ≤ n) (hc : n ≤ c) (hm : c ≤ maxLen) : Calls Tryd.prog 22 #[rv A n c (at_ : Int) 0] w fun e w' => e = .returned (.int .i64 (if at_ < n then 2 else 0)) ∧ Below w.heap.size w w' := by
  have hin := fun W => inside_any A n c at_ 0 W hat hc hm
  have HI := Lib.hid hin
  rw [maxLen_eq] at hm
  clear hin
  by_cases h : at_ < n
  all_goals
    first | rw [if_pos h] | rw [if_neg h]
    go_enter Tryd.func22, Tryd.ntmps22
    go_wp2_with fail
    refine (HI.out _).mono ?_
    rintro e w1 ⟨rfl, hb1⟩
    have hrow := Row.belowS (row_new w _ _) hb1 (Nat.le_refl _)
    have x0 := hrow.cellQ 0 _ rfl
    have x1 := hrow.cellQ 1 _ rfl
    have HB := Lib.hid (bt ((Below.refl _ w).alloc (Nat.le_refl _) _) hb1)
    clear hrow hb1
    go_wp2
    go_ret
    exact ⟨rfl, HB.out⟩
theorem done_err (A : Option Addr) (n c : Nat) (at_ x : Int) (w : World) (hx : x ≠ 0) : Calls Tryd.prog 22 #[rv A n c at_ x] w fun e w' => e = .returned (.int .i64 x) ∧ Below w.heap.size w w' := by
  have b1 : (x == 0) = false := beq_eq_false_iff_ne.2 hx
  clear hx
  go_enter Tryd.func22, Tryd.ntmps22
  go_wp2
  go_ret
  exact ⟨rfl, (Below.refl _ w).alloc (Nat.le_refl _) _⟩
def StartPost (at_ x : Int) (l : List UInt8) (w : World) (e : Ending) (w' : World) : Prop := ∃ A n c, e = .returned (rv A n c at_ x) ∧ Own8 w' w.heap.size A n c l ∧ Below w.heap.size w w'
set_option maxRecDepth 100000 in
set_option maxHeartbeats 4000000 in
theorem start_ok (A : Option Addr) (n c : Nat) (at_ : Nat) (l : List UInt8) (w : World) (h : Bs w A n c l) (hn : n ≤ 140737488355328) (hat : at_ ≤ n) :
    Calls Tryd.prog 33 #[rv A n c (at_ : Int) 0] w (StartPost at_ 0 l w) := by
  go_enter Tryd.func33, Tryd.ntmps33
  go_wp2_with fail
  obtain ⟨W0, hW0⟩ : ∃ W, (w.alloc (.cells #[.slice A n c, .int .i64 (at_ : Int), .int .i64 0] 42)).alloc (.cells #[.slice none 0 0, .int .i64 0, .int .i64 0] 42) = W := ⟨_, rfl⟩
  have hs1 : (w.alloc (.cells #[.slice A n c, .int .i64 (at_ : Int), .int .i64 0] 42)).heap.size = w.heap.size + 1 := by unfold World.alloc; simp
  have hbox : Row W0 w.heap.size #[.slice A n c, .int .i64 (at_ : Int), .int .i64 0] 42 := by rw [← hW0]; exact (row_new w _ _).alloc _
  have hres : Row W0 (w.heap.size + 1) #[.slice none 0 0, .int .i64 0, .int .i64 0] 42 := by rw [← hW0, ← hs1]; exact row_new _ _ _
  have hb0 : Below w.heap.size w W0 := by rw [← hW0]; exact ((Below.refl _ w).alloc (Nat.le_refl _) _).alloc (by rw [hs1]; omega) _
  rw [hW0]
  refine (fresh_any A n c l W0 (h.keep hb0) hn).mono ?_
  rintro e w1 ⟨A1, n1, c1, rfl, ho1, hb1⟩
  have hn1 : n1 = n := by have a := ho1.len; have b := h.len; omega
  subst hn1
  have hbox1 := hbox.belowS hb1 (Nat.le_refl _)
  have hres1 := hres.belowS hb1 (Nat.le_refl _)
  have HRES := Lib.hid hres1
  have HBX := Lib.hid hbox1
  have ho2 := ho1.base (show w.heap.size + 2 ≤ W0.heap.size from hres.lt)
  have HB1 := Lib.hid (bt hb0 hb1)
  have x0 := hbox1.cellQ 0 _ rfl
  have x1 := hbox1.cellQ 1 _ rfl
  have x2 := hbox1.cellQ 2 _ rfl
  have y0 := hbox1.frozen 0
  clear hW0 hs1 hbox hres hb0 hb1 hbox1 hres1 ho1
  go_wp2_with fail
  generalize hwd : World.setCell w1 _ _ = wd
  have hin := inside_any A1 n1 c1 at_ 0 wd hat ho2.cap ho2.max
  refine hin.mono ?_
  rintro e w2 ⟨rfl, hb2⟩
  have hbx2 : Row wd w.heap.size #[.slice A1 n1 c1, .int .i64 (at_ : Int), .int .i64 0] 42 := by rw [← hwd]; exact HBX.out.set 0 _
  have hrs2 : Row wd (w.heap.size + 1) #[.slice none 0 0, .int .i64 0, .int .i64 0] 42 := by rw [← hwd]; exact HRES.out.far _ _ _ (by omega)
  have hbd : Below w.heap.size w wd := by rw [← hwd]; exact HB1.out.setCell (Nat.le_refl _) _
  have ho3 : Own8 wd (w.heap.size + 2) A1 n1 c1 l := by rw [← hwd]; exact ⟨own_setFrom ho2.own (by omega) [_] 0, ho2.len, ho2.cap, ho2.max⟩
  have hbx3 := hbx2.belowS hb2 (Nat.le_refl _)
  have hrs3 := hrs2.belowS hb2 (Nat.le_refl _)
  have HRS := Lib.hid hrs3
  have HB2 := Lib.hid (bt hbd hb2)
  have ho4 := ho3.keep hb2
  clear x0 x1 x2 y0 hwd hin hbx2 hrs2 hbd ho3 hb2
  have x0 := hbx3.cellQ 0 _ rfl
  have x1 := hbx3.cellQ 1 _ rfl
  have x2 := hbx3.cellQ 2 _ rfl
  have z0 := hrs3.frozen 0
  have z1 := hrs3.frozen 1
  have z2 := hrs3.frozen 2
  have v0 := hrs3.cellQ 0 _ rfl
  have v1 := hrs3.cellQ 1 _ rfl
  have v2 := hrs3.cellQ 2 _ rfl
  clear hbx3 hrs3
  go_wp2
  generalize hwf : World.setCell (World.setCell (World.setCell w2 _ _) _ _) _ _ = wf
  have hsf : setFrom (w.heap.size + 1) w2 0 [.slice A1 n1 c1, .int .i64 (at_ : Int), .int .i64 0] = wf := by rw [← hwf]; rfl
  have hrow := HRS.out.all [.slice A1 n1 c1, .int .i64 (at_ : Int), .int .i64 0] rfl
  rw [hsf] at hrow
  have r0 := hrow.cellQ 0 _ rfl
  have r1 := hrow.cellQ 1 _ rfl
  have r2 := hrow.cellQ 2 _ rfl
  refine bodyPost_ret (v := rv A1 n1 c1 (at_ : Int) 0) (by simp [results, Tryd.results33, go_sem, r0, r1, r2]) rfl ?_
  exact ⟨A1, n1, c1, rfl, by rw [← hsf]; exact ⟨own_base (own_setFrom ho4.own (by omega) _ 0) (by omega), ho4.len, ho4.cap, ho4.max⟩, by rw [← hsf]; exact below_setFrom (by omega) _ 0 HB2.out⟩
set_option maxRecDepth 100000 in
set_option maxHeartbeats 4000000 in
theorem start_err (A : Option Addr) (n c : Nat) (at_ x : Int) (l : List UInt8) (w : World) (h : Bs w A n c l) (hn : n ≤ 140737488355328) (hx : x ≠ 0) :
    Calls Tryd.prog 33 #[rv A n c at_ x] w (StartPost at_ x l w) := by
  have b1 : (x == 0) = false := beq_eq_false_iff_ne.2 hx
  clear hx
  go_enter Tryd.func33, Tryd.ntmps33
  go_wp2_with fail
  obtain ⟨W0, hW0⟩ : ∃ W, (w.alloc (.cells #[.slice A n c, .int .i64 at_, .int .i64 x] 42)).alloc (.cells #[.slice none 0 0, .int .i64 0, .int .i64 0] 42) = W := ⟨_, rfl⟩
  have hs1 : (w.alloc (.cells #[.slice A n c, .int .i64 at_, .int .i64 x] 42)).heap.size = w.heap.size + 1 := by unfold World.alloc; simp
  have hbox : Row W0 w.heap.size #[.slice A n c, .int .i64 at_, .int .i64 x] 42 := by rw [← hW0]; exact (row_new w _ _).alloc _
  have hres : Row W0 (w.heap.size + 1) #[.slice none 0 0, .int .i64 0, .int .i64 0] 42 := by rw [← hW0, ← hs1]; exact row_new _ _ _
  have hb0 : Below w.heap.size w W0 := by rw [← hW0]; exact ((Below.refl _ w).alloc (Nat.le_refl _) _).alloc (by rw [hs1]; omega) _
  rw [hW0]
  refine (fresh_any A n c l W0 (h.keep hb0) hn).mono ?_
  rintro e w1 ⟨A1, n1, c1, rfl, ho1, hb1⟩
  have hn1 : n1 = n := by have a := ho1.len; have b := h.len; omega
  subst hn1
  have hbox1 := hbox.belowS hb1 (Nat.le_refl _)
  have hres1 := hres.belowS hb1 (Nat.le_refl _)
  have HRES := Lib.hid hres1
  have HBX := Lib.hid hbox1
  have ho2 := ho1.base (show w.heap.size + 2 ≤ W0.heap.size from hres.lt)
  have HB1 := Lib.hid (bt hb0 hb1)
  have x0 := hbox1.cellQ 0 _ rfl
  have x1 := hbox1.cellQ 1 _ rfl
  have x2 := hbox1.cellQ 2 _ rfl
  have y0 := hbox1.frozen 0
  clear hW0 hs1 hbox hres hb0 hb1 hbox1 hres1 ho1
  have hrs := HRES.out
  have z0 := hrs.frozen 0
  have z1 := hrs.frozen 1
  have z2 := hrs.frozen 2
  have v0 := hrs.cellQ 0 _ rfl
  have v1 := hrs.cellQ 1 _ rfl
  have v2 := hrs.cellQ 2 _ rfl
  clear hrs
  go_wp2
  generalize hwf : World.setCell (World.setCell (World.setCell (World.setCell w1 _ _) _ _) _ _) _ _ = wf
  have hsf : setFrom (w.heap.size + 1) (w1.setCell ⟨w.heap.size, 0, none⟩ (.slice A1 n1 c1)) 0 [.slice A1 n1 c1, .int .i64 at_, .int .i64 x] = wf := by rw [← hwf]; rfl
  have hrow := (HRES.out.far w.heap.size 0 (.slice A1 n1 c1) (by omega)).all [.slice A1 n1 c1, .int .i64 at_, .int .i64 x] rfl
  rw [hsf] at hrow
  have r0 := hrow.cellQ 0 _ rfl
  have r1 := hrow.cellQ 1 _ rfl
  have r2 := hrow.cellQ 2 _ rfl
  refine bodyPost_ret (v := rv A1 n1 c1 at_ x) (by simp [results, Tryd.results33, go_sem, r0, r1, r2]) rfl ?_
  exact ⟨A1, n1, c1, rfl, by rw [← hsf]; exact ⟨own_base (own_setFrom (own_setFrom ho2.own (by omega) [_] 0) (by omega) _ 0) (by omega), ho2.len, ho2.cap, ho2.max⟩, by rw [← hsf]; exact below_setFrom (by omega) _ 0 (HB1.out.setCell (Nat.le_refl _) _)⟩
end Go.Proofs.YtkkliblndglniaaDoor
