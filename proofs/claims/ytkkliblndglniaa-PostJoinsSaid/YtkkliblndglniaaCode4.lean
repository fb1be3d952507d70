/- Texts and lists are read: getText, getList, start, Done, ReadNum, ReadText, ReadList. No statement of the seat is proved here. -/
import Derived.Test.YtkkliblndglniaaCode2
import Derived.Test.YtkkliblndglniaaCode3
namespace Go.Proofs.Ytkkliblndglniaa
set_option linter.unusedVariables false
open Go.RowKit

theorem scan_err : ∀ (b : List UInt8) (n acc x : Nat), Code.scan b n acc = .error x → x = 2 ∨ x = 4
  | [], n, acc, x, h => by
    unfold Code.scan at h
    split at h <;> (injection h with h; omega)
  | c :: t, n, acc, x, h => by
    rw [Code.scan] at h
    split at h
    · injection h with h; omega
    · split at h
      · cases h
      · exact scan_err t _ _ x h
theorem getNum_err {b : List UInt8} {x : Nat} (h : Code.getNum b = .error x) : x = 2 ∨ x = 4 := by
  unfold Code.getNum Code.fin at h
  generalize hs : Code.scan b 0 0 = r at h
  rcases r with e | ⟨v, m, c⟩
  · injection h with h
    subst h
    exact scan_err b 0 0 _ hs
  · simp only at h
    split at h
    · injection h with h; omega
    · cases h
theorem getText_err {most : Int} {b : List UInt8} {x : Nat} (h : Code.getText most b = .error x) : x = 2 ∨ x = 4 := by
  unfold Code.getText at h
  generalize hs : Code.getNum b = r at h
  rcases r with e | ⟨n, m⟩
  · injection h with h
    subst h
    exact getNum_err hs
  · simp only at h
    split at h
    · injection h with h; omega
    · split at h
      · injection h with h; omega
      · cases h
def GetTextRet (at_ : Nat) (e : Ending) : Except Nat (List UInt8 × Nat) → Prop
  | .ok (s, k) => e = .returned (.tuple #[sv s, .int .i64 ((at_ + k : Nat) : Int), .int .i64 0])
  | .error x => e = .returned (.tuple #[.string { data := #[] }, .int .i64 0, .int .i64 (x : Int)])
def GetTextPost (l : List UInt8) (at_ : Nat) (most : Int) (w : World) (e : Ending) (w' : World) : Prop := GetTextRet at_ e (Code.getText most (l.drop at_)) ∧ w = w'
theorem getText_ret {l : List UInt8} {at_ : Nat} {most : Int} {w : World} {e : Ending} {r : Except Nat (List UInt8 × Nat)} (h : Code.getText most (l.drop at_) = r) (he : GetTextRet at_ e r) : GetTextPost l at_ most w e w := ⟨by rw [h]; exact he, rfl⟩
set_option maxRecDepth 100000 in
set_option maxHeartbeats 8000000 in
theorem getText_any (A : Option Addr) (n c at_ : Nat) (most : Int) (l : List UInt8) (w : World) (h : Bs w A n c l) (hat : at_ ≤ n) (hn : n ≤ 140737488355328) (hm1 : -9223372036854775808 ≤ most) (hm2 : most ≤ 9223372036854775807) :
    Calls Try.prog 41 #[.slice A n c, .int .i64 (at_ : Int), .int .i64 most] w (GetTextPost l at_ most w) := by
  have hc := h.cap
  have hm := h.max
  rw [maxLen_eq] at hm
  have hcall := getNum_any A n c at_ l w h hat hn
  unfold GetNumPost at hcall
  cases hg : Code.getNum (l.drop at_) with
  | error x =>
    rw [hg] at hcall
    have hx := getNum_err hg
    have HF := Lib.hid (show Code.getText most (l.drop at_) = .error x by unfold Code.getText; rw [hg])
    have HC := Lib.hid hcall
    have b1 : ((x : Int) == 0) = false := beq_eq_false_iff_ne.2 (by omega)
    clear hcall hg hx
    go_enter Try.func41, Try.ntmps41
    go_wp2_with fail
    refine HC.out.mono ?_
    rintro e w1 ⟨he, rfl⟩
    subst he
    go_wp2
    go_ret3
    exact getText_ret HF.out rfl
  | ok r =>
    obtain ⟨v, k⟩ := r
    rw [hg] at hcall
    obtain ⟨_, hv, hk1, hk, _⟩ := Code.getNum_ok hg
    rw [List.length_drop, h.len] at hk
    have HC := Lib.hid hcall
    have HF1 := Lib.hid (show most < (v : Int) → Code.getText most (l.drop at_) = .error 2 from fun hb => by unfold Code.getText; rw [hg]; simp only; rw [if_pos hb])
    have HF2 := Lib.hid (show ¬ most < (v : Int) → n < at_ + k + v → Code.getText most (l.drop at_) = .error 4 from fun hb hb2 => by unfold Code.getText; rw [hg]; simp only; rw [if_neg hb, if_pos (by rw [List.length_drop, h.len]; omega)])
    have HF3 := Lib.hid (show ¬ most < (v : Int) → ¬ n < at_ + k + v → Code.getText most (l.drop at_) = .ok (((l.take (at_ + k + v)).drop (at_ + k)), k + v) from fun hb hb2 => by
      unfold Code.getText; rw [hg]; simp only; rw [if_neg hb, if_neg (by rw [List.length_drop, h.len]; omega)]
      rw [List.drop_take, List.drop_drop, show at_ + k + v - (at_ + k) = v by omega])
    clear hcall hg
    by_cases hb1 : most < (v : Int)
    · have HF := Lib.hid (HF1.out hb1)
      go_enter Try.func41, Try.ntmps41
      go_wp2_with fail
      refine HC.out.mono ?_
      rintro e w1 ⟨he, rfl⟩
      subst he
      go_wp2
      go_ret3
      exact getText_ret HF.out rfl
    · by_cases hb2 : n < at_ + k + v
      · have HF := Lib.hid (HF2.out hb1 hb2)
        have hb3 : (n : Int) - ((at_ : Int) + (k : Int)) < (v : Int) := by omega
        go_enter Try.func41, Try.ntmps41
        go_wp2_with fail
        refine HC.out.mono ?_
        rintro e w1 ⟨he, rfl⟩
        subst he
        go_wp2
        go_ret3
        exact getText_ret HF.out rfl
      · have HF := Lib.hid (HF3.out hb1 hb2)
        have hb3 : ¬ (n : Int) - ((at_ : Int) + (k : Int)) < (v : Int) := by omega
        have hb4 : (v : Int) ≤ (n : Int) - ((at_ : Int) + (k : Int)) := by omega
        go_enter Try.func41, Try.ntmps41
        go_wp2_with fail
        refine HC.out.mono ?_
        rintro e w1 ⟨he, rfl⟩
        subst he
        go_wp2_with (first
          | (refine wl_cut_lh rfl 23 (.tmp 33) (.tmp 34) (.tmp 37) rfl 5 Try.underlying23 size_u8 A n c rfl .i64 .i64 ((at_ + k : Nat) : Int) ((at_ + k + v : Nat) : Int) (congrArg (Value.int .i64) (by push_cast; rfl)) (congrArg (Value.int .i64) (by push_cast; rfl)) (by omega) (by omega) (by omega) hc w.heap.size (l.map bv) h.rd (by simpa using h.len) ?_; intro A1 hr1; rw [Int.toNat_natCast, Int.toNat_natCast, ← List.map_take, ← List.map_drop] at hr1; rw [Int.toNat_natCast, Int.toNat_natCast]; have HR1 := Lib.hid hr1; clear hr1)
          | (refine wl_str rfl 23 9 (.tmp 38) rfl 5 Try.underlying23 Try.underlying5 Try.underlying9 A1 _ _ rfl w.heap.size ((l.take (at_ + k + v)).drop (at_ + k)) HR1.out (by rw [List.length_drop, List.length_take, h.len]; omega) ?_))
        go_ret3
        exact getText_ret HF.out (by unfold GetTextRet; simp; omega)
/-- A slice of texts that is the call's own. -/
structure OwnS (w : World) (B : Nat) (A : Option Addr) (n c : Nat) (l : List (List UInt8)) : Prop where
  own : w.ownsRow B 9 1 (.slice A n c) n (l.map sv)
  len : l.length = n
  cap : n ≤ c
  max : c ≤ maxLen
section
variable {w w' : World} {B B' n c : Nat} {A : Option Addr} {l : List (List UInt8)}
theorem OwnS.keep (h : OwnS w B A n c l) (hb : Below w.heap.size w w') : OwnS w' B A n c l := ⟨own_keep h.own hb (Nat.le_refl _), h.len, h.cap, h.max⟩
theorem OwnS.base (h : OwnS w B A n c l) (hB : B' ≤ B) : OwnS w B' A n c l := ⟨own_base h.own hB, h.len, h.cap, h.max⟩
theorem OwnS.ss (h : OwnS w B A n c l) : Ss w A n c l := ⟨Rd.of_own h.own, h.len, h.cap, h.max⟩
theorem OwnS.nil (w : World) (B : Nat) : OwnS w B none 0 0 [] := ⟨own_nil _ _ _ _, rfl, Nat.le_refl _, Nat.zero_le _⟩
theorem info_str : (Try.prog.info? 9).map (fun i => (i.zero, i.size, i.bytes)) = some (some (.string ByteArray.empty), 1, 16) := by kernel_rfl
theorem strsT : ElemT Try.prog 28 9 1 16 := ElemT.mk' Try.underlying28 info_str rfl (by omega)
theorem one_s (l : List (List UInt8)) : ∀ u ∈ l.map sv, u.oneCell' = true := fun u hu => by
  obtain ⟨x, _, rfl⟩ := List.mem_map.1 hu
  rfl
end
section
variable {ops : Array Oper} {rest : List Oper} {o : Oper} {a : Act} {Q : Exit → Act → World → Prop} {w : World}
/-- append(v, s): one text. -/
theorem wl_appS1 (hgd : o.guard = none) (s x : Operand) (ho : o.op = .call { callee := .builtin .append, args := #[s, x], argTypes := #[28, 28] })
    {w0 : World} {B : Nat} {A : Option Addr} {n c : Nat} {l : List (List UInt8)} (hs : a.eval s = .slice A n c) (h1 : OwnS w0 B A n c l)
    (hx : a.eval x = .slice (some ⟨w0.heap.size, 0, none⟩) 1 1) (b : List UInt8) (hsz : n ≤ 1000000000000) (hB : B ≤ w0.heap.size)
    (h : ∀ A' n' c' w', OwnS w' B A' n' c' (l ++ [b]) → Below B w0 w' → wpList Try.prog ops Q rest (a.put o.dst (.slice A' n' c')) w') : wpList Try.prog ops Q (o :: rest) a (w0.alloc (.cells #[sv b] 9)) := by
  have hb0 : Below w0.heap.size w0 (w0.alloc (.cells #[sv b] 9)) := (Below.refl _ w0).alloc (Nat.le_refl _) _
  refine wl_app hgd s x 28 ho B 9 1 16 strsT _ n _ hs (h1.keep hb0).own (w0.heap.size + 1) (some ⟨w0.heap.size, 0, none⟩) 1 1 [sv b] hx (rd_new w0 [sv b] 9 (0, 0)) rfl (by simp [Value.oneCell']) (by rw [maxLen_eq]; omega) (by omega) (Nat.le_trans hB hb0.size) fun A' c' w' g1 g2 _ g4 g5 g6 => ?_
  exact h A' (n + 1) c' w' ⟨by rw [List.map_append]; exact g1, by rw [List.length_append, h1.len]; rfl, g5, g6⟩ ((hb0.mono hB).trans g4)
end
/-- Where the reading of a list is. -/
structure ItemsRel (l : List UInt8) (most : Int) (cnt at0 i : Nat) (ss : List (List UInt8)) (at' : Nat) : Prop where
  eq : Code.items most cnt (l.drop at0) = (match Code.items most (cnt - i) (l.drop at') with
    | .ok (ts, m) => .ok (ss ++ ts, at' - at0 + m)
    | .error x => .error x)
  lo : at0 ≤ at'
  hi : at' ≤ l.length
  few : i ≤ at' - at0
  le : i ≤ cnt
  len : ss.length = i
theorem ItemsRel.step {l : List UInt8} {most : Int} {cnt at0 i : Nat} {ss : List (List UInt8)} {at' : Nat} (h : ItemsRel l most cnt at0 i ss at') (hi : i < cnt) {s : List UInt8} {k : Nat} (hg : Code.getText most (l.drop at') = .ok (s, k)) :
    ItemsRel l most cnt at0 (i + 1) (ss ++ [s]) (at' + k) := by
  obtain ⟨_, hk1, hk, _⟩ := Code.getText_ok hg
  rw [List.length_drop] at hk
  have h1 := h.lo
  have h2 := h.hi
  have h3 := h.few
  refine ⟨?_, by omega, by omega, by omega, by omega, by rw [List.length_append, h.len]; rfl⟩
  rw [h.eq]
  obtain ⟨q, hq⟩ : ∃ q, cnt - i = q + 1 := ⟨cnt - i - 1, by omega⟩
  rw [hq, show cnt - (i + 1) = q by omega, Code.items, hg]
  simp only [List.drop_drop]
  cases Code.items most q (l.drop (at' + k)) with
  | error x => rfl
  | ok r =>
    obtain ⟨ts, m⟩ := r
    simp only [List.append_assoc, List.singleton_append]
    congr 2
    omega
theorem ItemsRel.bad {l : List UInt8} {most : Int} {cnt at0 i : Nat} {ss : List (List UInt8)} {at' : Nat} (h : ItemsRel l most cnt at0 i ss at') (hi : i < cnt) {x : Nat} (hg : Code.getText most (l.drop at') = .error x) :
    Code.items most cnt (l.drop at0) = .error x := by
  rw [h.eq]
  obtain ⟨q, hq⟩ : ∃ q, cnt - i = q + 1 := ⟨cnt - i - 1, by omega⟩
  rw [hq, Code.items, hg]
theorem ItemsRel.all {l : List UInt8} {most : Int} {cnt at0 : Nat} {ss : List (List UInt8)} {at' : Nat} (h : ItemsRel l most cnt at0 cnt ss at') : Code.items most cnt (l.drop at0) = .ok (ss, at' - at0) := by
  rw [h.eq, Nat.sub_self, Code.items]; simp
def GetListRet (at_ : Nat) (B : Nat) (w' : World) (e : Ending) : Except Nat (List (List UInt8) × Nat) → Prop
  | .ok (ss, k) => ∃ A n c, e = .returned (.tuple #[.slice A n c, .int .i64 ((at_ + k : Nat) : Int), .int .i64 0]) ∧ OwnS w' B A n c ss
  | .error x => e = .returned (.tuple #[.slice none 0 0, .int .i64 0, .int .i64 (x : Int)]) ∧ (x = 2 ∨ x = 4)
def GetListPost (l : List UInt8) (at_ : Nat) (many most : Int) (w : World) (e : Ending) (w' : World) : Prop := GetListRet at_ w.heap.size w' e (Code.getList many most (l.drop at_)) ∧ Below w.heap.size w w'
theorem getList_ret {l : List UInt8} {at_ : Nat} {many most : Int} {w w' : World} {e : Ending} {r : Except Nat (List (List UInt8) × Nat)} (h : Code.getList many most (l.drop at_) = r) (he : GetListRet at_ w.heap.size w' e r) (hb : Below w.heap.size w w') : GetListPost l at_ many most w e w' := ⟨by rw [h]; exact he, hb⟩
set_option maxRecDepth 100000 in
set_option maxHeartbeats 8000000 in
theorem getList_any (A : Option Addr) (n c at_ : Nat) (many most : Int) (l : List UInt8) (w : World) (h : Bs w A n c l) (hat : at_ ≤ n) (hn : n ≤ 1000000000) (hm1 : -9223372036854775808 ≤ most) (hm2 : most ≤ 9223372036854775807) (hy1 : -9223372036854775808 ≤ many) (hy2 : many ≤ 9223372036854775807) :
    Calls Try.prog 42 #[.slice A n c, .int .i64 (at_ : Int), .int .i64 many, .int .i64 most] w (GetListPost l at_ many most w) := by
  have hc := h.cap
  have hm := h.max
  rw [maxLen_eq] at hm
  have hcall := getNum_any A n c at_ l w h hat (by omega)
  unfold GetNumPost at hcall
  cases hg : Code.getNum (l.drop at_) with
  | error x =>
    rw [hg] at hcall
    have hx := getNum_err hg
    have HF := Lib.hid (And.intro (show Code.getList many most (l.drop at_) = .error x by unfold Code.getList; rw [hg]) hx)
    have HC := Lib.hid hcall
    have b1 : ((x : Int) == 0) = false := beq_eq_false_iff_ne.2 (by omega)
    clear hcall hg hx
    go_enter Try.func42, Try.ntmps42
    go_wp2_with fail
    refine HC.out.mono ?_
    rintro e w1 ⟨he, rfl⟩
    subst he
    go_wp2
    go_ret3
    exact getList_ret HF.out.1 ⟨rfl, HF.out.2⟩ (Below.refl _ _)
  | ok r =>
    obtain ⟨v, k⟩ := r
    rw [hg] at hcall
    obtain ⟨_, hv, hk1, hk, _⟩ := Code.getNum_ok hg
    rw [List.length_drop, h.len] at hk
    have HC := Lib.hid hcall
    by_cases hb1 : many < (v : Int)
    · have HF := Lib.hid (show Code.getList many most (l.drop at_) = .error 2 by unfold Code.getList; rw [hg]; simp only; rw [if_pos hb1])
      clear hcall hg
      go_enter Try.func42, Try.ntmps42
      go_wp2_with fail
      refine HC.out.mono ?_
      rintro e w1 ⟨he, rfl⟩
      subst he
      go_wp2
      go_ret3
      exact getList_ret HF.out ⟨rfl, by omega⟩ (Below.refl _ _)
    · have HF := Lib.hid (show ∀ r, Code.items most v (l.drop (at_ + k)) = r → Code.getList many most (l.drop at_) = (match r with | .ok (ss, m) => .ok (ss, k + m) | .error x => .error x) from fun r hr => by
        unfold Code.getList; rw [hg]; simp only; rw [if_neg hb1, List.drop_drop, hr]
        rcases r with x | ⟨ss, m⟩ <;> rfl)
      clear hcall hg
      go_enter Try.func42, Try.ntmps42
      go_wp2_with fail
      refine HC.out.mono ?_
      rintro e w1 ⟨he, rfl⟩
      subst he
      go_wp2
      go_loopw [13, 1, 31] (fun vl va vi wr => ∃ (A' : Option Addr) (n' c' i at' : Nat) (ss : List (List UInt8)), vl = .slice A' n' c' ∧ va = .int .i64 at' ∧ vi = .int .i64 i ∧ ItemsRel l most v (at_ + k) i ss at' ∧ OwnS wr w.heap.size A' n' c' ss ∧ Below w.heap.size w wr) (fun _ _ vi _ => v - (intOf vi).toNat)
      case atStart => exact ⟨none, 0, 0, 0, at_ + k, [], rfl, by simp, rfl, ⟨by simp; cases Code.items most v (l.drop (at_ + k)) <;> rfl, Nat.le_refl _, by rw [h.len]; omega, by omega, by omega, rfl⟩, OwnS.nil _ _, Below.refl _ _⟩
      case round =>
        obtain ⟨A', n', c', i, at', ss, rfl, rfl, rfl, hr, hown, hbel⟩ := hrel
        have hi := hr.le
        have hlo := hr.lo
        have hhi := hr.hi
        rw [h.len] at hhi
        have hfew := hr.few
        have hn' : n' ≤ n := by have a := hown.len; rw [hr.len] at a; omega
        have HB := Lib.hid hbel
        clear hbel
        by_cases hlt : i < v
        · have hcall := getText_any A n c at' most l wr (h.keep HB.out) hhi (by omega) hm1 hm2
          unfold GetTextPost at hcall
          cases hg : Code.getText most (l.drop at') with
          | error x =>
            rw [hg] at hcall
            have hx := getText_err hg
            have HFF := Lib.hid (And.intro (HF.out _ (hr.bad hlt hg)) hx)
            have HC2 := Lib.hid hcall
            have b1 : ((x : Int) == 0) = false := beq_eq_false_iff_ne.2 (by omega)
            clear hcall hg hx
            go_wp2_with fail
            refine HC2.out.mono ?_
            rintro e w1 ⟨he, rfl⟩
            subst he
            go_wp2
            go_ret3
            exact getList_ret HFF.out.1 ⟨rfl, HFF.out.2⟩ HB.out
          | ok r =>
            obtain ⟨s, q⟩ := r
            rw [hg] at hcall
            have HN := Lib.hid (hr.step hlt hg)
            have HC2 := Lib.hid hcall
            clear hcall hg
            go_wp2_with fail
            refine HC2.out.mono ?_
            rintro e w1 ⟨he, rfl⟩
            subst he
            go_wp2_with (at_builtin; refine wl_appS1 rfl (.tmp 44) (.tmp 46) rfl rfl hown rfl s (by omega) HB.out.size ?_; intro A3 n3 c3 w3 ho3 hb3)
            go_roundw
            case rel => exact ⟨A3, n3, c3, i + 1, at' + q, ss ++ [s], rfl, by simp, by go_num, HN.out, ho3, HB.out.trans hb3⟩
            case measure => simp [intOf]; omega
        · obtain rfl : i = v := by omega
          have HFF := Lib.hid (HF.out _ hr.all)
          go_wp2
          go_ret3
          exact getList_ret HFF.out ⟨A', n', c', by simp; omega, hown⟩ HB.out
theorem done_ok (A : Option Addr) (n c at_ : Nat) (w : World) (hat : at_ ≤ n) (hc : n ≤ c) (hm : c ≤ maxLen) : Calls Try.prog 23 #[rv A n c (at_ : Int) 0] w fun e w' => e = .returned (.int .i64 (if at_ < n then 2 else 0)) ∧ Below w.heap.size w w' := by
  have hin := fun W => inside_any A n c at_ 0 W hat hc hm
  have HI := Lib.hid hin
  rw [maxLen_eq] at hm
  clear hin
  by_cases h : at_ < n
  all_goals
    first | rw [if_pos h] | rw [if_neg h]
    go_enter Try.func23, Try.ntmps23
    go_wp2_with fail
    refine (HI.out _).mono ?_
    rintro e w1 ⟨rfl, hb1⟩
    have hrow := Row.belowS (row_new w _ _) hb1 (Nat.le_refl _)
    have x0 := hrow.cellQ 0 _ rfl
    have x1 := hrow.cellQ 1 _ rfl
    have HB := Lib.hid (bt ((Below.refl _ w).alloc (Nat.le_refl _) _) hb1)
    clear hrow hb1
    go_wp2
    go_ret
    exact ⟨rfl, HB.out⟩
theorem done_err (A : Option Addr) (n c : Nat) (at_ x : Int) (w : World) (hx : x ≠ 0) : Calls Try.prog 23 #[rv A n c at_ x] w fun e w' => e = .returned (.int .i64 x) ∧ Below w.heap.size w w' := by
  have b1 : (x == 0) = false := beq_eq_false_iff_ne.2 hx
  clear hx
  go_enter Try.func23, Try.ntmps23
  go_wp2
  go_ret
  exact ⟨rfl, (Below.refl _ w).alloc (Nat.le_refl _) _⟩
def StartPost (at_ x : Int) (l : List UInt8) (w : World) (e : Ending) (w' : World) : Prop := ∃ A n c, e = .returned (rv A n c at_ x) ∧ Own8 w' w.heap.size A n c l ∧ Below w.heap.size w w'
set_option maxRecDepth 100000 in
set_option maxHeartbeats 4000000 in
theorem start_ok (A : Option Addr) (n c : Nat) (at_ : Nat) (l : List UInt8) (w : World) (h : Bs w A n c l) (hn : n ≤ 140737488355328) (hat : at_ ≤ n) :
    Calls Try.prog 39 #[rv A n c (at_ : Int) 0] w (StartPost at_ 0 l w) := by
  go_enter Try.func39, Try.ntmps39
  go_wp2_with fail
  obtain ⟨W0, hW0⟩ : ∃ W, (w.alloc (.cells #[.slice A n c, .int .i64 (at_ : Int), .int .i64 0] 37)).alloc (.cells #[.slice none 0 0, .int .i64 0, .int .i64 0] 37) = W := ⟨_, rfl⟩
  have hs1 : (w.alloc (.cells #[.slice A n c, .int .i64 (at_ : Int), .int .i64 0] 37)).heap.size = w.heap.size + 1 := by unfold World.alloc; simp
  have hbox : Row W0 w.heap.size #[.slice A n c, .int .i64 (at_ : Int), .int .i64 0] 37 := by rw [← hW0]; exact (row_new w _ _).alloc _
  have hres : Row W0 (w.heap.size + 1) #[.slice none 0 0, .int .i64 0, .int .i64 0] 37 := by rw [← hW0, ← hs1]; exact row_new _ _ _
  have hb0 : Below w.heap.size w W0 := by rw [← hW0]; exact ((Below.refl _ w).alloc (Nat.le_refl _) _).alloc (by rw [hs1]; omega) _
  rw [hW0]
  refine (fresh_any A n c l W0 (h.keep hb0) hn).mono ?_
  rintro e w1 ⟨A1, n1, c1, rfl, ho1, hb1⟩
  have hn1 : n1 = n := by have a := ho1.len; have b := h.len; omega
  subst hn1
  have hbox1 := hbox.belowS hb1 (Nat.le_refl _)
  have hres1 := hres.belowS hb1 (Nat.le_refl _)
  have HRES := Lib.hid hres1
  have HBX := Lib.hid hbox1
  have ho2 := ho1.base (show w.heap.size + 2 ≤ W0.heap.size from hres.lt)
  have HB1 := Lib.hid (bt hb0 hb1)
  have x0 := hbox1.cellQ 0 _ rfl
  have x1 := hbox1.cellQ 1 _ rfl
  have x2 := hbox1.cellQ 2 _ rfl
  have y0 := hbox1.frozen 0
  clear hW0 hs1 hbox hres hb0 hb1 hbox1 hres1 ho1
  go_wp2_with fail
  generalize hwd : World.setCell w1 _ _ = wd
  have hin := inside_any A1 n1 c1 at_ 0 wd hat ho2.cap ho2.max
  refine hin.mono ?_
  rintro e w2 ⟨rfl, hb2⟩
  have hbx2 : Row wd w.heap.size #[.slice A1 n1 c1, .int .i64 (at_ : Int), .int .i64 0] 37 := by rw [← hwd]; exact HBX.out.set 0 _
  have hrs2 : Row wd (w.heap.size + 1) #[.slice none 0 0, .int .i64 0, .int .i64 0] 37 := by rw [← hwd]; exact HRES.out.far _ _ _ (by omega)
  have hbd : Below w.heap.size w wd := by rw [← hwd]; exact HB1.out.setCell (Nat.le_refl _) _
  have ho3 : Own8 wd (w.heap.size + 2) A1 n1 c1 l := by rw [← hwd]; exact ⟨own_setFrom ho2.own (by omega) [_] 0, ho2.len, ho2.cap, ho2.max⟩
  have hbx3 := hbx2.belowS hb2 (Nat.le_refl _)
  have hrs3 := hrs2.belowS hb2 (Nat.le_refl _)
  have HRS := Lib.hid hrs3
  have HB2 := Lib.hid (bt hbd hb2)
  have ho4 := ho3.keep hb2
  clear x0 x1 x2 y0 hwd hin hbx2 hrs2 hbd ho3 hb2
  have x0 := hbx3.cellQ 0 _ rfl
  have x1 := hbx3.cellQ 1 _ rfl
  have x2 := hbx3.cellQ 2 _ rfl
  have z0 := hrs3.frozen 0
  have z1 := hrs3.frozen 1
  have z2 := hrs3.frozen 2
  have v0 := hrs3.cellQ 0 _ rfl
  have v1 := hrs3.cellQ 1 _ rfl
  have v2 := hrs3.cellQ 2 _ rfl
  clear hbx3 hrs3
  go_wp2
  generalize hwf : World.setCell (World.setCell (World.setCell w2 _ _) _ _) _ _ = wf
  have hsf : setFrom (w.heap.size + 1) w2 0 [.slice A1 n1 c1, .int .i64 (at_ : Int), .int .i64 0] = wf := by rw [← hwf]; rfl
  have hrow := HRS.out.all [.slice A1 n1 c1, .int .i64 (at_ : Int), .int .i64 0] rfl
  rw [hsf] at hrow
  have r0 := hrow.cellQ 0 _ rfl
  have r1 := hrow.cellQ 1 _ rfl
  have r2 := hrow.cellQ 2 _ rfl
  refine bodyPost_ret (v := rv A1 n1 c1 (at_ : Int) 0) (by simp [results, Try.results39, go_sem, r0, r1, r2]) rfl ?_
  exact ⟨A1, n1, c1, rfl, by rw [← hsf]; exact ⟨own_base (own_setFrom ho4.own (by omega) _ 0) (by omega), ho4.len, ho4.cap, ho4.max⟩, by rw [← hsf]; exact below_setFrom (by omega) _ 0 HB2.out⟩
set_option maxRecDepth 100000 in
set_option maxHeartbeats 4000000 in
theorem start_err (A : Option Addr) (n c : Nat) (at_ x : Int) (l : List UInt8) (w : World) (h : Bs w A n c l) (hn : n ≤ 140737488355328) (hx : x ≠ 0) :
    Calls Try.prog 39 #[rv A n c at_ x] w (StartPost at_ x l w) := by
  have b1 : (x == 0) = false := beq_eq_false_iff_ne.2 hx
  clear hx
  go_enter Try.func39, Try.ntmps39
  go_wp2_with fail
  obtain ⟨W0, hW0⟩ : ∃ W, (w.alloc (.cells #[.slice A n c, .int .i64 at_, .int .i64 x] 37)).alloc (.cells #[.slice none 0 0, .int .i64 0, .int .i64 0] 37) = W := ⟨_, rfl⟩
  have hs1 : (w.alloc (.cells #[.slice A n c, .int .i64 at_, .int .i64 x] 37)).heap.size = w.heap.size + 1 := by unfold World.alloc; simp
  have hbox : Row W0 w.heap.size #[.slice A n c, .int .i64 at_, .int .i64 x] 37 := by rw [← hW0]; exact (row_new w _ _).alloc _
  have hres : Row W0 (w.heap.size + 1) #[.slice none 0 0, .int .i64 0, .int .i64 0] 37 := by rw [← hW0, ← hs1]; exact row_new _ _ _
  have hb0 : Below w.heap.size w W0 := by rw [← hW0]; exact ((Below.refl _ w).alloc (Nat.le_refl _) _).alloc (by rw [hs1]; omega) _
  rw [hW0]
  refine (fresh_any A n c l W0 (h.keep hb0) hn).mono ?_
  rintro e w1 ⟨A1, n1, c1, rfl, ho1, hb1⟩
  have hn1 : n1 = n := by have a := ho1.len; have b := h.len; omega
  subst hn1
  have hbox1 := hbox.belowS hb1 (Nat.le_refl _)
  have hres1 := hres.belowS hb1 (Nat.le_refl _)
  have HRES := Lib.hid hres1
  have HBX := Lib.hid hbox1
  have ho2 := ho1.base (show w.heap.size + 2 ≤ W0.heap.size from hres.lt)
  have HB1 := Lib.hid (bt hb0 hb1)
  have x0 := hbox1.cellQ 0 _ rfl
  have x1 := hbox1.cellQ 1 _ rfl
  have x2 := hbox1.cellQ 2 _ rfl
  have y0 := hbox1.frozen 0
  clear hW0 hs1 hbox hres hb0 hb1 hbox1 hres1 ho1
  have hrs := HRES.out
  have z0 := hrs.frozen 0
  have z1 := hrs.frozen 1
  have z2 := hrs.frozen 2
  have v0 := hrs.cellQ 0 _ rfl
  have v1 := hrs.cellQ 1 _ rfl
  have v2 := hrs.cellQ 2 _ rfl
  clear hrs
  go_wp2
  generalize hwf : World.setCell (World.setCell (World.setCell (World.setCell w1 _ _) _ _) _ _) _ _ = wf
  have hsf : setFrom (w.heap.size + 1) (w1.setCell ⟨w.heap.size, 0, none⟩ (.slice A1 n1 c1)) 0 [.slice A1 n1 c1, .int .i64 at_, .int .i64 x] = wf := by rw [← hwf]; rfl
  have hrow := (HRES.out.far w.heap.size 0 (.slice A1 n1 c1) (by omega)).all [.slice A1 n1 c1, .int .i64 at_, .int .i64 x] rfl
  rw [hsf] at hrow
  have r0 := hrow.cellQ 0 _ rfl
  have r1 := hrow.cellQ 1 _ rfl
  have r2 := hrow.cellQ 2 _ rfl
  refine bodyPost_ret (v := rv A1 n1 c1 at_ x) (by simp [results, Try.results39, go_sem, r0, r1, r2]) rfl ?_
  exact ⟨A1, n1, c1, rfl, by rw [← hsf]; exact ⟨own_base (own_setFrom (own_setFrom ho2.own (by omega) [_] 0) (by omega) _ 0) (by omega), ho2.len, ho2.cap, ho2.max⟩, by rw [← hsf]; exact below_setFrom (by omega) _ 0 (HB1.out.setCell (Nat.le_refl _) _)⟩
end Go.Proofs.Ytkkliblndglniaa
