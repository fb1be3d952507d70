/- MTok: several texts of this claim in one file. No statement of the seat is proved here. -/
import Derived.Test.YteoledjllpgcbaaGreatDoorMUtfA
import Derived.Test.YteoledjllpgcbaaGreatDoorMUtfC
import Derived.Test.YteoledjllpgcbaaGreatDoorMPostP
import Derived.Test.YteoledjllpgcbaaGreatDoorMReplyE
import Derived.BigQuiet
namespace Go.Proofs.YteoledjllpgcbaaGreatDoor.Tok
set_option maxRecDepth 100000
set_option maxHeartbeats 64000000
set_option linter.unusedVariables false
open Utf
def isW (c : Int) : Bool := letter c || digit c
def sm (c : Int) : List UInt8 := enc (small c)
def cut : List Int → List UInt8 → List UInt8
 | [], t => t
 | c :: cs, t => if 64 < t.length + (sm c).length then t else cut cs (t ++ sm c)
def term (w : List Int) : List UInt8 := cut w []
def scan : List Int → List Int → List (List UInt8)
 | [], w => if w = [] then [] else [term w]
 | c :: cs, w => if isW c = true then scan cs (w ++ [c]) else if w = [] then scan cs [] else term w :: scan cs []
def terms (l : List UInt8) : List (List UInt8) := scan (dec l) []
def okC (c : Int) : Bool := isW c && decide (small c = c)
def right (s : List UInt8) : Bool := (dec s).all okC && (decide (0 < (dec s).length) && decide (s.length ≤ 64))
theorem small_le (c : Int) (h : letter c = true) : letter (small c) = true ∧ small (small c) = small c ∧ Utf.right (small c) = true := by
 have key : ∀ k : Fin 1120, letter (k.val : Int) = true → letter (small (k.val : Int)) = true ∧ small (small (k.val : Int)) = small (k.val : Int) ∧ Utf.right (small (k.val : Int)) = true := by decide +kernel
 have hr : 0 ≤ c ∧ c < 1120 := by
  unfold letter tabL at h
  simp at h
  omega
 obtain ⟨n, rfl⟩ := Int.eq_ofNat_of_zero_le hr.1
 exact key ⟨n, by omega⟩ h
theorem small_dig (c : Int) (h : digit c = true) : small c = c ∧ Utf.right c = true := by
 have key : ∀ k : Fin 58, digit (k.val : Int) = true → small (k.val : Int) = (k.val : Int) ∧ Utf.right (k.val : Int) = true := by decide +kernel
 have hr : 0 ≤ c ∧ c < 58 := by
  unfold digit at h
  simp at h
  omega
 obtain ⟨n, rfl⟩ := Int.eq_ofNat_of_zero_le hr.1
 exact key ⟨n, by omega⟩ h
theorem small_W (c : Int) (h : isW c = true) : isW (small c) = true ∧ small (small c) = small c ∧ Utf.right (small c) = true := by
 unfold isW at h ⊢
 rcases Bool.or_eq_true _ _ ▸ h with h | h
 ·
  obtain ⟨h1, h2, h3⟩ := small_le c h
  exact ⟨by rw [h1]; rfl, h2, h3⟩
 ·
  obtain ⟨h1, h2⟩ := small_dig c h
  rw [h1]
  exact ⟨by rw [h, Bool.or_true], h1, h2⟩
theorem bad_W : isW bad = false := by decide +kernel
theorem sm_len (c : Int) : (sm c).length ≤ 4 := by
 have h1 := enc_length (small c)
 have h2 := size_range (small c)
 unfold sm
 omega
theorem cut_all : ∀ (cs : List Int) (t : List UInt8), t.length + (cs.flatMap sm).length ≤ 64 → cut cs t = t ++ cs.flatMap sm
 | [], t, _ => by simp [cut]
 | c :: cs, t, h => by
  rw [List.flatMap_cons, List.length_append] at h
  rw [cut, if_neg (by omega), cut_all cs _ (by rw [List.length_append]; omega), List.flatMap_cons, List.append_assoc]
theorem cut_pre : ∀ (cs : List Int) (t : List UInt8), t.length ≤ 64 → ∃ k, cut cs t = t ++ (cs.take k).flatMap sm ∧ (cut cs t).length ≤ 64
 | [], t, h => ⟨0, by simp [cut], by simpa [cut] using h⟩
 | c :: cs, t, h => by
  by_cases hc : 64 < t.length + (sm c).length
  · exact ⟨0, by simp [cut, hc], by simpa [cut, hc] using h⟩
  ·
   obtain ⟨k, h1, h2⟩ := cut_pre cs (t ++ sm c) (by rw [List.length_append]; omega)
   refine ⟨k + 1, ?_, ?_⟩
   · rw [cut, if_neg hc, h1]; simp
   · rw [cut, if_neg hc]; exact h2
theorem scan_mem : ∀ (cs w : List Int), (∀ c ∈ w, isW c = true) → ∀ x ∈ scan cs w, ∃ v, v ≠ [] ∧ (∀ c ∈ v, isW c = true) ∧ x = term v
 | [], w, hw, x, hx => by
  unfold scan at hx
  split at hx
  · cases hx
  · rename_i h; rw [List.mem_singleton] at hx; exact ⟨w, h, hw, hx⟩
 | c :: cs, w, hw, x, hx => by
  unfold scan at hx
  split at hx
  ·
   rename_i hc
   refine scan_mem cs (w ++ [c]) (fun d hd => ?_) x hx
   rcases List.mem_append.1 hd with hd | hd
   · exact hw d hd
   · rw [List.mem_singleton.1 hd]; exact hc
  ·
   split at hx
   · exact scan_mem cs [] (by simp) x hx
   ·
    rename_i h
    rcases List.mem_cons.1 hx with hx | hx
    · exact ⟨w, h, hw, hx⟩
    · exact scan_mem cs [] (by simp) x hx
theorem scan_all : ∀ (cs w : List Int), (∀ c ∈ cs, isW c = true) → w ++ cs ≠ [] → scan cs w = [term (w ++ cs)]
 | [], w, _, h => by
  rw [List.append_nil] at h ⊢
  rw [scan, if_neg h]
 | c :: cs, w, hc, h => by
  rw [scan, if_pos (hc c (List.mem_cons_self ..)), scan_all cs (w ++ [c]) (fun d hd => hc d (List.mem_cons_of_mem _ hd)) (by simp)]
  simp
theorem right_iff (s : List UInt8) : right s = true ↔ (∀ c ∈ dec s, isW c = true ∧ small c = c) ∧ dec s ≠ [] ∧ s.length ≤ 64 := by
 unfold right okC
 simp only [Bool.and_eq_true, List.all_eq_true, decide_eq_true_eq, List.length_pos_iff, ne_eq]
theorem right_terms (s : List UInt8) : right s = true ↔ terms s = [s] := by
 rw [right_iff]
 constructor
 ·
  rintro ⟨h1, h2, h3⟩
  have hb : bad ∉ dec s := fun h => by have := (h1 _ h).1; rw [bad_W] at this; cases this
  have hm : (dec s).flatMap sm = (dec s).flatMap enc := by
   have : ∀ l : List Int, (∀ c ∈ l, small c = c) → l.flatMap sm = l.flatMap enc := by
    intro l hl
    induction l with
    | nil => rfl
    | cons c l ih =>
     rw [List.flatMap_cons, List.flatMap_cons, ih fun d hd => hl d (List.mem_cons_of_mem _ hd)]
     unfold sm
     rw [hl c (List.mem_cons_self ..)]
   exact this _ fun c hc => (h1 c hc).2
  unfold terms
  rw [scan_all (dec s) [] (fun c hc => (h1 c hc).1) (by simpa using h2)]
  unfold term
  rw [List.nil_append, cut_all _ _ (by rw [hm, dec_only s hb]; simpa using h3), hm, dec_only s hb, List.nil_append]
 ·
  intro h
  obtain ⟨v, hv, hw, he⟩ := scan_mem (dec s) [] (by simp) s (by unfold terms at h; rw [h]; exact List.mem_singleton.2 rfl)
  obtain ⟨k, h1, h2⟩ := cut_pre v [] (by simp)
  unfold term at he
  rw [← he] at h1 h2
  rw [List.nil_append] at h1
  have hs : s = ((v.take k).map small).flatMap enc := by
   rw [h1]
   have : ∀ l : List Int, l.flatMap sm = (l.map small).flatMap enc := by
    intro l
    induction l with
    | nil => rfl
    | cons c l ih => rw [List.flatMap_cons, List.map_cons, List.flatMap_cons, ih]; rfl
   exact this _
  have hd : dec s = (v.take k).map small := by
   rw [hs]
   refine dec_enc _ fun c hc => ?_
   obtain ⟨d, hd, rfl⟩ := List.mem_map.1 hc
   exact (small_W d (hw d (List.mem_of_mem_take hd))).2.2
  have hne : s ≠ [] := by
   intro h0
   cases v with
   | nil => exact hv rfl
   | cons c v =>
    have h4 := sm_len c
    rw [cut, if_neg (by rw [List.length_nil]; omega)] at he
    obtain ⟨k2, h5, _⟩ := cut_pre v ([] ++ sm c) (by rw [List.nil_append]; omega)
    rw [h5, h0] at he
    have h6 : sm c = [] := by
     have := congrArg List.length he
     simp only [List.length_nil, List.nil_append, List.length_append] at this
     exact List.eq_nil_of_length_eq_zero (by omega)
    exact enc_ne (small c) h6
  refine ⟨fun c hc => ?_, fun h0 => ?_, h2⟩
  ·
   rw [hd] at hc
   obtain ⟨d, hd2, rfl⟩ := List.mem_map.1 hc
   have := small_W d (hw d (List.mem_of_mem_take hd2))
   exact ⟨this.1, this.2.1⟩
  ·
   rw [dec_step s hne] at h0
   cases h0
end Go.Proofs.YteoledjllpgcbaaGreatDoor.Tok
namespace Go.Proofs.YteoledjllpgcbaaGreatDoor
set_option maxRecDepth 100000
set_option maxHeartbeats 64000000
set_option linter.unusedVariables false
open Go.RowKit
theorem tok_drop {α : Type} {l : List α} {k : Nat} {z : α} (h : l[k]? = some z) : l.drop k = z :: l.drop (k + 1) := by
 obtain ⟨hk, rfl⟩ := List.getElem?_eq_some_iff.1 h
 exact List.drop_eq_getElem_cons hk
def TokPost (v : Value) (w : World) (e : Ending) (w' : World) : Prop := e = .returned v ∧ Below w.heap.size w w'
theorem tokterm_any (A : Option Addr) (n c : Nat) (l : List Int) (w : World) (hs : Zs w A n c l) (hW : ∀ x ∈ l, Tok.isW x = true) (ht : Ut.UTabs w) : Calls Tryz.prog 117 #[.slice A n c] w (TokPost (sv (Tok.term l)) w) := by
 have hln := hs.len
 have hcp := hs.cap
 have hmx := hs.max
 rw [maxLen_eq] at hmx
 have HS := Lib.hid hs
 have HW := Lib.hid hW
 have HT := Lib.hid ht
 clear hs hW ht
 go_enter Tryz.func117, Tryz.ntmps117
 go_wp2
 go_loopw [3, 10] (fun vb vi wr => ∃ (k : Nat) (B' : Option Addr) (m' c' : Nat) (t : List UInt8), vb = .slice B' m' c' ∧ vi = .int .i64 (k : Int) ∧ k ≤ n ∧ m' ≤ 64 ∧ Hid (Own8 wr w.heap.size B' m' c' t ∧ Below w.heap.size w wr) ∧ Hid (Tok.cut (l.drop k) t = Tok.term l)) (fun _ vi _ => n - (intOf vi).toNat)
 case atStart => exact ⟨0, none, 0, 0, [], rfl, rfl, by omega, by omega, Lib.hid ⟨Own8.nil _ _, Below.refl _ _⟩, Lib.hid rfl⟩
 case round =>
  obtain ⟨k, B', m', c', t, rfl, rfl, hk, hm', HI, HN⟩ := hrel
  have hln2 := HI.out.1.len
  have hcp2 := HI.out.1.cap
  have hmx2 := HI.out.1.max
  rw [maxLen_eq] at hmx2
  by_cases hlt : k < n
  ·
   obtain ⟨b, off, rfl, hb, hcells, z, hz, hzb⟩ := (HS.out.keep HI.out.2).at hlt
   have x0 := hcells k z hz
   have HZW := Lib.hid (Tok.small_W z (HW.out z (List.mem_of_getElem? hz)))
   have HDR := Lib.hid (tok_drop hz)
   have C1 := Lib.hid (Ut.small_any z wr (HT.out.below HI.out.2))
   unfold Ut.IntPost at C1
   clear hcells hz
   go_wp2_with fail
   (with_reducible refine C1.out.mono ?_)
   rintro e w2 ⟨rfl, hb2⟩
   have C2 := Lib.hid (Ut.encode_any (Utf.small z) w2)
   have HB2 := Lib.hid (bt HI.out.2 hb2)
   have HO2 := Lib.hid (HI.out.1.keep hb2)
   clear hb2 C1 x0
   go_wp2_with fail
   (with_reducible refine C2.out.mono ?_)
   rintro e w3 ⟨hb3, hp3⟩
   rw [if_pos HZW.out.2.2] at hp3
   obtain ⟨A3, k3, rfl, hr3, hk3, hm3⟩ := hp3
   obtain ⟨el, hel⟩ : ∃ x, Utf.enc (Utf.small z) = x := ⟨_, rfl⟩
   obtain ⟨en, hen⟩ : ∃ x, el.length = x := ⟨_, rfl⟩
   have hsm : Tok.sm z = el := hel
   have hle := Tok.sm_len z
   rw [hsm, hen] at hle
   rw [hel] at hr3 hk3 ⊢
   rw [hen] at hk3 ⊢
   have HE := Lib.hid (show Bs w3 A3 en k3 el from ⟨hr3, hen, hk3, hm3⟩)
   have HB3 := Lib.hid (bt HB2.out hb3)
   have HO3 := Lib.hid (HO2.out.keep hb3)
   have hBB := HB3.out.size
   have HSM := Lib.hid (And.intro hsm hen)
   rw [maxLen_eq] at hm3
   clear hb3 hr3 hel C2 hsm hen
   by_cases h64 : 64 < m' + en
   ·
    have h64' : (64 : Int) < (m' : Int) + (en : Int) := by omega
    have HF := Lib.hid (show Tok.term l = t by
     have h := HN.out
     rw [HDR.out, Tok.cut, HSM.out.1, if_pos (by rw [HSM.out.2]; omega)] at h
     exact h.symm)
    have hcv := run_str (P := Tryz.prog) (w := w3) 28 9 5 Tryz.underlying28 Tryz.underlying5 Tryz.underlying9 B' m' c' _ t HO3.out.bs.rd HO3.out.bs.len
    go_wp2
    go_ret
    exact ⟨by rw [HF.out]; rfl, HB3.out⟩
   ·
    have h64' : ¬ (64 : Int) < (m' : Int) + (en : Int) := by omega
    have HNX := Lib.hid (show Tok.cut (l.drop (k + 1)) (t ++ el) = Tok.term l by
     have h := HN.out
     rw [HDR.out, Tok.cut, HSM.out.1, if_neg (by rw [HSM.out.2]; omega)] at h
     exact h)
    go_wp2_with (at_builtin; refine wl_app8 rfl (.tmp 26) (.tmp 27) rfl rfl HO3.out rfl HE.out (by omega) hBB ?_; intro A9 n9 c9 w9 ho9 hb9 hg9; have HO9 := Lib.hid ho9; have HB9 := Lib.hid (HB3.out.trans hb9); have hn9 : n9 ≤ 64 := (by have a1 := ho9.len; have a2 := HSM.out.2; rw [List.length_append] at a1; omega); clear ho9 hb9 hg9 hBB)
    go_roundw
    case rel => exact ⟨k + 1, A9, n9, c9, t ++ el, rfl, by go_num, by omega, hn9, Lib.hid ⟨HO9.out, HB9.out⟩, HNX⟩
    case measure => simp [intOf]; omega
  ·
   obtain rfl : k = n := by omega
   have HF := Lib.hid (show Tok.term l = t by
    have h := HN.out
    rw [← hln, List.drop_length, Tok.cut] at h
    exact h.symm)
   have HB := Lib.hid HI.out.2
   have hcv := run_str (P := Tryz.prog) (w := wr) 28 9 5 Tryz.underlying28 Tryz.underlying5 Tryz.underlying9 B' m' c' _ t HI.out.1.bs.rd HI.out.1.bs.len
   go_wp2
   go_ret
   exact ⟨by rw [HF.out]; rfl, HB.out⟩
def zc (z : Int) : List Value := [.int .i64 z]
theorem zc_len (z : Int) : (zc z).length = 1 := rfl
theorem zc_one (z : Int) : ∀ u ∈ zc z, u.oneCell' = true := fun u hu => by
 simp only [zc, List.mem_cons, List.not_mem_nil, or_false] at hu
 subst hu; rfl
theorem zc_flat (l : List Int) : l.flatMap zc = l.map iv := by
 induction l with
 | nil => rfl
 | cons z l ih => rw [List.flatMap_cons, ih]; rfl
theorem zs_of {w : World} {B n c : Nat} {A : Option Addr} {l : List Int} (h : OwnQ zc 1 3 w B A n c l) (hb : ∀ z ∈ l, -9223372036854775808 ≤ z ∧ z ≤ 9223372036854775807) : Zs w A n c l := ⟨by have := h.sq.rd; rw [zc_flat] at this; exact this, h.len, h.cap, h.max, hb⟩
theorem w_bd {z : Int} (h : Tok.isW z = true) : -9223372036854775808 ≤ z ∧ z ≤ 9223372036854775807 := by
 unfold Tok.isW Utf.letter Utf.tabL Utf.digit at h
 simp at h
 omega
def TermsPost (T : List (List UInt8)) (w : World) (e : Ending) (w' : World) : Prop := ∃ A n c, e = .returned (.slice A n c) ∧ OwnS w' w.heap.size A n c T ∧ Below w.heap.size w w'
theorem terms_any (A : Option Addr) (n c : Nat) (l : List UInt8) (w : World) (hs : Bs w A n c l) (hn : n ≤ 1000000) (ht : Ut.UTabs w) : Calls Tryz.prog 68 #[.slice A n c] w (TermsPost (Tok.terms l) w) := by
 have HT := Lib.hid ht
 have hln := hs.len
 have C0 := Lib.hid (Ut.decode_any A n c l w hs.rd hs.len hs.cap hs.max (by omega))
 have hdl := Utf.dec_length l
 clear hs ht
 go_enter Tryz.func68, Tryz.ntmps68
 go_wp2_with fail
 (with_reducible refine C0.out.mono ?_)
 rintro e w1 ⟨v, rfl, hown, hb⟩
 obtain ⟨m, hm⟩ : ∃ m, (Utf.dec l).length = m := ⟨_, rfl⟩
 rw [hm] at hown hdl
 obtain ⟨Ad, cd, rfl, hcd, hmd⟩ := own_form hown
 have HZ := Lib.hid (show Zs w1 Ad m cd (Utf.dec l) from ⟨Rd.of_own hown, hm, hcd, hmd, fun z hz => by have := (Utf.right_iff z).1 (Utf.dec_right l z hz); omega⟩)
 have HB1 := Lib.hid hb
 have HM := Lib.hid hm
 rw [maxLen_eq] at hmd
 clear hown hb hm C0
 go_wp2
 go_loopw [3, 4, 10] (fun vt vw vi wr => ∃ (k : Nat) (At : Option Addr) (nt ct : Nat) (Aw : Option Addr) (nw cw : Nat) (T : List (List UInt8)) (W : List Int), vt = .slice At nt ct ∧ vw = .slice Aw nw cw ∧ vi = .int .i64 (k : Int) ∧ k ≤ m ∧ nt ≤ k ∧ nw ≤ k ∧ Hid ((OwnS wr w1.heap.size At nt ct T ∧ OwnQ zc 1 3 wr w1.heap.size Aw nw cw W ∧ Below w1.heap.size w1 wr) ∧ (∀ x ∈ W, Tok.isW x = true) ∧ T ++ Tok.scan ((Utf.dec l).drop k) W = Tok.terms l)) (fun _ _ vi _ => m - (intOf vi).toNat)
 case atStart => exact ⟨0, none, 0, 0, none, 0, 0, [], [], rfl, rfl, rfl, by omega, by omega, by omega, Lib.hid ⟨⟨OwnS.nil _ _, OwnQ.nil _ _, Below.refl _ _⟩, by simp, rfl⟩⟩
 case round =>
  obtain ⟨k, At, nt, ct, Aw, nw, cw, T, W, rfl, rfl, rfl, hk, hnt, hnw, HI⟩ := hrel
  have hcw := HI.out.1.2.1.cap
  have hmw := HI.out.1.2.1.max
  rw [maxLen_eq] at hmw
  by_cases hlt : k < m
  ·
   obtain ⟨b, off, rfl, hb, hcells, z, hz, hzb⟩ := (HZ.out.keep HI.out.1.2.2).at hlt
   have x0 := hcells k z hz
   have HDR := Lib.hid (tok_drop hz)
   clear hcells hz
   cases hL : Utf.letter z with
   | true =>
    have C1 := Lib.hid (Ut.letter_any z wr (HT.out.below (HB1.out.trans (HI.out.1.2.2.mono HB1.out.size))))
    unfold Ut.LetPost at C1
    rw [hL] at C1
    go_wp2_with fail
    (with_reducible refine C1.out.mono ?_)
    rintro e w2 ⟨rfl, hb2⟩
    have HI2 := Lib.hid (show OwnS w2 w1.heap.size At nt ct T ∧ OwnQ zc 1 3 w2 w1.heap.size Aw nw cw W ∧ Below w1.heap.size w1 w2 from ⟨HI.out.1.1.keep hb2, HI.out.1.2.1.keep hb2, bt HI.out.1.2.2 hb2⟩)
    have hBB := HI2.out.2.2.size
    clear hb2 C1 x0
    have HIW := Lib.hid (show Tok.isW z = true by unfold Tok.isW; simp [hL])
    clear hL
    go_wp2_with (at_builtin; refine wl_appQ1k zc_len intsT (by omega) zc_one rfl (.tmp 20) (.tmp 22) rfl rfl HI2.out.2.1 rfl z rfl (by omega) hBB ?_; intro A6 c6 w6 ho6 hg6 hb6; have HI6 := Lib.hid (show OwnS w6 w1.heap.size At nt ct T ∧ OwnQ zc 1 3 w6 w1.heap.size A6 (nw + 1) c6 (W ++ [z]) ∧ Below w1.heap.size w1 w6 from by
      have hba := (Below.refl w2.heap.size w2).alloc (Nat.le_refl _) (.cells #[.int .i64 z] 3)
      have k := KeepTy.grown (S := [3]) (HI2.out.2.1.keep hba).own (by decide) hg6 hb6.size
      exact ⟨(HI2.out.1.keep hba).keepTy (by decide) k, ho6, (bt HI2.out.2.2 hba).trans hb6⟩); clear ho6 hg6 hb6)
    go_roundw
    case rel => exact ⟨k + 1, At, nt, ct, A6, nw + 1, c6, T, W ++ [z], rfl, rfl, by go_num, by omega, by omega, by omega, Lib.hid ⟨HI6.out, fun x hx => by
     rcases List.mem_append.1 hx with hx | hx
     · exact HI.out.2.1 x hx
     · rw [List.mem_singleton.1 hx]; exact HIW.out, by have h := HI.out.2.2; rw [HDR.out, Tok.scan, if_pos HIW.out] at h; exact h⟩⟩
    case measure => simp [intOf]; omega
   | false =>
    cases hD : Utf.digit z with
    | true =>
     have C1 := Lib.hid (Ut.letter_any z wr (HT.out.below (HB1.out.trans (HI.out.1.2.2.mono HB1.out.size))))
     unfold Ut.LetPost at C1
     rw [hL] at C1
     go_wp2_with fail
     (with_reducible refine C1.out.mono ?_)
     rintro e w2 ⟨rfl, hb2⟩
     have HI2 := Lib.hid (show OwnS w2 w1.heap.size At nt ct T ∧ OwnQ zc 1 3 w2 w1.heap.size Aw nw cw W ∧ Below w1.heap.size w1 w2 from ⟨HI.out.1.1.keep hb2, HI.out.1.2.1.keep hb2, bt HI.out.1.2.2 hb2⟩)
     have hBB := HI2.out.2.2.size
     clear hb2 C1 x0
     have C2 := Lib.hid (Ut.udigit_any z w2)
     rw [hD] at C2
     go_wp2_with fail
     (with_reducible refine C2.out.mono ?_)
     rintro e w3 ⟨rfl, rfl⟩
     clear C2
     have HIW := Lib.hid (show Tok.isW z = true by unfold Tok.isW; simp [hL, hD])
     clear hL hD
     go_wp2_with (at_builtin; refine wl_appQ1k zc_len intsT (by omega) zc_one rfl (.tmp 20) (.tmp 22) rfl rfl HI2.out.2.1 rfl z rfl (by omega) hBB ?_; intro A6 c6 w6 ho6 hg6 hb6; have HI6 := Lib.hid (show OwnS w6 w1.heap.size At nt ct T ∧ OwnQ zc 1 3 w6 w1.heap.size A6 (nw + 1) c6 (W ++ [z]) ∧ Below w1.heap.size w1 w6 from by
       have hba := (Below.refl w2.heap.size w2).alloc (Nat.le_refl _) (.cells #[.int .i64 z] 3)
       have k := KeepTy.grown (S := [3]) (HI2.out.2.1.keep hba).own (by decide) hg6 hb6.size
       exact ⟨(HI2.out.1.keep hba).keepTy (by decide) k, ho6, (bt HI2.out.2.2 hba).trans hb6⟩); clear ho6 hg6 hb6)
     go_roundw
     case rel => exact ⟨k + 1, At, nt, ct, A6, nw + 1, c6, T, W ++ [z], rfl, rfl, by go_num, by omega, by omega, by omega, Lib.hid ⟨HI6.out, fun x hx => by
      rcases List.mem_append.1 hx with hx | hx
      · exact HI.out.2.1 x hx
      · rw [List.mem_singleton.1 hx]; exact HIW.out, by have h := HI.out.2.2; rw [HDR.out, Tok.scan, if_pos HIW.out] at h; exact h⟩⟩
     case measure => simp [intOf]; omega
    | false =>
     have C1 := Lib.hid (Ut.letter_any z wr (HT.out.below (HB1.out.trans (HI.out.1.2.2.mono HB1.out.size))))
     unfold Ut.LetPost at C1
     rw [hL] at C1
     go_wp2_with fail
     (with_reducible refine C1.out.mono ?_)
     rintro e w2 ⟨rfl, hb2⟩
     have HI2 := Lib.hid (show OwnS w2 w1.heap.size At nt ct T ∧ OwnQ zc 1 3 w2 w1.heap.size Aw nw cw W ∧ Below w1.heap.size w1 w2 from ⟨HI.out.1.1.keep hb2, HI.out.1.2.1.keep hb2, bt HI.out.1.2.2 hb2⟩)
     have hBB := HI2.out.2.2.size
     clear hb2 C1 x0
     have C2 := Lib.hid (Ut.udigit_any z w2)
     rw [hD] at C2
     go_wp2_with fail
     (with_reducible refine C2.out.mono ?_)
     rintro e w3 ⟨rfl, rfl⟩
     clear C2
     have HIW := Lib.hid (show ¬ Tok.isW z = true by unfold Tok.isW; simp [hL, hD])
     clear hL hD
     by_cases h0 : nw = 0
     ·
      subst h0
      have HWN := Lib.hid (show W = [] from List.eq_nil_of_length_eq_zero HI.out.1.2.1.len)
      go_wp2
      go_roundw
      case rel => exact ⟨k + 1, At, nt, ct, Aw, 0, cw, T, W, rfl, rfl, by go_num, by omega, by omega, by omega, Lib.hid ⟨HI2.out, HI.out.2.1, by have h := HI.out.2.2; rw [HDR.out, Tok.scan, if_neg HIW.out, if_pos HWN.out] at h; rw [HWN.out]; exact h⟩⟩
      case measure => simp [intOf]; omega
     ·
      have hpos : (0 : Int) < (nw : Int) := by omega
      have HWN := Lib.hid (show W ≠ [] from fun e => by have h := HI.out.1.2.1.len; rw [e] at h; exact h0 h.symm)
      have CT := Lib.hid (tokterm_any Aw nw cw W w2 (zs_of HI2.out.2.1 (fun x hx => w_bd (HI.out.2.1 x hx))) HI.out.2.1 (HT.out.below (HB1.out.trans (HI2.out.2.2.mono HB1.out.size))))
      unfold TokPost at CT
      go_wp2_with fail
      (with_reducible refine CT.out.mono ?_)
      rintro e w5 ⟨rfl, hb5⟩
      have HI5 := Lib.hid (show OwnS w5 w1.heap.size At nt ct T ∧ Below w1.heap.size w1 w5 from ⟨HI2.out.1.keep hb5, bt HI2.out.2.2 hb5⟩)
      have hB5 := HI5.out.2.size
      clear hb5 CT hBB
      go_wp2_with (at_builtin; refine wl_appS1k rfl (.tmp 27) (.tmp 30) rfl rfl HI5.out.1 rfl (Tok.term W) (by omega) hB5 ?_; intro A7 n7 c7 w7 ho7 hg7 hb7; have hn7 : n7 ≤ nt + 1 := (by have a := ho7.len; have b := HI5.out.1.len; rw [List.length_append, List.length_singleton] at a; omega); have HI7 := Lib.hid (show OwnS w7 w1.heap.size A7 n7 c7 (T ++ [Tok.term W]) ∧ Below w1.heap.size w1 w7 from ⟨ho7, (HI5.out.2.trans (((Below.refl w5.heap.size w5).alloc (Nat.le_refl _) (.cells #[sv (Tok.term W)] 9)).mono hB5)).trans hb7⟩); clear ho7 hg7 hb7)
      go_roundw
      case rel => exact ⟨k + 1, A7, n7, c7, none, 0, 0, T ++ [Tok.term W], [], rfl, rfl, by go_num, by omega, by omega, by omega, Lib.hid ⟨⟨HI7.out.1, OwnQ.nil _ _, HI7.out.2⟩, by simp, by have h := HI.out.2.2; rw [HDR.out, Tok.scan, if_neg HIW.out, if_neg HWN.out] at h; rw [← h]; simp⟩⟩
      case measure => simp [intOf]; omega
  ·
   obtain rfl : k = m := by omega
   have HSC := Lib.hid (show T ++ Tok.scan [] W = Tok.terms l by have h := HI.out.2.2; rw [← HM.out, List.drop_length] at h; exact h)
   by_cases h0 : nw = 0
   ·
    subst h0
    have HWN := Lib.hid (show W = [] from List.eq_nil_of_length_eq_zero HI.out.1.2.1.len)
    go_wp2
    go_ret
    exact ⟨At, nt, ct, rfl, by rw [← HSC.out, HWN.out, Tok.scan, if_pos rfl, List.append_nil]; exact HI.out.1.1.base HB1.out.size, HB1.out.trans (HI.out.1.2.2.mono HB1.out.size)⟩
   ·
    have hpos : (0 : Int) < (nw : Int) := by omega
    have HWN := Lib.hid (show W ≠ [] from fun e => by have h := HI.out.1.2.1.len; rw [e] at h; exact h0 h.symm)
    have CT := Lib.hid (tokterm_any Aw nw cw W wr (zs_of HI.out.1.2.1 (fun x hx => w_bd (HI.out.2.1 x hx))) HI.out.2.1 (HT.out.below (HB1.out.trans (HI.out.1.2.2.mono HB1.out.size))))
    unfold TokPost at CT
    go_wp2_with fail
    (with_reducible refine CT.out.mono ?_)
    rintro e w5 ⟨rfl, hb5⟩
    have HI5 := Lib.hid (show OwnS w5 w1.heap.size At nt ct T ∧ Below w1.heap.size w1 w5 from ⟨HI.out.1.1.keep hb5, bt HI.out.1.2.2 hb5⟩)
    have hB5 := HI5.out.2.size
    clear hb5 CT
    go_wp2_with (at_builtin; refine wl_appS1k rfl (.tmp 36) (.tmp 39) rfl rfl HI5.out.1 rfl (Tok.term W) (by omega) hB5 ?_; intro A7 n7 c7 w7 ho7 hg7 hb7; have HI7 := Lib.hid (show OwnS w7 w1.heap.size A7 n7 c7 (T ++ [Tok.term W]) ∧ Below w1.heap.size w1 w7 from ⟨ho7, (HI5.out.2.trans (((Below.refl w5.heap.size w5).alloc (Nat.le_refl _) (.cells #[sv (Tok.term W)] 9)).mono hB5)).trans hb7⟩); clear ho7 hg7 hb7)
    go_ret
    exact ⟨A7, n7, c7, rfl, by rw [← HSC.out, Tok.scan, if_neg HWN.out]; exact HI7.out.1.base HB1.out.size, HB1.out.trans (HI7.out.2.mono HB1.out.size)⟩
theorem tright_any (s : List UInt8) (w : World) (hs : s.length ≤ 100000) (ht : Ut.UTabs w) : Calls Tryz.prog 27 #[sv s] w (TokPost (.bool (Tok.right s)) w) := by
 have HT := Lib.hid ht
 clear ht
 go_enter Tryz.func27, Tryz.ntmps27
 go_wp2_with (refine wl_bytesT rfl 9 28 (.tmp 4) rfl Tryz.underlying9 Tryz.underlying28 Tryz.underlying5 s rfl (by rw [maxLen_eq]; omega) ?_; intro A1 c1 w1 ho1 hb1; have HO := Lib.hid ho1; have HB1 := Lib.hid hb1; clear ho1 hb1)
 have C := Lib.hid (terms_any A1 s.length c1 s w1 HO.out.bs (by omega) (HT.out.below HB1.out))
 unfold TermsPost at C
 (with_reducible refine C.out.mono ?_)
 rintro e w2 ⟨A2, n2, c2, rfl, ho2, hb2⟩
 have HO2 := Lib.hid ho2
 have HB2 := Lib.hid (bt HB1.out hb2)
 have hl2 := ho2.len
 have hc2 := ho2.cap
 have hm2 := ho2.max
 rw [maxLen_eq] at hm2
 clear ho2 hb2 C HO
 by_cases h1 : n2 = 1
 ·
  subst h1
  obtain ⟨b, off, rfl, hbk, hcells, x, hx⟩ := HO2.out.ss.at (k := 0) (by omega)
  have x0 := hcells 0 x hx
  rw [Nat.add_zero] at x0
  have HX := Lib.hid (show Tok.terms s = [x] by
   cases hT : Tok.terms s with
   | nil => rw [hT] at hl2; cases hl2
   | cons y l =>
    rw [hT] at hl2 hx
    have : l = [] := List.eq_nil_of_length_eq_zero (by rw [List.length_cons] at hl2; omega)
    subst this
    injection hx with hx
    rw [hx])
  clear hl2 hcells hx
  by_cases he : x = s
  ·
   subst he
   have HE := Lib.hid (show Tok.right x = true from (Tok.right_terms x).2 HX.out)
   go_wp2
   go_ret
   exact ⟨by rw [HE.out]; rfl, HB2.out⟩
  ·
   have HE := Lib.hid (show Tok.right s = false by
    cases hr : Tok.right s with
    | false => rfl
    | true => rw [(Tok.right_terms s).1 hr] at HX; injection HX.out with h; exact absurd h.symm he)
   have hbe : ((str x).toList == (str s).toList) = false := by rw [strEq]; exact decide_eq_false he
   go_wp2
   go_ret
   exact ⟨by rw [HE.out]; rfl, HB2.out⟩
 ·
  have HE := Lib.hid (show Tok.right s = false by
   cases hr : Tok.right s with
   | false => rfl
   | true => rw [(Tok.right_terms s).1 hr] at hl2; exact absurd hl2.symm h1)
  have hne : ¬ (n2 : Int) = 1 := by omega
  have hneb : ((n2 : Int) == 1) = false := beq_eq_false_iff_ne.2 hne
  go_wp2
  go_ret
  exact ⟨by rw [HE.out]; rfl, HB2.out⟩
theorem rin_any (c : Int) (w : World) : Calls Tryz.prog 36 #[.int .i64 c] w fun e w' => e = .returned (.bool (Tok.isW c)) ∧ w = w' := by
 have C := Lib.hid (Ut.rletter_any c w)
 cases hL : Utf.letter c with
 | true =>
  rw [hL] at C
  have HE := Lib.hid (show Tok.isW c = true by unfold Tok.isW; rw [hL]; rfl)
  clear hL
  go_enter Tryz.func36, Tryz.ntmps36
  go_wp2_with fail
  (with_reducible refine C.out.mono ?_)
  rintro e w2 ⟨rfl, rfl⟩
  go_wp2
  go_ret
  exact ⟨by rw [HE.out]; rfl, rfl⟩
 | false =>
  rw [hL] at C
  by_cases h1 : 48 ≤ c
  ·
   by_cases h2 : c ≤ 57
   ·
    have HE := Lib.hid (show Tok.isW c = true by unfold Tok.isW Utf.digit; rw [hL]; simp [h1, h2])
    clear hL
    go_enter Tryz.func36, Tryz.ntmps36
    go_wp2_with fail
    (with_reducible refine C.out.mono ?_)
    rintro e w2 ⟨rfl, rfl⟩
    go_wp2
    go_ret
    exact ⟨by rw [HE.out]; first | rfl | simp [h2], rfl⟩
   ·
    have HE := Lib.hid (show Tok.isW c = false by unfold Tok.isW Utf.digit; rw [hL]; simp [h1, h2])
    clear hL
    go_enter Tryz.func36, Tryz.ntmps36
    go_wp2_with fail
    (with_reducible refine C.out.mono ?_)
    rintro e w2 ⟨rfl, rfl⟩
    go_wp2
    go_ret
    exact ⟨by rw [HE.out]; first | rfl | simp [h2], rfl⟩
  ·
   have HE := Lib.hid (show Tok.isW c = false by unfold Tok.isW Utf.digit; rw [hL]; simp [h1])
   clear hL
   go_enter Tryz.func36, Tryz.ntmps36
   go_wp2_with fail
   (with_reducible refine C.out.mono ?_)
   rintro e w2 ⟨rfl, rfl⟩
   go_wp2
   go_ret
   exact ⟨by rw [HE.out]; first | rfl | simp [h1], rfl⟩
def AllOk (l : List Int) (k : Nat) : Prop := ∀ j z, j < k → l[j]? = some z → Tok.okC z = true
theorem AllOk.snoc {l : List Int} {k : Nat} {z : Int} (h : AllOk l k) (e : l[k]? = some z) (h1 : Tok.okC z = true) : AllOk l (k + 1) := by
 intro i r' hi hr
 rcases Nat.lt_or_ge i k with h3 | h3
 · exact h i r' h3 hr
 ·
  obtain rfl : i = k := by omega
  rw [e] at hr
  injection hr with hr
  rw [← hr]; exact h1
theorem tokRight_any (s : List UInt8) (w : World) (hs : s.length ≤ 100000) : Calls Tryz.prog 11 #[sv s] w (TokPost (.bool (Tok.right s)) w) := by
 have hsz : (str s).size = s.length := strLen _
 go_enter Tryz.func11, Tryz.ntmps11
 go_wp2_with (refine wl_bytesT rfl 9 28 (.tmp 5) rfl Tryz.underlying9 Tryz.underlying28 Tryz.underlying5 s rfl (by rw [maxLen_eq]; omega) ?_; intro A1 c1 w1 ho1 hb1; have HO := Lib.hid ho1; have HB1 := Lib.hid hb1; clear ho1 hb1)
 have C := Lib.hid (Ut.rdecode_any A1 s.length c1 s w1 HO.out.bs.rd rfl HO.out.bs.cap HO.out.bs.max (by omega))
 unfold Ut.RDecPost at C
 (with_reducible refine C.out.mono ?_)
 rintro e w2 ⟨v, rfl, hown, hb2⟩
 obtain ⟨m, hm⟩ : ∃ m, (Utf.dec s).length = m := ⟨_, rfl⟩
 have hdl := Utf.dec_length s
 rw [hm] at hown hdl
 obtain ⟨Ad, cd, rfl, hcd, hmd⟩ := own_form hown
 have HZ := Lib.hid (show Zs w2 Ad m cd (Utf.dec s) from ⟨Rd.of_own hown, hm, hcd, hmd, fun z hz => by have := (Utf.right_iff z).1 (Utf.dec_right s z hz); omega⟩)
 have HB2 := Lib.hid (bt HB1.out hb2)
 have HM := Lib.hid hm
 rw [maxLen_eq] at hmd
 clear hown hb2 hm C HO
 go_wp2
 go_loopw [4] (fun vi wr => ∃ (k : Nat), vi = .int .i64 (k : Int) ∧ k ≤ m ∧ Hid (Below w2.heap.size w2 wr) ∧ Hid (AllOk (Utf.dec s) k)) (fun vi _ => m - (intOf vi).toNat)
 case atStart => exact ⟨0, rfl, by omega, Lib.hid (Below.refl _ _), Lib.hid (fun j z hj => by omega)⟩
 case round =>
  obtain ⟨k, rfl, hk, HI, HN⟩ := hrel
  by_cases hlt : k < m
  ·
   obtain ⟨b, off, rfl, hb, hcells, z, hz, hzb⟩ := (HZ.out.keep HI.out).at hlt
   have x0 := hcells k z hz
   have HZK := Lib.hid hz
   have HX := Lib.hid (show ∀ W, Below wr.heap.size wr W → W.cell? ⟨b, off + k, none⟩ = some (.int .i64 z) from fun W hW => by rw [hW.cell hb]; exact x0)
   clear hcells hz
   have HX := Lib.hid (show ∀ W, Below wr.heap.size wr W → W.cell? ⟨b, off + k, none⟩ = some (.int .i64 z) from HX.out)
   cases hI1 : Tok.isW z with
   | false =>
    have HI1 := Lib.hid hI1
    have HE := Lib.hid (show Tok.right s = false by
     unfold Tok.right
     rw [show (Utf.dec s).all Tok.okC = false from List.all_eq_false.2 ⟨z, List.mem_of_getElem? HZK.out, by unfold Tok.okC; simp [hI1]⟩]
     rfl)
    clear hI1 x0
    go_upto_region 5 with fail
    refine Free.wp_free_l 18 (fun W => Below wr.heap.size wr W) [Free.kc (.slice (some ⟨b, off, none⟩) m cd), Free.kc (.int .i64 (k : Int)), Free.kc (.pointer (some ⟨b, off + k * 1, none⟩)), Free.kc (.int .i64 z), Free.kc (.bool false), Free.kc (.bool true), Free.kc (.bool true), Free.kc (undef), Free.kc (undef), Free.kc (undef), Free.kc (undef), Free.kc (undef), Free.kc (undef), Free.kc (undef), Free.kc (undef), Free.kc (undef), Free.kc (undef), Free.kc (.bool true)] (by kernel_rfl) (by kernel_rfl) (by decide) (bel_drew _ _) (fun W W' h g => bt h g) ?_ ?_
    ·
     iterate 18 refine Free.forall_succ ?_ ?_
     all_goals first | exact Free.forall_zero | (refine Free.op fun vals wq hC hd => ?_) | skip
     · exact Free.dm
     · exact Free.dm
     · exact Free.d_indexAddr rfl (Free.tr 0 hd) (Free.tr 1 hd) (run_idxK 43 Tryz.underlying43 (by kernel_rfl) b off m cd k _ rfl hlt) rfl
     · exact Free.d_load (cx := .pointer (some ⟨b, off + k * 1, none⟩)) rfl (Free.tr 2 hd) (by have s0 := HX.out wq hC; go_simp) rfl
     · exact Free.d_call Tryz.func36 rfl rfl rfl rfl (Free.arg1 (Free.tr 3 hd)) ((rin_any z wq).mono fun e w2 ⟨he, hw⟩ => ⟨_, he, (by rw [HI1.out]; rfl), by rw [← hw]; exact Below.refl _ _⟩)
     · exact Free.d_un rfl (Free.tr 4 hd) (by go_simp) rfl
     · exact Free.d_move rfl (Free.tr 5 hd) rfl
     · exact Free.skl 6 20 false
     · exact Free.skl 6 20 false
     · exact Free.skl 6 20 false
     · exact Free.skl 6 20 false
     · exact Free.skl 6 20 false
     · exact Free.skl 6 20 false
     · exact Free.skl 6 20 false
     · exact Free.skl 6 20 false
     · exact Free.skl 6 20 false
     · exact Free.skl 6 20 false
     · exact Free.d_pick rfl (Eq.trans (b := vals 6) (by kernel_rfl) (hd 6 (by kernel_rfl))) rfl rfl
    ·
     intro vals wq hC hd
     refine Free.go hd ?_
     rintro _ rfl _ rfl _ rfl _ rfl _ rfl _ rfl _ rfl _ rfl _ rfl _ rfl _ rfl _ rfl _ rfl _ rfl _ rfl _ rfl _ rfl _ rfl
     simp only [Free.All, Free.fl, Act.put, Free.sa, Free.s0, Free.s1]
     refine wpList_nil ?_
     clear hd
     have HQ := Lib.hid (bt HI.out hC)
     clear hC
     go_wp2
     go_ret
     exact ⟨by rw [HE.out]; rfl, bt HB2.out HQ.out⟩
   | true =>
    have HI1 := Lib.hid hI1
    by_cases hsz2 : Utf.small z = z
    ·
     have HNX := Lib.hid (HN.out.snoc HZK.out (by unfold Tok.okC; rw [hI1, decide_eq_true hsz2]; rfl))
     have HSZ := Lib.hid hsz2
     clear hI1 x0 hsz2
     go_upto_region 5 with fail
     refine Free.wp_free_l 18 (fun W => Below wr.heap.size wr W) [Free.kc (.slice (some ⟨b, off, none⟩) m cd), Free.kc (.int .i64 (k : Int)), Free.kc (.pointer (some ⟨b, off + k * 1, none⟩)), Free.kc (.int .i64 z), Free.kc (.bool true), Free.kc (.bool false), Free.kc (.bool false), Free.kc (.slice (some ⟨b, off, none⟩) m cd), Free.kc (.int .i64 (k : Int)), Free.kc (.pointer (some ⟨b, off + k * 1, none⟩)), Free.kc (.int .i64 z), Free.kc (.int .i64 (Utf.small z)), Free.kc (.slice (some ⟨b, off, none⟩) m cd), Free.kc (.int .i64 (k : Int)), Free.kc (.pointer (some ⟨b, off + k * 1, none⟩)), Free.kc (.int .i64 z), Free.kc (.bool false), Free.kc (.bool false)] (by kernel_rfl) (by kernel_rfl) (by decide) (bel_drew _ _) (fun W W' h g => bt h g) ?_ ?_
     ·
      iterate 18 refine Free.forall_succ ?_ ?_
      all_goals first | exact Free.forall_zero | (refine Free.op fun vals wq hC hd => ?_) | skip
      · exact Free.dm
      · exact Free.dm
      · exact Free.d_indexAddr rfl (Free.tr 0 hd) (Free.tr 1 hd) (run_idxK 43 Tryz.underlying43 (by kernel_rfl) b off m cd k _ rfl hlt) rfl
      · exact Free.d_load (cx := .pointer (some ⟨b, off + k * 1, none⟩)) rfl (Free.tr 2 hd) (by have s0 := HX.out wq hC; go_simp) rfl
      · exact Free.d_call Tryz.func36 rfl rfl rfl rfl (Free.arg1 (Free.tr 3 hd)) ((rin_any z wq).mono fun e w2 ⟨he, hw⟩ => ⟨_, he, (by rw [HI1.out]; rfl), by rw [← hw]; exact Below.refl _ _⟩)
      · exact Free.d_un rfl (Free.tr 4 hd) (by go_simp) rfl
      · exact Free.d_move rfl (Free.tr 5 hd) rfl
      · refine Free.og 6 20 false fun vals wq hC hd => ?_; exact Free.d_move rfl (by kernel_rfl) rfl
      · refine Free.og 6 20 false fun vals wq hC hd => ?_; exact Free.d_move rfl (by kernel_rfl) rfl
      · refine Free.og 6 20 false fun vals wq hC hd => ?_; exact Free.d_indexAddr rfl (Free.tr 7 hd) (Free.tr 8 hd) (run_idxK 43 Tryz.underlying43 (by kernel_rfl) b off m cd k _ rfl hlt) rfl
      · refine Free.og 6 20 false fun vals wq hC hd => ?_; exact Free.d_load (cx := .pointer (some ⟨b, off + k * 1, none⟩)) rfl (Free.tr 9 hd) (by have s0 := HX.out wq hC; go_simp) rfl
      · refine Free.og 6 20 false fun vals wq hC hd => ?_; exact Free.d_call Tryz.func37 rfl rfl rfl rfl (Free.arg1 (Free.tr 10 hd)) ((Ut.rsmall_any z wq).mono fun e w2 ⟨he, hw⟩ => ⟨_, he, rfl, by rw [← hw]; exact Below.refl _ _⟩)
      · refine Free.og 6 20 false fun vals wq hC hd => ?_; exact Free.d_move rfl (by kernel_rfl) rfl
      · refine Free.og 6 20 false fun vals wq hC hd => ?_; exact Free.d_move rfl (by kernel_rfl) rfl
      · refine Free.og 6 20 false fun vals wq hC hd => ?_; exact Free.d_indexAddr rfl (Free.tr 12 hd) (Free.tr 13 hd) (run_idxK 43 Tryz.underlying43 (by kernel_rfl) b off m cd k _ rfl hlt) rfl
      · refine Free.og 6 20 false fun vals wq hC hd => ?_; exact Free.d_load (cx := .pointer (some ⟨b, off + k * 1, none⟩)) rfl (Free.tr 14 hd) (by have s0 := HX.out wq hC; go_simp) rfl
      · refine Free.og 6 20 false fun vals wq hC hd => ?_; exact Free.d_bin rfl (Free.tr 11 hd) (Free.tr 15 hd) (by go_simp) (by rw [HSZ.out]; first | (go_simp; done) | (go_simp; simp; done) | (simp [go_sem]; done)) rfl
      · exact Free.d_pick rfl (Eq.trans (b := vals 6) (by kernel_rfl) (hd 6 (by kernel_rfl))) (Eq.trans (b := vals 16) (by kernel_rfl) (hd 16 (by kernel_rfl))) rfl
     ·
      intro vals wq hC hd
      refine Free.go hd ?_
      rintro _ rfl _ rfl _ rfl _ rfl _ rfl _ rfl _ rfl _ rfl _ rfl _ rfl _ rfl _ rfl _ rfl _ rfl _ rfl _ rfl _ rfl _ rfl
      simp only [Free.All, Free.fl, Act.put, Free.sa, Free.s0, Free.s1]
      refine wpList_nil ?_
      clear hd
      have HQ := Lib.hid (bt HI.out hC)
      clear hC
      go_wp2
      go_roundw
      case rel => exact ⟨k + 1, by go_num, by omega, HQ, HNX⟩
      case measure => simp [intOf]; omega
    ·
     have HE := Lib.hid (show Tok.right s = false by
      unfold Tok.right
      rw [show (Utf.dec s).all Tok.okC = false from List.all_eq_false.2 ⟨z, List.mem_of_getElem? HZK.out, by unfold Tok.okC; simp [hsz2]⟩]
      rfl)
     have HSZ := Lib.hid hsz2
     clear hI1 x0 hsz2
     go_upto_region 5 with fail
     refine Free.wp_free_l 18 (fun W => Below wr.heap.size wr W) [Free.kc (.slice (some ⟨b, off, none⟩) m cd), Free.kc (.int .i64 (k : Int)), Free.kc (.pointer (some ⟨b, off + k * 1, none⟩)), Free.kc (.int .i64 z), Free.kc (.bool true), Free.kc (.bool false), Free.kc (.bool false), Free.kc (.slice (some ⟨b, off, none⟩) m cd), Free.kc (.int .i64 (k : Int)), Free.kc (.pointer (some ⟨b, off + k * 1, none⟩)), Free.kc (.int .i64 z), Free.kc (.int .i64 (Utf.small z)), Free.kc (.slice (some ⟨b, off, none⟩) m cd), Free.kc (.int .i64 (k : Int)), Free.kc (.pointer (some ⟨b, off + k * 1, none⟩)), Free.kc (.int .i64 z), Free.kc (.bool true), Free.kc (.bool true)] (by kernel_rfl) (by kernel_rfl) (by decide) (bel_drew _ _) (fun W W' h g => bt h g) ?_ ?_
     ·
      iterate 18 refine Free.forall_succ ?_ ?_
      all_goals first | exact Free.forall_zero | (refine Free.op fun vals wq hC hd => ?_) | skip
      · exact Free.dm
      · exact Free.dm
      · exact Free.d_indexAddr rfl (Free.tr 0 hd) (Free.tr 1 hd) (run_idxK 43 Tryz.underlying43 (by kernel_rfl) b off m cd k _ rfl hlt) rfl
      · exact Free.d_load (cx := .pointer (some ⟨b, off + k * 1, none⟩)) rfl (Free.tr 2 hd) (by have s0 := HX.out wq hC; go_simp) rfl
      · exact Free.d_call Tryz.func36 rfl rfl rfl rfl (Free.arg1 (Free.tr 3 hd)) ((rin_any z wq).mono fun e w2 ⟨he, hw⟩ => ⟨_, he, (by rw [HI1.out]; rfl), by rw [← hw]; exact Below.refl _ _⟩)
      · exact Free.d_un rfl (Free.tr 4 hd) (by go_simp) rfl
      · exact Free.d_move rfl (Free.tr 5 hd) rfl
      · refine Free.og 6 20 false fun vals wq hC hd => ?_; exact Free.d_move rfl (by kernel_rfl) rfl
      · refine Free.og 6 20 false fun vals wq hC hd => ?_; exact Free.d_move rfl (by kernel_rfl) rfl
      · refine Free.og 6 20 false fun vals wq hC hd => ?_; exact Free.d_indexAddr rfl (Free.tr 7 hd) (Free.tr 8 hd) (run_idxK 43 Tryz.underlying43 (by kernel_rfl) b off m cd k _ rfl hlt) rfl
      · refine Free.og 6 20 false fun vals wq hC hd => ?_; exact Free.d_load (cx := .pointer (some ⟨b, off + k * 1, none⟩)) rfl (Free.tr 9 hd) (by have s0 := HX.out wq hC; go_simp) rfl
      · refine Free.og 6 20 false fun vals wq hC hd => ?_; exact Free.d_call Tryz.func37 rfl rfl rfl rfl (Free.arg1 (Free.tr 10 hd)) ((Ut.rsmall_any z wq).mono fun e w2 ⟨he, hw⟩ => ⟨_, he, rfl, by rw [← hw]; exact Below.refl _ _⟩)
      · refine Free.og 6 20 false fun vals wq hC hd => ?_; exact Free.d_move rfl (by kernel_rfl) rfl
      · refine Free.og 6 20 false fun vals wq hC hd => ?_; exact Free.d_move rfl (by kernel_rfl) rfl
      · refine Free.og 6 20 false fun vals wq hC hd => ?_; exact Free.d_indexAddr rfl (Free.tr 12 hd) (Free.tr 13 hd) (run_idxK 43 Tryz.underlying43 (by kernel_rfl) b off m cd k _ rfl hlt) rfl
      · refine Free.og 6 20 false fun vals wq hC hd => ?_; exact Free.d_load (cx := .pointer (some ⟨b, off + k * 1, none⟩)) rfl (Free.tr 14 hd) (by have s0 := HX.out wq hC; go_simp) rfl
      · refine Free.og 6 20 false fun vals wq hC hd => ?_; exact Free.d_bin rfl (Free.tr 11 hd) (Free.tr 15 hd) (by go_simp) (by have hs0 : (Utf.small z == z) = false := beq_eq_false_iff_ne.2 HSZ.out; have hs1 := HSZ.out; go_simp) rfl
      · exact Free.d_pick rfl (Eq.trans (b := vals 6) (by kernel_rfl) (hd 6 (by kernel_rfl))) (Eq.trans (b := vals 16) (by kernel_rfl) (hd 16 (by kernel_rfl))) rfl
     ·
      intro vals wq hC hd
      refine Free.go hd ?_
      rintro _ rfl _ rfl _ rfl _ rfl _ rfl _ rfl _ rfl _ rfl _ rfl _ rfl _ rfl _ rfl _ rfl _ rfl _ rfl _ rfl _ rfl _ rfl
      simp only [Free.All, Free.fl, Act.put, Free.sa, Free.s0, Free.s1]
      refine wpList_nil ?_
      clear hd
      have HQ := Lib.hid (bt HI.out hC)
      clear hC
      go_wp2
      go_ret
      exact ⟨by rw [HE.out]; rfl, bt HB2.out HQ.out⟩
  ·
   obtain rfl : k = m := by omega
   have HA := Lib.hid (show (Utf.dec s).all Tok.okC = true by
    rw [List.all_eq_true]
    intro z hz
    obtain ⟨j, hj, rfl⟩ := List.mem_iff_getElem.1 hz
    exact HN.out j _ (by rw [← HM.out]; exact hj) (List.getElem?_eq_getElem hj))
   have HB := Lib.hid (bt HB2.out HI.out)
   by_cases h0 : 0 < k
   ·
    have h0' : (0 : Int) < (k : Int) := by omega
    by_cases h64 : s.length ≤ 64
    ·
     have h64' : (s.length : Int) ≤ 64 := by omega
     have HE := Lib.hid (show Tok.right s = true by unfold Tok.right; rw [HA.out, HM.out, decide_eq_true h0, decide_eq_true h64]; rfl)
     go_wp2
     go_ret
     exact ⟨by rw [HE.out]; first | rfl | simp [h64'], HB.out⟩
    ·
     have h64' : ¬ (s.length : Int) ≤ 64 := by omega
     have HE := Lib.hid (show Tok.right s = false by unfold Tok.right; rw [HA.out, HM.out, decide_eq_true h0, decide_eq_false h64]; rfl)
     go_wp2
     go_ret
     exact ⟨by rw [HE.out]; first | rfl | simp [h64'], HB.out⟩
   ·
    have h0' : ¬ (0 : Int) < (k : Int) := by omega
    have HE := Lib.hid (show Tok.right s = false by unfold Tok.right; rw [HM.out, decide_eq_false h0, Bool.false_and, Bool.and_false])
    go_wp2
    go_ret
    exact ⟨by rw [HE.out]; first | rfl | simp [h0'], HB.out⟩
end Go.Proofs.YteoledjllpgcbaaGreatDoor
