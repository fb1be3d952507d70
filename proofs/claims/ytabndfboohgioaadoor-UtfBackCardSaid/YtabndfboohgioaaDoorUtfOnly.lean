/- The walk of the law UtfOnly. -/
import Derived.Test.YtabndfboohgioaaDoorUtfLaw
import Derived.Test.YtabndfboohgioaaDoorUtfPlain2
namespace Go.Proofs.YtabndfboohgioaaDoor
set_option linter.unusedVariables false
open Go.RowKit

theorem flat_le (cs : List Int) : (cs.flatMap Utf.enc).length ≤ 4 * cs.length := by
  induction cs with
  | nil => simp
  | cons c cs ih =>
    have h1 := Utf.enc_length c
    have h2 := Utf.size_range c
    simp only [List.flatMap_cons, List.length_append, List.length_cons]
    omega
theorem take_flat (D : List Int) (k : Nat) (hk : k < D.length) : (D.take (k + 1)).flatMap Utf.enc = (D.take k).flatMap Utf.enc ++ Utf.enc D[k] := by
  rw [List.take_succ_eq_append_getElem hk, List.flatMap_append]
  simp
/-- The rounds' state: wd is the world behind Decode, D what it told. -/
structure OnlyRel (D : List Int) (wd : World) (v : Value) (k : Nat) (wr : World) : Prop where
  le : k ≤ D.length
  own : wr.ownsRow wd.heap.size 5 1 v ((D.take k).flatMap Utf.enc).length (((D.take k).flatMap Utf.enc).map bv)
  bel : Below wd.heap.size wd wr
  good : Utf.bad ∉ D.take k
theorem only_step {D : List Int} {wd : World} {v v' : Value} {k : Nat} {wr w2 w3 : World} (h : OnlyRel D wd v k wr) (hk : k < D.length) (hb : Below wr.heap.size wr w2)
    (ho : w3.ownsRow wd.heap.size 5 1 v' (((D.take k).flatMap Utf.enc).length + (Utf.enc D[k]).length) (((D.take k).flatMap Utf.enc).map bv ++ (Utf.enc D[k]).map bv)) (hb3 : Below wd.heap.size w2 w3) (hn : D[k] ≠ Utf.bad) : OnlyRel D wd v' (k + 1) w3 := by
  refine ⟨hk, ?_, ?_, ?_⟩
  · rw [take_flat D k hk, List.length_append, List.map_append]; exact ho
  · exact (h.bel.trans (hb.mono h.bel.size)).trans hb3
  · rw [List.take_succ_eq_append_getElem hk]
    simp only [List.mem_append, List.mem_singleton, not_or]
    exact ⟨h.good, fun e => hn e.symm⟩

set_option maxRecDepth 100000 in
set_option maxHeartbeats 2000000 in
theorem only_any (A : Option Addr) (n c : Nat) (l : List UInt8) (w : World) (hr : Rd w w.heap.size A (l.map bv)) (hn : l.length = n) (hc : n ≤ c) (hm : c ≤ maxLen) (ht : Tabs w) :
    Calls Tryd.prog 9 #[.slice A n c] w (Yes w) := by
  by_cases hbig : 2000 < n
  · clear hr hn hc hm
    go_enter Tryd.func9, Tryd.ntmps9
    go_wp2_with (go_at_call 10; refine (knows_any w ht).mono ?_; rintro e w1 ⟨rfl, hb⟩)
    go_ret
    exact ⟨rfl, hb⟩
  · have hbig' : n ≤ 2000 := by omega
    have hlen := Utf.dec_length l
    have hright := Utf.dec_right l
    have honly := Utf.dec_only l
    have HN := Lib.hid hn
    have HR := Lib.hid hr
    have HT := Lib.hid ht
    have HLN := Lib.hid hlen; have HRT := Lib.hid hright; have HOY := Lib.hid honly
    clear hlen hright honly
    have hm' := hm
    rw [maxLen_eq] at hm'
    clear hr hn ht hbig
    go_enter Tryd.func9, Tryd.ntmps9
    go_wp2_with (first
      | (at_builtin; refine wl_app rfl (.tmp 12) (.tmp 13) 22 rfl w.heap.size 5 1 1 bytesT _ 0 [] rfl (own_empty w 5 1 (Nat.le_refl _)) w.heap.size A n c (l.map bv) rfl (HR.out.alloc (Nat.le_refl _) _) (by simpa using HN.out) (by simp [bv, Value.oneCell']) (by rw [maxLen_eq]; omega) (by omega) (by simp) ?_; intro A1 c1 w1 hown1 hg1 hat1 hb1 hc1 hc2; have HOWN := Lib.hid hown1; have HB1 := Lib.hid (((Below.refl w.heap.size w).alloc (Nat.le_refl _) _).trans hb1); clear hg1 hat1 hb1 hown1)
      | fail)
    simp only [Nat.zero_add, List.nil_append] at HOWN hc1
    with_reducible refine (decode_any A1 n c1 l w1 (by simpa using (Rd.of_own HOWN.out)) (by simpa using HN.out) (by omega) hc2 (by have := HN.out; omega)).mono ?_
    rintro e wd ⟨v, rfl, hownd, hbd⟩
    obtain ⟨hlen, hright, honly⟩ := And.intro HLN.out (And.intro HRT.out HOY.out)
    clear HLN HRT HOY
    obtain ⟨D, hD⟩ : ∃ D, Utf.dec l = D := ⟨_, rfl⟩
    rw [hD] at hownd hlen hright honly
    obtain ⟨AD, cD, rfl, hcD, _⟩ := own_form hownd
    have HRD := Lib.hid (Rd.of_own hownd)
    have HB2 := Lib.hid (bt HB1.out hbd)
    have HTD := Lib.hid ((HT.out.below HB1.out).below hbd)
    have HRI := Lib.hid hright
    have HON := Lib.hid honly
    have hL : D.length ≤ 2000 := by have := HN.out; omega
    have hLn : D.length ≤ n := by have := HN.out; omega
    clear hownd hbd hD hright honly hlen hc1 hc2
    go_wp2_with fail
    go_loopw [4, 5] (fun v i wr => ∃ k : Nat, i = .int .i64 k ∧ OnlyRel D wd v k wr) (fun _ i _ => D.length - (intOf i).toNat)
    case atStart => exact ⟨0, rfl, Nat.zero_le _, World.ownsRow_nil _ _ _ _, Below.refl _ _, by simp⟩
    case round =>
      obtain ⟨k, rfl, h⟩ := hrel
      have hk := h.le
      have HH := Lib.hid h
      have HTR := Lib.hid (HTD.out.below h.bel)
      have HRR := Lib.hid (HRD.out.below h.bel)
      clear h
      by_cases hkL : k < D.length
      · obtain ⟨b, off, rfl, hlt, hcell⟩ := HRR.out (by intro e; simp at e; subst e; simp at hkL)
        have hx : wr.cell? ⟨b, off + k, none⟩ = some (.int .i64 D[k]) := hcell k (iv D[k]) (by simp [hkL])
        have hstep := @only_step D wd
        have hrx := HRI.out D[k] (List.getElem_mem hkL)
        have HST := Lib.hid fun (v v' : Value) (w2 w3 : World) => hstep (v := v) (v' := v') (w2 := w2) (w3 := w3) (k := k) (wr := wr) (hk := hkL)
        obtain ⟨x, hxx⟩ : ∃ x, D[k] = x := ⟨_, rfl⟩
        rw [hxx] at hx hrx HST
        clear hcell hstep hxx
        by_cases hbad : x = 65533
        · subst hbad
          have hLn' : (D.length : Int) ≤ (n : Int) := by omega
          go_wp2_with (go_at_call 10; refine (knows_any wr HTR.out).mono ?_; rintro e w3 ⟨rfl, hb3⟩)
          go_ret
          exact ⟨rfl, (HB2.out.trans (HH.out.bel.mono HB2.out.size)).trans (hb3.mono (Nat.le_trans HB2.out.size HH.out.bel.size))⟩
        · have hbf : (x == 65533) = false := by simpa using hbad
          have HNB := Lib.hid hbad
          have HRX := Lib.hid hrx
          have hfl := flat_le (D.take k)
          have hfl2 : (D.take k).length ≤ 2000 := by rw [List.length_take]; omega
          have hO := HH.out.own
          obtain ⟨G, hG⟩ : ∃ G, (D.take k).flatMap Utf.enc = G := ⟨_, rfl⟩
          rw [hG] at hfl hO
          have HG := Lib.hid hG; have HOw := Lib.hid hO
          have hG2 : G.length ≤ 8000 := by omega
          clear hG hO hfl hfl2
          have hel := Utf.enc_length x
          have hes := Utf.size_range x
          have hB3 : wd.heap.size ≤ wr.heap.size := HH.out.bel.size
          have hel2 : (Utf.enc x).length ≤ 4 := by omega
          clear hel hes hbad hrx
          go_wp2_with (first
            | (go_at_call 19; refine (encode_any x wr).mono ?_; rintro e w2 ⟨hb2, he⟩; rw [if_pos HRX.out] at he; obtain ⟨AE, kE, rfl, hrE, hkE, _⟩ := he; have HBE := Lib.hid hb2; have HRE := Lib.hid hrE; have hB4 : wd.heap.size ≤ w2.heap.size := Nat.le_trans hB3 hb2.size; clear hb2 hrE)
            | (at_builtin; refine wl_app rfl (.tmp 45) (.tmp 46) 22 rfl wd.heap.size 5 1 1 bytesT _ _ _ rfl (own_keep HOw.out HBE.out (Nat.le_refl _)) w2.heap.size AE (Utf.enc x).length kE ((Utf.enc x).map bv) rfl HRE.out (by simp) (by simp [bv, Value.oneCell']) (by rw [maxLen_eq]; omega) (by omega) hB4 ?_; intro A5 c5 w5 hown5 hg5 hat5 hb5 hc5 hc6; have HO5 := Lib.hid hown5; have HB5 := Lib.hid hb5; clear hown5 hg5 hat5 hb5))
          go_roundw
          case rel => exact ⟨k + 1, by go_num, HST.out _ _ _ _ HH.out HBE.out (by rw [HG.out]; exact HO5.out) HB5.out HNB.out⟩
          case measure => simp [intOf]; omega
      · obtain rfl : k = D.length := by omega
        have hbn : Utf.bad ∉ D := by have := HH.out.good; rwa [List.take_length] at this
        have hfl := HON.out hbn
        have hown := HH.out.own
        rw [List.take_length, hfl] at hown
        obtain ⟨A6, c6, rfl, _, _⟩ := own_form hown
        have hrl : Rd wr w.heap.size A (l.map bv) := (HR.out.below HB2.out).below' HH.out.bel HB2.out.size
        have q1 := run_str (P := Tryd.prog) (w := wr) 22 9 5 Tryd.underlying22 Tryd.underlying5 Tryd.underlying9 A6 l.length c6 wr.heap.size l (Rd.of_own hown) rfl
        have q2 := run_str (P := Tryd.prog) (w := wr) 22 9 5 Tryd.underlying22 Tryd.underlying5 Tryd.underlying9 A n c w.heap.size l hrl HN.out
        have hLn' : (D.length : Int) ≤ (n : Int) := by omega
        clear hown hfl hbn hrl
        go_wp2_with (go_at_call 10; refine (knows_any wr HTR.out).mono ?_; rintro e w3 ⟨rfl, hb3⟩)
        go_ret
        exact ⟨rfl, (HB2.out.trans (HH.out.bel.mono HB2.out.size)).trans (hb3.mono (Nat.le_trans HB2.out.size HH.out.bel.size))⟩
end Go.Proofs.YtabndfboohgioaaDoor
