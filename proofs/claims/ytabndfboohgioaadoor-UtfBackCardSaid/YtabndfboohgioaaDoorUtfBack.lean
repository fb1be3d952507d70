/- The walk of the law UtfBack. -/
import Derived.Test.YtabndfboohgioaaDoorUtfOnly
namespace Go.Proofs.YtabndfboohgioaaDoor
set_option linter.unusedVariables false
open Go.RowKit

/-- The rounds' state: what is kept of the first k numbers, and its bytes. -/
structure BackRel (l : List Int) (w : World) (v vk : Value) (k : Nat) (wr : World) : Prop where
  le : k ≤ l.length
  own : wr.ownsRow w.heap.size 5 1 v (((l.take k).filter Utf.right).flatMap Utf.enc).length ((((l.take k).filter Utf.right).flatMap Utf.enc).map bv)
  kept : wr.ownsRow w.heap.size 3 1 vk ((l.take k).filter Utf.right).length (((l.take k).filter Utf.right).map iv)
  bel : Below w.heap.size w wr
theorem back_yes {l : List Int} {k : Nat} (hk : k < l.length) (h : Utf.right l[k] = true) : (l.take (k + 1)).filter Utf.right = (l.take k).filter Utf.right ++ [l[k]] := by
  rw [List.take_succ_eq_append_getElem hk, List.filter_append]
  simp [h]
theorem back_no {l : List Int} {k : Nat} (hk : k < l.length) (h : Utf.right l[k] = false) : (l.take (k + 1)).filter Utf.right = (l.take k).filter Utf.right := by
  rw [List.take_succ_eq_append_getElem hk, List.filter_append]
  simp [h]
theorem kept_le (l : List Int) (k : Nat) : ((l.take k).filter Utf.right).length ≤ l.length := by
  refine Nat.le_trans (List.length_filter_le _ _) ?_
  rw [List.length_take]; omega

set_option maxRecDepth 100000 in
set_option maxHeartbeats 4000000 in
theorem back_any (A : Option Addr) (n c : Nat) (l : List Int) (w : World) (hr : Rd w w.heap.size A (l.map iv)) (hn : l.length = n) (hc : n ≤ c) (hm : c ≤ maxLen) (hwf : ∀ z ∈ l, (Lit.int .i64 z).wf = true) (ht : Tabs w) :
    Calls Tryd.prog 8 #[.slice A n c] w (Yes w) := by
  clear hwf
  by_cases hbig : 200 < n
  · clear hr hn hc hm
    go_enter Tryd.func8, Tryd.ntmps8
    go_wp2_with (go_at_call 10; refine (knows_any w ht).mono ?_; rintro e w1 ⟨rfl, hb⟩)
    go_ret
    exact ⟨rfl, hb⟩
  · have hbig' : n ≤ 200 := by omega
    have HN := Lib.hid hn
    have HR := Lib.hid hr
    have HT := Lib.hid ht
    clear hr hn ht hbig hm
    go_enter Tryd.func8, Tryd.ntmps8
    go_wp2_with fail
    go_loopw [3, 4, 5] (fun v vk i wr => ∃ k : Nat, i = .int .i64 k ∧ BackRel l w v vk k wr) (fun _ _ i _ => n - (intOf i).toNat)
    case atStart => exact ⟨0, rfl, Nat.zero_le _, World.ownsRow_nil _ _ _ _, World.ownsRow_nil _ _ _ _, Below.refl _ _⟩
    case round =>
      obtain ⟨k, rfl, h⟩ := hrel
      have hk := h.le
      have HH := Lib.hid h
      have HB := Lib.hid h.bel
      have hB : w.heap.size ≤ wr.heap.size := h.bel.size
      have hK := kept_le l k
      have hF := flat_le ((l.take k).filter Utf.right)
      have hO := h.own
      have hKe := h.kept
      have hnn := HN.out
      obtain ⟨K, hKK⟩ : ∃ K, (l.take k).filter Utf.right = K := ⟨_, rfl⟩
      rw [hKK] at hK hF hO hKe
      obtain ⟨G, hG⟩ : ∃ G, K.flatMap Utf.enc = G := ⟨_, rfl⟩
      rw [hG] at hF hO
      have HKK := Lib.hid hKK; have HG := Lib.hid hG; have HO := Lib.hid hO; have HKe := Lib.hid hKe
      have hK2 : K.length ≤ 200 := by omega
      have hG2 : G.length ≤ 800 := by omega
      clear h hKK hG hO hKe hK hF
      by_cases hkL : k < n
      · have hkl : k < l.length := by omega
        obtain ⟨b, off, rfl, hlt, hcell⟩ := HR.out (by intro e; simp at e; subst e; simp at hkl)
        have hx0 : w.cell? ⟨b, off + k, none⟩ = some (.int .i64 l[k]) := hcell k (iv l[k]) (by simp [hkl])
        have hyes := back_yes hkl
        have hno := back_no hkl
        have HX0 := Lib.hid hx0
        obtain ⟨x, hxx⟩ : ∃ x, l[k] = x := ⟨_, rfl⟩
        rw [hxx] at hx0 hyes hno
        have HX := Lib.hid hx0
        have hx : wr.cell? ⟨b, off + k, none⟩ = some (.int .i64 x) := (HB.out.cell hlt).trans hx0
        clear hcell hxx hx0 HX0 hnn
        by_cases hrx : Utf.right x = true
        · have HY := Lib.hid (hyes hrx)
          have HRX := Lib.hid hrx
          have hel := Utf.enc_length x
          have hes := Utf.size_range x
          have hel2 : (Utf.enc x).length ≤ 4 := by omega
          clear hyes hno hrx hel hes
          go_wp2_with (first
            | (go_at_call 19; refine (encode_any x wr).mono ?_; rintro e w2 ⟨hb2, he⟩; rw [if_pos HRX.out] at he; obtain ⟨AE, kE, rfl, hrE, hkE, _⟩ := he; have HBE := Lib.hid (HB.out.trans (hb2.mono hB)); have HOE := Lib.hid (own_keep HO.out hb2 (Nat.le_refl _)); have HKE := Lib.hid (own_keep HKe.out hb2 (Nat.le_refl _)); have HRE := Lib.hid hrE; have hB4 := HBE.out.size; clear hb2 hrE hkE)
            | (at_builtin; refine wl_app rfl (.tmp 30) (.tmp 31) 22 rfl w.heap.size 5 1 1 bytesT _ _ _ rfl HOE.out w2.heap.size AE (Utf.enc x).length kE ((Utf.enc x).map bv) rfl HRE.out (by simp) (by simp [bv, Value.oneCell']) (by rw [maxLen_eq]; omega) (by omega) hB4 ?_; intro A5 c5 w5 hown5 hg5 hat5 hb5 hc5 hc6; have HO5 := Lib.hid hown5; have HB5 := Lib.hid (HBE.out.trans hb5); have HK5 := Lib.hid (own_other HOE.out HKE.out (by decide) hg5); have hB5 := HB5.out.size; have hx5 : w5.cell? ⟨b, off + k, none⟩ = some (.int .i64 x) := (HB5.out.cell hlt).trans HX.out; clear hown5 hg5 hat5 hb5 hc5 hc6)
            | (at_builtin; refine wl_app rfl (.tmp 33) (.tmp 38) 24 rfl w.heap.size 3 1 8 intsT _ _ _ rfl (HK5.out.alloc _) (w5.heap.size + 1) (some ⟨w5.heap.size, 0, none⟩) 1 1 [iv x] rfl (rd_new w5 [iv x] 3 (0, 0)) rfl (by simp [iv, Value.oneCell']) (by rw [maxLen_eq]; omega) (by omega) (by simp; omega) ?_; intro A6 c6 w6 hown6 hg6 hat6 hb6 hc7 hc8; have HK6 := Lib.hid hown6; have HB6 := Lib.hid ((HB5.out.alloc hB5 _).trans hb6); have HO6 := Lib.hid (own_other (HK5.out.alloc _) (HO5.out.alloc _) (by decide) hg6); clear hown6 hg6 hat6 hb6 hc7 hc8))
          go_roundw
          case rel => exact ⟨k + 1, by go_num, hkl, by rw [HY.out, HKK.out, List.flatMap_append, HG.out]; simpa using HO6.out, by rw [HY.out, HKK.out]; simpa using HK6.out, HB6.out⟩
          case measure => simp [intOf]; omega
        · have hrf : Utf.right x = false := by simpa using hrx
          have HY := Lib.hid (hno hrf)
          have HRF := Lib.hid hrf
          have HRN := Lib.hid hrx
          clear hyes hno hrf hrx
          go_wp2_with (first
            | (go_at_call 19; refine (encode_any x wr).mono ?_; rintro e w2 ⟨hb2, he⟩; rw [if_neg HRN.out] at he; subst he; have HBE := Lib.hid (HB.out.trans (hb2.mono hB)); have HOE := Lib.hid (own_keep HO.out hb2 (Nat.le_refl _)); have HKE := Lib.hid (own_keep HKe.out hb2 (Nat.le_refl _)); have hx5 : w2.cell? ⟨b, off + k, none⟩ = some (.int .i64 x) := (HBE.out.cell hlt).trans HX.out; clear hb2)
            | (go_at_call 20; refine (rright_any x w2).mono ?_; rintro e w3 ⟨rfl, rfl⟩; rw [HRF.out]))
          go_roundw
          case rel => exact ⟨k + 1, by go_num, hkl, by rw [HY.out, HKK.out, HG.out]; exact HOE.out, by rw [HY.out, HKK.out]; exact HKE.out, HBE.out⟩
          case measure => simp [intOf]; omega
      · obtain rfl : k = n := by omega
        have hKr : ∀ z ∈ K, Utf.right z = true := by
          intro z hz
          have := HKK.out
          rw [← this] at hz
          exact (List.mem_filter.1 hz).2
        have hdec := Utf.dec_enc K hKr
        rw [HG.out] at hdec
        obtain ⟨Ab, cb, rfl, hb1, hb2⟩ := own_form HO.out
        obtain ⟨Ak, ck, rfl, _, _⟩ := own_form HKe.out
        have HTR := Lib.hid (HT.out.below HB.out)
        have HD := Lib.hid hdec
        obtain ⟨g, hg⟩ : ∃ g, G.length = g := ⟨_, rfl⟩
        obtain ⟨q, hq⟩ : ∃ q, K.length = q := ⟨_, rfl⟩
        have HRG := Lib.hid (Rd.of_own HO.out)
        have HRK := Lib.hid (Rd.of_own HKe.out)
        rw [hg] at hb1 hG2
        rw [hq] at hK2
        have HGl := Lib.hid hg; have HQ := Lib.hid hq
        have HC := Lib.hid hb2
        rw [hg, hq]
        clear hKr hdec hg hq hnn hb2 HH
        go_wp2_with fail
        with_reducible refine (decode_any Ab g cb G wr HRG.out HGl.out hb1 HC.out (by have := HGl.out; omega)).mono ?_
        rintro e wd ⟨v, rfl, hownd, hbd⟩
        rw [HD.out, HQ.out] at hownd
        obtain ⟨Ad, cd, rfl, _, _⟩ := own_form hownd
        have HRD := Lib.hid (Rd.of_own hownd)
        have HBD := Lib.hid hbd
        have HRK2 := Lib.hid ((HRK.out.below hbd).more hbd.size)
        have HTD := Lib.hid (HTR.out.below hbd)
        clear hownd hbd
        go_wp2_with fail
        clear hB hb1 hG2
        obtain ⟨wo, hwo⟩ : ∃ wo, wr = wo := ⟨_, rfl⟩
        rw [hwo] at HB HBD
        clear HTR HRG HRK HO HKe hwo
        go_loopw [9] (fun i wr => ∃ k : Nat, i = .int .i64 k ∧ k ≤ q ∧ Below wd.heap.size wd wr) (fun i _ => q - (intOf i).toNat)
        case atStart => exact ⟨0, rfl, Nat.zero_le _, Below.refl _ _⟩
        case round =>
          obtain ⟨j, rfl, hj, hb⟩ := hrel
          have HBJ := Lib.hid hb
          have HTJ := Lib.hid (HTD.out.below hb)
          have hra := HRD.out.below hb
          have hrb := HRK2.out.below hb
          clear hb
          by_cases hjL : j < q
          · have hjD : j < K.length := by rw [HQ.out]; exact hjL
            have hne : K.map iv ≠ [] := by intro e; simp at e; subst e; simp at hjD
            obtain ⟨ba, oa, rfl, _, hca⟩ := hra hne
            obtain ⟨bb, ob, rfl, _, hcb⟩ := hrb hne
            have ca : wr.cell? ⟨ba, oa + j, none⟩ = some (.int .i64 K[j]) := hca j (iv K[j]) (by simp [hjD])
            have cb' : wr.cell? ⟨bb, ob + j, none⟩ = some (.int .i64 K[j]) := hcb j (iv K[j]) (by simp [hjD])
            obtain ⟨x, hx⟩ : ∃ x, K[j] = x := ⟨_, rfl⟩
            rw [hx] at ca cb'
            clear hca hcb hx hne
            go_wp2_with fail
            go_region
            go_wp2
            go_roundw
            case rel => exact ⟨j + 1, by go_num, by omega, HBJ.out.drew⟩
            case measure => simp [intOf]; omega
          · obtain rfl : j = q := by omega
            clear hra hrb
            go_wp2_with (go_at_call 10; refine (knows_any wr HTJ.out).mono ?_; rintro e w12 ⟨rfl, hb12⟩)
            go_ret
            exact ⟨rfl, bt (bt (bt HB.out HBD.out) HBJ.out) hb12⟩
end Go.Proofs.YtabndfboohgioaaDoor
