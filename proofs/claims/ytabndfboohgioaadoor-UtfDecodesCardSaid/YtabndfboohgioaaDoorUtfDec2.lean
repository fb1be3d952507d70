/- The walk of utf.Decode. -/
import Derived.Test.YtabndfboohgioaaDoorUtfDec
namespace Go.Proofs.YtabndfboohgioaaDoor
set_option linter.unusedVariables false
open Go.RowKit

def lenV : Value → Nat | .slice _ n _ => n | _ => 0
def DecPost (l : List UInt8) (w : World) (e : Ending) (w' : World) : Prop :=
  ∃ v, e = .returned v ∧ w'.ownsRow w.heap.size 3 1 v (Utf.dec l).length ((Utf.dec l).map iv) ∧ Below w.heap.size w w'
/-- The state of the rounds. -/
structure DecRel (l : List UInt8) (w : World) (A : Option Addr) (n c : Nat) (rest : List UInt8) (v : Value) (done : List Int) (wr : World) : Prop where
  rd : Rd wr w.heap.size A (rest.map bv)
  len : rest.length = n
  cap : n ≤ c
  max : c ≤ maxLen
  own : wr.ownsRow w.heap.size 3 1 v done.length (done.map iv)
  val : Utf.dec l = done ++ Utf.dec rest
  size : done.length + rest.length ≤ l.length
  bel : Below w.heap.size w wr
theorem dec_round {l : List UInt8} {w : World} {A A' : Option Addr} {n c : Nat} {rest : List UInt8} {v v' : Value} {done : List Int} {wr w' : World} {x : Int} {s : Nat} (h : DecRel l w A n c rest v done wr) (hp : rest ≠ [])
    (hf : Utf.first rest = (x, s)) (hr : Rd w' w.heap.size A' ((rest.map bv).drop s)) (ho : w'.ownsRow w.heap.size 3 1 v' (done.length + 1) (done.map iv ++ [iv x])) (hb : Below w.heap.size wr w') :
    DecRel l w A' (n - s) (c - s) (rest.drop s) v' (done ++ [x]) w' := by
  have h0 := Utf.first_pos rest
  have h1 := Utf.first_le rest hp
  rw [hf] at h0 h1
  have hn := h.len
  have hc := h.cap
  have hm := h.max
  refine ⟨by rw [List.map_drop]; exact hr, by rw [List.length_drop]; omega, by omega, by omega, by simpa using ho, ?_, ?_, h.bel.trans hb⟩
  · rw [h.val, Utf.dec_step rest hp, hf]; simp
  · have := h.size
    simp only [List.length_append, List.length_cons, List.length_nil, List.length_drop]
    simp only at h0 h1
    omega
set_option maxRecDepth 100000 in
set_option maxHeartbeats 4000000 in
theorem decode_any (A : Option Addr) (n c : Nat) (l : List UInt8) (w : World) (hr : Rd w w.heap.size A (l.map bv)) (hn : l.length = n) (hc : n ≤ c) (hm : c ≤ maxLen) (hsz : l.length ≤ 1099511627776) :
    Calls Tryd.prog 11 #[.slice A n c] w (DecPost l w) := by
  have h0 : DecRel l w A n c l (.slice none 0 0) [] w := ⟨hr, hn, hc, hm, World.ownsRow_nil _ _ _ _, rfl, by simp, Below.refl _ _⟩
  clear hr hn hc hm
  go_enter Tryd.func11, Tryd.ntmps11
  go_wp2
  go_loopw [0, 3] (fun b v wr => ∃ (A : Option Addr) (n c : Nat) (rest : List UInt8) (done : List Int), b = .slice A n c ∧ DecRel l w A n c rest v done wr) (fun b _ _ => lenV b)
  case atStart => exact ⟨_, _, _, _, _, rfl, h0⟩
  case round =>
    clear h0
    obtain ⟨A, n, c, rest, done, rfl, h⟩ := hrel
    by_cases hp : rest = []
    · subst hp
      have hn0 : n = 0 := by have := h.len; simpa using this.symm
      subst hn0
      have hval : Utf.dec l = done := by have := h.val; rw [Utf.dec_nil, List.append_nil] at this; exact this
      have HD := Lib.hid hval
      clear hval
      go_wp2
      go_ret
      exact ⟨_, rfl, by rw [HD.out]; exact h.own, h.bel⟩
    · obtain ⟨x, s, hfx⟩ : ∃ x s, Utf.first rest = (x, s) := ⟨_, _, rfl⟩
      have hpos := Utf.first_pos rest
      have hle := Utf.first_le rest hp
      rw [hfx] at hpos hle
      simp only at hpos hle
      have hln := h.len
      have hn1 : (0:Int) < (n : Int) := by have := List.length_pos_iff.2 hp; omega
      have hs0 : 0 < s := hpos
      have hs1 : s ≤ n := by omega
      have hcap := h.cap
      have hmax := h.max
      have hsize := h.size
      have hB : w.heap.size ≤ wr.heap.size := h.bel.size
      have hrd : Rd wr wr.heap.size A (rest.map bv) := h.rd.more hB
      have HFX := Lib.hid hfx
      have HLN := Lib.hid hln
      have HP := Lib.hid hp
      have HH := Lib.hid h
      rw [maxLen_eq] at hmax
      clear hfx hln hp h hpos hle
      go_wp2_with (first
        | (go_at_call 22; refine (first_any A n c rest _ hrd HLN.out hcap (by rw [maxLen_eq]; exact hmax) HP.out).mono ?_; rintro e w' ⟨rfl, rfl⟩; rw [HFX.out])
        | (at_builtin; refine wl_app rfl (.tmp 14) (.tmp 16) 24 rfl w.heap.size 3 1 8 intsT _ done.length (done.map iv) rfl (HH.out.own.alloc _) (wr.heap.size + 1) (some ⟨wr.heap.size, 0, none⟩) 1 1 [iv x] rfl (rd_new wr [iv x] 3 (0, 0)) rfl (by simp [iv, Value.oneCell']) (by rw [maxLen_eq]; omega) (by omega) (by simp; omega) ?_; intro A1 c1 w1 hown1 hg1 hat1 hb1 hc1 hc2; have hb2 : Below w.heap.size wr w1 := ((Below.refl _ _).alloc hB _).trans hb1; have hrd2 : Rd w1 w.heap.size A (rest.map bv) := HH.out.rd.below hb2; clear hg1 hat1 hb1 hc1 hc2)
        | (refine wl_cut_lo rfl 22 (.tmp 18) (.tmp 19) rfl 5 Tryd.underlying22 size_u8 A n c rfl .i64 (s : Int) rfl (by omega) (by omega) hcap w.heap.size _ hrd2 (by simpa using HLN.out) ?_; intro A' hr'))
      go_roundw
      case rel => exact ⟨_, _, _, _, _, rfl, dec_round HH.out HP.out HFX.out hr' hown1 hb2⟩
      case measure => simp [lenV]; omega
end Go.Proofs.YtabndfboohgioaaDoor
