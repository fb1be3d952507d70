/- ClashLeaf: the walk of the law. -/
import Derived.Test.YteoledjllpgcbaaGreatDoorMClashC
namespace Go.Proofs.YteoledjllpgcbaaGreatDoor
set_option maxRecDepth 100000
set_option maxHeartbeats 64000000
set_option linter.unusedVariables false
open Go.RowKit
def lfB (f : Nat → Piece) (n : Nat) (i : Int) (leaf : List UInt8) (p : List (List UInt8)) : Option (List UInt8 × List UInt8) := if fairB i n p = true then Cl.lf leaf (Tree.sides i.toNat n) (raws f n) p else none
theorem all32_of {p : List (List UInt8)} (h : Tree.all32 p = true) : ∀ s ∈ p, s.length = 32 := by
 intro s hs
 unfold Tree.all32 at h
 have := List.all_eq_true.1 h s hs
 simpa using this
theorem cleaf_any (Al : Option Addr) (nl cl : Nat) (f : Nat → Piece) (i : Int) (Ax : Option Addr) (nx cx : Nat) (leaf : List UInt8) (Ap : Option Addr) (np cp : Nat) (p : List (List UInt8)) (w : World) (hrows : RowsAt w Al nl f) (hc : nl ≤ cl) (hm : cl ≤ maxLen) (hn : nl ≤ 300) (hsm : ∀ i, i < nl → (f i).n ≤ 1000)
  (hx : Bs w Ax nx cx leaf) (hx2 : nx ≤ 1000) (hp : Ss w Ap np cp p) (hwf : ∀ s ∈ p, s.length ≤ maxLen) (ht : Tabs w) :
  Calls Tryz.prog 57 #[.slice Al nl cl, .int .i64 i, .slice Ax nx cx, .slice Ap np cp] w (ResPost w.heap.size (lfB f nl i leaf p) w) := by
 unfold lfB fairB
 by_cases h0 : 0 ≤ i
 ·
  by_cases h1 : i < (nl : Int)
  ·
   obtain ⟨j, rfl⟩ : ∃ j : Nat, i = (j : Int) := ⟨i.toNat, by omega⟩
   rw [decide_eq_true h0, decide_eq_true h1, Bool.true_and, Bool.true_and, Int.toNat_natCast]
   by_cases h2 : (Tree.all32 p && decide (p.length = (Tree.sides j nl).length)) = true
   ·
    rw [if_pos h2]
    rw [Bool.and_eq_true, decide_eq_true_eq] at h2
    exact cleaf_yes Al nl cl f j Ax nx cx leaf Ap np cp p w hrows hc hm hn hsm (by omega) hx hx2 hp (all32_of h2.1) (by rw [← hp.len]; exact h2.2) ht
   ·
    rw [if_neg h2]
    refine cleaf_proof Al nl cl j Ax nx cx leaf Ap np cp p w hc hm hn (by omega) hx hx2 hp hwf ?_ ht
    rw [Bool.and_eq_true, decide_eq_true_eq] at h2
    by_cases h3 : Tree.all32 p = true
    · exact .inl fun e => h2 ⟨h3, by rw [hp.len]; exact e⟩
    · exact .inr (by simpa using h3)
  ·
   rw [decide_eq_false h1, Bool.false_and, Bool.and_false, if_neg (by decide)]
   exact cleaf_range Al nl cl i _ _ w hc hm (.inr (by omega))
 ·
  rw [decide_eq_false h0, Bool.false_and, if_neg (by decide)]
  exact cleaf_range Al nl cl i _ _ w hc hm (.inl (by omega))
theorem lf_len (leaf : List UInt8) (hl : leaf.length ≤ 1000) : ∀ (S : List Bool) (l p : List (List UInt8)) (r : List UInt8 × List UInt8), (∀ x ∈ l, x.length ≤ 1000) → (∀ s ∈ p, s.length = 32) → Cl.lf leaf S l p = some r → r.1.length ≤ 1000000 ∧ r.2.length ≤ 1000000
 | [], l, p, r, hx, hp, h => by
  rw [Cl.lf] at h
  unfold Cl.btw at h
  split at h
  ·
   injection h with h
   rw [← h]
   refine ⟨by show (0 :: leaf).length ≤ _; rw [List.length_cons]; omega, ?_⟩
   cases l with
   | nil => show 1 ≤ 1000000; omega
   | cons x l => show (0 :: x).length ≤ _; rw [List.length_cons]; have := hx x (by simp); omega
  · cases h
 | s :: S, l, p, r, hx, hp, h => by
  rw [Cl.lf] at h
  rcases Cl.or_some h with h | ⟨_, h⟩
  ·
   unfold Cl.btw at h
   split at h
   ·
    injection h with h
    rw [← h]
    have hg : (p.getLastD tnil).length ≤ 100 := by
     cases hq : p.getLast? with
     | none => rw [List.getLastD_eq_getLast?, hq]; show tnil.length ≤ _; rw [show tnil.length = 32 from Sha.sum_length _]; omega
     | some x => rw [List.getLastD_eq_getLast?, hq]; show x.length ≤ _; rw [hp x (List.mem_of_getLast? hq)]; omega
    have hc : (Tree.clb tnd tnil (seal_ 0 leaf) S p.dropLast).length ≤ 100000 := clb_len (by rw [seal_len]; omega) _ _
    refine ⟨?_, by have := topB_le (l := Cl.lv l) (Cl.lv_all _); show (Cl.topB (Cl.lv l)).length ≤ _; omega⟩
    show (Cl.nb s _ _).length ≤ _
    unfold Cl.nb
    cases s <;> (simp only [Bool.false_eq_true, if_false, if_true, List.length_cons, List.length_append]; omega)
   · cases h
  ·
   refine lf_len leaf hl S _ _ r ?_ (fun s hs => hp s (List.dropLast_subset _ hs)) h
   split
   · exact fun x hx2 => hx x (List.mem_of_mem_drop hx2)
   · exact fun x hx2 => hx x (List.mem_of_mem_take hx2)
end Go.Proofs.YteoledjllpgcbaaGreatDoor
