/- MClash: several texts of this claim in one file. No statement of the seat is proved here. -/
import Derived.Test.YteoledjllpgcbaaGreatDoorMTreeC
namespace Go.Proofs.YteoledjllpgcbaaGreatDoor
set_option maxRecDepth 100000
set_option maxHeartbeats 64000000
set_option linter.unusedVariables false
namespace Cl
abbrev By := List UInt8
def btw (a b : By) : Option (By × By) := if clashB a b then some (a, b) else none
theorem btw_some {a b : By} {r : By × By} (h : btw a b = some r) : clashB r.1 r.2 = true := by
 unfold btw at h
 split at h
 ·
  rename_i g
  injection h with h
  subst h
  exact g
 · cases h
theorem btw_same (a : By) : btw a a = none := by unfold btw; rw [if_neg (by simp [clashB])]
theorem btw_none {a b : By} (h : btw a b = none) (hs : Sha.sum a = Sha.sum b) : a = b := by
 unfold btw at h
 split at h
 · cases h
 ·
  rename_i g
  exact Decidable.byContradiction fun hne => g (by simp [clashB, hs, hne])
def topB (ds : List By) : By := 1 :: (troot (ds.take (Tree.sp ds.length)) ++ troot (ds.drop (Tree.sp ds.length)))
theorem topB_sum {ds : List By} (h : 2 ≤ ds.length) : Sha.sum (topB ds) = troot ds := (Tree.root_two tnd tnil h).symm
def nb (s : Bool) (x y : By) : By := if s then 1 :: (y ++ x) else 1 :: (x ++ y)
theorem nb_sum (s : Bool) (x y : By) : Sha.sum (nb s x y) = if s then tnd y x else tnd x y := by cases s <;> rfl
abbrev lv (l : List By) : List By := l.map (seal_ 0)
theorem lv_all (l : List By) : ∀ s ∈ lv l, s.length = 32 := fun s hs => by
 obtain ⟨x, _, rfl⟩ := List.mem_map.1 hs
 exact seal_len _ _
def lf (leaf : By) : List Bool → List By → List By → Option (By × By)
 | [], l, _ => btw (0 :: leaf) (0 :: l.headD [])
 | s :: S, l, p => (btw (nb s (Tree.clb tnd tnil (seal_ 0 leaf) S p.dropLast) (p.getLastD tnil)) (topB (lv l))).or (lf leaf S (if s then l.drop (Tree.sp l.length) else l.take (Tree.sp l.length)) p.dropLast)
theorem lf_snoc (leaf : By) (s : Bool) (S : List Bool) (l p : List By) (x : By) : lf leaf (s :: S) l (p ++ [x]) = (btw (nb s (Tree.clb tnd tnil (seal_ 0 leaf) S p) x) (topB (lv l))).or (lf leaf S (if s then l.drop (Tree.sp l.length) else l.take (Tree.sp l.length)) p) := by
 have h1 : (p ++ [x]).dropLast = p := List.dropLast_concat
 have h2 : (p ++ [x]).getLastD tnil = x := by simp
 rw [lf, h1, h2]
theorem or_some {α : Type} {x y : Option α} {r : α} (h : x.or y = some r) : x = some r ∨ (x = none ∧ y = some r) := by
 cases x with
 | none => exact .inr ⟨rfl, h⟩
 | some a => exact .inl h
theorem lf_some (leaf : By) : ∀ (S : List Bool) (l p : List By) (r : By × By), lf leaf S l p = some r → clashB r.1 r.2 = true
 | [], l, p, r, h => btw_some h
 | s :: S, l, p, r, h => by
  rw [lf] at h
  rcases or_some h with h | ⟨_, h⟩
  · exact btw_some h
  · exact lf_some leaf S _ _ r h
theorem seal_sum (kd : UInt8) (l : By) : seal_ kd l = Sha.sum (kd :: l) := rfl
theorem lv_take (l : List By) (k : Nat) : (lv l).take k = lv (l.take k) := by simp [lv, List.map_take]
theorem lv_drop (l : List By) (k : Nat) : (lv l).drop k = lv (l.drop k) := by simp [lv, List.map_drop]
theorem nb_inj {s : Bool} {x y : By} {ds : List By} (hx : x.length = 32) (hy : y.length = 32) (h32 : ∀ d ∈ ds, d.length = 32) (h : nb s x y = topB ds) : x = troot (if s then ds.drop (Tree.sp ds.length) else ds.take (Tree.sp ds.length)) := by
 have hl := troot_len (all_take h32 (Tree.sp ds.length))
 unfold nb topB at h
 cases s with
 | false =>
  have h := List.tail_eq_of_cons_eq h
  exact (List.append_inj h (by rw [hx, hl])).1
 | true =>
  have h := List.tail_eq_of_cons_eq h
  exact (List.append_inj h (by rw [hy, hl])).2
theorem lf_finds (leaf : By) : ∀ (k : Nat) (l p : List By) (i : Nat), l.length ≤ k → i < l.length → (∀ d ∈ p, d.length = 32) → p.length = (Tree.sides i l.length).length → Tree.clb tnd tnil (seal_ 0 leaf) (Tree.sides i l.length) p = troot (lv l) → l[i]? ≠ some leaf →
  ∃ r, lf leaf (Tree.sides i l.length) l p = some r
 | 0, l, p, i, h, hi, _, _, _, _ => by omega
 | k + 1, l, p, i, h, hi, h32, hpl, he, hne => by
  by_cases h2 : l.length < 2
  ·
   rw [Tree.sides_small h2] at he ⊢
   obtain ⟨x, rfl⟩ : ∃ x, l = [x] := List.length_eq_one_iff.1 (by omega)
   obtain rfl : i = 0 := by simp at hi; omega
   have he2 : seal_ 0 leaf = seal_ 0 x := by
    have : troot (lv [x]) = seal_ 0 x := Tree.root_one _ _ _
    rw [← this]; exact he
   have hx : ¬ leaf = x := fun e => hne (by rw [e]; rfl)
   refine ⟨(0 :: leaf, 0 :: x), ?_⟩
   show btw (0 :: leaf) (0 :: x) = _
   unfold btw
   rw [if_pos]
   rw [seal_sum, seal_sum] at he2
   simp [clashB, he2, hx]
  ·
   have a := Tree.sp_lt (n := l.length) (by omega)
   have b := Tree.sp_pos (n := l.length) (by omega)
   have hml : (lv l).length = l.length := by simp [lv]
   have hS : ∃ (s : Bool) (j m : Nat), Tree.sides i l.length = s :: Tree.sides j (if s then l.drop (Tree.sp l.length) else l.take (Tree.sp l.length)).length ∧ j < (if s then l.drop (Tree.sp l.length) else l.take (Tree.sp l.length)).length ∧ (if s then l.drop (Tree.sp l.length) else l.take (Tree.sp l.length)).length ≤ k ∧ (if s then l.drop (Tree.sp l.length) else l.take (Tree.sp l.length))[j]? = l[i]? := by
    by_cases hc : i < Tree.sp l.length
    ·
     refine ⟨false, i, 0, ?_, ?_, ?_, ?_⟩
     · rw [Tree.sides_left (by omega) hc]; simp only [Bool.false_eq_true, if_false]; rw [List.length_take, Nat.min_eq_left (by omega)]
     · simp only [Bool.false_eq_true, if_false]; rw [List.length_take]; omega
     · simp only [Bool.false_eq_true, if_false]; rw [List.length_take]; omega
     · simp only [Bool.false_eq_true, if_false]; rw [List.getElem?_take, if_pos hc]
    ·
     refine ⟨true, i - Tree.sp l.length, 0, ?_, ?_, ?_, ?_⟩
     · rw [Tree.sides_right (by omega) hc]; simp only [if_true]; rw [List.length_drop]
     · simp only [if_true]; rw [List.length_drop]; omega
     · simp only [if_true]; rw [List.length_drop]; omega
     · simp only [if_true]; rw [List.getElem?_drop, show Tree.sp l.length + (i - Tree.sp l.length) = i by omega]
   obtain ⟨s, j, _, hS, hj, hk, hg⟩ := hS
   rw [hS] at he hpl ⊢
   rcases List.eq_nil_or_concat p with rfl | ⟨p', x, rfl⟩
   · simp at hpl
   rw [List.concat_eq_append] at h32 hpl he ⊢
   have hp' : ∀ d ∈ p', d.length = 32 := fun d hd => h32 d (List.mem_append.2 (.inl hd))
   have hx : x.length = 32 := h32 x (by simp)
   have hpl' : p'.length = (Tree.sides j (if s then l.drop (Tree.sp l.length) else l.take (Tree.sp l.length)).length).length := by simpa using hpl
   rw [lf_snoc]
   obtain ⟨l', hl'⟩ : ∃ l', (if s then l.drop (Tree.sp l.length) else l.take (Tree.sp l.length)) = l' := ⟨_, rfl⟩
   rw [hl'] at hj hk hg hpl' he ⊢
   rw [Tree.clb_snoc] at he
   cases hb : btw (nb s (Tree.clb tnd tnil (seal_ 0 leaf) (Tree.sides j l'.length) p') x) (topB (lv l)) with
   | some r => exact ⟨r, rfl⟩
   | none =>
    rw [Option.none_or]
    have hs : Sha.sum (nb s (Tree.clb tnd tnil (seal_ 0 leaf) (Tree.sides j l'.length) p') x) = Sha.sum (topB (lv l)) := by
     rw [nb_sum, topB_sum (by rw [hml]; omega), he]
    have hin := nb_inj (clb_32 (seal_len _ _) _ _) hx (lv_all l) (btw_none hb hs)
    rw [hml, lv_drop, lv_take, show (if s = true then lv (l.drop (Tree.sp l.length)) else lv (l.take (Tree.sp l.length))) = lv l' by rw [← hl']; cases s <;> rfl] at hin
    exact lf_finds leaf k l' p' j hk hj hp' hpl' hin (by rw [hg]; exact hne)
theorem lf_own (leaf : By) : ∀ (k : Nat) (l : List By) (i : Nat), l.length ≤ k → l[i]? = some leaf → lf leaf (Tree.sides i l.length) l (tpath (lv l) i) = none
 | 0, l, i, h, hx => by have := (List.getElem?_eq_some_iff.1 hx).1; omega
 | k + 1, l, i, h, hx => by
  have hi := (List.getElem?_eq_some_iff.1 hx).1
  by_cases h2 : l.length < 2
  ·
   rw [Tree.sides_small h2]
   obtain ⟨x, rfl⟩ : ∃ x, l = [x] := List.length_eq_one_iff.1 (by omega)
   obtain rfl : i = 0 := by simp at hi; omega
   simp at hx
   subst hx
   exact btw_same _
  ·
   have a := Tree.sp_lt (n := l.length) (by omega)
   have b := Tree.sp_pos (n := l.length) (by omega)
   have hml : (lv l).length = l.length := by simp [lv]
   by_cases hc : i < Tree.sp l.length
   ·
    have e1 : (l.take (Tree.sp l.length)).length = Tree.sp l.length := by rw [List.length_take]; omega
    have hx' : (l.take (Tree.sp l.length))[i]? = some leaf := by rw [List.getElem?_take, if_pos hc]; exact hx
    have ih := lf_own leaf k (l.take (Tree.sp l.length)) i (by omega) hx'
    rw [e1] at ih
    have hp := Tree.path_left tnd tnil (l := lv l) (i := i) (by rw [hml]; omega) (by rw [hml]; exact hc)
    rw [hml, lv_take, lv_drop] at hp
    show lf leaf (Tree.sides i l.length) l (Tree.path tnd tnil (lv l) i) = none
    rw [hp, Tree.sides_left (by omega) hc, lf_snoc]
    have hclb := Tree.climb_path tnd tnil _ (lv (l.take (Tree.sp l.length))) i (seal_ 0 leaf) (Nat.le_refl _) (by rw [List.getElem?_map, hx']; rfl)
    rw [show (lv (l.take (Tree.sp l.length))).length = Tree.sp l.length by simp [lv]; omega] at hclb
    rw [hclb]
    have : nb false (Tree.root tnd tnil (lv (l.take (Tree.sp l.length)))) (Tree.root tnd tnil (lv (l.drop (Tree.sp l.length)))) = topB (lv l) := by
     unfold nb topB
     rw [hml, lv_take, lv_drop]; rfl
    rw [this, btw_same, Option.none_or]
    exact ih
   ·
    have e1 : (l.drop (Tree.sp l.length)).length = l.length - Tree.sp l.length := List.length_drop
    have hx' : (l.drop (Tree.sp l.length))[i - Tree.sp l.length]? = some leaf := by rw [List.getElem?_drop, show Tree.sp l.length + (i - Tree.sp l.length) = i by omega]; exact hx
    have ih := lf_own leaf k (l.drop (Tree.sp l.length)) (i - Tree.sp l.length) (by omega) hx'
    rw [e1] at ih
    have hp := Tree.path_right tnd tnil (l := lv l) (i := i) (by rw [hml]; omega) (by rw [hml]; exact hc)
    rw [hml, lv_take, lv_drop] at hp
    show lf leaf (Tree.sides i l.length) l (Tree.path tnd tnil (lv l) i) = none
    rw [hp, Tree.sides_right (by omega) hc, lf_snoc]
    have hclb := Tree.climb_path tnd tnil _ (lv (l.drop (Tree.sp l.length))) (i - Tree.sp l.length) (seal_ 0 leaf) (Nat.le_refl _) (by rw [List.getElem?_map, hx']; rfl)
    rw [show (lv (l.drop (Tree.sp l.length))).length = l.length - Tree.sp l.length by simp [lv]] at hclb
    rw [hclb]
    have : nb true (Tree.root tnd tnil (lv (l.drop (Tree.sp l.length)))) (Tree.root tnd tnil (lv (l.take (Tree.sp l.length)))) = topB (lv l) := by
     unfold nb topB
     rw [hml, lv_take, lv_drop]; rfl
    rw [this, btw_same, Option.none_or]
    exact ih
def tw : Nat → List By → List By → Option (By × By)
 | 0, _, _ => none
 | q + 1, a, b => if a.length < 2 then btw (0 :: a.headD []) (0 :: b.headD [])
  else (btw (topB (lv a)) (topB (lv b))).or ((tw q (a.take (Tree.sp a.length)) (b.take (Tree.sp a.length))).or (tw q (a.drop (Tree.sp a.length)) (b.drop (Tree.sp a.length))))
def two (a b : List By) : Option (By × By) := tw a.length a b
end Cl
namespace Cl
def lev (s : Bool) (ds : List By) : List By := if s then ds.drop (Tree.sp ds.length) else ds.take (Tree.sp ds.length)
def tops : List Bool → List By → List By
 | [], _ => []
 | s :: S, ds => topB ds :: tops S (lev s ds)
def at_ (d : By) (S : List Bool) (H p : List By) (t : Nat) : Option (By × By) :=
 btw (nb (S.getD t false) (Tree.clb tnd tnil d (S.drop (t + 1)) (p.take (S.length - 1 - t))) (p.getD (S.length - 1 - t) [])) (H.getD t [])
def rsAll (d : By) (S : List Bool) (H p : List By) (x : Option (By × By)) : List (Option (By × By)) := (List.range S.length).map (at_ d S H p) ++ [x]
theorem rsAll_len (d : By) (S : List Bool) (H p : List By) (x : Option (By × By)) : (rsAll d S H p x).length = S.length + 1 := by simp [rsAll]
def first' (rs : List (Option (By × By))) : Option (By × By) := rs.foldr Option.or none
theorem rs_cons (d : By) (s : Bool) (S : List Bool) (h : By) (H p : List By) (y : By) (x : Option (By × By)) (hp : p.length = S.length) :
  rsAll d (s :: S) (h :: H) (p ++ [y]) x = btw (nb s (Tree.clb tnd tnil d S p) y) h :: rsAll d S H p x := by
 unfold rsAll
 rw [List.length_cons, List.range_succ_eq_map, List.map_cons, List.map_map, List.cons_append]
 congr 1
 ·
  unfold at_
  simp [← hp]
 ·
  congr 1
  apply List.map_congr_left
  intro t ht
  rw [List.mem_range] at ht
  show at_ d (s :: S) (h :: H) (p ++ [y]) (t + 1) = at_ d S H p t
  unfold at_
  rw [List.length_cons, show S.length + 1 - 1 - (t + 1) = S.length - 1 - t by omega]
  rw [List.take_append_of_le_length (by omega)]
  have e1 : (p ++ [y]).getD (S.length - 1 - t) [] = p.getD (S.length - 1 - t) [] := by
   rw [List.getD_eq_getElem?_getD, List.getD_eq_getElem?_getD, List.getElem?_append_left (by omega)]
  rw [e1]
  simp
theorem lv_lev (s : Bool) (l : List By) : lv (if s then l.drop (Tree.sp l.length) else l.take (Tree.sp l.length)) = lev s (lv l) := by
 unfold lev
 cases s with
 | false => simp [lv, List.map_take]
 | true => simp [lv, List.map_drop]
theorem rs_lf (leaf : By) : ∀ (S : List Bool) (l p : List By) (x : By), p.length = S.length → (S.foldl (fun l s => if s then l.drop (Tree.sp l.length) else l.take (Tree.sp l.length)) l).headD [] = x →
  first' (rsAll (seal_ 0 leaf) S (tops S (lv l)) p (btw (0 :: leaf) (0 :: x))) = lf leaf S l p
 | [], l, p, x, hp, hx => by
  show (btw (0 :: leaf) (0 :: x)).or none = btw (0 :: leaf) (0 :: l.headD [])
  rw [Option.or_none]
  rw [← hx]; rfl
 | s :: S, l, p, x, hp, hx => by
  rcases List.eq_nil_or_concat p with rfl | ⟨p', y, rfl⟩
  · simp at hp
  rw [List.concat_eq_append] at hp ⊢
  have hp' : p'.length = S.length := by simpa using hp
  rw [lf_snoc, tops, rs_cons _ _ _ _ _ _ _ _ hp']
  show (btw _ _).or (first' _) = _
  congr 1
  rw [← lv_lev]
  exact rs_lf leaf S _ p' x hp' hx
theorem way_end : ∀ (k : Nat) (l : List By) (i : Nat) (x : By), l.length ≤ k → l[i]? = some x → ((Tree.sides i l.length).foldl (fun l s => if s then l.drop (Tree.sp l.length) else l.take (Tree.sp l.length)) l).headD [] = x
 | 0, l, i, x, h, hx => by have := (List.getElem?_eq_some_iff.1 hx).1; omega
 | k + 1, l, i, x, h, hx => by
  have hi := (List.getElem?_eq_some_iff.1 hx).1
  by_cases h2 : l.length < 2
  ·
   rw [Tree.sides_small h2]
   obtain ⟨y, rfl⟩ : ∃ x, l = [x] := List.length_eq_one_iff.1 (by omega)
   obtain rfl : i = 0 := by simp at hi; omega
   simp at hx
   exact hx
  ·
   have a := Tree.sp_lt (n := l.length) (by omega)
   have b := Tree.sp_pos (n := l.length) (by omega)
   by_cases hc : i < Tree.sp l.length
   ·
    have e1 : (l.take (Tree.sp l.length)).length = Tree.sp l.length := by rw [List.length_take]; omega
    rw [Tree.sides_left (by omega) hc, List.foldl_cons]
    have := way_end k (l.take (Tree.sp l.length)) i x (by omega) (by rw [List.getElem?_take, if_pos hc]; exact hx)
    rw [e1] at this
    exact this
   ·
    have e1 : (l.drop (Tree.sp l.length)).length = l.length - Tree.sp l.length := List.length_drop
    rw [Tree.sides_right (by omega) hc, List.foldl_cons]
    have := way_end k (l.drop (Tree.sp l.length)) (i - Tree.sp l.length) x (by omega) (by rw [List.getElem?_drop, show Tree.sp l.length + (i - Tree.sp l.length) = i by omega]; exact hx)
    rw [e1] at this
    exact this
structure Way (S : List Bool) (ds0 : List By) (R : List Bool) (H : List By) (x : Nat) (ds : List By) : Prop where
 all : ∀ s ∈ ds, s.length = 32
 lt : x < ds.length
 eS : S = R ++ Tree.sides x ds.length
 eH : tops S ds0 = H ++ tops (Tree.sides x ds.length) ds
 len : H.length = R.length
theorem Way.start {ds : List By} {x : Nat} (h : ∀ s ∈ ds, s.length = 32) (hx : x < ds.length) : Way (Tree.sides x ds.length) ds [] [] x ds := ⟨h, hx, rfl, rfl, rfl⟩
theorem Way.left {S : List Bool} {ds0 : List By} {R : List Bool} {H : List By} {x : Nat} {ds : List By} (h : Way S ds0 R H x ds) (h2 : 2 ≤ ds.length) {k : Nat} (hk : Tree.sp ds.length = k) (hx : x < k) : Way S ds0 (R ++ [false]) (H ++ [topB ds]) x (ds.take k) := by
 subst hk
 have kl := Tree.sp_lt h2
 have e1 : (ds.take (Tree.sp ds.length)).length = Tree.sp ds.length := by rw [List.length_take]; omega
 have hs := Tree.sides_left h2 hx
 refine ⟨all_take h.all _, by omega, by rw [h.eS, hs, e1, List.append_assoc]; rfl, ?_, by rw [List.length_append, List.length_append, h.len]; rfl⟩
 rw [h.eH, hs, e1, tops, List.append_assoc]; rfl
theorem Way.right {S : List Bool} {ds0 : List By} {R : List Bool} {H : List By} {x : Nat} {ds : List By} (h : Way S ds0 R H x ds) (h2 : 2 ≤ ds.length) {k : Nat} (hk : Tree.sp ds.length = k) (hx : ¬ x < k) : Way S ds0 (R ++ [true]) (H ++ [topB ds]) (x - k) (ds.drop k) := by
 subst hk
 have kp := Tree.sp_pos h2
 have hlt := h.lt
 have e1 : (ds.drop (Tree.sp ds.length)).length = ds.length - Tree.sp ds.length := List.length_drop
 have hs := Tree.sides_right h2 hx
 refine ⟨all_drop h.all _, by omega, by rw [h.eS, hs, e1, List.append_assoc]; rfl, ?_, by rw [List.length_append, List.length_append, h.len]; rfl⟩
 rw [h.eH, hs, e1, tops, List.append_assoc]; rfl
theorem Way.done {S : List Bool} {ds0 : List By} {R : List Bool} {H : List By} {x : Nat} {ds : List By} (h : Way S ds0 R H x ds) (h2 : ds.length < 2) : R = S ∧ H = tops S ds0 := by
 have e := Tree.sides_small (i := x) h2
 have hs := h.eS
 have hh := h.eH
 rw [e, List.append_nil] at hs
 rw [e, tops, List.append_nil] at hh
 exact ⟨hs.symm, hh.symm⟩
end Cl
end Go.Proofs.YteoledjllpgcbaaGreatDoor
