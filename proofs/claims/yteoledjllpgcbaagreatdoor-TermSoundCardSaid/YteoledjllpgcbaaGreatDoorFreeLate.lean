/- A region that draws its order, in which one operation that only reads may come up behind the first of the tail. No statement of the seat is proved here. -/
import Derived.Test.YteoledjllpgcbaaGreatDoorMBase
namespace Go.Proofs.YteoledjllpgcbaaGreatDoor
set_option maxRecDepth 100000
set_option maxHeartbeats 64000000
set_option linter.unusedVariables false
open Go.RowKit
namespace Free
section late
variable {P : Program} {ops : Array Oper} {a0 : Act} {C : World → Prop} {V : Nat → Value → World → Prop} {Q : Exit → Act → World → Prop} {n0 : Nat}
def okTail (ops : Array Oper) (n0 e d : Nat) : Bool :=
 ((List.range ops.size).all fun i => decide (i < n0) || (List.range i).all fun j => (i == n0 && j == e) || pre ops i j) && ((List.range ops.size).all fun j => j == e || dstOf ops j != some d) && (dstOf ops e == some d) && decide (e < n0)
theorem okTail_pre {e d : Nat} (h : okTail ops n0 e d = true) {i : Nat} (hi : i < ops.size) (hn : n0 ≤ i) {j : Nat} (hj : j < i) : (i = n0 ∧ j = e) ∨ pre ops i j = true := by
 unfold okTail at h
 rw [Bool.and_eq_true, Bool.and_eq_true, Bool.and_eq_true] at h
 have h1 := List.all_eq_true.1 h.1.1.1 i (List.mem_range.2 hi)
 rw [Bool.or_eq_true] at h1
 rcases h1 with h1 | h1
 · have := of_decide_eq_true h1; omega
 ·
  have h2 := List.all_eq_true.1 h1 j (List.mem_range.2 hj)
  rw [Bool.or_eq_true, Bool.and_eq_true, beq_iff_eq, beq_iff_eq] at h2
  exact h2
theorem okTail_only {e d : Nat} (h : okTail ops n0 e d = true) {j : Nat} (hj : j < ops.size) (hd : dstOf ops j = some d) : j = e := by
 unfold okTail at h
 rw [Bool.and_eq_true, Bool.and_eq_true, Bool.and_eq_true] at h
 have h1 := List.all_eq_true.1 h.1.1.2 j (List.mem_range.2 hj)
 rw [hd] at h1
 simpa using h1
theorem okTail_e {e d : Nat} (h : okTail ops n0 e d = true) : dstOf ops e = some d ∧ e < n0 := by
 unfold okTail at h
 rw [Bool.and_eq_true, Bool.and_eq_true, Bool.and_eq_true] at h
 exact ⟨by simpa using h.1.2, of_decide_eq_true h.2⟩
theorem tail_late (hok : ok ops a0.tmps.size ops.size = true) (htl : ∀ i, i < ops.size → n0 < i → ∀ j, j < i → pre ops i j = true) : ∀ (l : List Oper) (k : Nat) (listed : Array Bool) (a : Act) (w : World), n0 ≤ k → (∀ j, l[j]? = ops[k + j]?) → listed.size = ops.size → (∀ j, L listed j = decide (j < k) ∨ ops.size ≤ j) →
  wpList P ops Q l a w → wpAny P .any ops Q l.length listed a w
 | [], k, listed, a, w, hn, hl, hs, hL, h => by
  refine ⟨?_, h⟩
  rw [List.eq_nil_iff_forall_not_mem]
  intro j hj
  obtain ⟨h1, o, ho, _⟩ := (ready_iff listed hs j).1 hj
  have hjs : j < ops.size := (Array.getElem?_eq_some_iff.1 ho).1
  have hk : ops.size ≤ k := by
   have := hl 0
   simp at this
   exact this
  rcases hL j with h2 | h2
  ·
   rw [h1] at h2
   have := of_decide_eq_false h2.symm
   omega
  · omega
 | o :: l, k, listed, a, w, hn, hl, hs, hL, h => by
  have h0 : ops[k]? = some o := by simpa using (hl 0).symm
  have hks : k < ops.size := (Array.getElem?_eq_some_iff.1 h0).1
  have hedge := ok_edges hok
  have hcl : Closed ops (L listed) := fun i o' ho' hi e he hb => by
   have h1 := (hedge i o' ho').2 e he hb
   have hil : i < ops.size := (Array.getElem?_eq_some_iff.1 ho').1
   rcases hL i with h2 | h2
   ·
    rw [hi] at h2
    have := of_decide_eq_true h2.symm
    rcases hL e.on with h3 | h3
    · rw [h3]; exact decide_eq_true (by omega)
    · omega
   · omega
  have hkr : k ∈ Region.ready .any ops listed := (ready_iff listed hs k).2 ⟨by
   rcases hL k with h2 | h2
   · rw [h2]; exact decide_eq_false (by omega)
   ·
    omega, o, h0, fun e he hb => by
    have h1 := (hedge k o h0).2 e he hb
    rcases hL e.on with h3 | h3
    · rw [h3]; exact decide_eq_true h1
    · omega⟩
  refine ⟨fun he => (by rw [he] at hkr; cases hkr), fun i hi => ?_⟩
  have hik : i = k := by
   obtain ⟨h1, o', ho', h2⟩ := (ready_iff listed hs i).1 hi
   have his : i < ops.size := (Array.getElem?_eq_some_iff.1 ho').1
   have hge : k ≤ i := by
    rcases hL i with h3 | h3
    · rw [h1] at h3; have := of_decide_eq_false h3.symm; omega
    · omega
   rcases Nat.eq_or_lt_of_le hge with h4 | h4
   · exact h4.symm
   ·
    have h5 := htl i his (by omega) k h4
    have h6 := closed_pre (fun i o ho => (hedge i o ho).2) hcl i o' ho' h2 k h5
    rcases hL k with h7 | h7
    · rw [h6] at h7; have := of_decide_eq_true h7.symm; omega
    · omega
  subst hik
  have ih := fun a w (h : wpList P ops Q l a w) => tail_late hok htl l (i + 1) (listed.setIfInBounds i true) a w (by omega) (fun j => by have := hl (j + 1); simpa [Nat.add_assoc, Nat.add_comm 1 j] using this) (by simpa using hs) (fun j => by
   rw [L_set _ _ _ (by rw [hs]; exact hks)]
   by_cases hji : j = i
   · subst hji; left; rw [if_pos rfl]; exact (decide_eq_true (by omega)).symm
   ·
    rw [if_neg hji]
    rcases hL j with h3 | h3
    ·
     left; rw [h3]
     by_cases h4 : j < i
     · rw [decide_eq_true h4, decide_eq_true (by omega)]
     · rw [decide_eq_false h4, decide_eq_false (by omega)]
    · exact .inr h3) h
  unfold wpList at h
  unfold wpOp
  simp only [h0]
  split
  ·
   rename_i hw
   rw [if_pos hw] at h
   rcases h with h | h
   · exact .inl (Oper.wp_mono ih h)
   · exact .inr h
  ·
   rename_i hw
   rw [if_neg hw] at h
   exact ih _ _ h
theorem inv_step (hok : ok ops a0.tmps.size ops.size = true) (hCs : ∀ w w', C w → Grow w w' → C w') (hVs : ∀ j v w w', V j v w → Grow w w' → V j v w') {listed : Array Bool} {vals : Nat → Value} {a : Act} {w : World}
  (hI : Inv ops a0 C V n0 listed vals a w) {i : Nat} {o : Oper} (ho : ops[i]? = some o) (hun : L listed i = false) (hpre : ∀ j, pre ops i j = true → L listed j = true) (hed : ∀ e ∈ o.after, Region.binds .any e = true → L listed e.on = true) (hin : i < n0) {v : Value} {w' : World} (hv : V i v w') (hg : Grow w w') :
  Inv ops a0 C V n0 (listed.setIfInBounds i true) (fun j => if j = i then v else vals j) (a.put o.dst v) w' := by
 have hedge := ok_edges hok
 have hdst : ∀ j d, dstOf ops j = some d → d < a0.tmps.size := fun j d hd => by
  have hj : j < ops.size := by
   rcases Nat.lt_or_ge j ops.size with h | h
   · exact h
   · unfold dstOf at hd; rw [Array.getElem?_eq_none h] at hd; cases hd
  refine (ok_names hok hj (t := d) ?_).1
  unfold namesOf
  unfold dstOf at hd
  rw [Array.getElem?_eq_getElem hj] at hd ⊢
  simp only [Option.bind_some] at hd
  simp [hd]
 have his : i < ops.size := (Array.getElem?_eq_some_iff.1 ho).1
 have hd : dstOf ops i = o.dst := by unfold dstOf; rw [ho]; rfl
 have hLs := fun j => L_set listed i j (by rw [hI.sz]; exact his)
 refine ⟨by simpa using hI.sz, ?_, hCs _ _ hI.c hg, ?_, ?_, ?_, ?_, ?_⟩
 ·
  intro j oj hoj hj e he hb
  rw [hLs] at hj ⊢
  by_cases h1 : e.on = i
  · rw [if_pos h1]
  ·
   rw [if_neg h1]
   by_cases h2 : j = i
   ·
    subst h2
    rw [ho] at hoj; injection hoj with hoj; subst hoj
    exact hed e he hb
   ·
    rw [if_neg h2] at hj
    exact hI.cl j oj hoj hj e he hb
 ·
  intro j hj hl
  rw [hLs] at hl
  by_cases h2 : j = i
  · subst h2; simpa using hv
  ·
   rw [if_neg h2] at hl ⊢
   exact hVs _ _ _ _ (hI.v j hj hl) hg
 ·
  intro j hj
  rw [hLs, if_neg (by omega)]
  exact hI.no j hj
 · cases o.dst <;> exact hI.df
 ·
  cases o.dst with
  | none => exact hI.ts
  | some d => simpa [Act.put] using hI.ts
 ·
  intro t
  have hother : ∀ (hne : o.dst ≠ some t), a.tmps.getD t undef = slotS ops a0 (fun j => if j = i then v else vals j) (L (listed.setIfInBounds i true)) ops.size t := fun hne => by
   rw [hI.sl]
   unfold slotS
   rw [lastW_congr (S := L (listed.setIfInBounds i true)) (S' := L listed) ops.size fun j hj hdj => by
    rw [hLs, if_neg (fun e => by subst e; rw [hd] at hdj; exact hne hdj)]]
   cases hlw : lastW ops (L listed) t ops.size with
   | none => rfl
   | some j =>
    have := lastW_spec ops.size hlw
    have hji : j ≠ i := fun e => by subst e; rw [hd] at this; exact hne this.1
    show vals j = if j = i then v else vals j
    rw [if_neg hji]
  cases hod : o.dst with
  | none => exact hother (by rw [hod]; simp)
  | some d =>
   rw [getD_put _ _ _ _ (by rw [hI.ts]; exact hdst i d (by rw [hd, hod]))]
   by_cases htd : t = d
   ·
    subst htd
    rw [if_pos rfl]
    unfold slotS
    have hnm' : t ∈ namesOf ops i := by unfold namesOf; rw [ho]; exact List.mem_append_left _ (by rw [hod]; simp)
    have hk := ok_names hok his hnm'
    rw [lastW_eq (i := i + 1) ops.size his fun j hj hdj => ?_]
    ·
     show v = match (if dstOf ops i = some t ∧ true = true then some i else _) with | some j => (if j = i then v else vals j) | none => _
     rw [if_pos ⟨by rw [hd, hod], rfl⟩]
     simp
    ·
     rw [hLs]
     by_cases hji : j = i
     · subst hji; simp
     ·
      rw [if_neg hji]
      have h2 := hk.2 j hj hji hdj
      constructor
      ·
       intro hl
       rcases Nat.lt_or_ge j i with h | h
       · omega
       ·
        exfalso
        rw [if_neg (by omega)] at h2
        obtain ⟨oj, hoj⟩ : ∃ oj, ops[j]? = some oj := ⟨_, Array.getElem?_eq_getElem hj⟩
        have h3 := closed_pre (fun i o ho => (hedge i o ho).2) hI.cl j oj hoj (hI.cl j oj hoj hl) i h2
        rw [hun] at h3; cases h3
      ·
       intro hlt
       have hlt' : j < i := by omega
       rw [if_pos hlt'] at h2
       exact hpre j h2
   ·
    rw [if_neg htd]
    exact hother (by rw [hod]; intro e; injection e with e; exact htd e.symm)
theorem late_any {e d : Nat} {oe os : Oper} (hok : ok ops a0.tmps.size ops.size = true) (hot : okTail ops n0 e d = true) (hoe : ops[e]? = some oe) (hos : ops[n0]? = some os) (hn0 : n0 ≤ ops.size) (hCs : ∀ w w', C w → Grow w w' → C w') (hVs : ∀ j v w w', V j v w → Grow w w' → V j v w')
  (hob : ∀ i, i < n0 → Ob P ops a0 C V i)
  (hcont : ∀ (vals : Nat → Value) (w : World), C w → (∀ j, j < n0 → V j (vals j) w) → wpList P ops Q (ops.toList.drop n0) (frameOf ops a0 vals n0) w)
  (hcont2 : ∀ (vals : Nat → Value) (w : World), C w → (∀ j, j < n0 → j ≠ e → V j (vals j) w) → vals e = a0.tmps.getD d undef → wpList P ops Q (os :: oe :: ops.toList.drop (n0 + 1)) (frameOf ops a0 vals n0) w) :
  ∀ (fuel : Nat) (listed : Array Bool) (vals : Nat → Value) (a : Act) (w : World), left ops.size listed = fuel → Inv ops a0 C V n0 listed vals a w → wpAny P .any ops Q fuel listed a w := by
 have hedge := ok_edges hok
 have hdst : ∀ j d, dstOf ops j = some d → d < a0.tmps.size := fun j d hd => by
  have hj : j < ops.size := by
   rcases Nat.lt_or_ge j ops.size with h | h
   · exact h
   · unfold dstOf at hd; rw [Array.getElem?_eq_none h] at hd; cases hd
  refine (ok_names hok hj (t := d) ?_).1
  unfold namesOf
  unfold dstOf at hd
  rw [Array.getElem?_eq_getElem hj] at hd ⊢
  simp only [Option.bind_some] at hd
  simp [hd]
 have htl : ∀ i, i < ops.size → n0 < i → ∀ j, j < i → pre ops i j = true := fun i hi hn j hj => by
  rcases okTail_pre hot hi (Nat.le_of_lt hn) hj with h | h
  · omega
  · exact h
 obtain ⟨hde, hen⟩ := okTail_e hot
 have hn0s : n0 < ops.size := (Array.getElem?_eq_some_iff.1 hos).1
 intro fuel
 induction fuel with
 | zero =>
  intro listed vals a w hf hI
  -- nothing is left: so there is no tail, and all have come up
  have hall : ∀ j, j < ops.size → L listed j = true := fun j hj => by
   cases h : L listed j with
   | true => rfl
   | false =>
    have hm : j ∈ (List.range ops.size).filter fun i => !L listed i := List.mem_filter.2 ⟨List.mem_range.2 hj, by rw [h]; rfl⟩
    have := List.length_pos_of_mem hm
    unfold left at hf
    omega
  have hn : n0 = ops.size := by
   rcases Nat.eq_or_lt_of_le hn0 with h | h
   · exact h
   ·
    have h1 := hI.no n0 (Nat.le_refl _)
    rw [hall n0 h] at h1; cases h1
  have hfr : a = frameOf ops a0 vals n0 := by
   have h1 := frameOf_defers ops a0 vals n0
   refine act_ext (by rw [hI.df, h1.1]) (by rw [hI.ts, h1.2]) fun t ht => ?_
   rw [hI.sl, frameOf_getD ops a0 vals hdst, hn]
   unfold slotB slotS
   rw [lastW_congr ops.size fun j hj _ => hall j hj]
  have hc := hcont vals w hI.c fun j hj => hI.v j hj (hall j (by omega))
  rw [← hfr, hn, List.drop_of_length_le (by simp)] at hc
  refine ⟨?_, hc⟩
  rw [List.eq_nil_iff_forall_not_mem]
  intro j hj
  obtain ⟨h1, o, ho, _⟩ := (ready_iff listed hI.sz j).1 hj
  rw [hall j (Array.getElem?_eq_some_iff.1 ho).1] at h1
  cases h1
 | succ fuel ih =>
  intro listed vals a w hf hI
  by_cases hdone : ∀ j, j < n0 → L listed j = true
  ·
   -- the tail
   have hfr : a = frameOf ops a0 vals n0 := by
    have h1 := frameOf_defers ops a0 vals n0
    refine act_ext (by rw [hI.df, h1.1]) (by rw [hI.ts, h1.2]) fun t ht => ?_
    rw [hI.sl, frameOf_getD ops a0 vals hdst]
    unfold slotB slotS
    rw [lastW_eq ops.size hn0 fun j hj hd => ?_]
    constructor
    ·
     intro h
     rcases Nat.lt_or_ge j n0 with h1 | h1
     · exact h1
     · rw [hI.no j h1] at h; cases h
    · exact hdone j
   have hc := hcont vals w hI.c fun j hj => hI.v j hj (hdone j hj)
   rw [← hfr] at hc
   have hlen : (ops.toList.drop n0).length = fuel + 1 := by
    rw [← hf, List.length_drop, Array.length_toList]
    unfold left
    have e : ∀ m, ((List.range m).filter fun i => !L listed i).length = m - n0 := by
     intro m
     induction m with
     | zero => simp
     | succ m ihm =>
      rw [List.range_succ, List.filter_append, List.length_append, ihm]
      rcases Nat.lt_or_ge m n0 with h | h
      · simp [hdone m h]; omega
      · simp [hI.no m h]; omega
    rw [e]
   have := tail_late hok htl (ops.toList.drop n0) n0 listed a w (Nat.le_refl _) (fun j => by rw [List.getElem?_drop]; simp) hI.sz (fun j => by
    rcases Nat.lt_or_ge j n0 with h | h
    · left; rw [hdone j h, decide_eq_true h]
    · left; rw [hI.no j h, decide_eq_false (by omega)]) hc
   rw [hlen] at this
   exact this
  ·
   -- an operation of the head, or the first of the tail
   have hstep : ∀ i ∈ Region.ready .any ops listed, wpOp P ops Q i (wpAny P .any ops Q fuel (listed.setIfInBounds i true)) a w := by
    intro i hi
    obtain ⟨hun, o, ho, hed⟩ := (ready_iff listed hI.sz i).1 hi
    have his : i < ops.size := (Array.getElem?_eq_some_iff.1 ho).1
    have hpre := closed_pre (fun i o ho => (hedge i o ho).2) hI.cl i o ho hed
    by_cases hin : i < n0
    rotate_left
    ·
     -- the first of the tail, ahead of the late one
     have hi0 : i = n0 := by
      rcases Nat.eq_or_lt_of_le (Nat.le_of_not_lt hin) with h | h
      · exact h.symm
      ·
       exfalso
       apply hdone
       intro j hj
       exact hpre j (htl i his h j (by omega))
     subst hi0
     obtain rfl : o = os := Option.some.inj (ho.symm.trans hos)
     have hall : ∀ j, j < i → j ≠ e → L listed j = true := fun j hj hje => by
      rcases okTail_pre hot his (Nat.le_refl _) hj with h | h
      · exact absurd h.2 hje
      · exact hpre j h
     have hle : L listed e = false := by
      cases h : L listed e with
      | false => rfl
      | true => exact absurd (fun j hj => if hje : j = e then hje ▸ h else hall j hj hje) hdone
     have hfr : a = frameOf ops a0 (fun j => if j = e then a0.tmps.getD d undef else vals j) i := by
      have h1 := frameOf_defers ops a0 (fun j => if j = e then a0.tmps.getD d undef else vals j) i
      refine act_ext (by rw [hI.df, h1.1]) (by rw [hI.ts, h1.2]) fun t ht => ?_
      rw [hI.sl, frameOf_getD ops a0 _ hdst]
      unfold slotB slotS
      by_cases htd : t = d
      ·
       subst htd
       have e1 : ∀ S : Nat → Bool, ∀ m, m ≤ ops.size → (∀ j, j < m → S j = true → j ≠ e) → lastW ops S t m = none := by
        intro S m
        induction m with
        | zero => intro _ _; rfl
        | succ m ihm =>
         intro hm hS
         show (if _ then _ else _) = _
         rw [if_neg (fun h => hS m (by omega) h.2 (okTail_only hot (by omega) h.1))]
         exact ihm (by omega) (fun j hj => hS j (by omega))
       rw [e1 (L listed) ops.size (Nat.le_refl _) (fun j hj hS hje => by rw [hje, hle] at hS; cases hS)]
       cases hlw : lastW ops (fun _ => true) t i with
       | none => rfl
       | some j =>
        have := lastW_spec i hlw
        have hje : j = e := okTail_only hot (by omega) this.1
        show _ = if j = e then _ else _
        rw [if_pos hje]
      ·
       rw [lastW_eq (i := i) ops.size (Nat.le_of_lt his) fun j hj hd => ?_]
       ·
        cases hlw : lastW ops (fun _ => true) t i with
        | none => rfl
        | some j =>
         have := lastW_spec i hlw
         have hje : j ≠ e := fun h => by rw [h, hde] at this; exact htd (by injection this.1 with q; exact q.symm)
         show vals j = if j = e then _ else vals j
         rw [if_neg hje]
       ·
        have hje : j ≠ e := fun h => by rw [h, hde] at hd; exact htd (by injection hd with q; exact q.symm)
        constructor
        ·
         intro h
         rcases Nat.lt_or_ge j i with h1 | h1
         · exact h1
         · rw [hI.no j h1] at h; cases h
        · exact fun h => hall j h hje
     have hc := hcont2 (fun j => if j = e then a0.tmps.getD d undef else vals j) w hI.c (fun j hj hje => by
      show V j (if j = e then _ else vals j) w
      rw [if_neg hje]; exact hI.v j hj (hall j hj hje)) (by show (if e = e then _ else _) = _; rw [if_pos rfl])
     rw [← hfr] at hc
     -- what is left behind it
     have hLs := fun j => L_set listed i j (by rw [hI.sz]; exact his)
     have hnext : ∀ a' w', wpList P ops Q (oe :: ops.toList.drop (i + 1)) a' w' → wpAny P .any ops Q fuel (listed.setIfInBounds i true) a' w' := by
      intro a' w' h
      have hfl := left_set listed ops.size i hI.sz his hun
      obtain ⟨f2, hf2⟩ : ∃ f2, fuel = f2 + 1 := by
       rcases Nat.eq_zero_or_pos fuel with h0 | h0
       ·
        exfalso
        have h3 : left ops.size (listed.setIfInBounds i true) = 0 := by omega
        unfold left at h3
        have hm : e ∈ (List.range ops.size).filter fun j => !L (listed.setIfInBounds i true) j := List.mem_filter.2 ⟨List.mem_range.2 (by omega), by rw [hLs, if_neg (by omega), hle]; rfl⟩
        have := List.length_pos_of_mem hm
        omega
       · exact ⟨fuel - 1, by omega⟩
      have hs1 : (listed.setIfInBounds i true).size = ops.size := by simpa using hI.sz
      have hre : e ∈ Region.ready .any ops (listed.setIfInBounds i true) := (ready_iff _ hs1 e).2 ⟨by rw [hLs, if_neg (by omega)]; exact hle, oe, hoe, fun x hx hb => by
       have h1 := (hedge e oe hoe).2 x hx hb
       rw [hLs, if_neg (by omega)]
       exact hall _ (by omega) (by omega)⟩
      rw [hf2]
      refine ⟨fun he => (by rw [he] at hre; cases hre), fun k hk => ?_⟩
      have hke : k = e := by
       obtain ⟨h1, o', ho', h2⟩ := (ready_iff _ hs1 k).1 hk
       have hks : k < ops.size := (Array.getElem?_eq_some_iff.1 ho').1
       rw [hLs] at h1
       rcases Nat.lt_trichotomy k i with h3 | h3 | h3
       ·
        rw [if_neg (by omega)] at h1
        by_cases hke : k = e
        · exact hke
        · rw [hall k h3 hke] at h1; cases h1
       · rw [if_pos h3] at h1; cases h1
       ·
        exfalso
        have hcl : Closed ops (L (listed.setIfInBounds i true)) := fun q oq hoq hq x hx hb => by
         have h4 := (hedge q oq hoq).2 x hx hb
         rw [hLs] at hq ⊢
         by_cases hqi : q = i
         ·
          subst hqi
          obtain rfl : oq = o := Option.some.inj (hoq.symm.trans ho)
          rw [if_neg (by omega)]
          exact hed x hx hb
         ·
          rw [if_neg hqi] at hq
          by_cases hxi : x.on = i
          · rw [if_pos hxi]
          · rw [if_neg hxi]; exact hI.cl q oq hoq hq x hx hb
        have h5 := closed_pre (fun i o ho => (hedge i o ho).2) hcl k o' ho' h2 e (htl k hks h3 e (by omega))
        rw [hLs, if_neg (by omega), hle] at h5; cases h5
      subst hke
      have ht := fun a w (h : wpList P ops Q (ops.toList.drop (i + 1)) a w) => tail_late (n0 := i) hok htl (ops.toList.drop (i + 1)) (i + 1) ((listed.setIfInBounds i true).setIfInBounds k true) a w (by omega) (fun j => by rw [List.getElem?_drop]; simp) (by simpa using hI.sz) (fun j => by
       rw [L_set _ _ _ (by rw [hs1]; omega), hLs]
       left
       by_cases h1 : j = k
       · rw [if_pos h1]; exact (decide_eq_true (by omega)).symm
       ·
        rw [if_neg h1]
        by_cases h2 : j = i
        · rw [if_pos h2]; exact (decide_eq_true (by omega)).symm
        ·
         rw [if_neg h2]
         rcases Nat.lt_or_ge j i with h3 | h3
         · rw [hall j h3 h1]; exact (decide_eq_true (by omega)).symm
         · rw [hI.no j h3]; exact (decide_eq_false (by omega)).symm) h
      have hlen : (ops.toList.drop (i + 1)).length = f2 := by
       have hf3 : left ops.size (listed.setIfInBounds i true) = f2 + 1 := by omega
       have hf4 := left_set (listed.setIfInBounds i true) ops.size k hs1 (by omega) (by rw [hLs, if_neg (by omega)]; exact hle)
       rw [List.length_drop, Array.length_toList]
       have e2 : left ops.size ((listed.setIfInBounds i true).setIfInBounds k true) = ops.size - (i + 1) := by
        unfold left
        have e : ∀ m, ((List.range m).filter fun j => !L ((listed.setIfInBounds i true).setIfInBounds k true) j).length = m - (i + 1) := by
         intro m
         induction m with
         | zero => simp
         | succ m ihm =>
          rw [List.range_succ, List.filter_append, List.length_append, ihm]
          have h6 : L ((listed.setIfInBounds i true).setIfInBounds k true) m = decide (m < i + 1) := by
           rw [L_set _ _ _ (by rw [hs1]; omega), hLs]
           by_cases h1 : m = k
           · rw [if_pos h1]; exact (decide_eq_true (by omega)).symm
           ·
            rw [if_neg h1]
            by_cases h2 : m = i
            · rw [if_pos h2]; exact (decide_eq_true (by omega)).symm
            ·
             rw [if_neg h2]
             rcases Nat.lt_or_ge m i with h3 | h3
             · rw [hall m h3 h1]; exact (decide_eq_true (by omega)).symm
             · rw [hI.no m h3]; exact (decide_eq_false (by omega)).symm
          rcases Nat.lt_or_ge m (i + 1) with h | h
          · simp [h6, h]; omega
          · simp [h6, Nat.not_lt.2 h]; omega
        exact e _
       omega
      rw [hlen] at ht
      unfold wpList at h
      unfold wpOp
      simp only [hoe]
      split
      ·
       rename_i hw
       rw [if_pos hw] at h
       rcases h with h | h
       · exact .inl (Oper.wp_mono ht h)
       · exact .inr h
      ·
       rename_i hw
       rw [if_neg hw] at h
       exact ht _ _ h
     unfold wpList at hc
     unfold wpOp
     simp only [ho]
     split
     ·
      rename_i hw
      rw [if_pos hw] at hc
      rcases hc with hc | hc
      · exact .inl (Oper.wp_mono hnext hc)
      · exact .inr hc
     ·
      rename_i hw
      rw [if_neg hw] at hc
      exact hnext _ _ hc
    have hnm : ∀ t, t ∈ namesOf ops i → a.tmps.getD t undef = slotB ops a0 vals i t := fun t ht => by
     rw [hI.sl]
     unfold slotB slotS
     rw [lastW_eq ops.size (Nat.le_of_lt his) fun j hj hd => ?_]
     have hk := ok_names hok his ht
     constructor
     ·
      intro hl
      rcases Nat.lt_or_ge j i with h | h
      · exact h
      ·
       exfalso
       have hji : j ≠ i := fun e => by rw [e, hun] at hl; cases hl
       have h2 := hk.2 j hj hji hd
       rw [if_neg (by omega)] at h2
       obtain ⟨oj, hoj⟩ : ∃ oj, ops[j]? = some oj := ⟨_, Array.getElem?_eq_getElem hj⟩
       have h3 := closed_pre (fun i o ho => (hedge i o ho).2) hI.cl j oj hoj (hI.cl j oj hoj hl) i h2
       rw [hun] at h3; cases h3
     ·
      intro h
      have h2 := hk.2 j hj (by omega) hd
      rw [if_pos h] at h2
      exact hpre j h2
    have hlook : ∀ t, t ∈ o.looksAt ops → a.tmps.getD t undef = slotB ops a0 vals i t := fun t ht => hnm t (by unfold namesOf; rw [ho]; exact List.mem_append_right _ ht)
    have hexec : execOp a.eval o = execOp (rho ops a0 vals i) o := by
     refine execOp_congr o (hedge i o ho).1 fun x hx => ?_
     cases x with
     | tmp t => exact hlook t (by unfold Oper.looksAt; exact List.mem_append_left _ (List.mem_filterMap.2 ⟨.tmp t, by simpa using hx, rfl⟩))
     | const v => rfl
     | global g => rfl
     | func f => rfl
    have hwant : Region.wanted o (yielded ops a.tmps) = Region.wanted o (yv ops a0 vals i) := by
     unfold Region.wanted
     cases hg : o.guard with
     | none => rfl
     | some gw =>
      obtain ⟨g, want⟩ := gw
      have e : yielded ops a.tmps g = yv ops a0 vals i g := by
       unfold yielded yv
       show (match (dstOf ops g).bind (a.tmps[·]?) with | some (.bool b) => some b | _ => none) = _
       cases hd : dstOf ops g with
       | none => rfl
       | some t =>
        have ht : t ∈ o.looksAt ops := by
         unfold Oper.looksAt
         refine List.mem_append_right _ ?_
         rw [hg]
         unfold dstOf at hd
         simp [hd]
        have h2 := hlook t ht
        have hlt : t < a.tmps.size := by rw [hI.ts]; exact hdst g t hd
        have h3 : a.tmps[t]? = some (a.tmps.getD t undef) := by simp [Array.getD_eq_getD_getElem?, hlt]
        simp only [Option.bind_some, h3, h2]
        generalize slotB ops a0 vals i t = x
        cases x <;> rfl
      simp only [e]
    -- what follows, whatever the operation has yielded
    have hnext : ∀ v w', V i v w' → Grow w w' → wpAny P .any ops Q fuel (listed.setIfInBounds i true) (a.put o.dst v) w' := fun v w' hv hg =>
     ih (listed.setIfInBounds i true) (fun j => if j = i then v else vals j) (a.put o.dst v) w' (by have := left_set listed ops.size i hI.sz his hun; omega) (inv_step hok hCs hVs hI ho hun hpre hed hin hv hg)
    have hobi := hob i hin o ho vals w hI.c (fun j hj => hI.v j (by
     have h1 := hpre j hj
     rcases Nat.lt_or_ge j n0 with h | h
     · exact h
     · rw [hI.no j h] at h1; cases h1) (hpre j hj))
    unfold wpOp
    simp only [ho]
    rcases hobi with ⟨hw, hst⟩ | ⟨hw, hu⟩
    ·
     rw [← hwant] at hw
     rw [if_pos hw]
     rw [← hexec] at hst
     exact .inl (wp_of_step hst hnext)
    ·
     rw [← hwant] at hw
     rw [if_neg (by rw [hw]; simp)]
     exact hnext undef w hu (Below.refl _ _)
   refine ⟨fun he => ?_, hstep⟩
   exfalso
   apply hdone
   -- the least that has not come up may come up now
   intro j
   induction j using Nat.strongRecOn with
   | _ j ihj =>
    intro hj
    cases hl : L listed j with
    | true => rfl
    | false =>
     obtain ⟨oj, hoj⟩ : ∃ oj, ops[j]? = some oj := ⟨_, Array.getElem?_eq_getElem (by omega)⟩
     have : j ∈ Region.ready .any ops listed := (ready_iff listed hI.sz j).2 ⟨hl, oj, hoj, fun e hee hb => by
      have h1 := (hedge j oj hoj).2 e hee hb
      exact ihj e.on h1 (by omega)⟩
     rw [he] at this; cases this
end late
theorem wp_late_l {P : Program} {ops : Array Oper} {a0 : Act} {w0 : World} {Q : Exit → Act → World → Prop} {id : Nat} (n0 e d : Nat) (oe os : Oper) (C : World → Prop) (l : List SV)
  (hm : P.follows .mixedOrders = true) (hok : ok ops a0.tmps.size ops.size = true) (hot : okTail ops n0 e d = true) (hoe : ops[e]? = some oe) (hos : ops[n0]? = some os) (hC : C w0.drew) (hCs : ∀ w w', C w → Grow w w' → C w')
  (hob : ∀ i, i < n0 → Ob P ops a0 C (VV l) i)
  (hcont : ∀ (vals : Nat → Value) (w : World), C w → (∀ j, j < n0 → VV l j (vals j) w) → wpList P ops Q (ops.toList.drop n0) (frameOf ops a0 vals n0) w)
  (hcont2 : ∀ (vals : Nat → Value) (w : World), C w → (∀ j, j < n0 → j ≠ e → VV l j (vals j) w) → vals e = a0.tmps.getD d undef → wpList P ops Q (os :: oe :: ops.toList.drop (n0 + 1)) (frameOf ops a0 vals n0) w) : (Code.region id ops true).wp P Q a0 w0 := by
 refine wp_region_any hm ?_
 have hf : ∀ i, L (Array.replicate ops.size false) i = false := fun i => by
  unfold L
  simp only [Array.getD_eq_getD_getElem?, Array.getElem?_replicate]
  split <;> rfl
 refine late_any hok hot hoe hos (Nat.le_of_lt (Array.getElem?_eq_some_iff.1 hos).1) hCs (fun j v w w' h g => (l.getD j (kc undef)).st v w w' h g) hob hcont hcont2 ops.size _ (fun _ => undef) a0 w0.drew ?_ ⟨by simp, fun i o _ h => (by rw [hf] at h; cases h), hC, fun j _ h => (by rw [hf] at h; cases h), fun j _ => hf j, rfl, rfl, fun t => ?_⟩
 ·
  unfold left
  rw [List.filter_eq_self.2 fun i _ => by rw [hf]; rfl]
  simp
 ·
  unfold slotS
  have : ∀ n, lastW ops (L (Array.replicate ops.size false)) t n = none := by
   intro n
   induction n with
   | zero => rfl
   | succ n ih =>
    show (if _ then _ else _) = _
    rw [if_neg (fun h => by rw [hf] at h; cases h.2)]
    exact ih
  rw [this]
end Free
end Go.Proofs.YteoledjllpgcbaaGreatDoor
