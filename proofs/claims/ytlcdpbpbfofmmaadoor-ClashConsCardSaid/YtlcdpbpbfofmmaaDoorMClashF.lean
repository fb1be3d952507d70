/- MClashF: several texts of this claim in one file. No statement of the seat is proved here. -/
import Derived.Test.YtlcdpbpbfofmmaaDoorMBase
import Derived.Test.YtlcdpbpbfofmmaaDoorClashRoots
namespace Go.Proofs.YtlcdpbpbfofmmaaDoor
set_option maxRecDepth 100000
set_option linter.unusedVariables false
open Go.RowKit

namespace Free
section late
variable {P : Program} {ops : Array Oper} {a0 : Act} {C : World → Prop} {V : Nat → Value → World → Prop} {Q : Exit → Act → World → Prop} {n0 : Nat}
def okTail (ops : Array Oper) (n0 e d : Nat) : Bool :=
  ((List.range ops.size).all fun i => decide (i < n0) || (List.range i).all fun j => (i == n0 && j == e) || pre ops i j) && ((List.range ops.size).all fun j => j == e || dstOf ops j != some d) && (dstOf ops e == some d) && decide (e < n0)
theorem okTail_pre {e d : Nat} (h : okTail ops n0 e d = true) {i : Nat} (hi : i < ops.size) (hn : n0 ≤ i) {j : Nat} (hj : j < i) : (i = n0 ∧ j = e) ∨ pre ops i j = true := by
  unfold okTail at h
  rw [Bool.and_eq_true, Bool.and_eq_true, Bool.and_eq_true] at h
  have h1 := List.all_eq_true.1 h.1.1.1 i (List.mem_range.2 hi)
  rw [Bool.or_eq_true] at h1
  rcases h1 with h1 | h1
  · have := of_decide_eq_true h1; omega
  · have h2 := List.all_eq_true.1 h1 j (List.mem_range.2 hj)
    rw [Bool.or_eq_true, Bool.and_eq_true, beq_iff_eq, beq_iff_eq] at h2
    exact h2
theorem okTail_only {e d : Nat} (h : okTail ops n0 e d = true) {j : Nat} (hj : j < ops.size) (hd : dstOf ops j = some d) : j = e := by
  unfold okTail at h
  rw [Bool.and_eq_true, Bool.and_eq_true, Bool.and_eq_true] at h
  have h1 := List.all_eq_true.1 h.1.1.2 j (List.mem_range.2 hj)
  rw [hd] at h1
  simpa using h1
theorem okTail_e {e d : Nat} (h : okTail ops n0 e d = true) : dstOf ops e = some d ∧ e < n0 := by
  unfold okTail at h
  rw [Bool.and_eq_true, Bool.and_eq_true, Bool.and_eq_true] at h
  exact ⟨by simpa using h.1.2, of_decide_eq_true h.2⟩
theorem tail_late (hok : ok ops a0.tmps.size ops.size = true) (htl : ∀ i, i < ops.size → n0 < i → ∀ j, j < i → pre ops i j = true) : ∀ (l : List Oper) (k : Nat) (listed : Array Bool) (a : Act) (w : World), n0 ≤ k → (∀ j, l[j]? = ops[k + j]?) → listed.size = ops.size → (∀ j, L listed j = decide (j < k) ∨ ops.size ≤ j) →
    wpList P ops Q l a w → wpAny P .any ops Q l.length listed a w
  | [], k, listed, a, w, hn, hl, hs, hL, h => by
    refine ⟨?_, h⟩
    rw [List.eq_nil_iff_forall_not_mem]
    intro j hj
    obtain ⟨h1, o, ho, _⟩ := (ready_iff listed hs j).1 hj
    have hjs : j < ops.size := (Array.getElem?_eq_some_iff.1 ho).1
    have hk : ops.size ≤ k := by
      have := hl 0
      simp at this
      exact this
    rcases hL j with h2 | h2
    · rw [h1] at h2
      have := of_decide_eq_false h2.symm
      omega
    · omega
  | o :: l, k, listed, a, w, hn, hl, hs, hL, h => by
    have h0 : ops[k]? = some o := by simpa using (hl 0).symm
    have hks : k < ops.size := (Array.getElem?_eq_some_iff.1 h0).1
    have hedge := ok_edges hok
    have hcl : Closed ops (L listed) := fun i o' ho' hi e he hb => by
      have h1 := (hedge i o' ho').2 e he hb
      have hil : i < ops.size := (Array.getElem?_eq_some_iff.1 ho').1
      rcases hL i with h2 | h2
      · rw [hi] at h2
        have := of_decide_eq_true h2.symm
        rcases hL e.on with h3 | h3
        · rw [h3]; exact decide_eq_true (by omega)
        · omega
      · omega
    have hkr : k ∈ Region.ready .any ops listed := (ready_iff listed hs k).2 ⟨by
      rcases hL k with h2 | h2
      · rw [h2]; exact decide_eq_false (by omega)
      · omega, o, h0, fun e he hb => by
        have h1 := (hedge k o h0).2 e he hb
        rcases hL e.on with h3 | h3
        · rw [h3]; exact decide_eq_true h1
        · omega⟩
    refine ⟨fun he => (by rw [he] at hkr; cases hkr), fun i hi => ?_⟩
    have hik : i = k := by
      obtain ⟨h1, o', ho', h2⟩ := (ready_iff listed hs i).1 hi
      have his : i < ops.size := (Array.getElem?_eq_some_iff.1 ho').1
      have hge : k ≤ i := by
        rcases hL i with h3 | h3
        · rw [h1] at h3; have := of_decide_eq_false h3.symm; omega
        · omega
      rcases Nat.eq_or_lt_of_le hge with h4 | h4
      · exact h4.symm
      · have h5 := htl i his (by omega) k h4
        have h6 := closed_pre (fun i o ho => (hedge i o ho).2) hcl i o' ho' h2 k h5
        rcases hL k with h7 | h7
        · rw [h6] at h7; have := of_decide_eq_true h7.symm; omega
        · omega
    subst hik
    have ih := fun a w (h : wpList P ops Q l a w) => tail_late hok htl l (i + 1) (listed.setIfInBounds i true) a w (by omega) (fun j => by have := hl (j + 1); simpa [Nat.add_assoc, Nat.add_comm 1 j] using this) (by simpa using hs) (fun j => by
      rw [L_set _ _ _ (by rw [hs]; exact hks)]
      by_cases hji : j = i
      · subst hji; left; rw [if_pos rfl]; exact (decide_eq_true (by omega)).symm
      · rw [if_neg hji]
        rcases hL j with h3 | h3
        · left; rw [h3]
          by_cases h4 : j < i
          · rw [decide_eq_true h4, decide_eq_true (by omega)]
          · rw [decide_eq_false h4, decide_eq_false (by omega)]
        · exact .inr h3) h
    unfold wpList at h
    unfold wpOp
    simp only [h0]
    split
    · rename_i hw
      rw [if_pos hw] at h
      rcases h with h | h
      · exact .inl (Oper.wp_mono ih h)
      · exact .inr h
    · rename_i hw
      rw [if_neg hw] at h
      exact ih _ _ h

theorem inv_step (hok : ok ops a0.tmps.size ops.size = true) (hCs : ∀ w w', C w → Grow w w' → C w') (hVs : ∀ j v w w', V j v w → Grow w w' → V j v w') {listed : Array Bool} {vals : Nat → Value} {a : Act} {w : World}
    (hI : Inv ops a0 C V n0 listed vals a w) {i : Nat} {o : Oper} (ho : ops[i]? = some o) (hun : L listed i = false) (hpre : ∀ j, pre ops i j = true → L listed j = true) (hed : ∀ e ∈ o.after, Region.binds .any e = true → L listed e.on = true) (hin : i < n0) {v : Value} {w' : World} (hv : V i v w') (hg : Grow w w') :
    Inv ops a0 C V n0 (listed.setIfInBounds i true) (fun j => if j = i then v else vals j) (a.put o.dst v) w' := by
  have hedge := ok_edges hok
  have hdst : ∀ j d, dstOf ops j = some d → d < a0.tmps.size := fun j d hd => by
    have hj : j < ops.size := by
      rcases Nat.lt_or_ge j ops.size with h | h
      · exact h
      · unfold dstOf at hd; rw [Array.getElem?_eq_none h] at hd; cases hd
    refine (ok_names hok hj (t := d) ?_).1
    unfold namesOf
    unfold dstOf at hd
    rw [Array.getElem?_eq_getElem hj] at hd ⊢
    simp only [Option.bind_some] at hd
    simp [hd]
  have his : i < ops.size := (Array.getElem?_eq_some_iff.1 ho).1
  have hd : dstOf ops i = o.dst := by unfold dstOf; rw [ho]; rfl
  have hLs := fun j => L_set listed i j (by rw [hI.sz]; exact his)
  refine ⟨by simpa using hI.sz, ?_, hCs _ _ hI.c hg, ?_, ?_, ?_, ?_, ?_⟩
  · intro j oj hoj hj e he hb
    rw [hLs] at hj ⊢
    by_cases h1 : e.on = i
    · rw [if_pos h1]
    · rw [if_neg h1]
      by_cases h2 : j = i
      · subst h2
        rw [ho] at hoj; injection hoj with hoj; subst hoj
        exact hed e he hb
      · rw [if_neg h2] at hj
        exact hI.cl j oj hoj hj e he hb
  · intro j hj hl
    rw [hLs] at hl
    by_cases h2 : j = i
    · subst h2; simpa using hv
    · rw [if_neg h2] at hl ⊢
      exact hVs _ _ _ _ (hI.v j hj hl) hg
  · intro j hj
    rw [hLs, if_neg (by omega)]
    exact hI.no j hj
  · cases o.dst <;> exact hI.df
  · cases o.dst with
    | none => exact hI.ts
    | some d => simpa [Act.put] using hI.ts
  · intro t
    have hother : ∀ (hne : o.dst ≠ some t), a.tmps.getD t undef = slotS ops a0 (fun j => if j = i then v else vals j) (L (listed.setIfInBounds i true)) ops.size t := fun hne => by
      rw [hI.sl]
      unfold slotS
      rw [lastW_congr (S := L (listed.setIfInBounds i true)) (S' := L listed) ops.size fun j hj hdj => by
        rw [hLs, if_neg (fun e => by subst e; rw [hd] at hdj; exact hne hdj)]]
      cases hlw : lastW ops (L listed) t ops.size with
      | none => rfl
      | some j =>
        have := lastW_spec ops.size hlw
        have hji : j ≠ i := fun e => by subst e; rw [hd] at this; exact hne this.1
        show vals j = if j = i then v else vals j
        rw [if_neg hji]
    cases hod : o.dst with
    | none => exact hother (by rw [hod]; simp)
    | some d =>
      rw [getD_put _ _ _ _ (by rw [hI.ts]; exact hdst i d (by rw [hd, hod]))]
      by_cases htd : t = d
      · subst htd
        rw [if_pos rfl]
        unfold slotS
        have hnm' : t ∈ namesOf ops i := by unfold namesOf; rw [ho]; exact List.mem_append_left _ (by rw [hod]; simp)
        have hk := ok_names hok his hnm'
        rw [lastW_eq (i := i + 1) ops.size his fun j hj hdj => ?_]
        · show v = match (if dstOf ops i = some t ∧ true = true then some i else _) with | some j => (if j = i then v else vals j) | none => _
          rw [if_pos ⟨by rw [hd, hod], rfl⟩]
          simp
        · rw [hLs]
          by_cases hji : j = i
          · subst hji; simp
          · rw [if_neg hji]
            have h2 := hk.2 j hj hji hdj
            constructor
            · intro hl
              rcases Nat.lt_or_ge j i with h | h
              · omega
              · exfalso
                rw [if_neg (by omega)] at h2
                obtain ⟨oj, hoj⟩ : ∃ oj, ops[j]? = some oj := ⟨_, Array.getElem?_eq_getElem hj⟩
                have h3 := closed_pre (fun i o ho => (hedge i o ho).2) hI.cl j oj hoj (hI.cl j oj hoj hl) i h2
                rw [hun] at h3; cases h3
            · intro hlt
              have hlt' : j < i := by omega
              rw [if_pos hlt'] at h2
              exact hpre j h2
      · rw [if_neg htd]
        exact hother (by rw [hod]; intro e; injection e with e; exact htd e.symm)

theorem late_any {e d : Nat} {oe os : Oper} (hok : ok ops a0.tmps.size ops.size = true) (hot : okTail ops n0 e d = true) (hoe : ops[e]? = some oe) (hos : ops[n0]? = some os) (hn0 : n0 ≤ ops.size) (hCs : ∀ w w', C w → Grow w w' → C w') (hVs : ∀ j v w w', V j v w → Grow w w' → V j v w')
    (hob : ∀ i, i < n0 → Ob P ops a0 C V i)
    (hcont : ∀ (vals : Nat → Value) (w : World), C w → (∀ j, j < n0 → V j (vals j) w) → wpList P ops Q (ops.toList.drop n0) (frameOf ops a0 vals n0) w)
    (hcont2 : ∀ (vals : Nat → Value) (w : World), C w → (∀ j, j < n0 → j ≠ e → V j (vals j) w) → vals e = a0.tmps.getD d undef → wpList P ops Q (os :: oe :: ops.toList.drop (n0 + 1)) (frameOf ops a0 vals n0) w) :
    ∀ (fuel : Nat) (listed : Array Bool) (vals : Nat → Value) (a : Act) (w : World), left ops.size listed = fuel → Inv ops a0 C V n0 listed vals a w → wpAny P .any ops Q fuel listed a w := by
  have hedge := ok_edges hok
  have hdst : ∀ j d, dstOf ops j = some d → d < a0.tmps.size := fun j d hd => by
    have hj : j < ops.size := by
      rcases Nat.lt_or_ge j ops.size with h | h
      · exact h
      · unfold dstOf at hd; rw [Array.getElem?_eq_none h] at hd; cases hd
    refine (ok_names hok hj (t := d) ?_).1
    unfold namesOf
    unfold dstOf at hd
    rw [Array.getElem?_eq_getElem hj] at hd ⊢
    simp only [Option.bind_some] at hd
    simp [hd]
  have htl : ∀ i, i < ops.size → n0 < i → ∀ j, j < i → pre ops i j = true := fun i hi hn j hj => by
    rcases okTail_pre hot hi (Nat.le_of_lt hn) hj with h | h
    · omega
    · exact h
  obtain ⟨hde, hen⟩ := okTail_e hot
  have hn0s : n0 < ops.size := (Array.getElem?_eq_some_iff.1 hos).1
  intro fuel
  induction fuel with
  | zero =>
    intro listed vals a w hf hI
    -- nothing is left: so there is no tail, and all have come up
    have hall : ∀ j, j < ops.size → L listed j = true := fun j hj => by
      cases h : L listed j with
      | true => rfl
      | false =>
        have hm : j ∈ (List.range ops.size).filter fun i => !L listed i := List.mem_filter.2 ⟨List.mem_range.2 hj, by rw [h]; rfl⟩
        have := List.length_pos_of_mem hm
        unfold left at hf
        omega
    have hn : n0 = ops.size := by
      rcases Nat.eq_or_lt_of_le hn0 with h | h
      · exact h
      · have h1 := hI.no n0 (Nat.le_refl _)
        rw [hall n0 h] at h1; cases h1
    have hfr : a = frameOf ops a0 vals n0 := by
      have h1 := frameOf_defers ops a0 vals n0
      refine act_ext (by rw [hI.df, h1.1]) (by rw [hI.ts, h1.2]) fun t ht => ?_
      rw [hI.sl, frameOf_getD ops a0 vals hdst, hn]
      unfold slotB slotS
      rw [lastW_congr ops.size fun j hj _ => hall j hj]
    have hc := hcont vals w hI.c fun j hj => hI.v j hj (hall j (by omega))
    rw [← hfr, hn, List.drop_of_length_le (by simp)] at hc
    refine ⟨?_, hc⟩
    rw [List.eq_nil_iff_forall_not_mem]
    intro j hj
    obtain ⟨h1, o, ho, _⟩ := (ready_iff listed hI.sz j).1 hj
    rw [hall j (Array.getElem?_eq_some_iff.1 ho).1] at h1
    cases h1
  | succ fuel ih =>
    intro listed vals a w hf hI
    by_cases hdone : ∀ j, j < n0 → L listed j = true
    · -- the tail
      have hfr : a = frameOf ops a0 vals n0 := by
        have h1 := frameOf_defers ops a0 vals n0
        refine act_ext (by rw [hI.df, h1.1]) (by rw [hI.ts, h1.2]) fun t ht => ?_
        rw [hI.sl, frameOf_getD ops a0 vals hdst]
        unfold slotB slotS
        rw [lastW_eq ops.size hn0 fun j hj hd => ?_]
        constructor
        · intro h
          rcases Nat.lt_or_ge j n0 with h1 | h1
          · exact h1
          · rw [hI.no j h1] at h; cases h
        · exact hdone j
      have hc := hcont vals w hI.c fun j hj => hI.v j hj (hdone j hj)
      rw [← hfr] at hc
      have hlen : (ops.toList.drop n0).length = fuel + 1 := by
        rw [← hf, List.length_drop, Array.length_toList]
        unfold left
        have e : ∀ m, ((List.range m).filter fun i => !L listed i).length = m - n0 := by
          intro m
          induction m with
          | zero => simp
          | succ m ihm =>
            rw [List.range_succ, List.filter_append, List.length_append, ihm]
            rcases Nat.lt_or_ge m n0 with h | h
            · simp [hdone m h]; omega
            · simp [hI.no m h]; omega
        rw [e]
      have := tail_late hok htl (ops.toList.drop n0) n0 listed a w (Nat.le_refl _) (fun j => by rw [List.getElem?_drop]; simp) hI.sz (fun j => by
        rcases Nat.lt_or_ge j n0 with h | h
        · left; rw [hdone j h, decide_eq_true h]
        · left; rw [hI.no j h, decide_eq_false (by omega)]) hc
      rw [hlen] at this
      exact this
    · -- an operation of the head, or the first of the tail
      have hstep : ∀ i ∈ Region.ready .any ops listed, wpOp P ops Q i (wpAny P .any ops Q fuel (listed.setIfInBounds i true)) a w := by
        intro i hi
        obtain ⟨hun, o, ho, hed⟩ := (ready_iff listed hI.sz i).1 hi
        have his : i < ops.size := (Array.getElem?_eq_some_iff.1 ho).1
        have hpre := closed_pre (fun i o ho => (hedge i o ho).2) hI.cl i o ho hed
        by_cases hin : i < n0
        rotate_left
        · -- the first of the tail, ahead of the late one
          have hi0 : i = n0 := by
            rcases Nat.eq_or_lt_of_le (Nat.le_of_not_lt hin) with h | h
            · exact h.symm
            · exfalso
              apply hdone
              intro j hj
              exact hpre j (htl i his h j (by omega))
          subst hi0
          obtain rfl : o = os := Option.some.inj (ho.symm.trans hos)
          have hall : ∀ j, j < i → j ≠ e → L listed j = true := fun j hj hje => by
            rcases okTail_pre hot his (Nat.le_refl _) hj with h | h
            · exact absurd h.2 hje
            · exact hpre j h
          have hle : L listed e = false := by
            cases h : L listed e with
            | false => rfl
            | true => exact absurd (fun j hj => if hje : j = e then hje ▸ h else hall j hj hje) hdone
          have hfr : a = frameOf ops a0 (fun j => if j = e then a0.tmps.getD d undef else vals j) i := by
            have h1 := frameOf_defers ops a0 (fun j => if j = e then a0.tmps.getD d undef else vals j) i
            refine act_ext (by rw [hI.df, h1.1]) (by rw [hI.ts, h1.2]) fun t ht => ?_
            rw [hI.sl, frameOf_getD ops a0 _ hdst]
            unfold slotB slotS
            by_cases htd : t = d
            · subst htd
              have e1 : ∀ S : Nat → Bool, ∀ m, m ≤ ops.size → (∀ j, j < m → S j = true → j ≠ e) → lastW ops S t m = none := by
                intro S m
                induction m with
                | zero => intro _ _; rfl
                | succ m ihm =>
                  intro hm hS
                  show (if _ then _ else _) = _
                  rw [if_neg (fun h => hS m (by omega) h.2 (okTail_only hot (by omega) h.1))]
                  exact ihm (by omega) (fun j hj => hS j (by omega))
              rw [e1 (L listed) ops.size (Nat.le_refl _) (fun j hj hS hje => by rw [hje, hle] at hS; cases hS)]
              cases hlw : lastW ops (fun _ => true) t i with
              | none => rfl
              | some j =>
                have := lastW_spec i hlw
                have hje : j = e := okTail_only hot (by omega) this.1
                show _ = if j = e then _ else _
                rw [if_pos hje]
            · rw [lastW_eq (i := i) ops.size (Nat.le_of_lt his) fun j hj hd => ?_]
              · cases hlw : lastW ops (fun _ => true) t i with
                | none => rfl
                | some j =>
                  have := lastW_spec i hlw
                  have hje : j ≠ e := fun h => by rw [h, hde] at this; exact htd (by injection this.1 with q; exact q.symm)
                  show vals j = if j = e then _ else vals j
                  rw [if_neg hje]
              · have hje : j ≠ e := fun h => by rw [h, hde] at hd; exact htd (by injection hd with q; exact q.symm)
                constructor
                · intro h
                  rcases Nat.lt_or_ge j i with h1 | h1
                  · exact h1
                  · rw [hI.no j h1] at h; cases h
                · exact fun h => hall j h hje
          have hc := hcont2 (fun j => if j = e then a0.tmps.getD d undef else vals j) w hI.c (fun j hj hje => by
            show V j (if j = e then _ else vals j) w
            rw [if_neg hje]; exact hI.v j hj (hall j hj hje)) (by show (if e = e then _ else _) = _; rw [if_pos rfl])
          rw [← hfr] at hc
          -- what is left behind it
          have hLs := fun j => L_set listed i j (by rw [hI.sz]; exact his)
          have hnext : ∀ a' w', wpList P ops Q (oe :: ops.toList.drop (i + 1)) a' w' → wpAny P .any ops Q fuel (listed.setIfInBounds i true) a' w' := by
            intro a' w' h
            have hfl := left_set listed ops.size i hI.sz his hun
            obtain ⟨f2, hf2⟩ : ∃ f2, fuel = f2 + 1 := by
              rcases Nat.eq_zero_or_pos fuel with h0 | h0
              · exfalso
                have h3 : left ops.size (listed.setIfInBounds i true) = 0 := by omega
                unfold left at h3
                have hm : e ∈ (List.range ops.size).filter fun j => !L (listed.setIfInBounds i true) j := List.mem_filter.2 ⟨List.mem_range.2 (by omega), by rw [hLs, if_neg (by omega), hle]; rfl⟩
                have := List.length_pos_of_mem hm
                omega
              · exact ⟨fuel - 1, by omega⟩
            have hs1 : (listed.setIfInBounds i true).size = ops.size := by simpa using hI.sz
            have hre : e ∈ Region.ready .any ops (listed.setIfInBounds i true) := (ready_iff _ hs1 e).2 ⟨by rw [hLs, if_neg (by omega)]; exact hle, oe, hoe, fun x hx hb => by
              have h1 := (hedge e oe hoe).2 x hx hb
              rw [hLs, if_neg (by omega)]
              exact hall _ (by omega) (by omega)⟩
            rw [hf2]
            refine ⟨fun he => (by rw [he] at hre; cases hre), fun k hk => ?_⟩
            have hke : k = e := by
              obtain ⟨h1, o', ho', h2⟩ := (ready_iff _ hs1 k).1 hk
              have hks : k < ops.size := (Array.getElem?_eq_some_iff.1 ho').1
              rw [hLs] at h1
              rcases Nat.lt_trichotomy k i with h3 | h3 | h3
              · rw [if_neg (by omega)] at h1
                by_cases hke : k = e
                · exact hke
                · rw [hall k h3 hke] at h1; cases h1
              · rw [if_pos h3] at h1; cases h1
              · exfalso
                have hcl : Closed ops (L (listed.setIfInBounds i true)) := fun q oq hoq hq x hx hb => by
                  have h4 := (hedge q oq hoq).2 x hx hb
                  rw [hLs] at hq ⊢
                  by_cases hqi : q = i
                  · subst hqi
                    obtain rfl : oq = o := Option.some.inj (hoq.symm.trans ho)
                    rw [if_neg (by omega)]
                    exact hed x hx hb
                  · rw [if_neg hqi] at hq
                    by_cases hxi : x.on = i
                    · rw [if_pos hxi]
                    · rw [if_neg hxi]; exact hI.cl q oq hoq hq x hx hb
                have h5 := closed_pre (fun i o ho => (hedge i o ho).2) hcl k o' ho' h2 e (htl k hks h3 e (by omega))
                rw [hLs, if_neg (by omega), hle] at h5; cases h5
            subst hke
            have ht := fun a w (h : wpList P ops Q (ops.toList.drop (i + 1)) a w) => tail_late (n0 := i) hok htl (ops.toList.drop (i + 1)) (i + 1) ((listed.setIfInBounds i true).setIfInBounds k true) a w (by omega) (fun j => by rw [List.getElem?_drop]; simp) (by simpa using hI.sz) (fun j => by
              rw [L_set _ _ _ (by rw [hs1]; omega), hLs]
              left
              by_cases h1 : j = k
              · rw [if_pos h1]; exact (decide_eq_true (by omega)).symm
              · rw [if_neg h1]
                by_cases h2 : j = i
                · rw [if_pos h2]; exact (decide_eq_true (by omega)).symm
                · rw [if_neg h2]
                  rcases Nat.lt_or_ge j i with h3 | h3
                  · rw [hall j h3 h1]; exact (decide_eq_true (by omega)).symm
                  · rw [hI.no j h3]; exact (decide_eq_false (by omega)).symm) h
            have hlen : (ops.toList.drop (i + 1)).length = f2 := by
              have hf3 : left ops.size (listed.setIfInBounds i true) = f2 + 1 := by omega
              have hf4 := left_set (listed.setIfInBounds i true) ops.size k hs1 (by omega) (by rw [hLs, if_neg (by omega)]; exact hle)
              rw [List.length_drop, Array.length_toList]
              have e2 : left ops.size ((listed.setIfInBounds i true).setIfInBounds k true) = ops.size - (i + 1) := by
                unfold left
                have e : ∀ m, ((List.range m).filter fun j => !L ((listed.setIfInBounds i true).setIfInBounds k true) j).length = m - (i + 1) := by
                  intro m
                  induction m with
                  | zero => simp
                  | succ m ihm =>
                    rw [List.range_succ, List.filter_append, List.length_append, ihm]
                    have h6 : L ((listed.setIfInBounds i true).setIfInBounds k true) m = decide (m < i + 1) := by
                      rw [L_set _ _ _ (by rw [hs1]; omega), hLs]
                      by_cases h1 : m = k
                      · rw [if_pos h1]; exact (decide_eq_true (by omega)).symm
                      · rw [if_neg h1]
                        by_cases h2 : m = i
                        · rw [if_pos h2]; exact (decide_eq_true (by omega)).symm
                        · rw [if_neg h2]
                          rcases Nat.lt_or_ge m i with h3 | h3
                          · rw [hall m h3 h1]; exact (decide_eq_true (by omega)).symm
                          · rw [hI.no m h3]; exact (decide_eq_false (by omega)).symm
                    rcases Nat.lt_or_ge m (i + 1) with h | h
                    · simp [h6, h]; omega
                    · simp [h6, Nat.not_lt.2 h]; omega
                exact e _
              omega
            rw [hlen] at ht
            unfold wpList at h
            unfold wpOp
            simp only [hoe]
            split
            · rename_i hw
              rw [if_pos hw] at h
              rcases h with h | h
              · exact .inl (Oper.wp_mono ht h)
              · exact .inr h
            · rename_i hw
              rw [if_neg hw] at h
              exact ht _ _ h
          unfold wpList at hc
          unfold wpOp
          simp only [ho]
          split
          · rename_i hw
            rw [if_pos hw] at hc
            rcases hc with hc | hc
            · exact .inl (Oper.wp_mono hnext hc)
            · exact .inr hc
          · rename_i hw
            rw [if_neg hw] at hc
            exact hnext _ _ hc
        have hnm : ∀ t, t ∈ namesOf ops i → a.tmps.getD t undef = slotB ops a0 vals i t := fun t ht => by
          rw [hI.sl]
          unfold slotB slotS
          rw [lastW_eq ops.size (Nat.le_of_lt his) fun j hj hd => ?_]
          have hk := ok_names hok his ht
          constructor
          · intro hl
            rcases Nat.lt_or_ge j i with h | h
            · exact h
            · exfalso
              have hji : j ≠ i := fun e => by rw [e, hun] at hl; cases hl
              have h2 := hk.2 j hj hji hd
              rw [if_neg (by omega)] at h2
              obtain ⟨oj, hoj⟩ : ∃ oj, ops[j]? = some oj := ⟨_, Array.getElem?_eq_getElem hj⟩
              have h3 := closed_pre (fun i o ho => (hedge i o ho).2) hI.cl j oj hoj (hI.cl j oj hoj hl) i h2
              rw [hun] at h3; cases h3
          · intro h
            have h2 := hk.2 j hj (by omega) hd
            rw [if_pos h] at h2
            exact hpre j h2
        have hlook : ∀ t, t ∈ o.looksAt ops → a.tmps.getD t undef = slotB ops a0 vals i t := fun t ht => hnm t (by unfold namesOf; rw [ho]; exact List.mem_append_right _ ht)
        have hexec : execOp a.eval o = execOp (rho ops a0 vals i) o := by
          refine execOp_congr o (hedge i o ho).1 fun x hx => ?_
          cases x with
          | tmp t => exact hlook t (by unfold Oper.looksAt; exact List.mem_append_left _ (List.mem_filterMap.2 ⟨.tmp t, by simpa using hx, rfl⟩))
          | const v => rfl
          | global g => rfl
          | func f => rfl
        have hwant : Region.wanted o (yielded ops a.tmps) = Region.wanted o (yv ops a0 vals i) := by
          unfold Region.wanted
          cases hg : o.guard with
          | none => rfl
          | some gw =>
            obtain ⟨g, want⟩ := gw
            have e : yielded ops a.tmps g = yv ops a0 vals i g := by
              unfold yielded yv
              show (match (dstOf ops g).bind (a.tmps[·]?) with | some (.bool b) => some b | _ => none) = _
              cases hd : dstOf ops g with
              | none => rfl
              | some t =>
                have ht : t ∈ o.looksAt ops := by
                  unfold Oper.looksAt
                  refine List.mem_append_right _ ?_
                  rw [hg]
                  unfold dstOf at hd
                  simp [hd]
                have h2 := hlook t ht
                have hlt : t < a.tmps.size := by rw [hI.ts]; exact hdst g t hd
                have h3 : a.tmps[t]? = some (a.tmps.getD t undef) := by simp [Array.getD_eq_getD_getElem?, hlt]
                simp only [Option.bind_some, h3, h2]
                generalize slotB ops a0 vals i t = x
                cases x <;> rfl
            simp only [e]
        -- what follows, whatever the operation has yielded
        have hnext : ∀ v w', V i v w' → Grow w w' → wpAny P .any ops Q fuel (listed.setIfInBounds i true) (a.put o.dst v) w' := fun v w' hv hg =>
          ih (listed.setIfInBounds i true) (fun j => if j = i then v else vals j) (a.put o.dst v) w' (by have := left_set listed ops.size i hI.sz his hun; omega) (inv_step hok hCs hVs hI ho hun hpre hed hin hv hg)
        have hobi := hob i hin o ho vals w hI.c (fun j hj => hI.v j (by
          have h1 := hpre j hj
          rcases Nat.lt_or_ge j n0 with h | h
          · exact h
          · rw [hI.no j h] at h1; cases h1) (hpre j hj))
        unfold wpOp
        simp only [ho]
        rcases hobi with ⟨hw, hst⟩ | ⟨hw, hu⟩
        · rw [← hwant] at hw
          rw [if_pos hw]
          rw [← hexec] at hst
          exact .inl (wp_of_step hst hnext)
        · rw [← hwant] at hw
          rw [if_neg (by rw [hw]; simp)]
          exact hnext undef w hu (Below.refl _ _)
      refine ⟨fun he => ?_, hstep⟩
      exfalso
      apply hdone
      -- the least that has not come up may come up now
      intro j
      induction j using Nat.strongRecOn with
      | _ j ihj =>
        intro hj
        cases hl : L listed j with
        | true => rfl
        | false =>
          obtain ⟨oj, hoj⟩ : ∃ oj, ops[j]? = some oj := ⟨_, Array.getElem?_eq_getElem (by omega)⟩
          have : j ∈ Region.ready .any ops listed := (ready_iff listed hI.sz j).2 ⟨hl, oj, hoj, fun e hee hb => by
            have h1 := (hedge j oj hoj).2 e hee hb
            exact ihj e.on h1 (by omega)⟩
          rw [he] at this; cases this
end late
/-- As wp_free_l; the operation e, which only reads, may come up behind the tail's first. -/
theorem wp_late_l {P : Program} {ops : Array Oper} {a0 : Act} {w0 : World} {Q : Exit → Act → World → Prop} {id : Nat} (n0 e d : Nat) (oe os : Oper) (C : World → Prop) (l : List SV)
    (hm : P.follows .mixedOrders = true) (hok : ok ops a0.tmps.size ops.size = true) (hot : okTail ops n0 e d = true) (hoe : ops[e]? = some oe) (hos : ops[n0]? = some os) (hC : C w0.drew) (hCs : ∀ w w', C w → Grow w w' → C w')
    (hob : ∀ i, i < n0 → Ob P ops a0 C (VV l) i)
    (hcont : ∀ (vals : Nat → Value) (w : World), C w → (∀ j, j < n0 → VV l j (vals j) w) → wpList P ops Q (ops.toList.drop n0) (frameOf ops a0 vals n0) w)
    (hcont2 : ∀ (vals : Nat → Value) (w : World), C w → (∀ j, j < n0 → j ≠ e → VV l j (vals j) w) → vals e = a0.tmps.getD d undef → wpList P ops Q (os :: oe :: ops.toList.drop (n0 + 1)) (frameOf ops a0 vals n0) w) : (Code.region id ops true).wp P Q a0 w0 := by
  refine wp_region_any hm ?_
  have hf : ∀ i, L (Array.replicate ops.size false) i = false := fun i => by
    unfold L
    simp only [Array.getD_eq_getD_getElem?, Array.getElem?_replicate]
    split <;> rfl
  refine late_any hok hot hoe hos (Nat.le_of_lt (Array.getElem?_eq_some_iff.1 hos).1) hCs (fun j v w w' h g => (l.getD j (kc undef)).st v w w' h g) hob hcont hcont2 ops.size _ (fun _ => undef) a0 w0.drew ?_ ⟨by simp, fun i o _ h => (by rw [hf] at h; cases h), hC, fun j _ h => (by rw [hf] at h; cases h), fun j _ => hf j, rfl, rfl, fun t => ?_⟩
  · unfold left
    rw [List.filter_eq_self.2 fun i _ => by rw [hf]; rfl]
    simp
  · unfold slotS
    have : ∀ n, lastW ops (L (Array.replicate ops.size false)) t n = none := by
      intro n
      induction n with
      | zero => rfl
      | succ n ih =>
        show (if _ then _ else _) = _
        rw [if_neg (fun h => by rw [hf] at h; cases h.2)]
        exact ih
    rw [this]
/-- The address of a block that an operation has laid: of cells xs. -/
def kA (B : Nat) (t : TypeId) (cs : Array Value) : SV := ⟨fun v w => ∃ g, v = .pointer (some ⟨g, 0, none⟩) ∧ B ≤ g ∧ Row w g cs t, fun v w w' ⟨g, h1, h2, h3⟩ h => ⟨g, h1, h2, h3.belowS h (Nat.le_refl _)⟩⟩
theorem d_alloc {P : Program} {ρ : Operand → Value} {w : World} {o : Oper} {T : TypeId} {z : Value} (ho : o.op = .alloc T) (hz : (P.info? T).map (·.zero) = some (some z)) {B : Nat} (hB : B ≤ w.heap.size) : Does P ((kA B T z.cells).p) w ρ o := by
  obtain ⟨i, hi, hzi⟩ := Option.map_eq_some_iff.1 hz
  unfold Does
  simp [execOp, ho, Instr.alloc, zeroValue, typeInfo, hi, hzi, newVar, newRow]
  exact ⟨⟨w.heap.size, rfl, hB, row_new w _ _⟩, (Below.refl _ w).alloc (Nat.le_refl _) _⟩
end Free
end Go.Proofs.YtlcdpbpbfofmmaaDoor

namespace Go.Proofs.YtlcdpbpbfofmmaaDoor
set_option maxRecDepth 100000
set_option linter.unusedVariables false
open Go.RowKit
theorem Fr.setBox {w : World} {L n c b : Nat} {A : Option Addr} {l : List UInt8} {t : TypeId} (h : Fr w L A n c l) (hrow : Row w b #[.slice none 0 0, .slice none 0 0] t) (vs : List Value) (k : Nat) : Fr (setFrom b w k vs) L A n c l := by
  refine ⟨fun hn => ?_, h.low, h.len, h.cap, h.max⟩
  obtain ⟨b1, off, rfl, hlt, hc⟩ := h.rd hn
  refine ⟨b1, off, rfl, by rw [size_setFrom]; exact hlt, fun j v hv => ?_⟩
  rw [← hc j v hv]
  refine World.cell?_of_block (heap_setFrom (fun e => ?_) vs w k)
  subst e
  have h1 := hc j v hv
  obtain ⟨x, hx⟩ : ∃ x : UInt8, v = bv x := by
    rw [List.getElem?_map] at hv
    cases hq : l[j]? with
    | none => rw [hq] at hv; cases hv
    | some x => rw [hq] at hv; injection hv with hv; exact ⟨x, hv.symm⟩
  unfold Row at hrow
  simp only [World.cell?, hrow] at h1
  subst hx
  rcases (show off + j = 0 ∨ off + j = 1 ∨ 2 ≤ off + j by omega) with h2 | h2 | h2
  · rw [h2] at h1; simp [bv] at h1
  · rw [h2] at h1; simp [bv] at h1
  · rw [Array.getElem?_eq_none (by simpa using h2)] at h1; simp at h1
set_option maxHeartbeats 16000000 in
theorem rtwo1_any (A : Option Addr) (ca : Nat) (f : Nat → Piece) (B : Option Addr) (cb : Nat) (g : Nat → Piece) (w : World) (hra : RowsAt w A 1 f) (hca : 1 ≤ ca ∧ ca ≤ maxLen) (hrb : RowsAt w B 1 g) (hcb : 1 ≤ cb ∧ cb ≤ maxLen) (hsf : (f 0).n ≤ 1000) (hsg : (g 0).n ≤ 1000) :
    Calls Tryd.prog 28 #[.slice A 1 ca, .slice B 1 cb] w (ResPost w.heap.size (Cl.btw (0 :: (f 0).l) (0 :: (g 0).l)) w) := by
  obtain ⟨hc1, hm1⟩ := hca
  obtain ⟨hc2, hm2⟩ := hcb
  rw [maxLen_eq] at hm1 hm2
  obtain ⟨li, hli⟩ : ∃ q, f 0 = q := ⟨_, rfl⟩
  obtain ⟨mi, hmi⟩ : ∃ q, g 0 = q := ⟨_, rfl⟩
  rw [hli, hmi]
  rw [hli] at hsf
  rw [hmi] at hsg
  obtain ⟨gl, ol, rfl, hgl, hcell⟩ := hra (by omega)
  obtain ⟨gm, om, rfl, hgm, hcelm⟩ := hrb (by omega)
  have hpc := (hcell 0 (by omega)).2
  have hcc := (hcell 0 (by omega)).1
  have hpm := (hcelm 0 (by omega)).2
  have hcm := (hcelm 0 (by omega)).1
  rw [hli] at hpc hcc
  rw [hmi] at hpm hcm
  have HB0 := Lib.hid (show Below w.heap.size w (w.alloc (.cells #[.slice none 0 0, .slice none 0 0] 33)) from (Below.refl _ w).alloc (Nat.le_refl _) _)
  have HROW0 := Lib.hid (row_new w #[.slice none 0 0, .slice none 0 0] 33)
  have hlt0 : w.heap.size < (w.alloc (.cells #[.slice none 0 0, .slice none 0 0] 33)).heap.size := by unfold World.alloc; simp
  obtain ⟨w1, hw1⟩ : ∃ w1, (w.alloc (.cells #[.slice none 0 0, .slice none 0 0] 33)) = w1 := ⟨_, rfl⟩
  have HW1 := Lib.hid hw1
  rw [hw1] at HB0 HROW0 hlt0
  have HLT := Lib.hid hlt0
  have HLN := Lib.hid (show (0 :: li.l).length ≤ 1000000 ∧ (0 :: mi.l).length ≤ 1000000 by rw [List.length_cons, List.length_cons, hpm.len, hpc.len]; omega)
  have QL1 := Lib.hid (show ∀ W, Below w1.heap.size w1 W → Calls Tryd.prog 26 #[.int .i64 0, .slice li.a li.n li.c] W (Ret8 W.heap.size (0 :: li.l) W) from fun W hW => (rbytes_any 0 li.a li.n li.c li.l W (Bs.keep ⟨hpc.rd, hpc.len, hpc.cap, hpc.max⟩ (bt HB0.out hW)).rd hpc.len hpc.cap hpc.max (by omega)).mono fun e w2 h => h.ret8)
  have QL2 := Lib.hid (show ∀ W, Below w1.heap.size w1 W → Calls Tryd.prog 26 #[.int .i64 0, .slice mi.a mi.n mi.c] W (Ret8 W.heap.size (0 :: mi.l) W) from fun W hW => (rbytes_any 0 mi.a mi.n mi.c mi.l W (Bs.keep ⟨hpm.rd, hpm.len, hpm.cap, hpm.max⟩ (bt HB0.out hW)).rd hpm.len hpm.cap hpm.max (by omega)).mono fun e w2 h => h.ret8)
  unfold Ret8 at QL1 QL2
  have HLC := Lib.hid (show ∀ W, Below w1.heap.size w1 W → W.cell? ⟨gl, ol, none⟩ = some (.slice li.a li.n li.c) from fun W hW => ((bt HB0.out hW).cell (p := ⟨gl, ol, none⟩) hgl).trans hcc)
  have HMC := Lib.hid (show ∀ W, Below w1.heap.size w1 W → W.cell? ⟨gm, om, none⟩ = some (.slice mi.a mi.n mi.c) from fun W hW => ((bt HB0.out hW).cell (p := ⟨gm, om, none⟩) hgm).trans hcm)
  clear hra hrb hcell hcelm hpc hcc hpm hcm hli hmi hw1 hlt0 hm1 hm2 hsf hsg
  go_enter Tryd.func28, Tryd.ntmps28
  go_wp2_with fail
  rw [HW1.out]
  refine Free.wp_free_l 11 (fun W => Below w1.heap.size w1 W) [Free.kc (.slice (some ⟨gl, ol, none⟩) 1 ca), Free.kc (.pointer (some ⟨gl, ol, none⟩)), Free.kc (.slice li.a li.n li.c), Free.kB (w1.heap.size) (0 :: li.l), Free.kc (.slice (some ⟨gm, om, none⟩) 1 cb), Free.kc (.pointer (some ⟨gm, om, none⟩)), Free.kc (.slice mi.a mi.n mi.c), Free.kB (w1.heap.size) (0 :: mi.l), Free.kR (w1.heap.size) (Cl.btw (0 :: li.l) (0 :: mi.l)), Free.kG (w1.heap.size) (Cl.btw (0 :: li.l) (0 :: mi.l)), Free.kc (.bool (Cl.btw (0 :: li.l) (0 :: mi.l)).isSome)] (by kernel_rfl) (by kernel_rfl) (by decide) (Below.refl _ _).drew (fun w w' h g => bt h g) ?_ ?_
  · refine Free.forall_succ (Free.forall_succ (Free.forall_succ (Free.forall_succ (Free.forall_succ (Free.forall_succ (Free.forall_succ (Free.forall_succ (Free.forall_succ (Free.forall_succ (Free.forall_succ (Free.forall_zero) ?_) ?_) ?_) ?_) ?_) ?_) ?_) ?_) ?_) ?_) ?_
    · exact Free.ob_plain _ rfl rfl fun vals wq hC hd => (by exact Free.d_move rfl (by kernel_rfl) rfl)
    · exact Free.ob_plain _ rfl rfl fun vals wq hC hd => (by exact Free.d_indexAddr rfl (Eq.trans (b := vals 0) (by kernel_rfl) (hd 0 (by kernel_rfl))) (show _ = (Value.int .i64 0) from rfl) (run_idx 22 Tryd.underlying22 (by kernel_rfl) gl ol 1 ca 0 _ (by omega) (by omega)) rfl)
    · exact Free.ob_plain _ rfl rfl fun vals wq hC hd => (by exact Free.d_load rfl (Eq.trans (b := vals 1) (by kernel_rfl) (hd 1 (by kernel_rfl))) (by have hcc := HLC.out wq hC; go_simp) rfl)
    · exact Free.ob_plain _ rfl rfl fun vals wq hC hd => (by exact Free.d_call Tryd.func26 (by kernel_rfl) (by kernel_rfl) rfl rfl (Free.arg2 (show _ = (Value.int .i64 0) from rfl) (Eq.trans (b := vals 2) (by kernel_rfl) (hd 2 (by kernel_rfl)))) ((QL1.out wq hC).mono fun e w2 h => (by obtain ⟨A1, n1, c1, he, ho, hb⟩ := h; exact ⟨_, he, ⟨A1, n1, c1, rfl, ho.base hC.size⟩, hb⟩)))
    · exact Free.ob_plain _ rfl rfl fun vals wq hC hd => (by exact Free.d_move rfl (by kernel_rfl) rfl)
    · exact Free.ob_plain _ rfl rfl fun vals wq hC hd => (by exact Free.d_indexAddr rfl (Eq.trans (b := vals 4) (by kernel_rfl) (hd 4 (by kernel_rfl))) (show _ = (Value.int .i64 0) from rfl) (run_idx 22 Tryd.underlying22 (by kernel_rfl) gm om 1 cb 0 _ (by omega) (by omega)) rfl)
    · exact Free.ob_plain _ rfl rfl fun vals wq hC hd => (by exact Free.d_load rfl (Eq.trans (b := vals 5) (by kernel_rfl) (hd 5 (by kernel_rfl))) (by have hcc := HMC.out wq hC; go_simp) rfl)
    · exact Free.ob_plain _ rfl rfl fun vals wq hC hd => (by exact Free.d_call Tryd.func26 (by kernel_rfl) (by kernel_rfl) rfl rfl (Free.arg2 (show _ = (Value.int .i64 0) from rfl) (Eq.trans (b := vals 6) (by kernel_rfl) (hd 6 (by kernel_rfl)))) ((QL2.out wq hC).mono fun e w2 h => (by obtain ⟨A1, n1, c1, he, ho, hb⟩ := h; exact ⟨_, he, ⟨A1, n1, c1, rfl, ho.base hC.size⟩, hb⟩)))
    · exact Free.ob_plain _ rfl rfl fun vals wq hC hd => (by obtain ⟨A3, n3, k3, e3, ow3⟩ := hd 3 (by kernel_rfl); obtain ⟨A7, n7, k7, e7, ow7⟩ := hd 7 (by kernel_rfl); exact Free.d_call Tryd.func25 (by kernel_rfl) (by kernel_rfl) rfl rfl (Free.arg2 (Eq.trans (b := vals 3) (by kernel_rfl) e3) (Eq.trans (b := vals 7) (by kernel_rfl) e7)) ((rbetw_any w1.heap.size A3 n3 k3 A7 n7 k7 (0 :: li.l) (0 :: mi.l) wq hC.size (Fr.of8 ow3) (by rw [← (Fr.of8 ow3).len]; exact HLN.out.1) (Fr.of8 ow7) (by rw [← (Fr.of8 ow7).len]; exact HLN.out.2)).mono fun e w2 h => (by obtain ⟨A7, n7, c7, B7, m7, k7, he, h1, h2, hb⟩ := h; exact ⟨_, he, ⟨_, rfl, ⟨A7, n7, c7, B7, m7, k7, rfl, h1, h2⟩⟩, hb⟩)))
    · exact Free.ob_plain _ rfl rfl fun vals wq hC hd => (by obtain ⟨v8, e8, pd8⟩ := hd 8 (by kernel_rfl); exact (by obtain ⟨A7, n7, c7, B7, m7, k7, he7, h1, h2⟩ := pd8; exact Free.d_extract rfl (Eq.trans (Eq.trans (b := vals 8) (by kernel_rfl) e8) he7) (by first | rfl | (go_simp; done)) ⟨_, rfl, ⟨A7, n7, c7, B7, m7, k7, rfl, h1, h2⟩⟩))
    · exact Free.ob_plain _ rfl rfl fun vals wq hC hd => (by obtain ⟨v8, e8, pd8⟩ := hd 8 (by kernel_rfl); exact (by obtain ⟨A7, n7, c7, B7, m7, k7, he7, h1, h2⟩ := pd8; exact Free.d_extract rfl (Eq.trans (Eq.trans (b := vals 8) (by kernel_rfl) e8) he7) (by first | rfl | (go_simp; done)) rfl))
  · intro vals wq hC hd
    have e0 : vals 0 = (.slice (some ⟨gl, ol, none⟩) 1 ca) := hd 0 (by decide)
    have e1 : vals 1 = (.pointer (some ⟨gl, ol, none⟩)) := hd 1 (by decide)
    have e2 : vals 2 = (.slice li.a li.n li.c) := hd 2 (by decide)
    obtain ⟨A3, n3, k3, e3, ow3⟩ := hd 3 (by decide)
    have e4 : vals 4 = (.slice (some ⟨gm, om, none⟩) 1 cb) := hd 4 (by decide)
    have e5 : vals 5 = (.pointer (some ⟨gm, om, none⟩)) := hd 5 (by decide)
    have e6 : vals 6 = (.slice mi.a mi.n mi.c) := hd 6 (by decide)
    obtain ⟨A7, n7, k7, e7, ow7⟩ := hd 7 (by decide)
    obtain ⟨v8, e8, pd8⟩ := hd 8 (by decide)
    obtain ⟨v9, e9, pd9⟩ := hd 9 (by decide)
    have e10 : vals 10 = (.bool (Cl.btw (0 :: li.l) (0 :: mi.l)).isSome) := hd 10 (by decide)
    simp only [Free.frameOf, List.range, List.range.loop, List.foldl, Free.dstOf, List.getElem?_toArray, List.getElem?_cons_zero, List.getElem?_cons_succ, Option.bind_some, Act.put, List.setIfInBounds_toArray, List.set_cons_zero, List.set_cons_succ, e0, e1, e2, e3, e4, e5, e6, e7, e8, e9, e10]
    clear hd e0 e1 e2 e3 e4 e5 e6 e7 e8 e9 e10
    obtain ⟨A9, n9, c9, B9, m9, k9, rfl, hf1, hf2⟩ := pd9
    clear ow3 ow7
    have hres := Row.belowS HROW0.out hC (Nat.le_refl _)
    have x0 := hres.cellQ 0 _ rfl
    have x1 := hres.cellQ 1 _ rfl
    have f0 := hres.frozen 0
    have f1 := hres.frozen 1
    have HROWF := Lib.hid (show ∀ u v, Row (setFrom w.heap.size wq 0 [u, v]) w.heap.size #[u, v] 33 from fun u v => hres.all [u, v] rfl)
    have HFF := Lib.hid (And.intro (hf1) (hf2))
    clear hres
    go_wp2
    generalize hwd : World.setCell (World.setCell wq _ _) _ _ = wd
    have hsf : setFrom w.heap.size wq 0 [.slice A9 n9 c9, .slice B9 m9 k9] = wd := by rw [← hwd]; rfl
    have r0 : wd.cell? ⟨w.heap.size, 0, none⟩ = some (.slice A9 n9 c9) := by rw [← hsf]; exact (HROWF.out _ _).cellQ 0 _ rfl
    have r1 : wd.cell? ⟨w.heap.size, 1, none⟩ = some (.slice B9 m9 k9) := by rw [← hsf]; exact (HROWF.out _ _).cellQ 1 _ rfl
    refine bodyPost_ret (v := .tuple #[.agg #[.slice A9 n9 c9, .slice B9 m9 k9], .bool (Cl.btw (0 :: li.l) (0 :: mi.l)).isSome]) (by simp [results, Tryd.results28, go_sem, r0, r1]) rfl ?_
    exact ⟨A9, n9, c9, B9, m9, k9, rfl, by rw [← hsf]; exact (HFF.out.1.set HLT.out _ 0).base (Nat.le_of_lt HLT.out), by rw [← hsf]; exact (HFF.out.2.set HLT.out _ 0).base (Nat.le_of_lt HLT.out), by rw [← hsf]; exact below_setFrom (Nat.le_refl _) _ 0 (bt HB0.out hC)⟩
set_option maxHeartbeats 32000000 in
theorem rtwo_any : ∀ (q : Nat) (A : Option Addr) (n ca : Nat) (f : Nat → Piece) (B : Option Addr) (cb : Nat) (g : Nat → Piece) (w : World), n ≤ q → 1 ≤ n → n ≤ 300 → RowsAt w A n f → (n ≤ ca ∧ ca ≤ maxLen) → RowsAt w B n g → (n ≤ cb ∧ cb ≤ maxLen) →
    (∀ i, i < n → (f i).n ≤ 1000) → (∀ i, i < n → (g i).n ≤ 1000) →
    Calls Tryd.prog 28 #[.slice A n ca, .slice B n cb] w (ResPost w.heap.size (Cl.tw q (raws f n) (raws g n)) w)
  | 0, A, n, ca, f, B, cb, g, w, hq, h1, hn, hra, hca, hrb, hcb, hsf, hsg => by omega
  | q + 1, A, n, ca, f, B, cb, g, w, hq, h1, hn, hra, hca, hrb, hcb, hsf, hsg => by
    by_cases e1 : n = 1
    · subst e1
      have := rtwo1_any A ca f B cb g w hra hca hrb hcb (hsf 0 (by omega)) (hsg 0 (by omega))
      rw [show Cl.tw (q + 1) (raws f 1) (raws g 1) = Cl.btw (0 :: (f 0).l) (0 :: (g 0).l) by rw [Cl.tw, raws_len, if_pos (by omega)]; rfl]
      exact this
    have h2 : 2 ≤ n := by omega
    have hb1 : ((n : Int) == 1) = false := beq_eq_false_iff_ne.2 (by omega)
    obtain ⟨k0, hk⟩ : ∃ k0, Tree.sp n = k0 := ⟨_, rfl⟩
    have kp := Tree.sp_pos h2
    have kl := Tree.sp_lt h2
    rw [hk] at kp kl
    have HSP := Lib.hid (show Tree.spz (n : Int) = k0 by rw [Tree.spz_in h2 (by omega), hk])
    have HB0 := Lib.hid (show Below w.heap.size w (w.alloc (.cells #[.slice none 0 0, .slice none 0 0] 33)) from (Below.refl _ w).alloc (Nat.le_refl _) _)
    have HROW0 := Lib.hid (row_new w #[.slice none 0 0, .slice none 0 0] 33)
    have hlt0 : w.heap.size < (w.alloc (.cells #[.slice none 0 0, .slice none 0 0] 33)).heap.size := by unfold World.alloc; simp
    obtain ⟨w1, hw1⟩ : ∃ w1, (w.alloc (.cells #[.slice none 0 0, .slice none 0 0] 33)) = w1 := ⟨_, rfl⟩
    have HW1 := Lib.hid hw1
    rw [hw1] at HB0 HROW0 hlt0
    have HLT := Lib.hid hlt0
    obtain ⟨X, hX⟩ : ∃ X, tleaves f n = X := ⟨_, rfl⟩
    obtain ⟨Y, hY⟩ : ∃ Y, tleaves g n = Y := ⟨_, rfl⟩
    have hX32 : ∀ s ∈ X, s.length = 32 := by rw [← hX, raws_lv]; exact Cl.lv_all _
    have hY32 : ∀ s ∈ Y, s.length = 32 := by rw [← hY, raws_lv]; exact Cl.lv_all _
    have hXl : X.length = n := by rw [← hX]; simp [tleaves]
    have hYl : Y.length = n := by rw [← hY]; simp [tleaves]
    obtain ⟨TA, hTA⟩ : ∃ T, Cl.topB X = T := ⟨_, rfl⟩
    obtain ⟨TB, hTB⟩ : ∃ T, Cl.topB Y = T := ⟨_, rfl⟩
    have hTAl : TA.length ≤ 1000 := by rw [← hTA]; exact topB_le hX32
    have hTBl : TB.length ≤ 1000 := by rw [← hTB]; exact topB_le hY32
    obtain ⟨r0, hr0⟩ : ∃ r, Cl.btw TA TB = r := ⟨_, rfl⟩
    obtain ⟨r1, hr1⟩ : ∃ r, Cl.tw q (raws f k0) (raws g k0) = r := ⟨_, rfl⟩
    obtain ⟨r2, hr2⟩ : ∃ r, Cl.tw q (raws (fun j => f (k0 + j)) (n - k0)) (raws (fun j => g (k0 + j)) (n - k0)) = r := ⟨_, rfl⟩
    have HE := Lib.hid (show Cl.tw (q + 1) (raws f n) (raws g n) = r0.or (r1.or r2) by
      rw [Cl.tw, raws_len, if_neg (by omega), hk, raws_take f n k0 (by omega), raws_take g n k0 (by omega), raws_drop, raws_drop, ← raws_lv, ← raws_lv, hX, hY, hTA, hTB, hr0, hr1, hr2])
    have CVA := Lib.hid (show ∀ W, Below w.heap.size w W → Calls Tryd.prog 16 #[.slice A n ca] W (OwnSPost W.heap.size X W) from fun W hW => by rw [← hX]; exact rleaves_any A n ca f W (hra.keep hW) hca.1 hca.2 (by omega) (fun i hi => by have := hsf i hi; omega))
    have CVB := Lib.hid (show ∀ W, Below w.heap.size w W → Calls Tryd.prog 16 #[.slice B n cb] W (OwnSPost W.heap.size Y W) from fun W hW => by rw [← hY]; exact rleaves_any B n cb g W (hrb.keep hW) hcb.1 hcb.2 (by omega) (fun i hi => by have := hsg i hi; omega))
    unfold OwnSPost at CVA CVB
    have CTA := Lib.hid (show ∀ (L : Nat) (A' : Option Addr) (n' c' : Nat) (W : World), OwnS W L A' n' c' X → Calls Tryd.prog 45 #[.slice A' n' c'] W (Ret8 W.heap.size TA W) from fun L A' n' c' W h => by
      have := rtop_any A' n' c' X W h.ss hX32 (by have := h.len; omega) (by have := h.len; omega)
      rw [hTA] at this
      exact this)
    have CTB := Lib.hid (show ∀ (L : Nat) (A' : Option Addr) (n' c' : Nat) (W : World), OwnS W L A' n' c' Y → Calls Tryd.prog 45 #[.slice A' n' c'] W (Ret8 W.heap.size TB W) from fun L A' n' c' W h => by
      have := rtop_any A' n' c' Y W h.ss hY32 (by have := h.len; omega) (by have := h.len; omega)
      rw [hTB] at this
      exact this)
    unfold Ret8 at CTA CTB
    have CB := Lib.hid (fun (L : Nat) (A : Option Addr) (n c : Nat) (B : Option Addr) (m' k' : Nat) (W : World) (hL : L ≤ W.heap.size) (hA : Fr W L A n c TA) (hB : Fr W L B m' k' TB) => by
      have := rbetw_any L A n c B m' k' TA TB W hL hA (by rw [← hA.len]; omega) hB (by rw [← hB.len]; omega)
      rw [hr0] at this
      exact this)
    have HRA := Lib.hid (show ∀ W, Below w.heap.size w W → RowsAt W A n f from fun W hW => hra.keep hW)
    have HRB := Lib.hid (show ∀ W, Below w.heap.size w W → RowsAt W B n g from fun W hW => hrb.keep hW)
    have IHL := Lib.hid (show ∀ (A' : Option Addr) (ca' : Nat) (B' : Option Addr) (cb' : Nat) (W : World), Below w.heap.size w W → RowsAt W A' k0 f → (k0 ≤ ca' ∧ ca' ≤ maxLen) → RowsAt W B' k0 g → (k0 ≤ cb' ∧ cb' ≤ maxLen) → Calls Tryd.prog 28 #[.slice A' k0 ca', .slice B' k0 cb'] W (ResPost W.heap.size r1 W) from fun A' ca' B' cb' W hW g1 g2 g3 g4 => by
      have := rtwo_any q A' k0 ca' f B' cb' g W (by omega) (by omega) (by omega) g1 g2 g3 g4 (fun i hi => hsf i (by omega)) (fun i hi => hsg i (by omega))
      rw [hr1] at this
      exact this)
    have IHR := Lib.hid (show ∀ (A' : Option Addr) (ca' : Nat) (B' : Option Addr) (cb' : Nat) (W : World), Below w.heap.size w W → RowsAt W A' (n - k0) (fun j => f (k0 + j)) → (n - k0 ≤ ca' ∧ ca' ≤ maxLen) → RowsAt W B' (n - k0) (fun j => g (k0 + j)) → (n - k0 ≤ cb' ∧ cb' ≤ maxLen) → Calls Tryd.prog 28 #[.slice A' (n - k0) ca', .slice B' (n - k0) cb'] W (ResPost W.heap.size r2 W) from fun A' ca' B' cb' W hW g1 g2 g3 g4 => by
      have := rtwo_any q A' (n - k0) ca' (fun j => f (k0 + j)) B' cb' (fun j => g (k0 + j)) W (by omega) (by omega) (by omega) g1 g2 g3 g4 (fun i hi => hsf _ (by omega)) (fun i hi => hsg _ (by omega))
      rw [hr2] at this
      exact this)
    have HK := Lib.hid (And.intro hca hcb)
    have HK0 := Lib.hid (show k0 ≤ n by omega)
    obtain ⟨hc1, hm1⟩ := hca
    obtain ⟨hc2, hm2⟩ := hcb
    have HK2L := Lib.hid (show (k0 ≤ ca ∧ ca ≤ maxLen) ∧ (k0 ≤ cb ∧ cb ≤ maxLen) from ⟨⟨by omega, hm1⟩, ⟨by omega, hm2⟩⟩)
    have HK2R := Lib.hid (show (n - k0 ≤ ca - k0 ∧ ca - k0 ≤ maxLen) ∧ (n - k0 ≤ cb - k0 ∧ cb - k0 ≤ maxLen) from ⟨⟨by omega, by omega⟩, ⟨by omega, by omega⟩⟩)
    rw [maxLen_eq] at hm1 hm2
    clear hra hrb hsf hsg hX hY hX32 hY32 hXl hYl hTA hTB hTAl hTBl hr0 hr1 hr2 hk hw1 hlt0
    go_enter Tryd.func28, Tryd.ntmps28
    go_wp2_with fail
    rw [HW1.out]
    refine (CVA.out w1 HB0.out).mono ?_
    rintro e w3 ⟨Ad, nd, cd, rfl, ho3, hb3⟩
    have HB3 := Lib.hid hb3
    have HO3 := Lib.hid ho3
    clear hb3 ho3
    go_wp2_with fail
    refine (CTA.out _ Ad nd cd w3 HO3.out).mono ?_
    rintro e w4 ⟨At, nt, ct, rfl, ho4, hb4⟩
    have HO4 := Lib.hid (ho4.base HB3.out.size)
    have HB4 := Lib.hid (bt HB3.out hb4)
    clear hb4 ho4
    go_wp2_with fail
    refine (CVB.out w4 (bt HB0.out HB4.out)).mono ?_
    rintro e w5 ⟨Ae, ne, ce, rfl, ho5, hb5⟩
    have HO5 := Lib.hid ho5
    have HP5 := Lib.hid (HO4.out.keep hb5)
    have HB5 := Lib.hid (bt HB4.out hb5)
    clear hb5 ho5
    go_wp2_with fail
    refine (CTB.out _ Ae ne ce w5 HO5.out).mono ?_
    rintro e w6 ⟨Au, nu, cu, rfl, ho6, hb6⟩
    have HO6 := Lib.hid (ho6.base HB5.out.size)
    have HP6 := Lib.hid (HP5.out.keep hb6)
    have HB6 := Lib.hid (bt HB5.out hb6)
    clear hb6 ho6
    go_wp2_with fail
    refine (CB.out w1.heap.size At nt ct Au nu cu w6 HB6.out.size (Fr.of8 HP6.out) (Fr.of8 HO6.out)).mono ?_
    rintro e w8 ⟨A7, n7, c7, B7, m7, k7, rfl, hf1, hf2, hb8⟩
    have HF := Lib.hid (And.intro hf1 hf2)
    have HB8 := Lib.hid (bt HB6.out hb8)
    clear hf1 hf2 hb8
    have hb9 : Below w8.heap.size w8 (w8.alloc (.cells #[.slice A7 n7 c7, .slice B7 m7 k7] 33)) := (Below.refl _ w8).alloc (Nat.le_refl _) _
    have HB9 := Lib.hid (bt HB8.out hb9)
    cases r0 with
    | some r =>
      have hbox := row_new w8 #[.slice A7 n7 c7, .slice B7 m7 k7] 33
      have y0 := hbox.cellQ 0 _ rfl
      have y1 := hbox.cellQ 1 _ rfl
      clear hbox
      have hres := Row.belowS HROW0.out HB9.out (Nat.le_refl _)
      have x0 := hres.cellQ 0 _ rfl
      have x1 := hres.cellQ 1 _ rfl
      have f0 := hres.frozen 0
      have f1 := hres.frozen 1
      have HROWF := Lib.hid (show ∀ u v, Row (setFrom w.heap.size (w8.alloc (.cells #[.slice A7 n7 c7, .slice B7 m7 k7] 33)) 0 [u, v]) w.heap.size #[u, v] 33 from fun u v => hres.all [u, v] rfl)
      have HFF := Lib.hid (And.intro (HF.out.1.keep hb9) (HF.out.2.keep hb9))
      clear hres
      go_wp2
      generalize hwd : World.setCell (World.setCell (w8.alloc (.cells #[.slice A7 n7 c7, .slice B7 m7 k7] 33)) _ _) _ _ = wd
      have hsf : setFrom w.heap.size (w8.alloc (.cells #[.slice A7 n7 c7, .slice B7 m7 k7] 33)) 0 [.slice A7 n7 c7, .slice B7 m7 k7] = wd := by rw [← hwd]; rfl
      have r0 : wd.cell? ⟨w.heap.size, 0, none⟩ = some (.slice A7 n7 c7) := by rw [← hsf]; exact (HROWF.out _ _).cellQ 0 _ rfl
      have r1 : wd.cell? ⟨w.heap.size, 1, none⟩ = some (.slice B7 m7 k7) := by rw [← hsf]; exact (HROWF.out _ _).cellQ 1 _ rfl
      refine bodyPost_ret (v := .tuple #[.agg #[.slice A7 n7 c7, .slice B7 m7 k7], .bool true]) (by simp [results, Tryd.results28, go_sem, r0, r1]) rfl ?_
      rw [HE.out]
      exact ⟨A7, n7, c7, B7, m7, k7, rfl, by rw [← hsf]; exact (HFF.out.1.set HLT.out _ 0).base (Nat.le_of_lt HLT.out), by rw [← hsf]; exact (HFF.out.2.set HLT.out _ 0).base (Nat.le_of_lt HLT.out), by rw [← hsf]; exact below_setFrom (Nat.le_refl _) _ 0 (bt HB0.out HB9.out)⟩
    | none =>
      clear hb9
      obtain ⟨wy, hwy⟩ : ∃ wy, (w8.alloc (.cells #[.slice A7 n7 c7, .slice B7 m7 k7] 33)) = wy := ⟨_, rfl⟩
      rw [hwy] at HB9
      have HWY := Lib.hid hwy
      have HBY := Lib.hid (bt HB0.out HB9.out)
      have HSZ := Lib.hid (show w1.heap.size ≤ w1.heap.size from Nat.le_refl _)
      clear hwy
      go_wp2_with fail
      rw [HWY.out]
      refine (rsplit_any (n : Int) wy (by omega) (by omega)).mono ?_
      rintro e wz ⟨rfl, rfl⟩
      rw [HSP.out]
      have HSZ := Lib.hid (show w1.heap.size ≤ wy.heap.size from HB9.out.size)
      have HRAy := Lib.hid (fun (W : World) (hW : Below wy.heap.size wy W) => HRA.out W (bt HBY.out hW))
      have HRBy := Lib.hid (fun (W : World) (hW : Below wy.heap.size wy W) => HRB.out W (bt HBY.out hW))
      go_wp2_with fail
      refine Free.wp_late_l 11 9 49 _ _ (fun W => Below wy.heap.size wy W) [Free.kc (.slice A n ca), Free.kc (.int .i64 (k0 : Int)), Free.kr (k0) (((List.range n).map fun i => pv (f i)).take k0), Free.kc (.slice B n cb), Free.kc (.int .i64 (k0 : Int)), Free.kr (k0) (((List.range n).map fun i => pv (g i)).take k0), Free.kR (w1.heap.size) (r1), Free.kR (w1.heap.size) (r1), Free.kG (w1.heap.size) (r1), Free.kc (.bool (r1).isSome), Free.kA (w1.heap.size) (33) (#[.slice none 0 0, .slice none 0 0])] (by kernel_rfl) (by kernel_rfl) (by kernel_rfl) rfl rfl (Below.refl _ _).drew (fun w w' h g => bt h g) ?_ ?_ ?_
      · refine Free.forall_succ (Free.forall_succ (Free.forall_succ (Free.forall_succ (Free.forall_succ (Free.forall_succ (Free.forall_succ (Free.forall_succ (Free.forall_succ (Free.forall_succ (Free.forall_succ (Free.forall_zero) ?_) ?_) ?_) ?_) ?_) ?_) ?_) ?_) ?_) ?_) ?_
        · exact Free.ob_plain _ rfl rfl fun vals wq hC hd => (by exact Free.d_move rfl (by kernel_rfl) rfl)
        · exact Free.ob_plain _ rfl rfl fun vals wq hC hd => (by exact Free.d_move rfl (by kernel_rfl) rfl)
        · exact Free.ob_plain _ rfl rfl fun vals wq hC hd => (by exact (by obtain ⟨A', hrun, hss⟩ := run_cutR_hi (rows_rd (HRAy.out wq hC)) (by simp) HK.out.1.1 k0 HK0.out; exact Free.d_slice rfl (Eq.trans (b := vals 0) (by kernel_rfl) (hd 0 (by kernel_rfl))) rfl (show _ = some (Value.int .i64 (k0 : Int)) from congrArg some (Eq.trans (b := vals 1) (by kernel_rfl) (hd 1 (by kernel_rfl)))) rfl hrun ⟨A', ca, rfl, hss, HK2L.out.1.1, HK2L.out.1.2⟩))
        · exact Free.ob_plain _ rfl rfl fun vals wq hC hd => (by exact Free.d_move rfl (by kernel_rfl) rfl)
        · exact Free.ob_plain _ rfl rfl fun vals wq hC hd => (by exact Free.d_move rfl (by kernel_rfl) rfl)
        · exact Free.ob_plain _ rfl rfl fun vals wq hC hd => (by exact (by obtain ⟨A', hrun, hss⟩ := run_cutR_hi (rows_rd (HRBy.out wq hC)) (by simp) HK.out.2.1 k0 HK0.out; exact Free.d_slice rfl (Eq.trans (b := vals 3) (by kernel_rfl) (hd 3 (by kernel_rfl))) rfl (show _ = some (Value.int .i64 (k0 : Int)) from congrArg some (Eq.trans (b := vals 4) (by kernel_rfl) (hd 4 (by kernel_rfl)))) rfl hrun ⟨A', cb, rfl, hss, HK2L.out.2.1, HK2L.out.2.2⟩))
        · exact Free.ob_plain _ rfl rfl fun vals wq hC hd => (by obtain ⟨A2, k2, e2, rd2, le2, mx2⟩ := hd 2 (by kernel_rfl); obtain ⟨A5, k5, e5, rd5, le5, mx5⟩ := hd 5 (by kernel_rfl); exact Free.d_call Tryd.func28 (by kernel_rfl) (by kernel_rfl) rfl rfl (Free.arg2 (Eq.trans (b := vals 2) (by kernel_rfl) e2) (Eq.trans (b := vals 5) (by kernel_rfl) e5)) ((IHL.out A2 k2 A5 k5 wq (bt HBY.out hC) (rd_rows rd2 (fun i hi => by rw [List.getElem?_take_of_lt hi, List.getElem?_map, List.getElem?_range (by omega)]; rfl) (fun i hi => rows_pc (HRAy.out wq hC) (by omega))) ⟨le2, mx2⟩ (rd_rows rd5 (fun i hi => by rw [List.getElem?_take_of_lt hi, List.getElem?_map, List.getElem?_range (by omega)]; rfl) (fun i hi => rows_pc (HRBy.out wq hC) (by omega))) ⟨le5, mx5⟩).mono fun e w2 h => (by obtain ⟨A7, n7, c7, B7, m7, k7, he, h1, h2, hb⟩ := h; exact ⟨_, he, ⟨_, rfl, ⟨A7, n7, c7, B7, m7, k7, rfl, h1.base (Nat.le_trans HSZ.out hC.size), h2.base (Nat.le_trans HSZ.out hC.size)⟩⟩, hb⟩)))
        · exact Free.ob_plain _ rfl rfl fun vals wq hC hd => (by obtain ⟨v6, e6, pd6⟩ := hd 6 (by kernel_rfl); exact Free.d_move rfl (Eq.trans (b := vals 6) (by kernel_rfl) e6) ⟨_, rfl, pd6⟩)
        · exact Free.ob_plain _ rfl rfl fun vals wq hC hd => (by obtain ⟨v7, e7, pd7⟩ := hd 7 (by kernel_rfl); exact (by obtain ⟨A7, n7, c7, B7, m7, k7, he7, h1, h2⟩ := pd7; exact Free.d_extract rfl (Eq.trans (Eq.trans (b := vals 7) (by kernel_rfl) e7) he7) (by first | rfl | (go_simp; done)) ⟨_, rfl, ⟨A7, n7, c7, B7, m7, k7, rfl, h1, h2⟩⟩))
        · exact Free.ob_plain _ rfl rfl fun vals wq hC hd => (by obtain ⟨v7, e7, pd7⟩ := hd 7 (by kernel_rfl); exact (by obtain ⟨A7, n7, c7, B7, m7, k7, he7, h1, h2⟩ := pd7; exact Free.d_extract rfl (Eq.trans (Eq.trans (b := vals 7) (by kernel_rfl) e7) he7) (by first | rfl | (go_simp; done)) rfl))
        · exact Free.ob_plain _ rfl rfl fun vals wq hC hd => (by exact Free.d_alloc (z := .agg #[.slice none 0 0, .slice none 0 0]) rfl (by kernel_rfl) (Nat.le_trans HSZ.out hC.size))
      · intro vals wq hC hd
        have e0 : vals 0 = (.slice A n ca) := hd 0 (by decide)
        have e1 : vals 1 = (.int .i64 (k0 : Int)) := hd 1 (by decide)
        obtain ⟨A2, k2, e2, rd2, le2, mx2⟩ := hd 2 (by decide)
        have e3 : vals 3 = (.slice B n cb) := hd 3 (by decide)
        have e4 : vals 4 = (.int .i64 (k0 : Int)) := hd 4 (by decide)
        obtain ⟨A5, k5, e5, rd5, le5, mx5⟩ := hd 5 (by decide)
        obtain ⟨v6, e6, pd6⟩ := hd 6 (by decide)
        obtain ⟨v7, e7, pd7⟩ := hd 7 (by decide)
        obtain ⟨v8, e8, pd8⟩ := hd 8 (by decide)
        have e9 : vals 9 = (.bool (r1).isSome) := hd 9 (by decide)
        obtain ⟨g10, e10, ge10, rw10⟩ := hd 10 (by decide)
        simp only [Free.frameOf, List.range, List.range.loop, List.foldl, Free.dstOf, List.getElem?_toArray, List.getElem?_cons_zero, List.getElem?_cons_succ, Option.bind_some, Act.put, List.setIfInBounds_toArray, List.set_cons_zero, List.set_cons_succ, e0, e1, e2, e3, e4, e5, e6, e7, e8, e9, e10]
        clear hd e0 e1 e2 e3 e4 e5 e6 e7 e8 e9 e10
        obtain ⟨A7x, n7x, c7x, B7x, m7x, k7x, rfl, hf1, hf2⟩ := pd8
        obtain ⟨Az, nz, cz, Bz, mz, kz, rfl, _, _⟩ := pd7
        have HFQ := Lib.hid (And.intro hf1 hf2)
        have HBQ := Lib.hid (bt HB9.out hC)
        have x0 := rw10.cellQ 0 _ rfl
        have x1 := rw10.cellQ 1 _ rfl
        have f0 := rw10.frozen 0
        have f1 := rw10.frozen 1
        have HRW := Lib.hid rw10
        have HGE := Lib.hid ge10
        clear hf1 hf2 hC pd6 rd2 le2 mx2 rd5 le5 mx5 HF rw10 ge10
        go_upto_region 8 with fail
        generalize hwd : World.setCell (World.setCell wq _ _) _ _ = wd
        have hsf : setFrom g10 wq 0 [.slice A7x n7x c7x, .slice B7x m7x k7x] = wd := by rw [← hwd]; rfl
        have HROWB := Lib.hid (show Row wd g10 #[.slice A7x n7x c7x, .slice B7x m7x k7x] 33 by rw [← hsf]; exact HRW.out.all [.slice A7x n7x c7x, .slice B7x m7x k7x] rfl)
        have HBZ := Lib.hid (show Below w1.heap.size w1 wd by rw [← hsf]; exact below_setFrom HGE.out _ 0 HBQ.out)
        have HFZ := Lib.hid (show Fr wd w1.heap.size A7x n7x c7x (cl1 r1) ∧ Fr wd w1.heap.size B7x m7x k7x (cl2 r1) by rw [← hsf]; exact ⟨HFQ.out.1.setBox HRW.out _ 0, HFQ.out.2.setBox HRW.out _ 0⟩)
        clear hwd hsf x0 x1 f0 f1 HRW
        cases r1 with
        | some r =>
          have y0 := HROWB.out.cellQ 0 _ rfl
          have y1 := HROWB.out.cellQ 1 _ rfl
          have hres := Row.belowS HROW0.out HBZ.out (Nat.le_refl _)
          have x0 := hres.cellQ 0 _ rfl
          have x1 := hres.cellQ 1 _ rfl
          have f0 := hres.frozen 0
          have f1 := hres.frozen 1
          have HROWF := Lib.hid (show ∀ u v, Row (setFrom w.heap.size wd 0 [u, v]) w.heap.size #[u, v] 33 from fun u v => hres.all [u, v] rfl)
          have HFF := Lib.hid (And.intro (HFZ.out.1) (HFZ.out.2))
          clear hres
          go_wp2
          generalize hwd : World.setCell (World.setCell wd _ _) _ _ = we
          have hsf : setFrom w.heap.size wd 0 [.slice A7x n7x c7x, .slice B7x m7x k7x] = we := by rw [← hwd]; rfl
          have r0 : we.cell? ⟨w.heap.size, 0, none⟩ = some (.slice A7x n7x c7x) := by rw [← hsf]; exact (HROWF.out _ _).cellQ 0 _ rfl
          have r1 : we.cell? ⟨w.heap.size, 1, none⟩ = some (.slice B7x m7x k7x) := by rw [← hsf]; exact (HROWF.out _ _).cellQ 1 _ rfl
          refine bodyPost_ret (v := .tuple #[.agg #[.slice A7x n7x c7x, .slice B7x m7x k7x], .bool true]) (by simp [results, Tryd.results28, go_sem, r0, r1]) rfl ?_
          rw [HE.out]
          exact ⟨A7x, n7x, c7x, B7x, m7x, k7x, rfl, by rw [← hsf]; exact (HFF.out.1.set HLT.out _ 0).base (Nat.le_of_lt HLT.out), by rw [← hsf]; exact (HFF.out.2.set HLT.out _ 0).base (Nat.le_of_lt HLT.out), by rw [← hsf]; exact below_setFrom (Nat.le_refl _) _ 0 (bt HB0.out HBZ.out)⟩
        | none =>
          clear HBY HSZ HRAy HRBy HFQ HFZ HROWB
          have HBY := Lib.hid (bt HB0.out HBZ.out)
          have HSZ := Lib.hid (show w1.heap.size ≤ wd.heap.size from HBZ.out.size)
          have HRAy := Lib.hid (fun (W : World) (hW : Below wd.heap.size wd W) => HRA.out W (bt HBY.out hW))
          have HRBy := Lib.hid (fun (W : World) (hW : Below wd.heap.size wd W) => HRB.out W (bt HBY.out hW))
          go_wp2_with fail
          refine Free.wp_free_l 9 (fun W => Below wd.heap.size wd W) [Free.kc (.slice A n ca), Free.kc (.int .i64 (k0 : Int)), Free.kr (n - k0) (((List.range n).map fun i => pv (f i)).drop k0), Free.kc (.slice B n cb), Free.kc (.int .i64 (k0 : Int)), Free.kr (n - k0) (((List.range n).map fun i => pv (g i)).drop k0), Free.kR (w1.heap.size) (r2), Free.kG (w1.heap.size) (r2), Free.kc (.bool (r2).isSome)] (by kernel_rfl) (by kernel_rfl) (by decide) (Below.refl _ _).drew (fun w w' h g => bt h g) ?_ ?_
          · refine Free.forall_succ (Free.forall_succ (Free.forall_succ (Free.forall_succ (Free.forall_succ (Free.forall_succ (Free.forall_succ (Free.forall_succ (Free.forall_succ (Free.forall_zero) ?_) ?_) ?_) ?_) ?_) ?_) ?_) ?_) ?_
            · exact Free.ob_plain _ rfl rfl fun vals wv hC hd => (by exact Free.d_move rfl (by kernel_rfl) rfl)
            · exact Free.ob_plain _ rfl rfl fun vals wv hC hd => (by exact Free.d_move rfl (by kernel_rfl) rfl)
            · exact Free.ob_plain _ rfl rfl fun vals wv hC hd => (by exact (by obtain ⟨A', hrun, hss⟩ := run_cutR_lo (rows_rd (HRAy.out wv hC)) (by simp) HK.out.1.1 k0 HK0.out; exact Free.d_slice rfl (Eq.trans (b := vals 0) (by kernel_rfl) (hd 0 (by kernel_rfl))) (show _ = some (Value.int .i64 (k0 : Int)) from congrArg some (Eq.trans (b := vals 1) (by kernel_rfl) (hd 1 (by kernel_rfl)))) rfl rfl hrun ⟨A', ca - k0, rfl, hss, HK2R.out.1.1, HK2R.out.1.2⟩))
            · exact Free.ob_plain _ rfl rfl fun vals wv hC hd => (by exact Free.d_move rfl (by kernel_rfl) rfl)
            · exact Free.ob_plain _ rfl rfl fun vals wv hC hd => (by exact Free.d_move rfl (by kernel_rfl) rfl)
            · exact Free.ob_plain _ rfl rfl fun vals wv hC hd => (by exact (by obtain ⟨A', hrun, hss⟩ := run_cutR_lo (rows_rd (HRBy.out wv hC)) (by simp) HK.out.2.1 k0 HK0.out; exact Free.d_slice rfl (Eq.trans (b := vals 3) (by kernel_rfl) (hd 3 (by kernel_rfl))) (show _ = some (Value.int .i64 (k0 : Int)) from congrArg some (Eq.trans (b := vals 4) (by kernel_rfl) (hd 4 (by kernel_rfl)))) rfl rfl hrun ⟨A', cb - k0, rfl, hss, HK2R.out.2.1, HK2R.out.2.2⟩))
            · exact Free.ob_plain _ rfl rfl fun vals wv hC hd => (by obtain ⟨A2, k2, e2, rd2, le2, mx2⟩ := hd 2 (by kernel_rfl); obtain ⟨A5, k5, e5, rd5, le5, mx5⟩ := hd 5 (by kernel_rfl); exact Free.d_call Tryd.func28 (by kernel_rfl) (by kernel_rfl) rfl rfl (Free.arg2 (Eq.trans (b := vals 2) (by kernel_rfl) e2) (Eq.trans (b := vals 5) (by kernel_rfl) e5)) ((IHR.out A2 k2 A5 k5 wv (bt HBY.out hC) (rd_rows rd2 (fun i hi => by rw [List.getElem?_drop, List.getElem?_map, List.getElem?_range (by omega)]; rfl) (fun i hi => rows_pc (HRAy.out wv hC) (by omega))) ⟨le2, mx2⟩ (rd_rows rd5 (fun i hi => by rw [List.getElem?_drop, List.getElem?_map, List.getElem?_range (by omega)]; rfl) (fun i hi => rows_pc (HRBy.out wv hC) (by omega))) ⟨le5, mx5⟩).mono fun e w2 h => (by obtain ⟨A7, n7, c7, B7, m7, k7, he, h1, h2, hb⟩ := h; exact ⟨_, he, ⟨_, rfl, ⟨A7, n7, c7, B7, m7, k7, rfl, h1.base (Nat.le_trans HSZ.out hC.size), h2.base (Nat.le_trans HSZ.out hC.size)⟩⟩, hb⟩)))
            · exact Free.ob_plain _ rfl rfl fun vals wv hC hd => (by obtain ⟨v6, e6, pd6⟩ := hd 6 (by kernel_rfl); exact (by obtain ⟨A7, n7, c7, B7, m7, k7, he7, h1, h2⟩ := pd6; exact Free.d_extract rfl (Eq.trans (Eq.trans (b := vals 6) (by kernel_rfl) e6) he7) (by first | rfl | (go_simp; done)) ⟨_, rfl, ⟨A7, n7, c7, B7, m7, k7, rfl, h1, h2⟩⟩))
            · exact Free.ob_plain _ rfl rfl fun vals wv hC hd => (by obtain ⟨v6, e6, pd6⟩ := hd 6 (by kernel_rfl); exact (by obtain ⟨A7, n7, c7, B7, m7, k7, he7, h1, h2⟩ := pd6; exact Free.d_extract rfl (Eq.trans (Eq.trans (b := vals 6) (by kernel_rfl) e6) he7) (by first | rfl | (go_simp; done)) rfl))
          · intro vals wv hC hd
            have e0 : vals 0 = (.slice A n ca) := hd 0 (by decide)
            have e1 : vals 1 = (.int .i64 (k0 : Int)) := hd 1 (by decide)
            obtain ⟨A2, k2, e2, rd2, le2, mx2⟩ := hd 2 (by decide)
            have e3 : vals 3 = (.slice B n cb) := hd 3 (by decide)
            have e4 : vals 4 = (.int .i64 (k0 : Int)) := hd 4 (by decide)
            obtain ⟨A5, k5, e5, rd5, le5, mx5⟩ := hd 5 (by decide)
            obtain ⟨v6, e6, pd6⟩ := hd 6 (by decide)
            obtain ⟨v7, e7, pd7⟩ := hd 7 (by decide)
            have e8 : vals 8 = (.bool (r2).isSome) := hd 8 (by decide)
            simp only [Free.frameOf, List.range, List.range.loop, List.foldl, Free.dstOf, List.getElem?_toArray, List.getElem?_cons_zero, List.getElem?_cons_succ, Option.bind_some, Act.put, List.setIfInBounds_toArray, List.set_cons_zero, List.set_cons_succ, e0, e1, e2, e3, e4, e5, e6, e7, e8]
            clear hd e0 e1 e2 e3 e4 e5 e6 e7 e8
            obtain ⟨A9, n9, c9, B9, m9, k9, rfl, hf1, hf2⟩ := pd7
            clear pd6 rd2 le2 mx2 rd5 le5 mx5
            have hres := Row.belowS HROW0.out (bt HBZ.out hC) (Nat.le_refl _)
            have x0 := hres.cellQ 0 _ rfl
            have x1 := hres.cellQ 1 _ rfl
            have f0 := hres.frozen 0
            have f1 := hres.frozen 1
            have HROWF := Lib.hid (show ∀ u v, Row (setFrom w.heap.size wv 0 [u, v]) w.heap.size #[u, v] 33 from fun u v => hres.all [u, v] rfl)
            have HFF := Lib.hid (And.intro (hf1) (hf2))
            clear hres
            go_wp2
            generalize hwd : World.setCell (World.setCell wv _ _) _ _ = we
            have hsf : setFrom w.heap.size wv 0 [.slice A9 n9 c9, .slice B9 m9 k9] = we := by rw [← hwd]; rfl
            have r0 : we.cell? ⟨w.heap.size, 0, none⟩ = some (.slice A9 n9 c9) := by rw [← hsf]; exact (HROWF.out _ _).cellQ 0 _ rfl
            have r1 : we.cell? ⟨w.heap.size, 1, none⟩ = some (.slice B9 m9 k9) := by rw [← hsf]; exact (HROWF.out _ _).cellQ 1 _ rfl
            refine bodyPost_ret (v := .tuple #[.agg #[.slice A9 n9 c9, .slice B9 m9 k9], .bool r2.isSome]) (by simp [results, Tryd.results28, go_sem, r0, r1]) rfl ?_
            rw [HE.out]
            exact ⟨A9, n9, c9, B9, m9, k9, rfl, by rw [← hsf]; exact (HFF.out.1.set HLT.out _ 0).base (Nat.le_of_lt HLT.out), by rw [← hsf]; exact (HFF.out.2.set HLT.out _ 0).base (Nat.le_of_lt HLT.out), by rw [← hsf]; exact below_setFrom (Nat.le_refl _) _ 0 (bt HBY.out hC)⟩
      · intro vals wq hC hd hlate
        have e0 : vals 0 = (.slice A n ca) := hd 0 (by decide) (by decide)
        have e1 : vals 1 = (.int .i64 (k0 : Int)) := hd 1 (by decide) (by decide)
        obtain ⟨A2, k2, e2, rd2, le2, mx2⟩ := hd 2 (by decide) (by decide)
        have e3 : vals 3 = (.slice B n cb) := hd 3 (by decide) (by decide)
        have e4 : vals 4 = (.int .i64 (k0 : Int)) := hd 4 (by decide) (by decide)
        obtain ⟨A5, k5, e5, rd5, le5, mx5⟩ := hd 5 (by decide) (by decide)
        obtain ⟨v6, e6, pd6⟩ := hd 6 (by decide) (by decide)
        obtain ⟨v7, e7, pd7⟩ := hd 7 (by decide) (by decide)
        obtain ⟨v8, e8, pd8⟩ := hd 8 (by decide) (by decide)
        have e9 := hlate
        obtain ⟨g10, e10, ge10, rw10⟩ := hd 10 (by decide) (by decide)
        simp only [Free.frameOf, List.range, List.range.loop, List.foldl, Free.dstOf, List.getElem?_toArray, List.getElem?_cons_zero, List.getElem?_cons_succ, Option.bind_some, Act.put, List.setIfInBounds_toArray, List.set_cons_zero, List.set_cons_succ, e0, e1, e2, e3, e4, e5, e6, e7, e8, e9, e10]
        clear hd e0 e1 e2 e3 e4 e5 e6 e7 e8 e9 e10
        obtain ⟨A7x, n7x, c7x, B7x, m7x, k7x, rfl, hf1, hf2⟩ := pd8
        obtain ⟨Az, nz, cz, Bz, mz, kz, rfl, _, _⟩ := pd7
        have HFQ := Lib.hid (And.intro hf1 hf2)
        have HBQ := Lib.hid (bt HB9.out hC)
        have x0 := rw10.cellQ 0 _ rfl
        have x1 := rw10.cellQ 1 _ rfl
        have f0 := rw10.frozen 0
        have f1 := rw10.frozen 1
        have HRW := Lib.hid rw10
        have HGE := Lib.hid ge10
        clear hf1 hf2 hC pd6 rd2 le2 mx2 rd5 le5 mx5 HF rw10 ge10
        go_upto_region 8 with fail
        generalize hwd : World.setCell (World.setCell wq _ _) _ _ = wd
        have hsf : setFrom g10 wq 0 [.slice A7x n7x c7x, .slice B7x m7x k7x] = wd := by rw [← hwd]; rfl
        have HROWB := Lib.hid (show Row wd g10 #[.slice A7x n7x c7x, .slice B7x m7x k7x] 33 by rw [← hsf]; exact HRW.out.all [.slice A7x n7x c7x, .slice B7x m7x k7x] rfl)
        have HBZ := Lib.hid (show Below w1.heap.size w1 wd by rw [← hsf]; exact below_setFrom HGE.out _ 0 HBQ.out)
        have HFZ := Lib.hid (show Fr wd w1.heap.size A7x n7x c7x (cl1 r1) ∧ Fr wd w1.heap.size B7x m7x k7x (cl2 r1) by rw [← hsf]; exact ⟨HFQ.out.1.setBox HRW.out _ 0, HFQ.out.2.setBox HRW.out _ 0⟩)
        clear hwd hsf x0 x1 f0 f1 HRW
        cases r1 with
        | some r =>
          have y0 := HROWB.out.cellQ 0 _ rfl
          have y1 := HROWB.out.cellQ 1 _ rfl
          have hres := Row.belowS HROW0.out HBZ.out (Nat.le_refl _)
          have x0 := hres.cellQ 0 _ rfl
          have x1 := hres.cellQ 1 _ rfl
          have f0 := hres.frozen 0
          have f1 := hres.frozen 1
          have HROWF := Lib.hid (show ∀ u v, Row (setFrom w.heap.size wd 0 [u, v]) w.heap.size #[u, v] 33 from fun u v => hres.all [u, v] rfl)
          have HFF := Lib.hid (And.intro (HFZ.out.1) (HFZ.out.2))
          clear hres
          go_wp2
          generalize hwd : World.setCell (World.setCell wd _ _) _ _ = we
          have hsf : setFrom w.heap.size wd 0 [.slice A7x n7x c7x, .slice B7x m7x k7x] = we := by rw [← hwd]; rfl
          have r0 : we.cell? ⟨w.heap.size, 0, none⟩ = some (.slice A7x n7x c7x) := by rw [← hsf]; exact (HROWF.out _ _).cellQ 0 _ rfl
          have r1 : we.cell? ⟨w.heap.size, 1, none⟩ = some (.slice B7x m7x k7x) := by rw [← hsf]; exact (HROWF.out _ _).cellQ 1 _ rfl
          refine bodyPost_ret (v := .tuple #[.agg #[.slice A7x n7x c7x, .slice B7x m7x k7x], .bool true]) (by simp [results, Tryd.results28, go_sem, r0, r1]) rfl ?_
          rw [HE.out]
          exact ⟨A7x, n7x, c7x, B7x, m7x, k7x, rfl, by rw [← hsf]; exact (HFF.out.1.set HLT.out _ 0).base (Nat.le_of_lt HLT.out), by rw [← hsf]; exact (HFF.out.2.set HLT.out _ 0).base (Nat.le_of_lt HLT.out), by rw [← hsf]; exact below_setFrom (Nat.le_refl _) _ 0 (bt HB0.out HBZ.out)⟩
        | none =>
          clear HBY HSZ HRAy HRBy HFQ HFZ HROWB
          have HBY := Lib.hid (bt HB0.out HBZ.out)
          have HSZ := Lib.hid (show w1.heap.size ≤ wd.heap.size from HBZ.out.size)
          have HRAy := Lib.hid (fun (W : World) (hW : Below wd.heap.size wd W) => HRA.out W (bt HBY.out hW))
          have HRBy := Lib.hid (fun (W : World) (hW : Below wd.heap.size wd W) => HRB.out W (bt HBY.out hW))
          go_wp2_with fail
          refine Free.wp_free_l 9 (fun W => Below wd.heap.size wd W) [Free.kc (.slice A n ca), Free.kc (.int .i64 (k0 : Int)), Free.kr (n - k0) (((List.range n).map fun i => pv (f i)).drop k0), Free.kc (.slice B n cb), Free.kc (.int .i64 (k0 : Int)), Free.kr (n - k0) (((List.range n).map fun i => pv (g i)).drop k0), Free.kR (w1.heap.size) (r2), Free.kG (w1.heap.size) (r2), Free.kc (.bool (r2).isSome)] (by kernel_rfl) (by kernel_rfl) (by decide) (Below.refl _ _).drew (fun w w' h g => bt h g) ?_ ?_
          · refine Free.forall_succ (Free.forall_succ (Free.forall_succ (Free.forall_succ (Free.forall_succ (Free.forall_succ (Free.forall_succ (Free.forall_succ (Free.forall_succ (Free.forall_zero) ?_) ?_) ?_) ?_) ?_) ?_) ?_) ?_) ?_
            · exact Free.ob_plain _ rfl rfl fun vals wv hC hd => (by exact Free.d_move rfl (by kernel_rfl) rfl)
            · exact Free.ob_plain _ rfl rfl fun vals wv hC hd => (by exact Free.d_move rfl (by kernel_rfl) rfl)
            · exact Free.ob_plain _ rfl rfl fun vals wv hC hd => (by exact (by obtain ⟨A', hrun, hss⟩ := run_cutR_lo (rows_rd (HRAy.out wv hC)) (by simp) HK.out.1.1 k0 HK0.out; exact Free.d_slice rfl (Eq.trans (b := vals 0) (by kernel_rfl) (hd 0 (by kernel_rfl))) (show _ = some (Value.int .i64 (k0 : Int)) from congrArg some (Eq.trans (b := vals 1) (by kernel_rfl) (hd 1 (by kernel_rfl)))) rfl rfl hrun ⟨A', ca - k0, rfl, hss, HK2R.out.1.1, HK2R.out.1.2⟩))
            · exact Free.ob_plain _ rfl rfl fun vals wv hC hd => (by exact Free.d_move rfl (by kernel_rfl) rfl)
            · exact Free.ob_plain _ rfl rfl fun vals wv hC hd => (by exact Free.d_move rfl (by kernel_rfl) rfl)
            · exact Free.ob_plain _ rfl rfl fun vals wv hC hd => (by exact (by obtain ⟨A', hrun, hss⟩ := run_cutR_lo (rows_rd (HRBy.out wv hC)) (by simp) HK.out.2.1 k0 HK0.out; exact Free.d_slice rfl (Eq.trans (b := vals 3) (by kernel_rfl) (hd 3 (by kernel_rfl))) (show _ = some (Value.int .i64 (k0 : Int)) from congrArg some (Eq.trans (b := vals 4) (by kernel_rfl) (hd 4 (by kernel_rfl)))) rfl rfl hrun ⟨A', cb - k0, rfl, hss, HK2R.out.2.1, HK2R.out.2.2⟩))
            · exact Free.ob_plain _ rfl rfl fun vals wv hC hd => (by obtain ⟨A2, k2, e2, rd2, le2, mx2⟩ := hd 2 (by kernel_rfl); obtain ⟨A5, k5, e5, rd5, le5, mx5⟩ := hd 5 (by kernel_rfl); exact Free.d_call Tryd.func28 (by kernel_rfl) (by kernel_rfl) rfl rfl (Free.arg2 (Eq.trans (b := vals 2) (by kernel_rfl) e2) (Eq.trans (b := vals 5) (by kernel_rfl) e5)) ((IHR.out A2 k2 A5 k5 wv (bt HBY.out hC) (rd_rows rd2 (fun i hi => by rw [List.getElem?_drop, List.getElem?_map, List.getElem?_range (by omega)]; rfl) (fun i hi => rows_pc (HRAy.out wv hC) (by omega))) ⟨le2, mx2⟩ (rd_rows rd5 (fun i hi => by rw [List.getElem?_drop, List.getElem?_map, List.getElem?_range (by omega)]; rfl) (fun i hi => rows_pc (HRBy.out wv hC) (by omega))) ⟨le5, mx5⟩).mono fun e w2 h => (by obtain ⟨A7, n7, c7, B7, m7, k7, he, h1, h2, hb⟩ := h; exact ⟨_, he, ⟨_, rfl, ⟨A7, n7, c7, B7, m7, k7, rfl, h1.base (Nat.le_trans HSZ.out hC.size), h2.base (Nat.le_trans HSZ.out hC.size)⟩⟩, hb⟩)))
            · exact Free.ob_plain _ rfl rfl fun vals wv hC hd => (by obtain ⟨v6, e6, pd6⟩ := hd 6 (by kernel_rfl); exact (by obtain ⟨A7, n7, c7, B7, m7, k7, he7, h1, h2⟩ := pd6; exact Free.d_extract rfl (Eq.trans (Eq.trans (b := vals 6) (by kernel_rfl) e6) he7) (by first | rfl | (go_simp; done)) ⟨_, rfl, ⟨A7, n7, c7, B7, m7, k7, rfl, h1, h2⟩⟩))
            · exact Free.ob_plain _ rfl rfl fun vals wv hC hd => (by obtain ⟨v6, e6, pd6⟩ := hd 6 (by kernel_rfl); exact (by obtain ⟨A7, n7, c7, B7, m7, k7, he7, h1, h2⟩ := pd6; exact Free.d_extract rfl (Eq.trans (Eq.trans (b := vals 6) (by kernel_rfl) e6) he7) (by first | rfl | (go_simp; done)) rfl))
          · intro vals wv hC hd
            have e0 : vals 0 = (.slice A n ca) := hd 0 (by decide)
            have e1 : vals 1 = (.int .i64 (k0 : Int)) := hd 1 (by decide)
            obtain ⟨A2, k2, e2, rd2, le2, mx2⟩ := hd 2 (by decide)
            have e3 : vals 3 = (.slice B n cb) := hd 3 (by decide)
            have e4 : vals 4 = (.int .i64 (k0 : Int)) := hd 4 (by decide)
            obtain ⟨A5, k5, e5, rd5, le5, mx5⟩ := hd 5 (by decide)
            obtain ⟨v6, e6, pd6⟩ := hd 6 (by decide)
            obtain ⟨v7, e7, pd7⟩ := hd 7 (by decide)
            have e8 : vals 8 = (.bool (r2).isSome) := hd 8 (by decide)
            simp only [Free.frameOf, List.range, List.range.loop, List.foldl, Free.dstOf, List.getElem?_toArray, List.getElem?_cons_zero, List.getElem?_cons_succ, Option.bind_some, Act.put, List.setIfInBounds_toArray, List.set_cons_zero, List.set_cons_succ, e0, e1, e2, e3, e4, e5, e6, e7, e8]
            clear hd e0 e1 e2 e3 e4 e5 e6 e7 e8
            obtain ⟨A9, n9, c9, B9, m9, k9, rfl, hf1, hf2⟩ := pd7
            clear pd6 rd2 le2 mx2 rd5 le5 mx5
            have hres := Row.belowS HROW0.out (bt HBZ.out hC) (Nat.le_refl _)
            have x0 := hres.cellQ 0 _ rfl
            have x1 := hres.cellQ 1 _ rfl
            have f0 := hres.frozen 0
            have f1 := hres.frozen 1
            have HROWF := Lib.hid (show ∀ u v, Row (setFrom w.heap.size wv 0 [u, v]) w.heap.size #[u, v] 33 from fun u v => hres.all [u, v] rfl)
            have HFF := Lib.hid (And.intro (hf1) (hf2))
            clear hres
            go_wp2
            generalize hwd : World.setCell (World.setCell wv _ _) _ _ = we
            have hsf : setFrom w.heap.size wv 0 [.slice A9 n9 c9, .slice B9 m9 k9] = we := by rw [← hwd]; rfl
            have r0 : we.cell? ⟨w.heap.size, 0, none⟩ = some (.slice A9 n9 c9) := by rw [← hsf]; exact (HROWF.out _ _).cellQ 0 _ rfl
            have r1 : we.cell? ⟨w.heap.size, 1, none⟩ = some (.slice B9 m9 k9) := by rw [← hsf]; exact (HROWF.out _ _).cellQ 1 _ rfl
            refine bodyPost_ret (v := .tuple #[.agg #[.slice A9 n9 c9, .slice B9 m9 k9], .bool r2.isSome]) (by simp [results, Tryd.results28, go_sem, r0, r1]) rfl ?_
            rw [HE.out]
            exact ⟨A9, n9, c9, B9, m9, k9, rfl, by rw [← hsf]; exact (HFF.out.1.set HLT.out _ 0).base (Nat.le_of_lt HLT.out), by rw [← hsf]; exact (HFF.out.2.set HLT.out _ 0).base (Nat.le_of_lt HLT.out), by rw [← hsf]; exact below_setFrom (Nat.le_refl _) _ 0 (bt HBY.out hC)⟩
end Go.Proofs.YtlcdpbpbfofmmaaDoor

namespace Go.Proofs.YtlcdpbpbfofmmaaDoor
set_option maxRecDepth 100000
set_option linter.unusedVariables false
open Go.RowKit
set_option maxHeartbeats 8000000 in
theorem cposts_any (A : Option Addr) (n c : Nat) (B : Option Addr) (m k : Nat) (x y : List UInt8) (w : World) (hA : Bs w A n c x) (hn : n ≤ 100000) (hB : Bs w B m k y) (hn2 : m ≤ 100000) (ht : Tabs w) :
    Calls Tryd.prog 24 #[.slice A n c, .slice B m k] w (ResPost w.heap.size (Cl.btw (2 :: x) (2 :: y)) w) := by
  have hl0 : w.heap.size < (w.alloc (.cells #[.slice none 0 0, .slice none 0 0] 29)).heap.size := by rw [alloc_size]; omega
  have hb0 : Below w.heap.size w (w.alloc (.cells #[.slice none 0 0, .slice none 0 0] 29)) := (Below.refl _ w).alloc (Nat.le_refl _) _
  have hrow0 := row_new w #[.slice none 0 0, .slice none 0 0] 29
  obtain ⟨w1, hw1⟩ : ∃ w1, (w.alloc (.cells #[.slice none 0 0, .slice none 0 0] 29)) = w1 := ⟨_, rfl⟩
  rw [hw1] at hl0 hb0 hrow0
  have HW1 := Lib.hid hw1
  have HLT := Lib.hid hl0
  have HB0 := Lib.hid hb0
  have HROW0 := Lib.hid hrow0
  have P1 := Lib.hid (show ∀ W, Below w.heap.size w W → Calls Tryd.prog 60 #[.slice A n c] W (Ret8 W.heap.size (2 :: x) W) from fun W hW => by
    have h := hA.keep hW
    exact (postsBytes_any A n c x W h.rd h.len h.cap h.max (by omega)).mono fun e w2 h => h.ret8)
  have P2 := Lib.hid (show ∀ W, Below w.heap.size w W → Calls Tryd.prog 60 #[.slice B m k] W (Ret8 W.heap.size (2 :: y) W) from fun W hW => by
    have h := hB.keep hW
    exact (postsBytes_any B m k y W h.rd h.len h.cap h.max (by omega)).mono fun e w2 h => h.ret8)
  unfold Ret8 at P1 P2
  obtain ⟨r, hr⟩ : ∃ r, Cl.btw (2 :: x) (2 :: y) = r := ⟨_, rfl⟩
  have CB := Lib.hid (show ∀ (L : Nat) (A1 : Option Addr) (n1 c1 : Nat) (B1 : Option Addr) (m1 k1 : Nat) (W : World), Below w.heap.size w W → Own8 W L A1 n1 c1 (2 :: x) → Own8 W L B1 m1 k1 (2 :: y) → Calls Tryd.prog 59 #[.slice A1 n1 c1, .slice B1 m1 k1] W (ResPost W.heap.size r W) from fun L A1 n1 c1 B1 m1 k1 W hW h1 h2 => by
    rw [← hr]
    exact betw_any A1 n1 c1 B1 m1 k1 _ _ W (Fr.of8 h1).bs (by rw [← h1.len, List.length_cons, hA.len]; omega) (Fr.of8 h2).bs (by rw [← h2.len, List.length_cons, hB.len]; omega) (ht.below hW))
  rw [hr]
  clear hl0 hb0 hrow0 hw1 hA hB ht hr
  go_enter Tryd.func24, Tryd.ntmps24
  go_wp2_with fail
  rw [HW1.out]
  refine (P1.out w1 HB0.out).mono ?_
  rintro e w3 ⟨A3, n3, c3, rfl, ho3, hb3⟩
  have HB3 := Lib.hid hb3
  have HO3 := Lib.hid ho3
  clear hb3 ho3
  go_wp2_with fail
  refine (P2.out w3 (bt HB0.out HB3.out)).mono ?_
  rintro e w4 ⟨A4, n4, c4, rfl, ho4, hb4⟩
  have HO4 := Lib.hid (ho4.base HB3.out.size)
  have HP4 := Lib.hid (HO3.out.keep hb4)
  have HB4 := Lib.hid (bt HB3.out hb4)
  clear hb4 ho4
  go_wp2_with fail
  refine (CB.out w1.heap.size A3 n3 c3 A4 n4 c4 w4 (bt HB0.out HB4.out) HP4.out HO4.out).mono ?_
  rintro e w5 ⟨A7, n7, c7, B7, m7, k7, rfl, hf1, hf2, hb5⟩
  have HB5 := Lib.hid (bt HB4.out hb5)
  have HF := Lib.hid (And.intro (hf1.base HB4.out.size) (hf2.base HB4.out.size))
  have hres := Row.belowS HROW0.out HB5.out (Nat.le_refl _)
  have x0 := hres.cellQ 0 _ rfl
  have x1 := hres.cellQ 1 _ rfl
  have f0 := hres.frozen 0
  have f1 := hres.frozen 1
  have HROW := Lib.hid (show ∀ u v, Row (setFrom w.heap.size w5 0 [u, v]) w.heap.size #[u, v] 29 from fun u v => hres.all [u, v] rfl)
  clear hres hf1 hf2 hb5
  go_wp2
  generalize hwd : World.setCell (World.setCell w5 _ _) _ _ = wd
  have hsf : setFrom w.heap.size w5 0 [.slice A7 n7 c7, .slice B7 m7 k7] = wd := by rw [← hwd]; rfl
  have r0 : wd.cell? ⟨w.heap.size, 0, none⟩ = some (.slice A7 n7 c7) := by rw [← hsf]; exact (HROW.out _ _).cellQ 0 _ rfl
  have r1 : wd.cell? ⟨w.heap.size, 1, none⟩ = some (.slice B7 m7 k7) := by rw [← hsf]; exact (HROW.out _ _).cellQ 1 _ rfl
  refine bodyPost_ret (v := .tuple #[.agg #[.slice A7 n7 c7, .slice B7 m7 k7], .bool r.isSome]) (by simp [results, Tryd.results24, go_sem, r0, r1]) rfl ?_
  exact ⟨A7, n7, c7, B7, m7, k7, rfl, by rw [← hsf]; exact (HF.out.1.set HLT.out _ 0).base (Nat.le_of_lt HLT.out), by rw [← hsf]; exact (HF.out.2.set HLT.out _ 0).base (Nat.le_of_lt HLT.out), by rw [← hsf]; exact below_setFrom (Nat.le_refl _) _ 0 (bt HB0.out HB5.out)⟩
set_option maxHeartbeats 8000000 in
theorem chead_any (A : Option Addr) (n c : Nat) (B : Option Addr) (m k : Nat) (x y : List UInt8) (w : World) (hA : Bs w A n c x) (hn : n ≤ 100000) (hB : Bs w B m k y) (hn2 : m ≤ 100000) (ht : Tabs w) :
    Calls Tryd.prog 27 #[.slice A n c, .slice B m k] w (ResPost w.heap.size (Cl.btw (3 :: x) (3 :: y)) w) := by
  have hl0 : w.heap.size < (w.alloc (.cells #[.slice none 0 0, .slice none 0 0] 29)).heap.size := by rw [alloc_size]; omega
  have hb0 : Below w.heap.size w (w.alloc (.cells #[.slice none 0 0, .slice none 0 0] 29)) := (Below.refl _ w).alloc (Nat.le_refl _) _
  have hrow0 := row_new w #[.slice none 0 0, .slice none 0 0] 29
  obtain ⟨w1, hw1⟩ : ∃ w1, (w.alloc (.cells #[.slice none 0 0, .slice none 0 0] 29)) = w1 := ⟨_, rfl⟩
  rw [hw1] at hl0 hb0 hrow0
  have HW1 := Lib.hid hw1
  have HLT := Lib.hid hl0
  have HB0 := Lib.hid hb0
  have HROW0 := Lib.hid hrow0
  have P1 := Lib.hid (show ∀ W, Below w.heap.size w W → Calls Tryd.prog 62 #[.slice A n c] W (Ret8 W.heap.size (3 :: x) W) from fun W hW => by
    have h := hA.keep hW
    exact (headBytes_any A n c x W h.rd h.len h.cap h.max (by omega)).mono fun e w2 h => h.ret8)
  have P2 := Lib.hid (show ∀ W, Below w.heap.size w W → Calls Tryd.prog 62 #[.slice B m k] W (Ret8 W.heap.size (3 :: y) W) from fun W hW => by
    have h := hB.keep hW
    exact (headBytes_any B m k y W h.rd h.len h.cap h.max (by omega)).mono fun e w2 h => h.ret8)
  unfold Ret8 at P1 P2
  obtain ⟨r, hr⟩ : ∃ r, Cl.btw (3 :: x) (3 :: y) = r := ⟨_, rfl⟩
  have CB := Lib.hid (show ∀ (L : Nat) (A1 : Option Addr) (n1 c1 : Nat) (B1 : Option Addr) (m1 k1 : Nat) (W : World), Below w.heap.size w W → Own8 W L A1 n1 c1 (3 :: x) → Own8 W L B1 m1 k1 (3 :: y) → Calls Tryd.prog 59 #[.slice A1 n1 c1, .slice B1 m1 k1] W (ResPost W.heap.size r W) from fun L A1 n1 c1 B1 m1 k1 W hW h1 h2 => by
    rw [← hr]
    exact betw_any A1 n1 c1 B1 m1 k1 _ _ W (Fr.of8 h1).bs (by rw [← h1.len, List.length_cons, hA.len]; omega) (Fr.of8 h2).bs (by rw [← h2.len, List.length_cons, hB.len]; omega) (ht.below hW))
  rw [hr]
  clear hl0 hb0 hrow0 hw1 hA hB ht hr
  go_enter Tryd.func27, Tryd.ntmps27
  go_wp2_with fail
  rw [HW1.out]
  refine (P1.out w1 HB0.out).mono ?_
  rintro e w3 ⟨A3, n3, c3, rfl, ho3, hb3⟩
  have HB3 := Lib.hid hb3
  have HO3 := Lib.hid ho3
  clear hb3 ho3
  go_wp2_with fail
  refine (P2.out w3 (bt HB0.out HB3.out)).mono ?_
  rintro e w4 ⟨A4, n4, c4, rfl, ho4, hb4⟩
  have HO4 := Lib.hid (ho4.base HB3.out.size)
  have HP4 := Lib.hid (HO3.out.keep hb4)
  have HB4 := Lib.hid (bt HB3.out hb4)
  clear hb4 ho4
  go_wp2_with fail
  refine (CB.out w1.heap.size A3 n3 c3 A4 n4 c4 w4 (bt HB0.out HB4.out) HP4.out HO4.out).mono ?_
  rintro e w5 ⟨A7, n7, c7, B7, m7, k7, rfl, hf1, hf2, hb5⟩
  have HB5 := Lib.hid (bt HB4.out hb5)
  have HF := Lib.hid (And.intro (hf1.base HB4.out.size) (hf2.base HB4.out.size))
  have hres := Row.belowS HROW0.out HB5.out (Nat.le_refl _)
  have x0 := hres.cellQ 0 _ rfl
  have x1 := hres.cellQ 1 _ rfl
  have f0 := hres.frozen 0
  have f1 := hres.frozen 1
  have HROW := Lib.hid (show ∀ u v, Row (setFrom w.heap.size w5 0 [u, v]) w.heap.size #[u, v] 29 from fun u v => hres.all [u, v] rfl)
  clear hres hf1 hf2 hb5
  go_wp2
  generalize hwd : World.setCell (World.setCell w5 _ _) _ _ = wd
  have hsf : setFrom w.heap.size w5 0 [.slice A7 n7 c7, .slice B7 m7 k7] = wd := by rw [← hwd]; rfl
  have r0 : wd.cell? ⟨w.heap.size, 0, none⟩ = some (.slice A7 n7 c7) := by rw [← hsf]; exact (HROW.out _ _).cellQ 0 _ rfl
  have r1 : wd.cell? ⟨w.heap.size, 1, none⟩ = some (.slice B7 m7 k7) := by rw [← hsf]; exact (HROW.out _ _).cellQ 1 _ rfl
  refine bodyPost_ret (v := .tuple #[.agg #[.slice A7 n7 c7, .slice B7 m7 k7], .bool r.isSome]) (by simp [results, Tryd.results27, go_sem, r0, r1]) rfl ?_
  exact ⟨A7, n7, c7, B7, m7, k7, rfl, by rw [← hsf]; exact (HF.out.1.set HLT.out _ 0).base (Nat.le_of_lt HLT.out), by rw [← hsf]; exact (HF.out.2.set HLT.out _ 0).base (Nat.le_of_lt HLT.out), by rw [← hsf]; exact below_setFrom (Nat.le_refl _) _ 0 (bt HB0.out HB5.out)⟩
/-- A clash that the reference told, in a block. -/
structure RBox (w : World) (b : Nat) (A : Option Addr) (n c : Nat) (B : Option Addr) (m k : Nat) (r : Option (List UInt8 × List UInt8)) : Prop where
  row : Row w b #[.slice A n c, .slice B m k] 33
  ba : Bs w A n c (cl1 r)
  bb : Bs w B m k (cl2 r)
section
variable {w w' : World} {b n c m k : Nat} {A B : Option Addr} {r : Option (List UInt8 × List UInt8)}
theorem RBox.keep (h : RBox w b A n c B m k r) (hb : Below w.heap.size w w') : RBox w' b A n c B m k r := ⟨h.row.keep hb, h.ba.keep hb, h.bb.keep hb⟩
theorem RBox.new {L : Nat} (h1 : Fr w L A n c (cl1 r)) (h2 : Fr w L B m k (cl2 r)) : RBox (w.alloc (.cells #[.slice A n c, .slice B m k] 33)) w.heap.size A n c B m k r :=
  ⟨row_new w _ _, h1.bs.keep ((Below.refl _ w).alloc (Nat.le_refl _) _), h2.bs.keep ((Below.refl _ w).alloc (Nat.le_refl _) _)⟩
theorem RBox.x0 (h : RBox w b A n c B m k r) : w.cell? ⟨b, 0, none⟩ = some (.slice A n c) := h.row.cellQ 0 _ rfl
theorem RBox.x1 (h : RBox w b A n c B m k r) : w.cell? ⟨b, 1, none⟩ = some (.slice B m k) := h.row.cellQ 1 _ rfl
end
theorem csmall_len {r : Option (List UInt8 × List UInt8)} (h : CSmall r) : (cl1 r).length ≤ 1000000 ∧ (cl2 r).length ≤ 1000000 := by
  cases r with
  | none => exact ⟨Nat.zero_le _, Nat.zero_le _⟩
  | some x => exact (h x rfl).2
theorem same_box {w : World} {b b2 n c m k n2 c2 m2 k2 : Nat} {A B A2 B2 : Option Addr} {r : Option (List UInt8 × List UInt8)} (h1 : CBox w b A n c B m k r) (h2 : RBox w b2 A2 n2 c2 B2 m2 k2 r) (hs : CSmall r) (ht : Tabs w) :
    Calls Tryd.prog 15 #[.agg #[.slice A n c, .slice B m k], .bool r.isSome, .agg #[.slice A2 n2 c2, .slice B2 m2 k2], .bool r.isSome] w (RetB true w) :=
  same8_any r.isSome (cl1 r) (cl2 r) A n c B m k A2 n2 c2 B2 m2 k2 w h1.ba h1.bb h2.ba h2.bb (by rw [← h1.ba.len]; exact (csmall_len hs).1) (by rw [← h1.bb.len]; exact (csmall_len hs).2) ht (fun hq => by
    obtain ⟨x, hx⟩ := Option.isSome_iff_exists.1 hq
    subst hx
    exact (hs x rfl).1)
theorem btw_small {a b : List UInt8} (ha : a.length ≤ 1000000) (hb : b.length ≤ 1000000) : CSmall (Cl.btw a b) := fun r h => by
  refine ⟨Cl.btw_some h, ?_⟩
  unfold Cl.btw at h
  split at h
  · injection h with h
    rw [← h]; exact ⟨ha, hb⟩
  · cases h
end Go.Proofs.YtlcdpbpbfofmmaaDoor
