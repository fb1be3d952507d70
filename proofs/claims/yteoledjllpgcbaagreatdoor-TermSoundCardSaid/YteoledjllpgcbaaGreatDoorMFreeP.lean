/- MFreeP: several texts of this claim in one file. No statement of the seat is proved here. -/
import Derived.Test.YteoledjllpgcbaaGreatDoorMBase
import Derived.Test.YteoledjllpgcbaaGreatDoorMHeadB
namespace Go.Proofs.YteoledjllpgcbaaGreatDoor
set_option maxRecDepth 100000
set_option maxHeartbeats 64000000
set_option linter.unusedVariables false
open Go.RowKit
namespace FreeP
open Free
def StepR (P : Program) (R : World → World → Prop) (V : Value → World → Prop) (w : World) : Result Next → Prop
 | .ok (.value v) w' => V v w' ∧ R w w'
 | .ok .skip w' => V undef w' ∧ R w w'
 | .ok (.enter f args) w' => Calls P f args w' fun e w'' => ∃ v, e = .returned v ∧ V v w'' ∧ R w w''
 | _ => False
def put (S : Nat → Bool) (i : Nat) : Nat → Bool := fun j => if j = i then true else S j
def Ob (P : Program) (ops : Array Oper) (a0 : Act) (C : (Nat → Bool) → World → Prop) (R : Nat → World → World → Prop) (V : Nat → (Nat → Bool) → Value → World → Prop) (i : Nat) : Prop :=
 ∀ o, ops[i]? = some o → ∀ (S : Nat → Bool) (vals : Nat → Value) (w : World), S i = false → (∀ j, pre ops i j = true → S j = true) → (∀ j k, S j = true → pre ops j k = true → S k = true) → C S w → (∀ j, pre ops i j = true → V j S (vals j) w) →
  (Region.wanted o (yv ops a0 vals i) = true ∧ StepR P (R i) (V i (put S i)) w ((execOp (rho ops a0 vals i) o).run P w)) ∨ (Region.wanted o (yv ops a0 vals i) = false ∧ V i (put S i) undef w ∧ R i w w)
theorem wp_of_step {P : Program} {o : Oper} {a : Act} {w : World} {K : Act → World → Prop} {Q : Exit → Act → World → Prop} {R : World → World → Prop} {V : Value → World → Prop}
  (h : StepR P R V w ((execOp a.eval o).run P w)) (hK : ∀ v w', V v w' → R w w' → K (a.put o.dst v) w') : o.wp P a w K Q := by
 unfold Oper.wp
 generalize (execOp a.eval o).run P w = r at h
 cases r with
 | ok n w' =>
  cases n <;> simp only [StepR] at h <;> simp only [Oper.upon]
  case value u => exact hK _ _ h.1 h.2
  case skip => exact hK _ _ h.1 h.2
  case enter f args =>
   exact h.mono fun e w'' ⟨v, he, hv, hg⟩ => by
    subst he
    exact hK _ _ hv hg
 | halt x w' => simp only [StepR] at h
section main
variable {P : Program} {ops : Array Oper} {a0 : Act} {C : (Nat → Bool) → World → Prop} {R : Nat → World → World → Prop} {V : Nat → (Nat → Bool) → Value → World → Prop} {Q : Exit → Act → World → Prop} {n0 : Nat}
structure Inv (ops : Array Oper) (a0 : Act) (C : (Nat → Bool) → World → Prop) (V : Nat → (Nat → Bool) → Value → World → Prop) (n0 : Nat) (listed : Array Bool) (vals : Nat → Value) (a : Act) (w : World) : Prop where
 sz : listed.size = ops.size
 cl : Closed ops (L listed)
 c : C (L listed) w
 v : ∀ j, j < n0 → L listed j = true → V j (L listed) (vals j) w
 no : ∀ j, n0 ≤ j → L listed j = false
 df : a.defers = a0.defers
 ts : a.tmps.size = a0.tmps.size
 sl : ∀ t, a.tmps.getD t undef = slotS ops a0 vals (L listed) ops.size t
theorem run_any (hok : ok ops a0.tmps.size n0 = true) (hn0 : n0 ≤ ops.size) (hCs : ∀ i S w w', S i = false → (∀ j, pre ops i j = true → S j = true) → C S w → R i w w' → C (put S i) w') (hVs : ∀ i j S v w w', i ≠ j → S i = false → V j S v w → R i w w' → V j (put S i) v w')
  (hob : ∀ i, i < n0 → Ob P ops a0 C R V i)
  (hcont : ∀ (S : Nat → Bool) (vals : Nat → Value) (w : World), (∀ j, j < n0 → S j = true) → C S w → (∀ j, j < n0 → V j S (vals j) w) → wpList P ops Q (ops.toList.drop n0) (frameOf ops a0 vals n0) w) :
  ∀ (fuel : Nat) (listed : Array Bool) (vals : Nat → Value) (a : Act) (w : World), left ops.size listed = fuel → Inv ops a0 C V n0 listed vals a w → wpAny P .any ops Q fuel listed a w := by
 have hedge := ok_edges hok
 have hdst : ∀ j d, dstOf ops j = some d → d < a0.tmps.size := fun j d hd => by
  have hj : j < ops.size := by
   rcases Nat.lt_or_ge j ops.size with h | h
   · exact h
   · unfold dstOf at hd; rw [Array.getElem?_eq_none h] at hd; cases hd
  refine (ok_names hok hj (t := d) ?_).1
  unfold namesOf
  unfold dstOf at hd
  rw [Array.getElem?_eq_getElem hj] at hd ⊢
  simp only [Option.bind_some] at hd
  simp [hd]
 intro fuel
 induction fuel with
 | zero =>
  intro listed vals a w hf hI
  -- nothing is left: so there is no tail, and all have come up
  have hall : ∀ j, j < ops.size → L listed j = true := fun j hj => by
   cases h : L listed j with
   | true => rfl
   | false =>
    have hm : j ∈ (List.range ops.size).filter fun i => !L listed i := List.mem_filter.2 ⟨List.mem_range.2 hj, by rw [h]; rfl⟩
    have := List.length_pos_of_mem hm
    unfold left at hf
    omega
  have hn : n0 = ops.size := by
   rcases Nat.eq_or_lt_of_le hn0 with h | h
   · exact h
   ·
    have h1 := hI.no n0 (Nat.le_refl _)
    rw [hall n0 h] at h1; cases h1
  have hfr : a = frameOf ops a0 vals n0 := by
   have h1 := frameOf_defers ops a0 vals n0
   refine act_ext (by rw [hI.df, h1.1]) (by rw [hI.ts, h1.2]) fun t ht => ?_
   rw [hI.sl, frameOf_getD ops a0 vals hdst, hn]
   unfold slotB slotS
   rw [lastW_congr ops.size fun j hj _ => hall j hj]
  have hc := hcont (L listed) vals w (fun j hj => hall j (by omega)) hI.c fun j hj => hI.v j hj (hall j (by omega))
  rw [← hfr, hn, List.drop_of_length_le (by simp)] at hc
  refine ⟨?_, hc⟩
  rw [List.eq_nil_iff_forall_not_mem]
  intro j hj
  obtain ⟨h1, o, ho, _⟩ := (ready_iff listed hI.sz j).1 hj
  rw [hall j (Array.getElem?_eq_some_iff.1 ho).1] at h1
  cases h1
 | succ fuel ih =>
  intro listed vals a w hf hI
  by_cases hdone : ∀ j, j < n0 → L listed j = true
  ·
   -- the tail
   have hfr : a = frameOf ops a0 vals n0 := by
    have h1 := frameOf_defers ops a0 vals n0
    refine act_ext (by rw [hI.df, h1.1]) (by rw [hI.ts, h1.2]) fun t ht => ?_
    rw [hI.sl, frameOf_getD ops a0 vals hdst]
    unfold slotB slotS
    rw [lastW_eq ops.size hn0 fun j hj hd => ?_]
    constructor
    ·
     intro h
     rcases Nat.lt_or_ge j n0 with h1 | h1
     · exact h1
     · rw [hI.no j h1] at h; cases h
    · exact hdone j
   have hc := hcont (L listed) vals w hdone hI.c fun j hj => hI.v j hj (hdone j hj)
   rw [← hfr] at hc
   have hlen : (ops.toList.drop n0).length = fuel + 1 := by
    rw [← hf, List.length_drop, Array.length_toList]
    unfold left
    have e : ∀ m, ((List.range m).filter fun i => !L listed i).length = m - n0 := by
     intro m
     induction m with
     | zero => simp
     | succ m ihm =>
      rw [List.range_succ, List.filter_append, List.length_append, ihm]
      rcases Nat.lt_or_ge m n0 with h | h
      · simp [hdone m h]; omega
      · simp [hI.no m h]; omega
    rw [e]
   have := tail_any hok (ops.toList.drop n0) n0 listed a w (Nat.le_refl _) (fun j => by rw [List.getElem?_drop]; simp) hI.sz (fun j => by
    rcases Nat.lt_or_ge j n0 with h | h
    · left; rw [hdone j h, decide_eq_true h]
    · left; rw [hI.no j h, decide_eq_false (by omega)]) hc
   rw [hlen] at this
   exact this
  ·
   -- an operation of the head
   have hstep : ∀ i ∈ Region.ready .any ops listed, wpOp P ops Q i (wpAny P .any ops Q fuel (listed.setIfInBounds i true)) a w := by
    intro i hi
    obtain ⟨hun, o, ho, hed⟩ := (ready_iff listed hI.sz i).1 hi
    have his : i < ops.size := (Array.getElem?_eq_some_iff.1 ho).1
    have hpre := closed_pre (fun i o ho => (hedge i o ho).2) hI.cl i o ho hed
    have hin : i < n0 := by
     rcases Nat.lt_or_ge i n0 with h | h
     · exact h
     ·
      exfalso
      apply hdone
      intro j hj
      exact hpre j (ok_tail hok his h j (by omega))
    have hnm : ∀ t, t ∈ namesOf ops i → a.tmps.getD t undef = slotB ops a0 vals i t := fun t ht => by
     rw [hI.sl]
     unfold slotB slotS
     rw [lastW_eq ops.size (Nat.le_of_lt his) fun j hj hd => ?_]
     have hk := ok_names hok his ht
     constructor
     ·
      intro hl
      rcases Nat.lt_or_ge j i with h | h
      · exact h
      ·
       exfalso
       have hji : j ≠ i := fun e => by rw [e, hun] at hl; cases hl
       have h2 := hk.2 j hj hji hd
       rw [if_neg (by omega)] at h2
       obtain ⟨oj, hoj⟩ : ∃ oj, ops[j]? = some oj := ⟨_, Array.getElem?_eq_getElem hj⟩
       have h3 := closed_pre (fun i o ho => (hedge i o ho).2) hI.cl j oj hoj (hI.cl j oj hoj hl) i h2
       rw [hun] at h3; cases h3
     ·
      intro h
      have h2 := hk.2 j hj (by omega) hd
      rw [if_pos h] at h2
      exact hpre j h2
    have hlook : ∀ t, t ∈ o.looksAt ops → a.tmps.getD t undef = slotB ops a0 vals i t := fun t ht => hnm t (by unfold namesOf; rw [ho]; exact List.mem_append_right _ ht)
    have hexec : execOp a.eval o = execOp (rho ops a0 vals i) o := by
     refine execOp_congr o (hedge i o ho).1 fun x hx => ?_
     cases x with
     | tmp t => exact hlook t (by unfold Oper.looksAt; exact List.mem_append_left _ (List.mem_filterMap.2 ⟨.tmp t, by simpa using hx, rfl⟩))
     | const v => rfl
     | global g => rfl
     | func f => rfl
    have hwant : Region.wanted o (yielded ops a.tmps) = Region.wanted o (yv ops a0 vals i) := by
     unfold Region.wanted
     cases hg : o.guard with
     | none => rfl
     | some gw =>
      obtain ⟨g, want⟩ := gw
      have e : yielded ops a.tmps g = yv ops a0 vals i g := by
       unfold yielded yv
       show (match (dstOf ops g).bind (a.tmps[·]?) with | some (.bool b) => some b | _ => none) = _
       cases hd : dstOf ops g with
       | none => rfl
       | some t =>
        have ht : t ∈ o.looksAt ops := by
         unfold Oper.looksAt
         refine List.mem_append_right _ ?_
         rw [hg]
         unfold dstOf at hd
         simp [hd]
        have h2 := hlook t ht
        have hlt : t < a.tmps.size := by rw [hI.ts]; exact hdst g t hd
        have h3 : a.tmps[t]? = some (a.tmps.getD t undef) := by simp [Array.getD_eq_getD_getElem?, hlt]
        simp only [Option.bind_some, h3, h2]
        generalize slotB ops a0 vals i t = x
        cases x <;> rfl
      simp only [e]
    -- what follows, whatever the operation has yielded
    have hnext : ∀ v w', V i (put (L listed) i) v w' → R i w w' → wpAny P .any ops Q fuel (listed.setIfInBounds i true) (a.put o.dst v) w' := by
     intro v w' hv hg
     have hd : dstOf ops i = o.dst := by unfold dstOf; rw [ho]; rfl
     have hLs := fun j => L_set listed i j (by rw [hI.sz]; exact his)
     refine ih (listed.setIfInBounds i true) (fun j => if j = i then v else vals j) (a.put o.dst v) w' (by have := left_set listed ops.size i hI.sz his hun; omega) ⟨by simpa using hI.sz, ?_, (by rw [show L (listed.setIfInBounds i true) = put (L listed) i from funext hLs]; exact hCs i _ _ _ hun (fun j h => hpre j h) hI.c hg), ?_, ?_, ?_, ?_, ?_⟩
     ·
      intro j oj hoj hj e he hb
      rw [hLs] at hj ⊢
      by_cases h1 : e.on = i
      · rw [if_pos h1]
      ·
       rw [if_neg h1]
       by_cases h2 : j = i
       ·
        subst h2
        rw [ho] at hoj; injection hoj with hoj; subst hoj
        exact hed e he hb
       ·
        rw [if_neg h2] at hj
        exact hI.cl j oj hoj hj e he hb
     ·
      intro j hj hl
      rw [hLs] at hl
      by_cases h2 : j = i
      · subst h2; rw [show L (listed.setIfInBounds j true) = put (L listed) j from funext hLs]; simpa using hv
      ·
       rw [if_neg h2] at hl ⊢
       rw [show L (listed.setIfInBounds i true) = put (L listed) i from funext hLs]
       exact hVs i _ _ _ _ _ (fun e => h2 e.symm) hun (hI.v j hj hl) hg
     ·
      intro j hj
      rw [hLs, if_neg (by omega)]
      exact hI.no j hj
     · cases o.dst <;> exact hI.df
     ·
      cases o.dst with
      | none => exact hI.ts
      | some d => simpa [Act.put] using hI.ts
     ·
      intro t
      have hother : ∀ (hne : o.dst ≠ some t), a.tmps.getD t undef = slotS ops a0 (fun j => if j = i then v else vals j) (L (listed.setIfInBounds i true)) ops.size t := fun hne => by
       rw [hI.sl]
       unfold slotS
       rw [lastW_congr (S := L (listed.setIfInBounds i true)) (S' := L listed) ops.size fun j hj hdj => by
        rw [hLs, if_neg (fun e => by subst e; rw [hd] at hdj; exact hne hdj)]]
       cases hlw : lastW ops (L listed) t ops.size with
       | none => rfl
       | some j =>
        have := lastW_spec ops.size hlw
        have hji : j ≠ i := fun e => by subst e; rw [hd] at this; exact hne this.1
        show vals j = if j = i then v else vals j
        rw [if_neg hji]
      cases hod : o.dst with
      | none => exact hother (by rw [hod]; simp)
      | some d =>
       rw [getD_put _ _ _ _ (by rw [hI.ts]; exact hdst i d (by rw [hd, hod]))]
       by_cases htd : t = d
       ·
        subst htd
        rw [if_pos rfl]
        unfold slotS
        have hnm' : t ∈ namesOf ops i := by unfold namesOf; rw [ho]; exact List.mem_append_left _ (by rw [hod]; simp)
        have hk := ok_names hok his hnm'
        rw [lastW_eq (i := i + 1) ops.size his fun j hj hdj => ?_]
        ·
         show v = match (if dstOf ops i = some t ∧ true = true then some i else _) with | some j => (if j = i then v else vals j) | none => _
         rw [if_pos ⟨by rw [hd, hod], rfl⟩]
         simp
        ·
         rw [hLs]
         by_cases hji : j = i
         · subst hji; simp
         ·
          rw [if_neg hji]
          have h2 := hk.2 j hj hji hdj
          constructor
          ·
           intro hl
           rcases Nat.lt_or_ge j i with h | h
           · omega
           ·
            exfalso
            rw [if_neg (by omega)] at h2
            obtain ⟨oj, hoj⟩ : ∃ oj, ops[j]? = some oj := ⟨_, Array.getElem?_eq_getElem hj⟩
            have h3 := closed_pre (fun i o ho => (hedge i o ho).2) hI.cl j oj hoj (hI.cl j oj hoj hl) i h2
            rw [hun] at h3; cases h3
          ·
           intro hlt
           have hlt' : j < i := by omega
           rw [if_pos hlt'] at h2
           exact hpre j h2
       ·
        rw [if_neg htd]
        exact hother (by rw [hod]; intro e; injection e with e; exact htd e.symm)
    have hclo : ∀ j k, L listed j = true → pre ops j k = true → L listed k = true := fun j k hj hk => by
     have hlt : j < ops.size := by
      rcases Nat.lt_or_ge j listed.size with h | h
      · rw [← hI.sz]; exact h
      · unfold L at hj; simp [Array.getD_eq_getD_getElem?, h] at hj
     obtain ⟨oj, hoj⟩ : ∃ oj, ops[j]? = some oj := ⟨_, Array.getElem?_eq_getElem hlt⟩
     exact closed_pre (fun i o ho => (hedge i o ho).2) hI.cl j oj hoj (hI.cl j oj hoj hj) k hk
    have hobi := hob i hin o ho (L listed) vals w hun (fun j h => hpre j h) hclo hI.c fun j hj => hI.v j (by
     have h1 := hpre j hj
     rcases Nat.lt_or_ge j n0 with h | h
     · exact h
     · rw [hI.no j h] at h1; cases h1) (hpre j hj)
    unfold wpOp
    simp only [ho]
    rcases hobi with ⟨hw, hst⟩ | ⟨hw, hu, hrr⟩
    ·
     rw [← hwant] at hw
     rw [if_pos hw]
     rw [← hexec] at hst
     exact .inl (wp_of_step hst hnext)
    ·
     rw [← hwant] at hw
     rw [if_neg (by rw [hw]; simp)]
     exact hnext undef w hu hrr
   refine ⟨fun he => ?_, hstep⟩
   exfalso
   apply hdone
   -- the least that has not come up may come up now
   intro j
   induction j using Nat.strongRecOn with
   | _ j ihj =>
    intro hj
    cases hl : L listed j with
    | true => rfl
    | false =>
     obtain ⟨oj, hoj⟩ : ∃ oj, ops[j]? = some oj := ⟨_, Array.getElem?_eq_getElem (by omega)⟩
     have : j ∈ Region.ready .any ops listed := (ready_iff listed hI.sz j).2 ⟨hl, oj, hoj, fun e hee hb => by
      have h1 := (hedge j oj hoj).2 e hee hb
      exact ihj e.on h1 (by omega)⟩
     rw [he] at this; cases this
end main
theorem wp_free {P : Program} {ops : Array Oper} {a0 : Act} {w0 : World} {Q : Exit → Act → World → Prop} {id : Nat} (n0 : Nat) (C : (Nat → Bool) → World → Prop) (R : Nat → World → World → Prop) (V : Nat → (Nat → Bool) → Value → World → Prop)
  (hm : P.follows .mixedOrders = true) (hok : ok ops a0.tmps.size n0 = true) (hn0 : n0 ≤ ops.size) (hC : C (fun _ => false) w0.drew) (hCs : ∀ i S w w', S i = false → (∀ j, pre ops i j = true → S j = true) → C S w → R i w w' → C (put S i) w') (hVs : ∀ i j S v w w', i ≠ j → S i = false → V j S v w → R i w w' → V j (put S i) v w')
  (hob : ∀ i, i < n0 → Ob P ops a0 C R V i)
  (hcont : ∀ (S : Nat → Bool) (vals : Nat → Value) (w : World), (∀ j, j < n0 → S j = true) → C S w → (∀ j, j < n0 → V j S (vals j) w) → wpList P ops Q (ops.toList.drop n0) (frameOf ops a0 vals n0) w) : (Code.region id ops true).wp P Q a0 w0 := by
 refine wp_region_any hm ?_
 have hf : ∀ i, L (Array.replicate ops.size false) i = false := fun i => by
  unfold L
  simp only [Array.getD_eq_getD_getElem?, Array.getElem?_replicate]
  split <;> rfl
 refine run_any hok hn0 hCs hVs hob hcont ops.size _ (fun _ => undef) a0 w0.drew ?_ ⟨by simp, fun i o _ h => (by rw [hf] at h; cases h), (by rw [show L (Array.replicate ops.size false) = fun _ => false from funext hf]; exact hC), fun j _ h => (by rw [hf] at h; cases h), fun j _ => hf j, rfl, rfl, fun t => ?_⟩
 ·
  unfold left
  rw [List.filter_eq_self.2 fun i _ => by rw [hf]; rfl]
  simp
 ·
  unfold slotS
  have : ∀ n, lastW ops (L (Array.replicate ops.size false)) t n = none := by
   intro n
   induction n with
   | zero => rfl
   | succ n ih =>
    show (if _ then _ else _) = _
    rw [if_neg (fun h => by rw [hf] at h; cases h.2)]
    exact ih
  rw [this]
end FreeP
namespace FreeP
open Free
def GT (S : List TypeId) (C : Bool → World → Prop) (w w' : World) : Prop := KeepTy S w w' ∧ C true w'
def Rl (d : Nat) (S : List TypeId) (C : Bool → World → Prop) (i : Nat) : World → World → Prop := if i = d then GT S C else Grow
def C1 (d : Nat) (C : Bool → World → Prop) (T : Nat → Bool) (w : World) : Prop := C (T d) w
structure SV (S : List TypeId) where
 p : Value → World → Prop
 st : ∀ v w w', p v w → Grow w w' → p v w'
 sg : ∀ v w w', p v w → KeepTy S w w' → p v w'
section words
variable {S : List TypeId} {P : Program} {ops : Array Oper} {a0 : Act} {d i : Nat} {C : Bool → World → Prop} {VS : Nat → Value → World → Prop} {o : Oper} {V : Value → World → Prop} {w : World} {ρ : Operand → Value} {c : Value}
def kc (c : Value) : SV S := ⟨fun v _ => v = c, fun _ _ _ h _ => h, fun _ _ _ h _ => h⟩
def VV (l : List (SV S)) (j : Nat) : Value → World → Prop := (l.getD j (kc undef)).p
theorem of_does (h : Free.Does P V w ρ o) : StepR P Grow V w ((execOp ρ o).run P w) := by
 unfold Free.Does at h
 generalize (execOp ρ o).run P w = r at h ⊢
 cases r with
 | ok n w' =>
  cases n <;> simp only [Free.StepR] at h <;> simp only [StepR]
  case value => exact h
  case skip => exact h
  case enter f args => exact h.2.mono fun e w'' ⟨v, he, hv, hg⟩ => ⟨v, he, hv, bt h.1 hg⟩
 | halt x w' => simp only [Free.StepR] at h
theorem ob_plain (oi : Oper) (ho : ops[i]? = some oi) (hg : oi.guard = none) (hid : i ≠ d) (h : ∀ (b : Bool) (vals : Nat → Value) (w : World), (pre ops i d = true → b = true) → C b w → (∀ j, pre ops i j = true → VS j (vals j) w) → Free.Does P (VS i) w (rho ops a0 vals i) oi) : Ob P ops a0 (C1 d C) (Rl d S C) (fun j _ => VS j) i := by
 intro o ho' T vals w _ hb _ hC hd
 rw [ho] at ho'
 injection ho' with ho'
 subst ho'
 refine .inl ⟨by simp [Region.wanted, hg], ?_⟩
 unfold Rl
 rw [if_neg hid]
 exact of_does (h (T d) vals w (hb d) hC hd)
theorem wp_free_l {w0 : World} {Q : Exit → Act → World → Prop} {id : Nat} (n0 d : Nat) (S : List TypeId) (C : Bool → World → Prop) (l : List (SV S))
  (hm : P.follows .mixedOrders = true) (hok : ok ops a0.tmps.size n0 = true) (hn0 : n0 ≤ ops.size) (hd : d < n0) (hC : C false w0.drew) (hCs : ∀ b w w', C b w → Grow w w' → C b w')
  (hob : ∀ i, i < n0 → Ob P ops a0 (C1 d C) (Rl d S C) (fun j _ => VV l j) i)
  (hcont : ∀ (vals : Nat → Value) (w : World), C true w → (∀ j, j < n0 → VV l j (vals j) w) → wpList P ops Q (ops.toList.drop n0) (frameOf ops a0 vals n0) w) : (Code.region id ops true).wp P Q a0 w0 := by
 refine wp_free n0 (C1 d C) (Rl d S C) (fun j _ => VV l j) hm hok hn0 hC (fun i T w w' hi _ h g => ?_) (fun i j _ v w w' _ _ h g => ?_) hob (fun T vals w hT hC hv => hcont vals w (by have h : C (T d) w := hC; rw [hT d hd] at h; exact h) hv)
 ·
  unfold Rl at g
  unfold C1 put
  by_cases e : i = d
  ·
   rw [if_pos e] at g
   rw [if_pos e.symm]
   exact g.2
  ·
   rw [if_neg e] at g
   rw [if_neg (fun x => e x.symm)]
   exact hCs _ w w' h g
 ·
  unfold Rl at g
  by_cases hi : i = d
  · rw [if_pos hi] at g; exact (l.getD j (kc undef)).sg v w w' h g.1
  · rw [if_neg hi] at g; exact (l.getD j (kc undef)).st v w w' h g
end words
def C2 (d1 d2 : Nat) (D : Nat → World → Prop) (T : Nat → Bool) (w : World) : Prop := match T d1, T d2 with
 | false, false => D 0 w
 | true, false => D 1 w
 | true, true => D 2 w
 | false, true => False
section two
variable {S : List TypeId} {b : Nat} {P : Program} {ops : Array Oper} {a0 : Act} {d1 d2 i : Nat} {D : Nat → World → Prop} {VS : Nat → Value → World → Prop} {o : Oper} {V : Value → World → Prop} {w : World} {ρ : Operand → Value} {c : Value}
end two
/-! One append within the region: the rows that it uses are not looked at behind it. -/
inductive AK
 | ac (c : Value)
 | ad (k : Free.SV)
def VAp (l : List AK) (d : Nat) (k : Free.SV) (dead : Bool) (j : Nat) : Value → World → Prop := if j = d then k.p else match l.getD j (.ac undef) with
 | .ac c => fun v _ => v = c
 | .ad q => fun v w => dead = true ∨ q.p v w
section app
variable {P : Program} {ops : Array Oper} {a0 : Act} {d i b : Nat} {C : World → Prop} {l : List AK} {k : Free.SV}
def RA (d b : Nat) (i : Nat) : World → World → Prop := if i = d then (fun w w' => Below b w w') else Grow
theorem oba_plain (oi : Oper) (ho : ops[i]? = some oi) (hg : oi.guard = none) (hid : i ≠ d) (h : ∀ (dead : Bool) (vals : Nat → Value) (w : World), C w → (∀ j, pre ops i j = true → VAp l d k dead j (vals j) w) → Free.Does P (VAp l d k dead i) w (rho ops a0 vals i) oi) : Ob P ops a0 (fun _ => C) (RA d b) (fun j T => VAp l d k (T d) j) i := by
 intro o ho' T vals w _ _ _ hC hd
 rw [ho] at ho'
 injection ho' with ho'
 subst ho'
 refine .inl ⟨by simp [Region.wanted, hg], ?_⟩
 unfold RA
 rw [if_neg hid]
 have e : put T i d = T d := by unfold put; rw [if_neg (fun x => hid x.symm)]
 simp only [e]
 exact of_does (h (T d) vals w hC hd)
theorem oba_app (oi : Oper) (ho : ops[d]? = some oi) (hg : oi.guard = none) (h : ∀ (vals : Nat → Value) (w : World), C w → (∀ j, pre ops d j = true → VAp l d k false j (vals j) w) → StepR P (fun w w' => Below b w w') k.p w ((execOp (rho ops a0 vals d) oi).run P w)) : Ob P ops a0 (fun _ => C) (RA d b) (fun j T => VAp l d k (T d) j) d := by
 intro o ho' T vals w hT _ _ hC hd
 rw [ho] at ho'
 injection ho' with ho'
 subst ho'
 refine .inl ⟨by simp [Region.wanted, hg], ?_⟩
 unfold RA
 rw [if_pos rfl]
 have e : VAp l d k (put T d d) d = k.p := by unfold VAp; rw [if_pos rfl]
 simp only [e]
 refine h vals w hC fun j hj => ?_
 have this : VAp l d k (T d) j (vals j) w := hd j hj
 rw [hT] at this
 exact this
theorem wp_app_l {w0 : World} {Q : Exit → Act → World → Prop} {id : Nat} (n0 d b : Nat) (C : World → Prop) (l : List AK) (k : Free.SV)
  (hm : P.follows .mixedOrders = true) (hok : ok ops a0.tmps.size n0 = true) (hn0 : n0 ≤ ops.size) (hd0 : d < n0) (hC : C w0.drew) (hCs : ∀ w w', C w → Grow w w' → C w') (hCb : ∀ w w', C w → Below b w w' → C w')
  (hob : ∀ i, i < n0 → Ob P ops a0 (fun _ => C) (RA d b) (fun j T => VAp l d k (T d) j) i)
  (hcont : ∀ (vals : Nat → Value) (w : World), C w → (∀ j, j < n0 → VAp l d k true j (vals j) w) → wpList P ops Q (ops.toList.drop n0) (frameOf ops a0 vals n0) w) : (Code.region id ops true).wp P Q a0 w0 := by
 refine wp_free n0 (fun _ => C) (RA d b) (fun j T => VAp l d k (T d) j) hm hok hn0 hC (fun i T w w' _ _ h g => ?_) (fun i j T v w w' hij hi h g => ?_) hob (fun T vals w hT hC hv => hcont vals w hC fun j hj => by have this : VAp l d k (T d) j (vals j) w := hv j hj; rw [hT d hd0] at this; exact this)
 ·
  unfold RA at g
  by_cases e : i = d
  · rw [if_pos e] at g; exact hCb w w' h g
  · rw [if_neg e] at g; exact hCs w w' h g
 ·
  unfold RA at g
  unfold VAp put at *
  by_cases e : i = d
  ·
   rw [if_pos e] at g
   rw [if_neg (show ¬ j = d from fun x => hij (e.trans x.symm))] at h ⊢
   rw [if_pos e.symm]
   generalize l.getD j (.ac undef) = y at h ⊢
   cases y with
   | ac c => exact h
   | ad q => exact .inl rfl
  ·
   rw [if_neg e] at g
   rw [if_neg (show ¬ d = i from fun x => e x.symm)]
   by_cases ej : j = d
   ·
    rw [if_pos ej] at h ⊢
    exact k.st v w w' h g
   ·
    rw [if_neg ej] at h ⊢
    generalize l.getD j (.ac undef) = y at h ⊢
    cases y with
    | ac c => exact h
    | ad q => exact h.imp (fun x => x) fun x => q.st v w w' x g
end app
end FreeP
end Go.Proofs.YteoledjllpgcbaaGreatDoor
