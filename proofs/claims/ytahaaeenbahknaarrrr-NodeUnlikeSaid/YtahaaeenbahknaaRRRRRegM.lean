/-
  Regions that draw their order, taken by hand, under a condition S that holds only till one of the operations M has come up: what M's operations await may be taken first.
-/
import Derived.Test.YtahaaeenbahknaaRRRRReg
namespace Go.Proofs.YtahaaeenbahknaaRRRR
open Go.RowKit
section
variable {P : Program} {ops : Array Oper} {Q : Exit → Act → World → Prop} {md : Region.Mode} {S : World → Prop} {M : List Nat}
def HeldM (M : List Nat) (S : World → Prop) (listed : Array Bool) (w : World) : Prop := (∃ m ∈ M, listed.getD m false = true) ∨ S w
def wpAnyM (P : Program) (md : Region.Mode) (ops : Array Oper) (Q : Exit → Act → World → Prop) (M : List Nat) (S : World → Prop) : Nat → Array Bool → Act → World → Prop
  | 0, listed, a, w => Region.ready md ops listed = [] ∧ Q .normal a w
  | fuel + 1, listed, a, w =>
    (Region.ready md ops listed = [] → Q .normal a w) ∧
    ∀ i ∈ Region.ready md ops listed, wpOp P ops Q i (fun a' w' => HeldM M S (listed.setIfInBounds i true) w' ∧ wpAnyM P md ops Q M S fuel (listed.setIfInBounds i true) a' w') a w
theorem wpAny_of_M : ∀ (fuel : Nat) (listed : Array Bool) (a : Act) (w : World), wpAnyM P md ops Q M S fuel listed a w → wpAny P md ops Q fuel listed a w
  | 0, _, _, _, h => h
  | fuel + 1, _, _, _, h => ⟨h.1, fun i hi => wpOp_mono (fun a' w' h' => wpAny_of_M fuel _ a' w' h'.2) (h.2 i hi)⟩
/-- each of M awaits i, or another of M -/
def late (md : Region.Mode) (ops : Array Oper) (M : List Nat) (i : Nat) : Bool :=
  M.all fun m => match ops[m]? with
    | some o => o.after.any fun e => Region.binds md e && (e.on == i || M.contains e.on)
    | none => false
def unlisted (M : List Nat) (listed : Array Bool) : Bool := M.all fun m => listed.getD m false == false
theorem not_ready {listed : Array Bool} {i j : Nat} (hl : late md ops M i = true) (hu : unlisted M listed = true) (hr : i ∈ Region.ready md ops listed) (hj : j ∈ Region.ready md ops listed) : j ∉ M := by
  intro hM
  obtain ⟨_, o, ho, hall⟩ := mem_ready.1 hj
  have h1 := List.all_eq_true.1 hl j hM
  simp only [ho] at h1
  obtain ⟨e, he, h2⟩ := Array.any_eq_true'.1 h1
  simp only [Bool.and_eq_true, Bool.or_eq_true, beq_iff_eq, List.contains_iff_mem] at h2
  have h3 := hall e he h2.1
  rcases h2.2 with h4 | h4
  · subst h4
    have h0 := (mem_ready.1 hr).1
    rcases Nat.lt_or_ge e.on listed.size with h' | h'
    · simp [h'] at h0 h3; rw [h0] at h3; cases h3
    · simp [Array.getElem?_eq_none h'] at h3
  · have h5 := List.all_eq_true.1 hu e.on h4
    rw [h3] at h5
    cases h5
theorem unlisted_set {listed : Array Bool} {j : Nat} (hu : unlisted M listed = true) (hj : j ∉ M) : unlisted M (listed.setIfInBounds j true) = true := by
  refine List.all_eq_true.2 fun m hm => ?_
  have h := List.all_eq_true.1 hu m hm
  rwa [getD_set_ne false (show j ≠ m from fun e => hj (by rw [e]; exact hm))]
theorem held_out {listed : Array Bool} {w : World} (h : HeldM M S listed w) (hu : unlisted M listed = true) : S w := by
  rcases h with ⟨m, hm, h⟩ | h
  · have h1 := List.all_eq_true.1 hu m hm
    rw [h] at h1
    cases h1
  · exact h
theorem wpAnyM_first {i : Nat} {oi : Oper} {v : Value} (hi : ops[i]? = some oi) (hsel : ∀ (j : Nat) (o : Oper) cs b, ops[j]? = some o → o.op ≠ .select cs b)
    (hQ : ∀ c a w, Q (.panic c) (a.put oi.dst v) w → Q (.panic c) a w) (hl : late md ops M i = true) (hiM : i ∉ M) :
    ∀ (fuel : Nat) (listed : Array Bool) (a : Act) (w : World), unlisted M listed = true →
      (∀ j oj, ops[j]? = some oj → j ≠ i → listed.getD j true = false → (∀ e ∈ oj.after, Region.binds md e = true → e.on ≠ i) → oi.apart ops oj = true) →
      i ∈ Region.ready md ops listed → YieldsIf P ops S oi v a → S w →
      wpAnyM P md ops Q M S fuel (listed.setIfInBounds i true) (a.put oi.dst v) w → wpAnyM P md ops Q M S (fuel + 1) listed a w := by
  intro fuel
  induction fuel with
  | zero =>
    intro listed a w hu _ hr hy hS H
    refine ⟨fun h => (by rw [h] at hr; cases hr), fun j hj => ?_⟩
    by_cases hji : j = i
    · subst hji; exact hy.wpOp hi hS ⟨.inr hS, H⟩
    · have := ready_mono hj hji
      rw [H.1] at this
      cases this
  | succ fuel ih =>
    intro listed a w hu hfree hr hy hS H
    refine ⟨fun h => (by rw [h] at hr; cases hr), fun j hj => ?_⟩
    by_cases hji : j = i
    · subst hji; exact hy.wpOp hi hS ⟨.inr hS, H⟩
    · have hjM := not_ready hl hu hr hj
      have hu2 : unlisted M (listed.setIfInBounds j true) = true := unlisted_set hu hjM
      have hu3 : unlisted M ((listed.setIfInBounds i true).setIfInBounds j true) = true := unlisted_set (unlisted_set hu hiM) hjM
      have h1 := H.2 j (ready_mono hj hji)
      obtain ⟨hjun, oj, hoj, hall⟩ := mem_ready.1 hj
      have hnot : ∀ e ∈ oj.after, Region.binds md e = true → e.on ≠ i := fun e he hb heq => by
        have h1 := hall e he hb
        have h0 := (mem_ready.1 hr).1
        rw [heq] at h1
        rcases Nat.lt_or_ge i listed.size with h' | h'
        · simp [h'] at h0 h1; rw [h0] at h1; cases h1
        · simp [Array.getElem?_eq_none h'] at h1
      have h2 := wpOp_putIf hoj (hfree j oj hoj hji hjun hnot) (fun cs b => hsel i oi cs b hi) (fun cs b => hsel j oj cs b hoj) hQ hy h1
      have hfree' : ∀ k ok, ops[k]? = some ok → k ≠ i → (listed.setIfInBounds j true).getD k true = false →
          (∀ e ∈ ok.after, Region.binds md e = true → e.on ≠ i) → oi.apart ops ok = true := fun k ok hk hki hun hno => by
        refine hfree k ok hk hki ?_ hno
        by_cases hjk : j = k
        · subst hjk; exact hjun
        · rw [getD_set_ne true hjk] at hun; exact hun
      refine wpOp_mono (fun a' w' h3 => ?_) h2
      have hSw := held_out h3.2.1 hu3
      refine ⟨.inr hSw, ih (listed.setIfInBounds j true) a' w' hu2 hfree' (ready_mono hr (Ne.symm hji)) h3.1 hSw ?_⟩
      rw [Array.setIfInBounds_comm _ _ hji]
      exact h3.2.2
theorem held_set {listed : Array Bool} {i : Nat} {w : World} (h : HeldM M S listed w) : HeldM M S (listed.setIfInBounds i true) w := by
  rcases h with ⟨m, hm, h⟩ | h
  · exact .inl ⟨m, hm, getD_set_true h⟩
  · exact .inr h
theorem held_less {listed : Array Bool} {i : Nat} {w : World} (hi : i ∉ M) (h : HeldM M S (listed.setIfInBounds i true) w) : HeldM M S listed w := by
  rcases h with ⟨m, hm, h⟩ | h
  · exact .inl ⟨m, hm, by rwa [getD_set_ne false (show i ≠ m from fun e => hi (by rw [e]; exact hm))] at h⟩
  · exact .inr h
theorem wpAnyM_pure {i : Nat} {oi : Oper} {v : Value} (hi : ops[i]? = some oi) (hsel : ∀ (j : Nat) (o : Oper) cs b, ops[j]? = some o → o.op ≠ .select cs b)
    (hQ : ∀ c a w, Q (.panic c) (a.put oi.dst v) w → Q (.panic c) a w) (hiM : i ∉ M) :
    ∀ (fuel : Nat) (listed : Array Bool) (a : Act) (w : World), HeldM M S listed w →
      (∀ j oj, ops[j]? = some oj → j ≠ i → listed.getD j true = false → (∀ e ∈ oj.after, Region.binds md e = true → e.on ≠ i) → oi.apart ops oj = true) →
      i ∈ Region.ready md ops listed → YieldsIf P ops (fun _ => True) oi v a →
      wpAnyM P md ops Q M S fuel (listed.setIfInBounds i true) (a.put oi.dst v) w → wpAnyM P md ops Q M S (fuel + 1) listed a w := by
  intro fuel
  induction fuel with
  | zero =>
    intro listed a w hS _ hr hy H
    refine ⟨fun h => (by rw [h] at hr; cases hr), fun j hj => ?_⟩
    by_cases hji : j = i
    · subst hji; exact hy.wpOp hi trivial ⟨held_set hS, H⟩
    · have := ready_mono hj hji
      rw [H.1] at this
      cases this
  | succ fuel ih =>
    intro listed a w hS hfree hr hy H
    refine ⟨fun h => (by rw [h] at hr; cases hr), fun j hj => ?_⟩
    by_cases hji : j = i
    · subst hji; exact hy.wpOp hi trivial ⟨held_set hS, H⟩
    · have h1 := H.2 j (ready_mono hj hji)
      obtain ⟨hjun, oj, hoj, hall⟩ := mem_ready.1 hj
      have hnot : ∀ e ∈ oj.after, Region.binds md e = true → e.on ≠ i := fun e he hb heq => by
        have h1 := hall e he hb
        have h0 := (mem_ready.1 hr).1
        rw [heq] at h1
        rcases Nat.lt_or_ge i listed.size with h' | h'
        · simp [h'] at h0 h1; rw [h0] at h1; cases h1
        · simp [Array.getElem?_eq_none h'] at h1
      have h2 := wpOp_putIf hoj (hfree j oj hoj hji hjun hnot) (fun cs b => hsel i oi cs b hi) (fun cs b => hsel j oj cs b hoj) hQ hy h1
      have hfree' : ∀ k ok, ops[k]? = some ok → k ≠ i → (listed.setIfInBounds j true).getD k true = false →
          (∀ e ∈ ok.after, Region.binds md e = true → e.on ≠ i) → oi.apart ops ok = true := fun k ok hk hki hun hno => by
        refine hfree k ok hk hki ?_ hno
        by_cases hjk : j = k
        · subst hjk; exact hjun
        · rw [getD_set_ne true hjk] at hun; exact hun
      refine wpOp_mono (fun a' w' h3 => ?_) h2
      have hSw : HeldM M S (listed.setIfInBounds j true) w' := held_less hiM (by rw [Array.setIfInBounds_comm _ _ hji]; exact h3.2.1)
      refine ⟨hSw, ih (listed.setIfInBounds j true) a' w' hSw hfree' (ready_mono hr (Ne.symm hji)) h3.1 ?_⟩
      rw [Array.setIfInBounds_comm _ _ hji]
      exact h3.2.2
theorem wpAnyM_done {listed : Array Bool} {a : Act} {w : World} (hr : Region.ready md ops listed = []) (h : Q .normal a w) :
    ∀ fuel, wpAnyM P md ops Q M S fuel listed a w
  | 0 => ⟨hr, h⟩
  | _ + 1 => ⟨fun _ => h, by rw [hr]; simp⟩
theorem wp_region_M {id : Nat} {a : Act} {w : World} (hm : P.follows .mixedOrders = true) (hS : S w.drew)
    (h : S w.drew → wpAnyM P .any ops Q M S ops.size (Array.replicate ops.size false) a w.drew) : (Code.region id ops true).wp P Q a w :=
  wp_region_any hm (wpAny_of_M _ _ _ _ (h hS))
end
section
variable {P : Program} {md : Region.Mode} {Q : Exit → Act → World → Prop} {S : World → Prop} {M : List Nat}
theorem mTake {l r : List Oper} {i : Nat} {oi : Oper} {v : Value} {fuel : Nat} {listed : Array Bool} {a : Act} {w : World} (hi : l.drop i = oi :: r)
    (hs : (Region.noSelect l.toArray && (Region.free md l.toArray listed i && ((Region.ready md l.toArray listed).contains i && (late md l.toArray M i && (!M.contains i && unlisted M listed))))) = true)
    (hQ : ∀ c a w, Q (.panic c) (a.put oi.dst v) w → Q (.panic c) a w) (hy : YieldsIf P l.toArray S oi v a) (hS : S w)
    (h : wpAnyM P md l.toArray Q M S fuel (listed.setIfInBounds i true) (a.put oi.dst v) w) : wpAnyM P md l.toArray Q M S (fuel + 1) listed a w := by
  simp only [Bool.and_eq_true, Bool.not_eq_true'] at hs
  obtain ⟨h1, h2, h3, h4, h5, h6⟩ := hs
  exact wpAnyM_first (at_drop hi) (Region.noSelect_spec h1) hQ h4 (by simpa using h5) fuel listed a w h6 (Region.free_spec (at_drop hi) h2) (by simpa using h3) hy hS h
/-- one that yields whatever the world -/
theorem mPure {l r : List Oper} {i : Nat} {oi : Oper} {v : Value} {fuel : Nat} {listed : Array Bool} {a : Act} {w : World} (hi : l.drop i = oi :: r)
    (hs : (Region.noSelect l.toArray && (Region.free md l.toArray listed i && ((Region.ready md l.toArray listed).contains i && !M.contains i))) = true)
    (hQ : ∀ c a w, Q (.panic c) (a.put oi.dst v) w → Q (.panic c) a w) (hy : YieldsIf P l.toArray (fun _ => True) oi v a) (hS : HeldM M S listed w)
    (h : wpAnyM P md l.toArray Q M S fuel (listed.setIfInBounds i true) (a.put oi.dst v) w) : wpAnyM P md l.toArray Q M S (fuel + 1) listed a w := by
  simp only [Bool.and_eq_true, Bool.not_eq_true'] at hs
  obtain ⟨h1, h2, h3, h5⟩ := hs
  exact wpAnyM_pure (at_drop hi) (Region.noSelect_spec h1) hQ (by simpa using h5) fuel listed a w hS (Region.free_spec (at_drop hi) h2) (by simpa using h3) hy h
/-- the one that is ready -/
theorem mOne {l r : List Oper} {i : Nat} {o : Oper} {fuel : Nat} {listed : Array Bool} {a : Act} {w : World} (hi : l.drop i = o :: r) (hr : Region.ready md l.toArray listed = [i])
    (h : ∀ K' : Act → World → Prop, Shut (∀ a w, HeldM M S (listed.setIfInBounds i true) w → wpAnyM P md l.toArray Q M S fuel (listed.setIfInBounds i true) a w → K' a w) → if Region.wanted o (yielded l.toArray a.tmps) = true then Oper.wp P o a w K' Q else K' (a.put o.dst undef) w) :
    wpAnyM P md l.toArray Q M S (fuel + 1) listed a w := by
  refine ⟨fun h0 => absurd (hr ▸ h0) (by simp), fun j hj => ?_⟩
  rw [hr, List.mem_singleton] at hj
  subst hj
  exact wpOp_step (at_drop hi) (fun K' hK => h K' (fun a w hS hW => hK a w ⟨hS, hW⟩))
end
end Go.Proofs.YtahaaeenbahknaaRRRR
