/- A region whose last store turns what its loads read: the loads may be taken first all the same, since the store waits for them. -/
import Derived.Deep.RegionHeldLaw
namespace Go.Proofs.YtjhocaleampamaaDoor
set_option linter.unusedVariables false
section
variable {P : Program} {ops : Array Oper} {Q : Exit → Act → World → Prop} {md : Region.Mode} {S : World → Prop} {z : Nat}
/-- Number j comes up behind number i. -/
def awaits (md : Region.Mode) (ops : Array Oper) (j i : Nat) : Bool := (ops[j]?.map fun o => o.after.any fun e => Region.binds md e && e.on == i).getD false
theorem awaits_spec {j i : Nat} (h : awaits md ops j i = true) : ∃ o, ops[j]? = some o ∧ ∃ e ∈ o.after, Region.binds md e = true ∧ e.on = i := by
  unfold awaits at h
  cases ho : ops[j]? with
  | none => rw [ho] at h; cases h
  | some o =>
    rw [ho] at h
    obtain ⟨e, he, hb⟩ := Array.any_eq_true'.1 h
    simp only [Bool.and_eq_true, beq_iff_eq] at hb
    exact ⟨o, rfl, e, he, hb.1, hb.2⟩
/-- Whatever order is picked from here on, and S holds behind each operation as long as number z has not come up. -/
def wpAnyE (P : Program) (md : Region.Mode) (ops : Array Oper) (Q : Exit → Act → World → Prop) (S : World → Prop) (z : Nat) : Nat → Array Bool → Act → World → Prop
  | 0, listed, a, w => Region.ready md ops listed = [] ∧ Q .normal a w
  | fuel + 1, listed, a, w =>
    (Region.ready md ops listed = [] → Q .normal a w) ∧
    ∀ i ∈ Region.ready md ops listed, wpOp P ops Q i (fun a' w' => ((listed.setIfInBounds i true).getD z true = false → S w') ∧ wpAnyE P md ops Q S z fuel (listed.setIfInBounds i true) a' w') a w
theorem wpAny_of_E : ∀ (fuel : Nat) (listed : Array Bool) (a : Act) (w : World), wpAnyE P md ops Q S z fuel listed a w → wpAny P md ops Q fuel listed a w
  | 0, _, _, _, h => h
  | fuel + 1, _, _, _, h => ⟨h.1, fun i hi => wpOp_mono (fun a' w' h' => wpAny_of_E fuel _ a' w' h'.2) (h.2 i hi)⟩
theorem wpAnyE_first {i : Nat} {oi : Oper} {v : Value} (hi : ops[i]? = some oi) (hsel : ∀ (j : Nat) (o : Oper) cs b, ops[j]? = some o → o.op ≠ .select cs b)
    (hQ : ∀ c a w, Q (.panic c) (a.put oi.dst v) w → Q (.panic c) a w) (hz : awaits md ops z i = true) :
    ∀ (fuel : Nat) (listed : Array Bool) (a : Act) (w : World),
      (∀ j oj, ops[j]? = some oj → j ≠ i → listed.getD j true = false → (∀ e ∈ oj.after, Region.binds md e = true → e.on ≠ i) → oi.apart ops oj = true) →
      listed.getD z true = false → i ∈ Region.ready md ops listed → YieldsIf P ops S oi v a → S w →
      wpAnyE P md ops Q S z fuel (listed.setIfInBounds i true) (a.put oi.dst v) w → wpAnyE P md ops Q S z (fuel + 1) listed a w := by
  intro fuel
  induction fuel with
  | zero =>
    intro listed a w _ hzu hr hy hS H
    refine ⟨fun h => (by rw [h] at hr; cases hr), fun j hj => ?_⟩
    by_cases hji : j = i
    · subst hji; exact hy.wpOp hi hS ⟨fun _ => hS, H⟩
    · have := ready_mono hj hji
      rw [H.1] at this
      cases this
  | succ fuel ih =>
    intro listed a w hfree hzu hr hy hS H
    refine ⟨fun h => (by rw [h] at hr; cases hr), fun j hj => ?_⟩
    by_cases hji : j = i
    · subst hji; exact hy.wpOp hi hS ⟨fun _ => hS, H⟩
    · have h1 := H.2 j (ready_mono hj hji)
      obtain ⟨hjun, oj, hoj, hall⟩ := mem_ready.1 hj
      have h0 := (mem_ready.1 hr).1
      have hun : ∀ e, listed.getD e true = false → listed.getD e false = true → False := fun e ha hb => by
        rcases Nat.lt_or_ge e listed.size with h' | h'
        · simp [h'] at ha hb; rw [ha] at hb; cases hb
        · simp [Array.getElem?_eq_none h'] at ha
      have hnot : ∀ e ∈ oj.after, Region.binds md e = true → e.on ≠ i := fun e he hb heq => hun i h0 (heq ▸ hall e he hb)
      have hjz : j ≠ z := fun e => by
        subst e
        obtain ⟨ok, hok, x, hx, hb, hx2⟩ := awaits_spec hz
        rw [hoj] at hok
        cases hok
        exact hnot x hx hb hx2
      have h2 := wpOp_putIf hoj (hfree j oj hoj hji hjun hnot) (fun cs b => hsel i oi cs b hi) (fun cs b => hsel j oj cs b hoj) hQ hy h1
      have hfree' : ∀ k ok, ops[k]? = some ok → k ≠ i → (listed.setIfInBounds j true).getD k true = false →
          (∀ e ∈ ok.after, Region.binds md e = true → e.on ≠ i) → oi.apart ops ok = true := fun k ok hk hki hu hno => by
        refine hfree k ok hk hki ?_ hno
        by_cases hjk : j = k
        · subst hjk; exact hjun
        · rw [getD_set_ne true hjk] at hu; exact hu
      have hzl : (listed.setIfInBounds i true).setIfInBounds j true = (listed.setIfInBounds j true).setIfInBounds i true := Array.setIfInBounds_comm _ _ (fun e => hji e.symm)
      have hzi : ¬ i = z := fun e => by
        subst e
        obtain ⟨ok, hok, x, hx, hb, hx2⟩ := awaits_spec hz
        obtain ⟨_, ok2, hok2, hall2⟩ := mem_ready.1 hr
        rw [hok] at hok2
        cases hok2
        exact hun i h0 (hx2 ▸ hall2 x hx hb)
      have hzj : (listed.setIfInBounds j true).getD z true = false := by rw [getD_set_ne true hjz]; exact hzu
      refine wpOp_mono (fun a' w' h3 => ?_) h2
      have hSw : S w' := h3.2.1 (by rw [hzl, getD_set_ne true hzi]; exact hzj)
      refine ⟨fun _ => hSw, ih (listed.setIfInBounds j true) a' w' hfree' hzj (ready_mono hr (fun e => hji e.symm)) h3.1 hSw ?_⟩
      rw [← hzl]
      exact h3.2.2
theorem wpAnyE_take {i : Nat} {oi : Oper} {v : Value} {fuel : Nat} {listed : Array Bool} {a : Act} {w : World} (hi : ops[i]? = some oi)
    (hs : Region.noSelect ops = true) (hf : Region.free md ops listed i = true) (hr : (Region.ready md ops listed).contains i = true) (hz : awaits md ops z i = true) (hzu : listed.getD z true = false)
    (hQ : ∀ c a w, Q (.panic c) (a.put oi.dst v) w → Q (.panic c) a w) (hy : YieldsIf P ops S oi v a) (hS : S w)
    (h : wpAnyE P md ops Q S z fuel (listed.setIfInBounds i true) (a.put oi.dst v) w) : wpAnyE P md ops Q S z (fuel + 1) listed a w :=
  wpAnyE_first hi (Region.noSelect_spec hs) hQ hz fuel listed a w (Region.free_spec hi hf) hzu (by simpa using hr) hy hS h
theorem wpAnyE_done {listed : Array Bool} {a : Act} {w : World} (hr : Region.ready md ops listed = []) (h : Q .normal a w) : ∀ fuel, wpAnyE P md ops Q S z fuel listed a w
  | 0 => ⟨hr, h⟩
  | _ + 1 => ⟨fun _ => h, by rw [hr]; simp⟩
def AllReadyE (P : Program) (md : Region.Mode) (ops : Array Oper) (Q : Exit → Act → World → Prop) (S : World → Prop) (z fuel : Nat) (listed : Array Bool) (a : Act) (w : World) (rs : List Nat) : Prop :=
  ∀ i ∈ rs, wpOp P ops Q i (fun a' w' => ((listed.setIfInBounds i true).getD z true = false → S w') ∧ wpAnyE P md ops Q S z fuel (listed.setIfInBounds i true) a' w') a w
theorem AllReadyE.nil {fuel : Nat} {listed : Array Bool} {a : Act} {w : World} : AllReadyE P md ops Q S z fuel listed a w [] := fun _ h => by cases h
/-- One of those that may come up: behind it S is shown anew (unless it is number z), and the rest follows. -/
theorem AllReadyE.cons {fuel : Nat} {listed : Array Bool} {a : Act} {w : World} {i : Nat} {o : Oper} {rs : List Nat} (ho : ops[i]? = some o)
    (h : ∀ K' : Act → World → Prop, (∀ a w, ((listed.setIfInBounds i true).getD z true = false → S w) → wpAnyE P md ops Q S z fuel (listed.setIfInBounds i true) a w → K' a w) → if Region.wanted o (yielded ops a.tmps) = true then Oper.wp P o a w K' Q else K' (a.put o.dst undef) w)
    (hs : AllReadyE P md ops Q S z fuel listed a w rs) : AllReadyE P md ops Q S z fuel listed a w (i :: rs) := fun j hj => by
  rcases List.mem_cons.1 hj with rfl | hj
  · exact wpOp_step ho fun K' hK => h K' fun a w h1 h2 => hK a w ⟨h1, h2⟩
  · exact hs j hj
theorem wpAnyE_ready {rs : List Nat} {fuel : Nat} {listed : Array Bool} {a : Act} {w : World} (hr : Region.ready md ops listed = rs) (hne : rs ≠ [])
    (h : AllReadyE P md ops Q S z fuel listed a w rs) : wpAnyE P md ops Q S z (fuel + 1) listed a w := ⟨fun h0 => absurd (hr ▸ h0) hne, hr ▸ h⟩
theorem wp_region_E {id : Nat} {a : Act} {w : World} (z : Nat) (S : World → Prop) (hm : P.follows .mixedOrders = true)
    (h : wpAnyE P .any ops Q S z ops.size (Array.replicate ops.size false) a w.drew) : (Code.region id ops true).wp P Q a w :=
  wp_region_any hm (wpAny_of_E _ _ _ _ h)
/-- The same, the marks written out: else each look at them grows threefold with each operation that was taken. -/
theorem wp_region_El {id : Nat} {a : Act} {w : World} (z : Nat) (S : World → Prop) (l0 : Array Bool) (hm : P.follows .mixedOrders = true) (hl : Array.replicate ops.size false = l0)
    (h : wpAnyE P .any ops Q S z ops.size l0 a w.drew) : (Code.region id ops true).wp P Q a w := by
  subst hl
  exact wp_region_E z S hm h
end
end Go.Proofs.YtjhocaleampamaaDoor
