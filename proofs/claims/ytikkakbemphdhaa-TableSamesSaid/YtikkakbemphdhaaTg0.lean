/- Loads taken first in a region that later stores into their cells: the condition is asked only behind what may come before a load. -/
import Derived.Deep.RegionHeld
import Derived.KernelRfl
set_option linter.unusedSimpArgs false
set_option linter.unusedVariables false
namespace Go.Fl
section
variable {P : Program} {ops : Array Oper} {Q : Exit → Act → World → Prop} {md : Region.Mode} {S : World → Prop} {late : List Nat}

/-- whatever order is picked, and an operation that is not late keeps S. -/
def wpAnyK (P : Program) (md : Region.Mode) (ops : Array Oper) (Q : Exit → Act → World → Prop) (S : World → Prop) (late : List Nat) : Nat → Array Bool → Act → World → Prop
  | 0, listed, a, w => Region.ready md ops listed = [] ∧ Q .normal a w
  | fuel + 1, listed, a, w =>
    (Region.ready md ops listed = [] → Q .normal a w) ∧
    ∀ i ∈ Region.ready md ops listed, wpOp P ops Q i (fun a' w' => (late.contains i = false → S w → S w') ∧ wpAnyK P md ops Q S late fuel (listed.setIfInBounds i true) a' w') a w

theorem wpAny_of_k : ∀ (fuel : Nat) (listed : Array Bool) (a : Act) (w : World), wpAnyK P md ops Q S late fuel listed a w → wpAny P md ops Q fuel listed a w
  | 0, _, _, _, h => h
  | fuel + 1, _, _, _, h => ⟨h.1, fun i hi => wpOp_mono (fun a' w' h' => wpAny_of_k fuel _ a' w' h'.2) (h.2 i hi)⟩

/-- one operation may be taken first, if what it hangs on is kept by all that need not wait for it. -/
theorem wpAnyK_first {i : Nat} {oi : Oper} {v : Value} {T : World → Prop} (sure : List Nat) (hi : ops[i]? = some oi) (hsel : ∀ (j : Nat) (o : Oper) cs b, ops[j]? = some o → o.op ≠ .select cs b)
    (hQ : ∀ c a w, Q (.panic c) (a.put oi.dst v) w → Q (.panic c) a w)
    (hcl : ∀ k ∈ sure, ∀ ok, ops[k]? = some ok → ∃ e ∈ ok.after, Region.binds md e = true ∧ (e.on = i ∨ e.on ∈ sure))
    (hT : ∀ j w w', j ∉ sure → (late.contains j = false → S w → S w') → T w → T w') :
    ∀ (fuel : Nat) (listed : Array Bool) (a : Act) (w : World),
      (∀ j oj, ops[j]? = some oj → j ≠ i → listed.getD j true = false → (∀ e ∈ oj.after, Region.binds md e = true → e.on ≠ i) → oi.apart ops oj = true) →
      i ∈ Region.ready md ops listed → YieldsIf P ops T oi v a → T w → (∀ k ∈ sure, listed.getD k true = false) →
      wpAnyK P md ops Q S late fuel (listed.setIfInBounds i true) (a.put oi.dst v) w → wpAnyK P md ops Q S late (fuel + 1) listed a w := by
  intro fuel
  induction fuel with
  | zero =>
    intro listed a w _ hr hy hS _ H
    refine ⟨fun h => (by rw [h] at hr; cases hr), fun j hj => ?_⟩
    by_cases hji : j = i
    · subst hji; exact hy.wpOp hi hS ⟨fun _ h => h, H⟩
    · have := ready_mono hj hji
      rw [H.1] at this
      cases this
  | succ fuel ih =>
    intro listed a w hfree hr hy hS hsu H
    refine ⟨fun h => (by rw [h] at hr; cases hr), fun j hj => ?_⟩
    by_cases hji : j = i
    · subst hji; exact hy.wpOp hi hS ⟨fun _ h => h, H⟩
    · have h1 := H.2 j (ready_mono hj hji)
      obtain ⟨hjun, oj, hoj, hall⟩ := mem_ready.1 hj
      have hdown : ∀ e ∈ oj.after, Region.binds md e = true → listed.getD e.on true = false → False := fun e he hb h0 => by
        have h1 := hall e he hb
        rcases Nat.lt_or_ge e.on listed.size with h' | h'
        · simp [h'] at h0 h1; rw [h0] at h1; cases h1
        · simp [Array.getElem?_eq_none h'] at h1
      have hnot : ∀ e ∈ oj.after, Region.binds md e = true → e.on ≠ i := fun e he hb heq =>
        hdown e he hb (heq ▸ (mem_ready.1 hr).1)
      have hjs : j ∉ sure := fun hjs => by
        obtain ⟨e, he, hb, h | h⟩ := hcl j hjs oj hoj
        · exact hnot e he hb h
        · exact hdown e he hb (hsu _ h)
      have h2 := wpOp_putIf hoj (hfree j oj hoj hji hjun hnot) (fun cs b => hsel i oi cs b hi) (fun cs b => hsel j oj cs b hoj) hQ hy h1
      have hun : ∀ k, (listed.setIfInBounds j true).getD k true = false → listed.getD k true = false := fun k hun => by
        by_cases hjk : j = k
        · subst hjk; exact hjun
        · rw [getD_set_ne true hjk] at hun; exact hun
      have hfree' : ∀ k ok, ops[k]? = some ok → k ≠ i → (listed.setIfInBounds j true).getD k true = false →
          (∀ e ∈ ok.after, Region.binds md e = true → e.on ≠ i) → oi.apart ops ok = true := fun k ok hk hki h hno => hfree k ok hk hki (hun k h) hno
      have hsu' : ∀ k ∈ sure, (listed.setIfInBounds j true).getD k true = false := fun k hk => by
        rw [getD_set_ne true (fun h : j = k => hjs (by rw [h]; exact hk))]
        exact hsu k hk
      refine wpOp_mono (fun a' w' h3 => ⟨h3.2.1, ih (listed.setIfInBounds j true) a' w' hfree' (ready_mono hr (Ne.symm hji)) h3.1 (hT j w w' hjs h3.2.1 hS) hsu' ?_⟩) h2
      rw [Array.setIfInBounds_comm _ _ hji]
      exact h3.2.2

/-- the check: all of 'sure' are still to come, and come behind i. -/
def behind (md : Region.Mode) (ops : Array Oper) (listed : Array Bool) (late sure : List Nat) (i : Nat) : Bool :=
  late.all sure.contains && sure.all fun k => listed.getD k true == false &&
    match ops[k]? with
    | none => true
    | some ok => ok.after.any fun e => Region.binds md e && (e.on == i || sure.contains e.on)

theorem wpAnyK_take {i : Nat} {oi : Oper} {v : Value} {fuel : Nat} {listed : Array Bool} {a : Act} {w : World} (sure : List Nat) (hi : ops[i]? = some oi)
    (hs : Region.noSelect ops = true) (hf : Region.free md ops listed i = true) (hr : (Region.ready md ops listed).contains i = true) (hb : behind md ops listed late sure i = true)
    (hQ : ∀ c a w, Q (.panic c) (a.put oi.dst v) w → Q (.panic c) a w) (hy : YieldsIf P ops S oi v a) (hS : S w)
    (h : wpAnyK P md ops Q S late fuel (listed.setIfInBounds i true) (a.put oi.dst v) w) : wpAnyK P md ops Q S late (fuel + 1) listed a w := by
  unfold behind at hb
  simp only [Bool.and_eq_true, List.all_eq_true, List.contains_iff_mem, beq_iff_eq] at hb
  refine wpAnyK_first (T := S) sure hi (Region.noSelect_spec hs) hQ (fun k hk ok hok => ?_) (fun j w w' hj hk hw => hk ?_ hw) fuel listed a w (Region.free_spec hi hf) (by simpa using hr) hy hS (fun k hk => (hb.2 k hk).1) h
  · have := (hb.2 k hk).2
    rw [hok] at this
    simp only [Array.any_eq_true, Bool.and_eq_true, Bool.or_eq_true, beq_iff_eq, List.contains_iff_mem] at this
    obtain ⟨x, hx, hx1, hx2⟩ := this
    exact ⟨_, Array.getElem_mem hx, hx1, hx2⟩
  · rw [Bool.eq_false_iff]
    intro hl
    exact hj (hb.1 j (by simpa using hl))

theorem wpAnyK_pure {i : Nat} {oi : Oper} {v : Value} {fuel : Nat} {listed : Array Bool} {a : Act} {w : World} (hi : ops[i]? = some oi)
    (hs : Region.noSelect ops = true) (hf : Region.free md ops listed i = true) (hr : (Region.ready md ops listed).contains i = true)
    (hQ : ∀ c a w, Q (.panic c) (a.put oi.dst v) w → Q (.panic c) a w) (hy : Yields P ops oi v a)
    (h : wpAnyK P md ops Q S late fuel (listed.setIfInBounds i true) (a.put oi.dst v) w) : wpAnyK P md ops Q S late (fuel + 1) listed a w :=
  wpAnyK_first (T := fun _ => True) [] hi (Region.noSelect_spec hs) hQ (fun k hk => nomatch hk) (fun _ _ _ _ _ _ => trivial) fuel listed a w (Region.free_spec hi hf) (by simpa using hr) hy.yieldsIf trivial (fun _ hk => nomatch hk) h

/-- the two moves, with their temporaries. -/
theorem kLoad (i d : Nat) (sure : List Nat) {oi : Oper} {v : Value} {fuel : Nat} {listed : Array Bool} {tmps : Array Value} {ds : List Deferred} {w : World} (hi : ops[i]? = some oi) (hd : oi.dst = some d)
    (hs : Region.noSelect ops = true) (hf : Region.free md ops listed i = true) (hr : (Region.ready md ops listed).contains i = true) (hb : behind md ops listed late sure i = true)
    (hQ : ∀ c a w, Q (.panic c) (a.put (some d) v) w → Q (.panic c) a w) (hw : Region.wanted oi (yielded ops tmps) = true)
    (hrun : ∀ w, S w → (execOp (Act.eval ⟨tmps, ds⟩) oi).run P w = .ok (.value v) w) (hS : S w)
    (h : wpAnyK P md ops Q S late fuel (listed.setIfInBounds i true) ⟨tmps.setIfInBounds d v, ds⟩ w) : wpAnyK P md ops Q S late (fuel + 1) listed ⟨tmps, ds⟩ w :=
  wpAnyK_take sure hi hs hf hr hb (by rw [hd]; exact hQ) (Or.inl ⟨hw, hrun⟩) hS (by rw [hd]; exact h)

theorem kPure (i d : Nat) {oi : Oper} {v : Value} {fuel : Nat} {listed : Array Bool} {tmps : Array Value} {ds : List Deferred} {w : World} (hi : ops[i]? = some oi) (hd : oi.dst = some d)
    (hs : Region.noSelect ops = true) (hf : Region.free md ops listed i = true) (hr : (Region.ready md ops listed).contains i = true)
    (hQ : ∀ c a w, Q (.panic c) (a.put (some d) v) w → Q (.panic c) a w) (hw : Region.wanted oi (yielded ops tmps) = true)
    (hrun : ∀ w, (execOp (Act.eval ⟨tmps, ds⟩) oi).run P w = .ok (.value v) w)
    (h : wpAnyK P md ops Q S late fuel (listed.setIfInBounds i true) ⟨tmps.setIfInBounds d v, ds⟩ w) : wpAnyK P md ops Q S late (fuel + 1) listed ⟨tmps, ds⟩ w :=
  wpAnyK_pure hi hs hf hr (by rw [hd]; exact hQ) (Or.inl ⟨hw, hrun⟩) (by rw [hd]; exact h)

theorem kDone {listed : Array Bool} {a : Act} {w : World} (hr : Region.ready md ops listed = []) (h : Q .normal a w) :
    ∀ fuel, wpAnyK P md ops Q S late fuel listed a w
  | 0 => ⟨hr, h⟩
  | _ + 1 => ⟨fun _ => h, by rw [hr]; simp⟩

def AllReadyK (P : Program) (md : Region.Mode) (ops : Array Oper) (Q : Exit → Act → World → Prop) (S : World → Prop) (late : List Nat) (fuel : Nat) (listed : Array Bool) (a : Act) (w : World) (rs : List Nat) : Prop :=
  ∀ i ∈ rs, wpOp P ops Q i (fun a' w' => (late.contains i = false → S w → S w') ∧ wpAnyK P md ops Q S late fuel (listed.setIfInBounds i true) a' w') a w

theorem kAll {rs : List Nat} {fuel : Nat} {listed : Array Bool} {a : Act} {w : World} (hr : Region.ready md ops listed = rs) (hne : rs ≠ [])
    (h : AllReadyK P md ops Q S late fuel listed a w rs) : wpAnyK P md ops Q S late (fuel + 1) listed a w :=
  ⟨fun h0 => absurd (hr ▸ h0) hne, hr ▸ h⟩

theorem kNil {fuel : Nat} {listed : Array Bool} {a : Act} {w : World} : AllReadyK P md ops Q S late fuel listed a w [] := fun _ h => nomatch h

/-- the operation i is carried out: behind it S is to be shown, if it is not late. -/
theorem kCons {fuel : Nat} {listed : Array Bool} {a : Act} {w : World} {i : Nat} {o : Oper} {rs : List Nat} (ho : ops[i]? = some o) (hw : Region.wanted o (yielded ops a.tmps) = true)
    (h : ∀ K' : Act → World → Prop, Shut (∀ a w', (late.contains i = false → S w → S w') → wpAnyK P md ops Q S late fuel (listed.setIfInBounds i true) a w' → K' a w') → Oper.wp P o a w K' Q)
    (hs : AllReadyK P md ops Q S late fuel listed a w rs) : AllReadyK P md ops Q S late fuel listed a w (i :: rs) := fun j hj => by
  rcases List.mem_cons.1 hj with rfl | hj
  · exact wpOp_step ho (fun K' hK => by rw [if_pos hw]; exact h K' (fun a w' hS hW => hK a w' ⟨hS, hW⟩))
  · exact hs j hj

theorem kBegin {id : Nat} {a : Act} {w : World} (S : World → Prop) (late : List Nat) (hm : P.follows .mixedOrders = true)
    (h : wpAnyK P .any ops Q S late ops.size (Array.replicate ops.size false) a { w with drawn := w.drawn + 1 }) : (Code.region id ops true).wp P Q a w :=
  wp_region_any hm (wpAny_of_k _ _ _ _ h)
end
end Go.Fl
