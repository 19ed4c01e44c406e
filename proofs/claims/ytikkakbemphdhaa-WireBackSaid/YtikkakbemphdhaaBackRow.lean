/- WireBack: whatever items and wherever cut: numbers and texts that are laid have the bytes of the page, are read again as they were, and cut off anywhere the rest is an error; for every input, no condition. -/
import Derived.Test.YtikkakbemphdhaaRows
import Derived.Test.YtikkakbemphdhaaBack2
import Derived.Test.YtikkakbemphdhaaLib4
import Derived.ProofKit
import Derived.OpenShut
import Derived.ShutString
namespace Go.Proofs.Ytikkakbemphdhaa.wireBack
open Go.ChangeShapes Go.WideShapes Go.ChangeAt Go.RowKit Go.Fl
open Go.ChangeMaps (open_string shut_string)
set_option linter.unusedVariables false

theorem own : ownKnob Try.prog.godebug = none := by kernel_rfl
theorem laidOut : laidOutB Try.prog = true := by kernel_rfl
theorem cells30 : Try.prog.cellsOf 30 = 3 := by kernel_rfl

theorem items_of {W : World} {H : Type} {enc : TypeId × Value → H} {base : Nat} {spare : Nat → Bool} {held : Bool} {fuel : Nat} {a : Option Addr} {len cap : Nat} {y : DataW H × List MemPlace}
    (hf : DataW.trod enc Try.prog W base spare held fuel 22 [.slice a len cap] = some y) :
    ∃ xs : List Itm, xs.length = len ∧ len ≤ 9223372036854775807 ∧ Items W a xs ∧ (∀ x ∈ xs, x.s.size ≤ 9223372036854775807) ∧ (∀ x ∈ xs, x.n < 9223372036854775808) := by
  rcases open_slice_fields Try.underlying22 Try.underlying30 (by kernel_rfl) cells30 hf with ⟨hcs, _⟩ | ⟨x, l, c, m, D, Pl, hcs, _, hl, hm, hmm, _, hi⟩
  · simp at hcs
    obtain ⟨rfl, rfl, rfl⟩ := hcs
    exact ⟨[], rfl, by omega, fun i h => by simp at h, by simp, by simp⟩
  · simp only [List.cons.injEq, Value.slice.injEq, and_true] at hcs
    obtain ⟨rfl, rfl, rfl⟩ := hcs
    unfold maxLen at hm
    have hml : len ≤ m := by rw [hmm]; split <;> omega
    have key : ∀ i, i < len → ∃ it : Itm, W.cell? (x.add (i * 3)) = some (.bool it.t) ∧ W.cell? (x.add (i * 3 + 1)) = some (.int .i64 it.n) ∧ W.cell? (x.add (i * 3 + 2)) = some (.string it.s) ∧
        it.s.size ≤ 9223372036854775807 ∧ it.n < 9223372036854775808 := by
      intro i hil
      obtain ⟨ys, n, _, _, _, hfld⟩ := hi i (by omega)
      obtain ⟨v0, y0, hc0, _, ht0⟩ := hfld 0 _ rfl
      obtain ⟨v1, y1, hc1, _, ht1⟩ := hfld 1 _ rfl
      obtain ⟨v2, y2, hc2, _, ht2⟩ := hfld 2 _ rfl
      obtain ⟨b, e0, _⟩ := DataW.trod_bool Try.underlying4 ht0
      obtain ⟨k, e1, _, wk⟩ := DataW.trod_int Try.underlying3 ht1
      obtain ⟨s, e2, _, hs⟩ := DataW.trod_string Try.underlying9 ht2
      simp only [List.cons.injEq, and_true] at e0 e1 e2
      subst e0 e1 e2
      simp only [Lit.wf, Bool.and_eq_true, decide_eq_true_eq] at wk
      have hmax : IntKind.i64.max = 9223372036854775807 := rfl
      unfold maxLen at hs
      exact ⟨⟨b, k, s⟩, hc0, hc1, hc2, by omega, by show k < _; have := wk.2; omega⟩
    obtain ⟨f, hfk⟩ : ∃ f : Nat → Itm, ∀ i, i < len → W.cell? (x.add (i * 3)) = some (.bool (f i).t) ∧ W.cell? (x.add (i * 3 + 1)) = some (.int .i64 (f i).n) ∧ W.cell? (x.add (i * 3 + 2)) = some (.string (f i).s) ∧
        (f i).s.size ≤ 9223372036854775807 ∧ (f i).n < 9223372036854775808 := by
      refine ⟨fun i => if h : i < len then (key i h).choose else ⟨false, 0, ByteArray.empty⟩, fun i hil => ?_⟩
      simp only [dif_pos hil]
      exact (key i hil).choose_spec
    refine ⟨(List.range len).map f, by simp, by omega, ?_, ?_, ?_⟩
    · intro i h
      have hil : i < len := by simpa using h
      have e : ((List.range len).map f)[i] = f i := by simp
      rw [e]
      obtain ⟨h0, h1, h2, _⟩ := hfk i hil
      obtain ⟨b, off, sp⟩ := x
      have hsp : sp = none := by simpa [Addr.add] using World.cell?_spot (hfk 0 (by omega)).1
      subst hsp
      rw [Addr.add_lit] at h0 h1 h2
      exact ⟨b, off, rfl, World.block_lt_of_cell? W _ h0, h0, h1, h2⟩
    · intro z hz
      obtain ⟨i, hi', rfl⟩ := List.mem_map.1 hz
      exact (hfk i (List.mem_range.1 hi')).2.2.2.1
    · intro z hz
      obtain ⟨i, hi', rfl⟩ := List.mem_map.1 hz
      exact (hfk i (List.mem_range.1 hi')).2.2.2.2

set_option maxRecDepth 100000 in
theorem lifted (os : Os) (started : os.Started) (H : Type) (enc : TypeId × Value → H) :
    ReturnsInHanded {} Try.checked os 3 .any (Rows.wireBackSpec.pre6 enc Try.prog Try.f3 Rows.wireBackRow.domain false) (Rows.wireBackSpec.post enc Try.prog Try.f3 false true false false) := by
  refine returnsInHanded_of_change (C := Try.checked) own started (by kernel_rfl) Try.func3
    (ChangeSpec.witness6 (enc := enc) (C := Try.checked) false ⟨#[], #[.slice none 0 0, .int .i64 0], []⟩ 8 (by kernel_rfl) (by kernel_rfl) (by kernel_rfl) (by kernel_rfl)) ?_
  intro W base args ds gs before hval0 hW hcnd _
  have hval : ∀ (j : Nat) t v, Try.f3.params[j]? = some t → args[j]? = some v → Value.okWide Try.prog W .any base t v := hval0
  have hW' := hW
  obtain ⟨p, q, hA0, hV, rfl, hfz, hnd⟩ := hW
  have hA : DataW.TrodAll enc Try.prog W 0 (fun _ => true) true Try.f3.params.toList args.toList ds p := hA0
  rw [Try.params3] at hA hval
  obtain ⟨v0, vs0, d0, ds0, p0, q0, hargs, rfl, rfl, h0, r0⟩ := trodAll_cons hA
  obtain ⟨v1, vs1, d1, ds1, p1, q1, rfl, rfl, rfl, h1, r1⟩ := trodAll_cons r0
  obtain ⟨rfl, rfl, rfl⟩ := trodAll_nil r1
  obtain rfl : args = #[v0, v1] := by cases args; simp_all
  obtain ⟨rfl, rfl⟩ := trodVars_none hV
  obtain ⟨a0, len0, cap0, rfl⟩ := okWide_slice Try.underlying22 (hval 0 22 v0 rfl rfl)
  obtain ⟨a1, rfl, rfl, rfl, w1⟩ := open_int Try.underlying3 (hval 1 3 v1 rfl rfl) h1
  have k0 := h0
  have lt0 : ∀ x ∈ p0, x.block < W.heap.size := by obtain ⟨m, hm⟩ := k0; exact DataW.trod_lt m _ _ _ hm
  obtain ⟨xs, hlen, hl, hI, hz, hn⟩ : ∃ xs : List Itm, xs.length = len0 ∧ len0 ≤ 9223372036854775807 ∧ Items W a0 xs ∧ (∀ x ∈ xs, x.s.size ≤ 9223372036854775807) ∧ (∀ x ∈ xs, x.n < 9223372036854775808) := by
    obtain ⟨fuel, hf⟩ := h0
    exact items_of (by simpa [Value.cells] using hf)
  clear hA0 hval0
  have hwalk := back_any a0 xs cap0 a1 W (by omega) hI hz hn
  rw [hlen] at hwalk
  refine hwalk.mono fun e W' ⟨he, bel⟩ => ?_
  subst he
  exact ⟨_, rfl, _, _, _, [], _, [], hW', trodAll_mk1 (shut_bool Try.underlying4 _), (trodAll_cons_mk (Below.trod laidOut (by kernel_rfl) (of_decide_eq_true (by kernel_rfl)) k0 bel lt0) (trodAll_cons_mk (shut_int Try.underlying3 w1) trodAll_mk0)), rfl, bel.frame _, fun h => by cases h⟩

theorem over : Rows.wireBackRow.holds Try.pinned (OpenSpec.ofChange Rows.wireBackSpec) :=
  OpenClaim.holds_of_wide 3 Try.f3 rfl rfl rfl rfl rfl rfl rfl ⟨rfl, rfl, rfl, rfl, rfl⟩ rfl rfl rfl rfl rfl (by kernel_rfl) Try.func3 (by kernel_rfl)
    (of_decide_eq_true (by kernel_rfl)) (by unfold Func.isWrapper; first | (rw [if_pos (by decide +kernel)]; kernel_rfl) | (rw [if_neg (by decide +kernel)]; exact ⟨rfl, rfl⟩))
    (fun os started H enc _ => lifted os started H enc)

/-- THE STATEMENT. -/
theorem proved : Rows.WireBackSaid := over
end Go.Proofs.Ytikkakbemphdhaa.wireBack
