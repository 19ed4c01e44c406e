/- An argument that is a table, opened to its cells. -/
import Derived.Test.YtikkakbemphdhaaTa0
import Derived.Test.YtikkakbemphdhaaLib4
import Derived.SizedLaws
import Derived.OpenShut
set_option linter.unusedSimpArgs false
set_option linter.unusedVariables false
namespace Go.Proofs.Ytikkakbemphdhaa
open Go.ChangeShapes Go.WideShapes Go.Deep Go.RowKit Go.Fl

/-- no text and no slice of it is greater than what may be. -/
def Light {H : Type} (t : TypeId) (d : DataW H) : Prop := ∀ n ∈ d.weights Try.prog t, n ≤ reachBytes
theorem mem_all {H : Type} {P : Program} {e : TypeId} : ∀ {ds : List (DataW H)} {d : DataW H}, d ∈ ds → ∀ n ∈ d.weights P e, n ∈ DataW.weightsAll P e ds
  | d0 :: ds, d, hd, n, hn => by
    simp only [DataW.weightsAll, List.mem_append]
    rcases List.mem_cons.1 hd with rfl | h
    · exact .inl hn
    · exact .inr (mem_all h n hn)
theorem Light.field {H : Type} {t : TypeId} {fs : Array Field} {ds : List (DataW H)} (ht : Try.prog.underlying t = some (.struct fs)) (h : Light t (.agg ds)) {j : Nat} {f : Field} {d : DataW H} (hf : fs[j]? = some f) (hd : ds[j]? = some d) : Light f.type d := by
  intro n hn
  refine h n ?_
  simp only [DataW.weights, ht]
  refine DataW.weights_mem_each (j := j) (t := f.type) ?_ hd n hn
  rw [List.getElem?_map, Array.getElem?_toList, hf]
  rfl
theorem Light.part {H : Type} {t e : TypeId} {k : Nat} {ds : List (DataW H)} (ht : Try.prog.underlying t = some (.array k e)) (h : Light t (.agg ds)) {d : DataW H} (hd : d ∈ ds) : Light e d := by
  intro n hn
  refine h n ?_
  simp only [DataW.weights, ht]
  exact mem_all hd n hn
theorem Light.elem {H : Type} {t e : TypeId} {ds sp : List (DataW H)} (ht : Try.prog.underlying t = some (.slice e)) (h : Light t (.slice ds sp)) {d : DataW H} (hd : d ∈ ds) : Light e d := by
  intro n hn
  refine h n ?_
  simp only [DataW.weights, ht, List.mem_cons, List.mem_append]
  exact .inr (.inl (mem_all hd n hn))
theorem Light.str {H : Type} {t : TypeId} {s : ByteArray} (h : Light (H := H) t (.lit (.string s.data.toList))) : s.size ≤ 140737488351232 := by
  have h2 := h s.data.toList.length (by simp [DataW.weights])
  have e : s.data.toList.length = s.size := by rw [Array.length_toList]; rfl
  rw [e] at h2
  exact h2

theorem choose_list {α : Type} (Pr : Nat → α → Prop) : ∀ (len : Nat), (∀ i, i < len → ∃ x, Pr i x) → ∃ xs : List α, xs.length = len ∧ ∀ i, (hi : i < xs.length) → Pr i xs[i]
  | 0, _ => ⟨[], rfl, fun i hi => by simp at hi⟩
  | n + 1, h => by
    obtain ⟨xs, h1, h2⟩ := choose_list Pr n (fun i hi => h i (by omega))
    obtain ⟨x, hx⟩ := h n (by omega)
    refine ⟨xs ++ [x], by simp [h1], fun i hi => ?_⟩
    by_cases hlt : i < xs.length
    · rw [List.getElem_append_left hlt]; exact h2 i hlt
    · have e : i = n := by simp at hi; omega
      subst e
      rw [List.getElem_append_right (by omega)]
      simpa using hx
theorem cells98 : Try.prog.cellsOf 98 = 2 := by kernel_rfl
theorem cells66 : Try.prog.cellsOf 66 = 2 := by kernel_rfl
theorem cells76 : Try.prog.cellsOf 76 = 2 := by kernel_rfl
theorem cells64 : Try.prog.cellsOf 64 = 8 := by kernel_rfl

section
variable {H : Type} {enc : TypeId × Value → H} {W : World} {base : Nat} {spare : Nat → Bool} {held : Bool}

/-- a slice of structs: what is told of each element's fields is told of the whole. -/
theorem open_rows {α : Type} {t e : TypeId} {fs : Array Field} {fuel : Nat} {v : Value} {y : DataW H × List MemPlace} (ht : Try.prog.underlying t = some (.slice e)) (he : Try.prog.underlying e = some (.struct fs))
    (hone : oneCellFields Try.prog fs = true) (hC : Try.prog.cellsOf e = fs.size) (h : DataW.trod enc Try.prog W base spare held fuel t [v] = some y) (hw : Light t y.1) (R : World → Nat → Nat → α → Prop) (fit : α → Prop)
    (hel : ∀ (b o n : Nat) (ys : List (DataW H × List MemPlace)), (∀ (j : Nat) (f : Field), fs[j]? = some f → ∃ (u : Value) (z : DataW H × List MemPlace), W.cell? ⟨b, o + j, none⟩ = some u ∧ DataW.trod enc Try.prog W base spare held n f.type [u] = some z ∧ Light f.type z.1) →
      ∃ x : α, R W b o x ∧ fit x) (hpos : 0 < fs.size) :
    ∃ xs : List α, SliceOf fs.size R (fun b => b < W.heap.size) W v xs ∧ xs.length ≤ 9223372036854775807 ∧ ∀ x ∈ xs, fit x := by
  rcases open_slice_fields ht he hone hC h with ⟨hcs, _⟩ | ⟨x, l, c, m, D, Pl, hcs, _, hl, hm, hmm, hx, hi⟩
  · simp only [List.cons.injEq, and_true] at hcs
    subst hcs
    exact ⟨[], SliceOf.nil, by simp, by simp⟩
  · simp only [List.cons.injEq, and_true] at hcs
    subst hcs
    unfold maxLen at hm
    have hml : l ≤ m := by rw [hmm]; split <;> omega
    obtain ⟨b, off, sp⟩ := x
    have hsp0 : 0 < l → sp = none := by
      intro h0
      obtain ⟨ys, n, _, _, _, hfld⟩ := hi 0 (by omega)
      obtain ⟨f0, hf0⟩ : ∃ f, fs[0]? = some f := ⟨fs[0], Array.getElem?_eq_getElem hpos⟩
      obtain ⟨u0, z0, hc0, _, _⟩ := hfld 0 f0 hf0
      have h := World.cell?_spot hc0
      simp only [Nat.zero_mul, Nat.add_zero, Addr.add_zero'] at h
      exact h
    have key : ∀ i, i < l → ∃ it : α, sp = none ∧ b < W.heap.size ∧ R W b (off + i * fs.size) it ∧ fit it := by
      intro i hil
      obtain ⟨ys, n, hD, _, hlen, hfld⟩ := hi i (by omega)
      have hLD : Light e (D i) := by
        rw [hx] at hw
        exact hw.elem ht (List.mem_map.2 ⟨i, List.mem_range.2 hil, rfl⟩)
      rw [hD] at hLD
      obtain ⟨f0, hf0⟩ : ∃ f, fs[0]? = some f := ⟨fs[0], Array.getElem?_eq_getElem hpos⟩
      obtain ⟨u0, z0, hc0, _, _⟩ := hfld 0 f0 hf0
      have hsp : sp = none := hsp0 (by omega)
      subst hsp
      obtain ⟨it, h1, h2⟩ := hel b (off + i * fs.size) n ys (fun j f hf => by
        obtain ⟨u, z, hc, hy, hz⟩ := hfld j f hf
        rw [Addr.add_lit] at hc
        exact ⟨u, z, by rw [← Nat.add_assoc] at hc; exact hc, hz, hLD.field he hf (by rw [List.getElem?_map, hy]; rfl)⟩)
      rw [Addr.add_lit] at hc0
      exact ⟨it, rfl, World.block_lt_of_cell? W _ hc0, h1, h2⟩
    obtain ⟨xs, hxl, hxs⟩ := choose_list (fun i it => sp = none ∧ b < W.heap.size ∧ R W b (off + i * fs.size) it ∧ fit it) l key
    subst hxl
    refine ⟨xs, ⟨some ⟨b, off, sp⟩, c, rfl, fun i hil => ?_⟩, by omega, fun x hx => ?_⟩
    · obtain ⟨rfl, h1, h2, _⟩ := hxs i hil
      exact ⟨b, off, rfl, h1, h1, h2⟩
    · obtain ⟨i, hil, rfl⟩ := List.mem_iff_getElem.1 hx
      exact (hxs i hil).2.2.2

theorem open_i {t : TypeId} {fuel : Nat} {v : Value} {y : DataW H × List MemPlace} (ht : Try.prog.underlying t = some (.int .i64)) (h : DataW.trod enc Try.prog W base spare held fuel t [v] = some y) : ∃ n : Int, v = .int .i64 n ∧ n ≤ 9223372036854775807 := by
  obtain ⟨n, e, _, wk⟩ := DataW.trod_int ht h
  simp only [List.cons.injEq, and_true] at e
  simp only [Lit.wf, Bool.and_eq_true, decide_eq_true_eq] at wk
  have hmax : IntKind.i64.max = 9223372036854775807 := rfl
  exact ⟨n, e, by have := wk.2; omega⟩
theorem open_s {t : TypeId} {fuel : Nat} {v : Value} {y : DataW H × List MemPlace} (ht : Try.prog.underlying t = some .string) (h : DataW.trod enc Try.prog W base spare held fuel t [v] = some y) (hw : Light t y.1) : ∃ s : ByteArray, v = .string s ∧ s.size ≤ 140737488351232 := by
  obtain ⟨s, e, hy, _⟩ := DataW.trod_string ht h
  simp only [List.cons.injEq, and_true] at e
  subst hy
  exact ⟨s, e, hw.str⟩
theorem open_txs {fuel : Nat} {v : Value} {y : DataW H × List MemPlace} (h : DataW.trod enc Try.prog W base spare held fuel 51 [v] = some y) (hw : Light 51 y.1) : ∃ xs : List Tx, Txs (fun b => b < W.heap.size) W v xs ∧ Fits Tx.fit xs := by
  refine open_rows Try.underlying51 Try.underlying98 (by kernel_rfl) cells98 h hw TxAt Tx.fit (fun b o n ys hf => ?_) (by decide)
  obtain ⟨u0, z0, c0, t0, w0⟩ := hf 0 _ rfl
  obtain ⟨u1, z1, c1, t1, w1⟩ := hf 1 _ rfl
  obtain ⟨k, rfl, hk⟩ := open_i Try.underlying96 t0
  obtain ⟨s, rfl, hs⟩ := open_s Try.underlying9 t1 w1
  exact ⟨⟨k, s⟩, ⟨c0, c1⟩, by show s.size ≤ _; omega, hk⟩
theorem open_rws {fuel : Nat} {v : Value} {y : DataW H × List MemPlace} (h : DataW.trod enc Try.prog W base spare held fuel 48 [v] = some y) (hw : Light 48 y.1) : ∃ xs : List Rw, Rws (fun b => b < W.heap.size) W v xs ∧ Fits Rw.fit xs := by
  refine open_rows Try.underlying48 Try.underlying66 (by kernel_rfl) cells66 h hw (RwAt (fun b => b < W.heap.size)) Rw.fit (fun b o n ys hf => ?_) (by decide)
  obtain ⟨u0, z0, c0, t0, w0⟩ := hf 0 _ rfl
  obtain ⟨u1, z1, c1, t1, w1⟩ := hf 1 _ rfl
  obtain ⟨k, rfl, hk⟩ := open_i Try.underlying3 t0
  obtain ⟨xs, hx, hf⟩ := open_txs t1 w1
  exact ⟨⟨k, xs⟩, ⟨c0, u1, c1, hx⟩, hk, hf⟩
theorem open_uns {fuel : Nat} {v : Value} {y : DataW H × List MemPlace} (h : DataW.trod enc Try.prog W base spare held fuel 50 [v] = some y) (hw : Light 50 y.1) : ∃ xs : List Un, Uns (fun b => b < W.heap.size) W v xs ∧ Fits Un.fit xs := by
  refine open_rows Try.underlying50 Try.underlying76 (by kernel_rfl) cells76 h hw (UnAt (fun b => b < W.heap.size)) Un.fit (fun b o n ys hf => ?_) (by decide)
  obtain ⟨u0, z0, c0, t0, w0⟩ := hf 0 _ rfl
  obtain ⟨u1, z1, c1, t1, w1⟩ := hf 1 _ rfl
  obtain ⟨s, rfl, hs⟩ := open_s Try.underlying9 t0 w0
  obtain ⟨xs, hx, hf⟩ := open_txs t1 w1
  exact ⟨⟨s, xs⟩, ⟨c0, u1, c1, hx⟩, by show s.size ≤ _; omega, hf⟩
theorem open_cus {fuel : Nat} {v : Value} {y : DataW H × List MemPlace} (h : DataW.trod enc Try.prog W base spare held fuel 49 [v] = some y) (hw : Light 49 y.1) : ∃ xs : List Cu, Cus (fun b => b < W.heap.size) W v xs ∧ Fits Cu.fit xs := by
  refine open_rows Try.underlying49 Try.underlying64 (by kernel_rfl) cells64 h hw (CuAt (fun b => b < W.heap.size)) Cu.fit (fun b o n ys hf => ?_) (by decide)
  obtain ⟨u0, z0, c0, t0, w0⟩ := hf 0 _ rfl
  obtain ⟨u1, z1, c1, t1, w1⟩ := hf 1 _ rfl
  obtain ⟨u2, z2, c2, t2, w2⟩ := hf 2 _ rfl
  obtain ⟨u3, z3, c3, t3, w3⟩ := hf 3 _ rfl
  obtain ⟨u4, z4, c4, t4, w4⟩ := hf 4 _ rfl
  obtain ⟨u5, z5, c5, t5, w5⟩ := hf 5 _ rfl
  obtain ⟨u6, z6, c6, t6, w6⟩ := hf 6 _ rfl
  obtain ⟨u7, z7, c7, t7, w7⟩ := hf 7 _ rfl
  obtain ⟨s0, rfl, h0⟩ := open_s Try.underlying9 t0 w0
  obtain ⟨s1, rfl, h1⟩ := open_s Try.underlying9 t1 w1
  obtain ⟨s2, rfl, h2⟩ := open_s Try.underlying9 t2 w2
  obtain ⟨xs, hx, hf⟩ := open_txs t3 w3
  obtain ⟨k4, rfl, h4⟩ := open_i Try.underlying3 t4
  obtain ⟨k5, rfl, h5⟩ := open_i Try.underlying3 t5
  obtain ⟨k6, rfl, h6⟩ := open_i Try.underlying3 t6
  obtain ⟨k7, rfl, h7⟩ := open_i Try.underlying3 t7
  exact ⟨⟨s0, s1, s2, xs, k4, k5, k6, k7⟩, ⟨c0, c1, c2, c4, c5, c6, c7, u3, c3, hx⟩, by show s0.size ≤ _; omega, by show s1.size ≤ _; omega, by show s2.size ≤ _; omega, hf, h4, h5, h6, h7⟩
end
end Go.Proofs.Ytikkakbemphdhaa
