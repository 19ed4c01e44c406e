/- The two appends of Parse, on the record of the two rows. -/
import Derived.Test.YtikkakbemphdhaaDoorOrder
import Derived.Test.YtikkakbemphdhaaDoorTwo
set_option linter.unusedSimpArgs false
set_option linter.unusedVariables false
namespace Go.Proofs.YtikkakbemphdhaaDoor
open Go.RowKit Go.Fl Go.Shelf

theorem Tryd.info9 : (Tryd.prog.info? 9).map (fun i => (i.zero, i.size, i.bytes)) = some (some (.string ByteArray.empty), 1, 16) := by kernel_rfl

theorem one_cell {W : World} {g t : Nat} {v : Value} (h : W.heap[g]? = some (.cells #[v] t (0, 0))) : ∀ j u, [v][j]? = some u → W.cell? ((⟨g, 0, none⟩ : Addr).add j) = some u := by
  intro j u hj
  cases j with
  | zero =>
    simp only [List.getElem?_cons_zero, Option.some.injEq] at hj
    subst hj
    simp [World.cell?, Addr.add, h]
  | succ j => simp at hj

theorem named_alloc (V : World) (cs : Array Value) (t : TypeId) : ∃ (V1 : World) (g : Nat), V.alloc (.cells cs t) = V1 ∧ V.heap.size = g ∧ V1.heap[g]? = some (.cells cs t (0, 0)) ∧ ∀ (k : Nat) (y : Obj), V.heap[k]? = some y → V1.heap[k]? = some y :=
  ⟨_, _, rfl, rfl, heap_alloc_new V _, fun k y h => (Below.heap_alloc _ _ _ (lt_of_heap h)).trans h⟩

section
variable {w0 W : World} {base o q n m : Nat} {oc rc qc : Array Value} {tv pv : Value} {xs ys : List Value}
theorem wpT {op : Oper} {a : Act} {K : Act → World → Prop} {Q : Exit → Act → World → Prop} (h : RW w0 base o q oc rc qc tv pv n m xs ys W) (sx nx : Operand)
    (ho : op.op = .call { callee := .builtin .append, args := #[sx, nx], argTypes := #[22, 22] }) (g : Nat) (x : ByteArray) (hs : a.eval sx = tv) (hx : a.eval nx = .slice (some ⟨g, 0, none⟩) 1 1)
    (hq : W.heap[g]? = some (.cells #[.string x] 9 (0, 0))) (hn : n ≤ 1000)
    (hk : ∀ (b : Option Addr) (c : Nat) (W' : World), RW w0 base o q oc rc qc (.slice b (n + 1 : Nat) c) pv (n + 1) m (xs ++ [.string x]) ys W' → (∀ (k : Nat) (cs : Array Value) (t : TypeId) (fr : Nat × Nat), t ≠ 9 → W.heap[k]? = some (.cells cs t fr) → W'.heap[k]? = some (.cells cs t fr)) → K (a.put op.dst (.slice b (n + 1 : Nat) c)) W') :
    Oper.wp Tryd.prog op a W K Q := by
  obtain ⟨i0, hi, hz0, hz1, hz2⟩ := info_parts Tryd.info9
  refine wp_append_lies W sx nx 22 ho base 9 i0 (.string ByteArray.empty) 1 16 Tryd.underlying22 hi hz0 hz1 hz2 rfl (by decide) tv n xs hs h.t ⟨g, 0, none⟩ 1 1 [.string x] hx rfl (one_cell hq)
    (by intro u hu; simp at hu; subst hu; rfl) (by decide) (by unfold maxLen; omega) (by omega) (Nat.le_of_lt h.size) _ rfl ?_
  intro g' cap w1 hown hgrow hat hlt
  exact hk _ _ _ (h.appT hgrow hown) (fun k cs t fr ht hc => heap_far h.t hgrow hc ht)

theorem wpP {op : Oper} {a : Act} {K : Act → World → Prop} {Q : Exit → Act → World → Prop} (h : RW w0 base o q oc rc qc tv pv n m xs ys W) (sx nx : Operand)
    (ho : op.op = .call { callee := .builtin .append, args := #[sx, nx], argTypes := #[24, 24] }) (g : Nat) (x : Int) (hs : a.eval sx = pv) (hx : a.eval nx = .slice (some ⟨g, 0, none⟩) 1 1)
    (hq : W.heap[g]? = some (.cells #[.int .i64 x] 3 (0, 0))) (hn : m ≤ 1000)
    (hk : ∀ (b : Option Addr) (c : Nat) (W' : World), RW w0 base o q oc rc qc tv (.slice b (m + 1 : Nat) c) n (m + 1) xs (ys ++ [.int .i64 x]) W' → (∀ (k : Nat) (cs : Array Value) (t : TypeId) (fr : Nat × Nat), t ≠ 3 → W.heap[k]? = some (.cells cs t fr) → W'.heap[k]? = some (.cells cs t fr)) → K (a.put op.dst (.slice b (m + 1 : Nat) c)) W') :
    Oper.wp Tryd.prog op a W K Q := by
  obtain ⟨i0, hi, hz0, hz1, hz2⟩ := info_parts Tryd.info3
  refine wp_append_lies W sx nx 24 ho base 3 i0 (.int .i64 0) 1 8 Tryd.underlying24 hi hz0 hz1 hz2 rfl (by decide) pv m ys hs h.p ⟨g, 0, none⟩ 1 1 [.int .i64 x] hx rfl (one_cell hq)
    (by intro u hu; simp at hu; subst hu; rfl) (by decide) (by unfold maxLen; omega) (by omega) (Nat.le_of_lt h.size) _ rfl ?_
  intro g' cap w1 hown hgrow hat hlt
  exact hk _ _ _ (h.appP hgrow hown) (fun k cs t fr ht hc => heap_far h.p hgrow hc ht)
end

theorem nodup_len : ∀ (n : Nat) (ps : List Nat), ps.Nodup → (∀ k ∈ ps, k < n) → ps.length ≤ n
  | 0, ps, _, h => by
    cases ps with
    | nil => simp
    | cons a l => have := h a (by simp); omega
  | n + 1, ps, hn, h => by
    by_cases hm : n ∈ ps
    · have h1 := nodup_len n (ps.erase n) (hn.erase _) (fun k hk => by
        have h2 := (hn.mem_erase_iff).1 hk
        have h3 := h k h2.2
        have h4 := h2.1
        omega)
      rw [List.length_erase_of_mem hm] at h1
      omega
    · have := nodup_len n ps hn (fun k hk => by
        have h3 := h k hk
        have h4 : k ≠ n := fun e => hm (e ▸ hk)
        omega)
      omega
end Go.Proofs.YtikkakbemphdhaaDoor
