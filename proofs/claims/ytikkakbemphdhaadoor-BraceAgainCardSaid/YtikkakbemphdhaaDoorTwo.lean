/- Two rows of different kinds, grown in one statement. -/
import Derived.Test.YtikkakbemphdhaaDoorLib1
import Derived.Deep.AppendLies
import Derived.Lib.OwnKind
import Derived.OneCell
import Derived.Below
set_option linter.unusedSimpArgs false
set_option linter.unusedVariables false
namespace Go.Fl
open Go.RowKit

/-- a block of another kind is no row's. -/
theorem row_far {W : World} {base e n : Nat} {v : Value} {xs : List Value} (h : W.ownsRow base e 1 v n xs) {B : Nat} {cs : Array Value} {t : TypeId} {fr : Nat × Nat} (hB : W.heap[B]? = some (.cells cs t fr)) (hne : t ≠ e) : some B ≠ v.ownBlock := by
  intro hb
  obtain ⟨c, fz, hc⟩ := Go.Lib.ownsRow_kind h B hb.symm
  rw [hB] at hc
  injection hc with hc
  injection hc with _ hc _
  exact hne hc
theorem heap_far {W W' : World} {base e n : Nat} {v : Value} {xs : List Value} (h : W.ownsRow base e 1 v n xs) (hg : W.grownBy W' v.ownBlock) {B : Nat} {cs : Array Value} {t : TypeId} {fr : Nat × Nat} (hB : W.heap[B]? = some (.cells cs t fr)) (hne : t ≠ e) : W'.heap[B]? = some (.cells cs t fr) := by
  rw [hg.block B (lt_of_heap hB) (row_far h hB hne), hB]

/-- the loop's world: two rows, three blocks. -/
structure RW (w0 : World) (base o q : Nat) (oc rc qc : Array Value) (tv pv : Value) (n m : Nat) (xs ys : List Value) (W : World) : Prop where
  t : W.ownsRow base 9 1 tv n xs
  p : W.ownsRow base 3 1 pv m ys
  o : W.heap[o]? = some (.cells oc 29 (0, 0))
  r : W.heap[base]? = some (.cells rc 29 (0, 0))
  q : W.heap[q]? = some (.cells qc 37 (0, 0))
  low : Below base w0 W

section
variable {w0 W W' : World} {base o q n m n' m' : Nat} {oc rc qc : Array Value} {tv pv tv' pv' : Value} {xs ys xs' ys' : List Value}
theorem RW.size (h : RW w0 base o q oc rc qc tv pv n m xs ys W) : base < W.heap.size := lt_of_heap h.r
theorem RW.drew (h : RW w0 base o q oc rc qc tv pv n m xs ys W) : RW w0 base o q oc rc qc tv pv n m xs ys W.drew := ⟨h.t, h.p, h.o, h.r, h.q, h.low.drew⟩
theorem RW.alloc (h : RW w0 base o q oc rc qc tv pv n m xs ys W) (x : Obj) : RW w0 base o q oc rc qc tv pv n m xs ys (W.alloc x) :=
  ⟨h.t.alloc x, h.p.alloc x, (Below.heap_alloc W x o (lt_of_heap h.o)).trans h.o, (Below.heap_alloc W x base h.size).trans h.r, (Below.heap_alloc W x q (lt_of_heap h.q)).trans h.q, h.low.alloc (Nat.le_of_lt h.size) x⟩
theorem RW.appT (h : RW w0 base o q oc rc qc tv pv n m xs ys W) (hg : W.grownBy W' tv.ownBlock) (ht : W'.ownsRow base 9 1 tv' n' xs') : RW w0 base o q oc rc qc tv' pv n' m xs' ys W' := by
  refine ⟨ht, h.p.kept hg ?_, heap_far h.t hg h.o (by decide), heap_far h.t hg h.r (by decide), heap_far h.t hg h.q (by decide), h.low.grown hg (Nat.le_of_lt h.size) (fun k hk => (h.t.lt k hk).1)⟩
  cases hb : pv.ownBlock with
  | none => exact .inl rfl
  | some g =>
    obtain ⟨c, fz, hc⟩ := Go.Lib.ownsRow_kind h.p g hb
    exact .inr (row_far h.t hc (by decide))
theorem RW.appP (h : RW w0 base o q oc rc qc tv pv n m xs ys W) (hg : W.grownBy W' pv.ownBlock) (hp : W'.ownsRow base 3 1 pv' m' ys') : RW w0 base o q oc rc qc tv pv' n m' xs ys' W' := by
  refine ⟨h.t.kept hg ?_, hp, heap_far h.p hg h.o (by decide), heap_far h.p hg h.r (by decide), heap_far h.p hg h.q (by decide), h.low.grown hg (Nat.le_of_lt h.size) (fun k hk => (h.p.lt k hk).1)⟩
  cases hb : tv.ownBlock with
  | none => exact .inl rfl
  | some g =>
    obtain ⟨c, fz, hc⟩ := Go.Lib.ownsRow_kind h.t g hb
    exact .inr (row_far h.p hc (by decide))
theorem RW.setO (h : RW w0 base o q oc rc qc tv pv n m xs ys W) (hbo : base < o) (hoq : o ≠ q) (i : Nat) (u : Value) : RW w0 base o q (oc.setIfInBounds i u) rc qc tv pv n m xs ys (W.setCell ⟨o, i, none⟩ u) :=
  ⟨ownsRow_setCell_other h.t (fun hh => row_far h.t h.o (by decide) hh.symm) u, ownsRow_setCell_other h.p (fun hh => row_far h.p h.o (by decide) hh.symm) u, heap_set_same h.o i u,
    (Below.heap_setCell _ _ _ _ (show base ≠ o by omega)).trans h.r, (Below.heap_setCell _ _ _ _ (show q ≠ o by omega)).trans h.q, h.low.setCell (show base ≤ o by omega) u⟩
theorem RW.setQ (h : RW w0 base o q oc rc qc tv pv n m xs ys W) (hbq : base < q) (hoq : o ≠ q) (i : Nat) (u : Value) : RW w0 base o q oc rc (qc.setIfInBounds i u) tv pv n m xs ys (W.setCell ⟨q, i, none⟩ u) :=
  ⟨ownsRow_setCell_other h.t (fun hh => row_far h.t h.q (by decide) hh.symm) u, ownsRow_setCell_other h.p (fun hh => row_far h.p h.q (by decide) hh.symm) u,
    (Below.heap_setCell _ _ _ _ (show o ≠ q by omega)).trans h.o, (Below.heap_setCell _ _ _ _ (show base ≠ q by omega)).trans h.r, heap_set_same h.q i u, h.low.setCell (show base ≤ q by omega) u⟩
theorem RW.setR (h : RW w0 base o q oc rc qc tv pv n m xs ys W) (hbo : base ≠ o) (hoq : base ≠ q) (i : Nat) (u : Value) : RW w0 base o q oc (rc.setIfInBounds i u) qc tv pv n m xs ys (W.setCell ⟨base, i, none⟩ u) :=
  ⟨ownsRow_setCell_other h.t (fun hh => row_far h.t h.r (by decide) hh.symm) u, ownsRow_setCell_other h.p (fun hh => row_far h.p h.r (by decide) hh.symm) u,
    (Below.heap_setCell _ _ _ _ (show o ≠ base by omega)).trans h.o, heap_set_same h.r i u, (Below.heap_setCell _ _ _ _ (show q ≠ base by omega)).trans h.q, h.low.setCell (Nat.le_refl base) u⟩
end
end Go.Fl
