/- What Decode reads; a block of a table's cells that is filled. -/
import Derived.Test.YtikkakbemphdhaaTd5
import Derived.Deep.MidRow
set_option linter.unusedSimpArgs false
set_option linter.unusedVariables false
namespace Go.Proofs.Ytikkakbemphdhaa
open Go.RowKit Go.Fl

def stS (l : List UInt8) (st : Option Nat) : Nat → Option Nat
  | 0 => st
  | i + 1 => (Rd.text l (stS l st i)).2
def rdS (l : List UInt8) (st : Option Nat) (i : Nat) : ByteArray := mkB (Rd.text l (stS l st i)).1
def rdTb (l : List UInt8) (st : Option Nat) : Tb × Option Nat :=
  let g := Rd.num l (stS l st 27)
  let a := rdRws l g.2
  let b := rdRws l a.2
  let c := rdRws l b.2
  let cu := rdCus l c.2
  let un := rdUns l cu.2
  let mu := rdTxs l un.2
  (⟨rdS l st, g.1, a.1, b.1, c.1, cu.1, un.1, mu.1⟩, mu.2)
def noB : ByteArray := ⟨#[]⟩
/-- the texts up to j. -/
def upTo (f : Nat → ByteArray) (j : Nat) : Nat → ByteArray := fun i => if i < j then f i else noB
def tb0 : Tb := ⟨fun _ => noB, 0, [], [], [], [], [], []⟩
def nilV : Value := .slice none 0 0

theorem tbC_set (s : Nat → ByteArray) (grp : Int) (v1 v2 v3 v4 v5 v6 : Value) (j : Nat) (h : j < 27) (x : ByteArray) :
    (tbC s grp v1 v2 v3 v4 v5 v6).setIfInBounds (pl j) (.string x) = tbC (fun i => if i = j then x else s i) grp v1 v2 v3 v4 v5 v6 := by
  have : j = 0 ∨ j = 1 ∨ j = 2 ∨ j = 3 ∨ j = 4 ∨ j = 5 ∨ j = 6 ∨ j = 7 ∨ j = 8 ∨ j = 9 ∨ j = 10 ∨ j = 11 ∨ j = 12 ∨ j = 13 ∨ j = 14 ∨ j = 15 ∨ j = 16 ∨ j = 17 ∨ j = 18 ∨ j = 19 ∨ j = 20 ∨ j = 21 ∨ j = 22 ∨ j = 23 ∨ j = 24 ∨ j = 25 ∨ j = 26 := by omega
  rcases this with h|h|h|h|h|h|h|h|h|h|h|h|h|h|h|h|h|h|h|h|h|h|h|h|h|h|h <;> subst h <;> rfl
theorem upTo_succ (f : Nat → ByteArray) (j : Nat) : (fun i => if i = j then f j else upTo f j i) = upTo f (j + 1) := by
  funext i
  unfold upTo
  by_cases h : i = j
  · subst h; simp
  · rw [if_neg h]
    by_cases h2 : i < j
    · rw [if_pos h2, if_pos (by omega)]
    · rw [if_neg h2, if_neg (by omega)]
theorem upTo_all (f : Nat → ByteArray) (grp : Int) (v1 v2 v3 v4 v5 v6 : Value) : tbC (upTo f 27) grp v1 v2 v3 v4 v5 v6 = tbC f grp v1 v2 v3 v4 v5 v6 := rfl
theorem tbC_16 (s : Nat → ByteArray) (grp g2 : Int) (v1 v2 v3 v4 v5 v6 : Value) : (tbC s grp v1 v2 v3 v4 v5 v6).setIfInBounds 16 (.int .i64 g2) = tbC s g2 v1 v2 v3 v4 v5 v6 := rfl
theorem tbC_22 (s : Nat → ByteArray) (grp : Int) (v1 v2 v3 v4 v5 v6 x : Value) : (tbC s grp v1 v2 v3 v4 v5 v6).setIfInBounds 22 x = tbC s grp x v2 v3 v4 v5 v6 := rfl
theorem tbC_23 (s : Nat → ByteArray) (grp : Int) (v1 v2 v3 v4 v5 v6 x : Value) : (tbC s grp v1 v2 v3 v4 v5 v6).setIfInBounds 23 x = tbC s grp v1 x v3 v4 v5 v6 := rfl
theorem tbC_24 (s : Nat → ByteArray) (grp : Int) (v1 v2 v3 v4 v5 v6 x : Value) : (tbC s grp v1 v2 v3 v4 v5 v6).setIfInBounds 24 x = tbC s grp v1 v2 x v4 v5 v6 := rfl
theorem tbC_25 (s : Nat → ByteArray) (grp : Int) (v1 v2 v3 v4 v5 v6 x : Value) : (tbC s grp v1 v2 v3 v4 v5 v6).setIfInBounds 25 x = tbC s grp v1 v2 v3 x v5 v6 := rfl
theorem tbC_26 (s : Nat → ByteArray) (grp : Int) (v1 v2 v3 v4 v5 v6 x : Value) : (tbC s grp v1 v2 v3 v4 v5 v6).setIfInBounds 26 x = tbC s grp v1 v2 v3 v4 x v6 := rfl
theorem tbC_27 (s : Nat → ByteArray) (grp : Int) (v1 v2 v3 v4 v5 v6 x : Value) : (tbC s grp v1 v2 v3 v4 v5 v6).setIfInBounds 27 x = tbC s grp v1 v2 v3 v4 v5 x := rfl

/-- a table's block. -/
def IsTb (W : World) (g : Nat) (s : Nat → ByteArray) (grp : Int) (v1 v2 v3 v4 v5 v6 : Value) : Prop := W.heap[g]? = some (.cells (tbC s grp v1 v2 v3 v4 v5 v6) 55 (0, 0))
theorem IsTb.there {W : World} {g : Nat} {s : Nat → ByteArray} {grp : Int} {v1 v2 v3 v4 v5 v6 : Value} (h : IsTb W g s grp v1 v2 v3 v4 v5 v6) : W.there g 0 34 := by
  intro j hj
  have hs : (tbC s grp v1 v2 v3 v4 v5 v6).size = 34 := rfl
  refine ⟨?_, ?_⟩
  · rw [Nat.zero_add, cell_of h (Array.getElem?_eq_getElem (by omega))]; rfl
  · simp [World.frozen?, show W.heap[g]? = _ from h]
theorem IsTb.range {W : World} {g : Nat} {s : Nat → ByteArray} {grp : Int} {v1 v2 v3 v4 v5 v6 : Value} (h : IsTb W g s grp v1 v2 v3 v4 v5 v6) : W.rangeAt g 0 (tbC s grp v1 v2 v3 v4 v5 v6).toList := by
  intro j v hv
  rw [Nat.zero_add]
  exact cell_of h (by rw [← Array.getElem?_toList]; exact hv)
theorem IsTb.at {W : World} {g : Nat} {s : Nat → ByteArray} {grp : Int} {v1 v2 v3 v4 v5 v6 : Value} (h : IsTb W g s grp v1 v2 v3 v4 v5 v6) (i : Nat) (v : Value) (hv : (tbC s grp v1 v2 v3 v4 v5 v6)[i]? = some v) :
    W.cell? ⟨g, i, none⟩ = some v ∧ W.frozen? ⟨g, i, none⟩ = false := ⟨cell_of h hv, by simp [World.frozen?, show W.heap[g]? = _ from h]⟩
theorem size55 : (Try.prog.info? 55).map (·.size) = some 34 := by kernel_rfl
theorem setCells_some (g : Nat) (ty : TypeId) (fr : Nat × Nat) : ∀ (vs : List Value) (o : Nat) (w : World) (cs : Array Value), w.heap[g]? = some (.cells cs ty fr) →
    ∃ cs' : Array Value, (w.setCells g o vs).heap[g]? = some (.cells cs' ty fr) ∧ cs'.size = cs.size ∧ ∀ i, cs'[i]? = if o ≤ i ∧ i < o + vs.length ∧ i < cs.size then vs[i - o]? else cs[i]?
  | [], o, w, cs, h => ⟨cs, h, rfl, fun i => by rw [if_neg (by simp; omega)]⟩
  | v :: vs, o, w, cs, h => by
    obtain ⟨cs', h1, h2, h3⟩ := setCells_some g ty fr vs (o + 1) (w.setCell ⟨g, o, none⟩ v) (cs.setIfInBounds o v) (heap_set_same h o v)
    refine ⟨cs', h1, by rw [h2]; simp, fun i => ?_⟩
    rw [h3 i]
    simp only [Array.size_setIfInBounds, List.length_cons]
    by_cases hi : i = o
    · subst hi
      rw [if_neg (by omega), Array.getElem?_setIfInBounds]
      by_cases hs : i < cs.size
      · rw [if_pos rfl, if_pos hs, if_pos ⟨Nat.le_refl _, by omega, hs⟩]; simp
      · rw [if_pos rfl, if_neg hs, if_neg (by omega), Array.getElem?_eq_none (by omega)]
    · have e : (cs.setIfInBounds o v)[i]? = cs[i]? := by rw [Array.getElem?_setIfInBounds, if_neg (show ¬ o = i from fun e => hi e.symm)]
      rw [e]
      by_cases hc : o + 1 ≤ i ∧ i < o + 1 + vs.length ∧ i < cs.size
      · rw [if_pos hc, if_pos ⟨by omega, by omega, hc.2.2⟩]
        obtain ⟨d, rfl⟩ : ∃ d, i = o + 1 + d := ⟨i - (o + 1), by omega⟩
        rw [show o + 1 + d - (o + 1) = d by omega, show o + 1 + d - o = d + 1 by omega]
        simp
      · rw [if_neg hc, if_neg (by omega)]
theorem setCells_all {w : World} {g : Nat} {cs : Array Value} {ty : TypeId} {fr : Nat × Nat} (h : w.heap[g]? = some (.cells cs ty fr)) (ds : Array Value) (hs : ds.size = cs.size) : (w.setCells g 0 ds.toList).heap[g]? = some (.cells ds ty fr) := by
  obtain ⟨cs', h1, h2, h3⟩ := setCells_some g ty fr ds.toList 0 w cs h
  rw [h1]
  congr 2
  apply Array.ext_getElem?
  intro i
  rw [h3 i]
  by_cases hi : i < cs.size
  · rw [if_pos ⟨Nat.zero_le _, by simp; omega, hi⟩]; simp
  · rw [if_neg (by omega), Array.getElem?_eq_none (by omega), Array.getElem?_eq_none (by omega)]
end Go.Proofs.Ytikkakbemphdhaa
