/- What Decode reads, as plain functions, and rows that grow. -/
import Derived.Test.YtikkakbemphdhaaTa7
set_option linter.unusedSimpArgs false
set_option linter.unusedVariables false
namespace Go.Proofs.Ytikkakbemphdhaa
open Go.RowKit Go.Fl

def mkB (l : List UInt8) : ByteArray := ⟨l.toArray⟩
def rdTx (l : List UInt8) (st : Option Nat) : Tx × Option Nat := (⟨(Rd.num l st).1, mkB (Rd.text l (Rd.num l st).2).1⟩, (Rd.text l (Rd.num l st).2).2)
/-- as many things as are told, up to an error. -/
def rdList {α : Type} (one : Option Nat → α × Option Nat) : Nat → Option Nat → List α × Option Nat
  | 0, st => ([], st)
  | _ + 1, none => ([], none)
  | n + 1, some a => ((one (some a)).1 :: (rdList one n (one (some a)).2).1, (rdList one n (one (some a)).2).2)
def rdAll {α : Type} (one : Option Nat → α × Option Nat) (l : List UInt8) (st : Option Nat) : List α × Option Nat := rdList one (Rd.count l st 65536).1 (Rd.count l st 65536).2
def rdTxs (l : List UInt8) (st : Option Nat) : List Tx × Option Nat := rdAll (rdTx l) l st
def rdRw (l : List UInt8) (st : Option Nat) : Rw × Option Nat := (⟨(Rd.num l st).1, (rdTxs l (Rd.num l st).2).1⟩, (rdTxs l (Rd.num l st).2).2)
def rdRws (l : List UInt8) (st : Option Nat) : List Rw × Option Nat := rdAll (rdRw l) l st
def rdUn (l : List UInt8) (st : Option Nat) : Un × Option Nat := (⟨mkB (Rd.text l st).1, (rdTxs l (Rd.text l st).2).1⟩, (rdTxs l (Rd.text l st).2).2)
def rdUns (l : List UInt8) (st : Option Nat) : List Un × Option Nat := rdAll (rdUn l) l st
def rdCu (l : List UInt8) (st : Option Nat) : Cu × Option Nat :=
  let a := Rd.text l st
  let b := Rd.text l a.2
  let c := Rd.text l b.2
  let n := rdTxs l c.2
  let d0 := Rd.num l n.2
  let d1 := Rd.num l d0.2
  let d2 := Rd.num l d1.2
  let d3 := Rd.num l d2.2
  (⟨mkB a.1, mkB b.1, mkB c.1, n.1, d0.1, d1.1, d2.1, d3.1⟩, d3.2)
def rdCus (l : List UInt8) (st : Option Nat) : List Cu × Option Nat := rdAll (rdCu l) l st

theorem rdList_none {α : Type} (one : Option Nat → α × Option Nat) (n : Nat) : rdList one n none = ([], none) := by cases n <;> rfl
theorem rdList_zero {α : Type} (one : Option Nat → α × Option Nat) (st : Option Nat) : rdList one 0 st = ([], st) := by rfl

/-- a row that is being made: its elements' cells. -/
def OwnOf {α : Type} (k : Nat) (ty : TypeId) (R : (Nat → Prop) → World → List Value → α → Prop) (base : Nat) (W : World) (v : Value) (xs : List α) : Prop :=
  ∃ cs : List (List Value), cs.length = xs.length ∧ W.ownsRow base ty k v xs.length cs.flatten ∧
    ∀ i, (h : i < xs.length) → (h' : i < cs.length) → cs[i].length = k ∧ R (fun b => base ≤ b ∧ some b ≠ v.ownBlock) W cs[i] xs[i]
def TxR (P : Nat → Prop) (W : World) (c : List Value) (x : Tx) : Prop := c = [.int .i64 x.cat, .string x.s]
def RwR (P : Nat → Prop) (W : World) (c : List Value) (x : Rw) : Prop := ∃ tv, c = [.int .i64 x.mag, tv] ∧ Txs P W tv x.texts
def UnR (P : Nat → Prop) (W : World) (c : List Value) (x : Un) : Prop := ∃ tv, c = [.string x.name, tv] ∧ Txs P W tv x.texts
def CuR (P : Nat → Prop) (W : World) (c : List Value) (x : Cu) : Prop := ∃ tv, c = [.string x.code, .string x.sym, .string x.nar, tv, .int .i64 x.d0, .int .i64 x.d1, .int .i64 x.d2, .int .i64 x.d3] ∧ Txs P W tv x.names

theorem OwnOf.nil {α : Type} {k : Nat} {ty : TypeId} {R : (Nat → Prop) → World → List Value → α → Prop} {base : Nat} {W : World} : OwnOf k ty R base W (.slice none 0 0) ([] : List α) :=
  ⟨[], rfl, World.ownsRow_nil _ _ _ _, fun i h => by simp at h⟩

theorem flatten_get {k : Nat} : ∀ (cs : List (List Value)), (∀ i, (h : i < cs.length) → cs[i].length = k) → ∀ i j, (h : i < cs.length) → j < k → cs.flatten[i * k + j]? = cs[i][j]?
  | [], _, i, j, h, _ => by simp at h
  | c :: cs, hk, 0, j, _, hj => by
    have h0 := hk 0 (by simp)
    simp only [List.getElem_cons_zero] at h0
    simp only [Nat.zero_mul, Nat.zero_add, List.flatten_cons, List.getElem_cons_zero]
    rw [List.getElem?_append_left (by omega)]
  | c :: cs, hk, i + 1, j, h, hj => by
    have h0 := hk 0 (by simp)
    simp only [List.getElem_cons_zero] at h0
    simp only [List.flatten_cons, List.getElem_cons_succ]
    rw [List.getElem?_append_right (by rw [h0, Nat.add_mul]; omega), h0, show (i + 1) * k + j - k = i * k + j by rw [Nat.add_mul]; omega]
    refine flatten_get cs (fun i h => ?_) i j (by simpa using h) hj
    have := hk (i + 1) (by simpa using h)
    simpa using this

/-- a row that was made, read. -/
theorem OwnOf.slice {α : Type} {k : Nat} {ty : TypeId} {R : (Nat → Prop) → World → List Value → α → Prop} {base : Nat} {W : World} {v : Value} {xs : List α} (h : OwnOf k ty R base W v xs)
    {A : World → Nat → Nat → α → Prop}
    (hA : ∀ (g o : Nat) (x : α) (c : List Value), (∀ j, j < k → W.cell? ⟨g, o + j, none⟩ = c[j]?) → c.length = k → R (fun b => base ≤ b ∧ some b ≠ v.ownBlock) W c x → A W g o x) :
    SliceOf k A (fun b => base ≤ b) W v xs := by
  obtain ⟨cs, hl, hown, hR⟩ := h
  rcases hown.2 with ⟨rfl, h0⟩ | ⟨g, cap, cur, rfl, hbg, hg, hnc, hcm, hcs, htake⟩
  · exact ⟨none, 0, by rw [h0], fun i h => by omega⟩
  · refine ⟨_, _, rfl, fun i hi => ⟨g, 0, rfl, hbg, lt_of_heap hg, ?_⟩⟩
    obtain ⟨h1, h2⟩ := hR i hi (by omega)
    refine hA g _ _ _ (fun j hj => ?_) h1 h2
    have h3 := flatten_get (k := k) cs (fun i h => (hR i (by omega) h).1) i j (by omega) hj
    rw [← h3]
    have hlt : i * k + j < cs.flatten.length := by
      rw [hown.1]
      have : (i + 1) * k ≤ xs.length * k := Nat.mul_le_mul_right k hi
      rw [Nat.add_mul] at this
      omega
    have h4 := hown.cells (g := g) rfl (i * k + j) _ (List.getElem?_eq_getElem hlt)
    have ha : (⟨g, 0, none⟩ : Addr).add (i * k + j) = ⟨g, i * k + j, none⟩ := by unfold Addr.add; split <;> simp_all
    rw [ha] at h4
    rw [Nat.zero_add, h4, List.getElem?_eq_getElem hlt]

/-- what is told of an element's cells stands in a later world. -/
structure Stable {α : Type} (R : (Nat → Prop) → World → List Value → α → Prop) : Prop where
  same : ∀ (P : Nat → Prop) (W W' : World) (c : List Value) (x : α), Same P W W' → R P W c x → R P W' c x
  mono : ∀ (P P' : Nat → Prop) (W : World) (c : List Value) (x : α), (∀ b, b < W.heap.size → P b → P' b) → R P W c x → R P' W c x
theorem TxR.stable : Stable TxR := ⟨fun _ _ _ _ _ _ h => h, fun _ _ _ _ _ _ h => h⟩
theorem RwR.stable : Stable RwR := ⟨fun _ _ _ _ _ hs ⟨tv, h, ht⟩ => ⟨tv, h, ht.same hs⟩, fun _ _ _ _ _ hp ⟨tv, h, ht⟩ => ⟨tv, h, ht.mono hp⟩⟩
theorem UnR.stable : Stable UnR := ⟨fun _ _ _ _ _ hs ⟨tv, h, ht⟩ => ⟨tv, h, ht.same hs⟩, fun _ _ _ _ _ hp ⟨tv, h, ht⟩ => ⟨tv, h, ht.mono hp⟩⟩
theorem CuR.stable : Stable CuR := ⟨fun _ _ _ _ _ hs ⟨tv, h, ht⟩ => ⟨tv, h, ht.same hs⟩, fun _ _ _ _ _ hp ⟨tv, h, ht⟩ => ⟨tv, h, ht.mono hp⟩⟩

theorem ownsRow_kept {W W' : World} {base : Nat} {ty : TypeId} {k n : Nat} {v : Value} {xs : List Value} {S : Nat → Prop} (h : W.ownsRow base ty k v n xs) (hK : Kept W W' S) (hS : ∀ b, base ≤ b → ¬ S b) : W'.ownsRow base ty k v n xs := by
  refine ⟨h.1, ?_⟩
  rcases h.2 with h | ⟨g, cap, cur, rfl, h1, h2, h3⟩
  · exact .inl h
  · exact .inr ⟨g, cap, cur, rfl, h1, hK.heap h2 (hS g h1), h3⟩
theorem OwnOf.kept {α : Type} {k : Nat} {ty : TypeId} {R : (Nat → Prop) → World → List Value → α → Prop} {base : Nat} {W W' : World} {v : Value} {xs : List α} (hR : Stable R) (h : OwnOf k ty R base W v xs)
    {S : Nat → Prop} (hK : Kept W W' S) (hS : ∀ b, base ≤ b → ¬ S b) : OwnOf k ty R base W' v xs := by
  obtain ⟨cs, hl, hown, hc⟩ := h
  refine ⟨cs, hl, ownsRow_kept hown hK hS, fun i h h' => ⟨(hc i h h').1, hR.same _ _ _ _ _ (Same.of_kept hK (fun b hb => hS b hb.1)) (hc i h h').2⟩⟩
theorem OwnOf.push {α : Type} {k : Nat} {ty : TypeId} {R : (Nat → Prop) → World → List Value → α → Prop} {base : Nat} {W W' : World} {v v' : Value} {xs : List α} (hR : Stable R) {cs : List (List Value)} (hl : cs.length = xs.length)
    (hc : ∀ i, (h : i < xs.length) → (h' : i < cs.length) → cs[i].length = k ∧ R (fun b => base ≤ b ∧ some b ≠ v.ownBlock) W cs[i] xs[i]) {c : List Value} {x : α} (hck : c.length = k)
    (hx : R (fun b => base ≤ b ∧ some b ≠ v.ownBlock) W c x) (hown' : W'.ownsRow base ty k v' (xs.length + 1) (cs.flatten ++ c)) (hg : W.grownBy W' v.ownBlock)
    (hat : v'.ownBlock = v.ownBlock ∨ v'.ownBlock = some W.heap.size) : OwnOf k ty R base W' v' (xs ++ [x]) := by
  have hmono : ∀ (d : List Value) (y : α), R (fun b => base ≤ b ∧ some b ≠ v.ownBlock) W d y → R (fun b => base ≤ b ∧ some b ≠ v'.ownBlock) W' d y := by
    intro d y h
    have h1 := hR.mono _ (fun b => (base ≤ b ∧ some b ≠ v.ownBlock) ∧ some b ≠ v'.ownBlock) _ _ _ (fun b hb h => ⟨h, fun e => by
      rcases hat with e2 | e2
      · rw [e2] at e; exact h.2 e
      · rw [e2] at e; injection e with e; omega⟩) h
    have h2 := hR.same _ W W' _ _ ⟨hg.size, fun b o hb hlt => World.cell?_of_block (w := W) (hg.block b hlt hb.1.2)⟩ h1
    exact hR.mono _ _ _ _ _ (fun b _ h => ⟨h.1.1, h.2⟩) h2
  refine ⟨cs ++ [c], by simp [hl], ?_, fun i h h' => ?_⟩
  · rw [List.flatten_append, List.length_append]
    simpa using hown'
  · by_cases hi : i < xs.length
    · have e1 : (cs ++ [c])[i] = cs[i]'(by omega) := List.getElem_append_left (by omega)
      have e2 : (xs ++ [x])[i] = xs[i] := List.getElem_append_left hi
      rw [e1, e2]
      exact ⟨(hc i hi (by omega)).1, hmono _ _ (hc i hi (by omega)).2⟩
    · have hi2 : i = xs.length := by simp at h; omega
      subst hi2
      have e1 : (cs ++ [c])[xs.length] = c := by rw [List.getElem_append_right (by omega)]; simp
      have e2 : (xs ++ [x])[xs.length] = x := by rw [List.getElem_append_right (by omega)]; simp
      rw [e1, e2]
      exact ⟨hck, hmono _ _ hx⟩
end Go.Proofs.Ytikkakbemphdhaa
