/- What Turn holds while it goes: its table's block, its result's block, its own slices. -/
import Derived.Test.YtikkakbemphdhaaTm0
set_option linter.unusedSimpArgs false
set_option linter.unusedVariables false
namespace Go.Proofs.Ytikkakbemphdhaa
open Go.RowKit Go.Fl

structure OwnS {α : Type} (k : Nat) (R : World → Nat → Nat → α → Prop) (e : TypeId) (base : Nat) (W : World) (v : Value) (xs : List α) : Prop where
  own : ∃ cs, W.ownsRow base e k v xs.length cs
  sl : SliceOf k R (fun b => v.ownBlock = some b) W v xs
theorem OwnS.lt {α : Type} {k : Nat} {R : World → Nat → Nat → α → Prop} {e : TypeId} {base : Nat} {W : World} {v : Value} {xs : List α} (h : OwnS k R e base W v xs) : ∀ b, v.ownBlock = some b → base ≤ b ∧ b < W.heap.size := by
  obtain ⟨cs, hc⟩ := h.own
  exact hc.lt
theorem OwnS.kept {α : Type} {k : Nat} {R : World → Nat → Nat → α → Prop} {D : Nat → Prop} (hc : Carries k R D) {e : TypeId} {base : Nat} {W W' : World} {v : Value} {xs : List α} (h : OwnS k R e base W v xs)
    (hb : ∀ b, v.ownBlock = some b → W'.heap[b]? = W.heap[b]?) (hD : Same D W W') : OwnS k R e base W' v xs := by
  obtain ⟨⟨cs, hown⟩, hsl⟩ := h
  refine ⟨⟨cs, hown.1, ?_⟩, SliceOf.imp hsl hD.1 (fun _ _ h => h) (fun b o x hp hlt hr => hc.move _ _ _ _ _ _ _ hD (fun j hj => ?_) hr)⟩
  · rcases hown.2 with h | ⟨g, cap, cur, rfl, h1, h2, h3⟩
    · exact .inl h
    · exact .inr ⟨g, cap, cur, rfl, h1, (hb g rfl).trans h2, h3⟩
  · simp only [World.cell?, hb b hp]
theorem OwnS.nothing {α : Type} {k : Nat} {R : World → Nat → Nat → α → Prop} {e : TypeId} {base : Nat} {W : World} (hb : base ≤ W.heap.size) : OwnS k R e base (W.alloc (.cells #[] e)) (.slice (some ⟨W.heap.size, 0, none⟩) 0 0) ([] : List α) :=
  ⟨⟨[], World.ownsRow_lit W #[] 0 hb (by decide) (by simp)⟩, ⟨some ⟨W.heap.size, 0, none⟩, 0, rfl, fun i h => by simp at h⟩⟩
theorem OwnS.one {α : Type} {k : Nat} {R : World → Nat → Nat → α → Prop} {e : TypeId} {base : Nat} {W : World} (hb : base ≤ W.heap.size) {cs : Array Value} (hs : cs.size = k) {x : α} (hr : R (W.alloc (.cells cs e)) W.heap.size 0 x) :
    OwnS k R e base (W.alloc (.cells cs e)) (.slice (some ⟨W.heap.size, 0, none⟩) 1 1) [x] :=
  ⟨⟨cs.toList, World.ownsRow_lit W cs 1 hb (by decide) (by omega)⟩, ⟨some ⟨W.heap.size, 0, none⟩, 1, rfl, fun i h => by
    obtain rfl : i = 0 := by simpa using h
    refine ⟨W.heap.size, 0, rfl, rfl, by simp, ?_⟩
    rw [Nat.zero_mul]
    exact hr⟩⟩

theorem grown_same {D : Nat → Prop} {W W' : World} {row : Option Nat} (hg : W.grownBy W' row) (hr : ∀ b, row = some b → ¬ D b) : Same D W W' :=
  ⟨hg.size, fun b o hb hlt => by simp only [World.cell?, hg.block b hlt (fun e => hr b e.symm hb)]⟩

theorem wpList_appS {P : Program} {W : World} {ops : Array Oper} {rest : List Oper} {o : Oper} {a : Act} {Q : Exit → Act → World → Prop} (hgd : o.guard = none) (s x : Operand) (t : TypeId)
    (ho : o.op = .call { callee := .builtin .append, args := #[s, x], argTypes := #[t, t] })
    (base : Nat) (e : TypeId) (i : TypeInfo) (z : Value) (size bytes : Nat) (ht : P.underlying t = some (.slice e)) (hi : P.info? e = some i) (hz : i.zero = some z)
    (hsize : i.size = size) (hby : i.bytes = bytes) (hzs : z.cells.size = size) (hsz : 0 < size)
    {α : Type} (R : World → Nat → Nat → α → Prop) (D P2 : Nat → Prop) (hc : Carries size R D) (hD : ∀ b, D b → b < base)
    (v : Value) (xs : List α) (hs : a.eval s = v) (hown : OwnS size R e base W v xs)
    (ad : Option Addr) (m c : Nat) (ys : List α) (hx : a.eval x = .slice ad m c) (hsrc : SliceOf size R P2 W (.slice ad m c) ys)
    (zs : List α) (hzs2 : zs = xs ++ ys) (h63 : zs.length ≤ 1000) (hbytes : bytes ≤ 1000) (hbase : base ≤ W.heap.size)
    (h : ∀ a' c' w', OwnS size R e base w' (.slice a' zs.length c') zs → W.grownBy w' v.ownBlock → ((Value.slice a' zs.length c').ownBlock = v.ownBlock ∨ (Value.slice a' zs.length c').ownBlock = some W.heap.size) → wpList P ops Q rest (a.put o.dst (.slice a' zs.length c')) w') :
    wpList P ops Q (o :: rest) a W := by
  obtain ⟨rfl, news, hn⟩ := src_of hc hsz hsrc
  subst hzs2
  rw [List.length_append] at h63
  have hlt := hown.lt
  obtain ⟨⟨cs, hcs⟩, hsl⟩ := hown
  have hmul : (xs.length + ys.length) * bytes ≤ 1000 * 1000 := Nat.mul_le_mul h63 hbytes
  refine wpList_app hgd s x t ho base e i z size bytes ht hi hz hsize hby hzs hsz v xs.length cs hs hcs ad ys.length c news hx hn (by unfold maxLen; omega) (by omega) hbase (fun v' w' h1 h2 h3 => ?_)
  have hS : Same D W w' := grown_same h2 (fun b hb hd => by have := hD b hd; have := (hlt b hb).1; omega)
  have hO : OwnS size R e base w' v' (xs ++ ys) := ⟨⟨cs ++ news, by rw [List.length_append]; exact h1⟩, sl_app hc hsl hcs hsrc hn h1 hS⟩
  obtain ⟨a', c', rfl⟩ := hO.sl.len
  exact h a' c' w' hO h2 h3

/-- the table's block and the result's block. -/
structure TP (w W : World) (s : Nat → ByteArray) (grp : Int) (v1 v2 v3 v4 v5 v6 : Value) : Prop where
  tb : IsTb W w.heap.size s grp v1 v2 v3 v4 v5 v6
  z : IsTb W (w.heap.size + 1) (fun _ => noB) 0 nilV nilV nilV nilV nilV nilV
  bel : Below w.heap.size w W
  lt : w.heap.size + 2 ≤ W.heap.size
theorem TP.below {w W W' : World} {s : Nat → ByteArray} {grp : Int} {v1 v2 v3 v4 v5 v6 : Value} (h : TP w W s grp v1 v2 v3 v4 v5 v6) (hb : Below (w.heap.size + 2) W W') : TP w W' s grp v1 v2 v3 v4 v5 v6 :=
  ⟨(hb.block _ (by omega)).trans h.tb, (hb.block _ (by omega)).trans h.z, h.bel.trans (hb.mono (by omega)), Nat.le_trans h.lt hb.size⟩
theorem TP.grown {w W W' : World} {s : Nat → ByteArray} {grp : Int} {v1 v2 v3 v4 v5 v6 : Value} (h : TP w W s grp v1 v2 v3 v4 v5 v6) {row : Option Nat} (hg : W.grownBy W' row) (hr : ∀ b, row = some b → w.heap.size + 2 ≤ b) : TP w W' s grp v1 v2 v3 v4 v5 v6 :=
  h.below ((Below.refl _ _).grown hg h.lt hr)
theorem TP.alloc {w W : World} {s : Nat → ByteArray} {grp : Int} {v1 v2 v3 v4 v5 v6 : Value} (h : TP w W s grp v1 v2 v3 v4 v5 v6) (o : Obj) : TP w (W.alloc o) s grp v1 v2 v3 v4 v5 v6 :=
  h.below ((Below.refl _ _).alloc h.lt o)
theorem TP.start (w : World) (s : Nat → ByteArray) (grp : Int) (v1 v2 v3 v4 v5 v6 : Value) : TP w ((w.alloc (.cells (tbC s grp v1 v2 v3 v4 v5 v6) 55)).alloc (.cells zTb 55)) s grp v1 v2 v3 v4 v5 v6 :=
  ⟨heap_two _ _ _, heap_two2 _ _ _, ((Below.refl _ _).alloc (Nat.le_refl _) _).alloc (by simp) _, by simp⟩
theorem TP.set {w W : World} {s s' : Nat → ByteArray} {grp grp' : Int} {v1 v2 v3 v4 v5 v6 u1 u2 u3 u4 u5 u6 : Value} (h : TP w W s grp v1 v2 v3 v4 v5 v6) (i : Nat) (x : Value)
    (e : (tbC s grp v1 v2 v3 v4 v5 v6).setIfInBounds i x = tbC s' grp' u1 u2 u3 u4 u5 u6) : TP w (W.setCell ⟨w.heap.size, i, none⟩ x) s' grp' u1 u2 u3 u4 u5 u6 := by
  have h1 := heap_set_same h.tb i x
  rw [e] at h1
  exact ⟨h1, (Below.heap_setCell _ _ _ _ (by show _ ≠ w.heap.size; omega)).trans h.z, h.bel.setCell (Nat.le_refl _) _, by simpa [World.setCell] using h.lt⟩
/-- an own slice stays, where another block alone is written. -/
theorem OwnS.grown {α : Type} {k : Nat} {R : World → Nat → Nat → α → Prop} {D : Nat → Prop} (hc : Carries k R D) {e : TypeId} {base : Nat} {W W' : World} {v : Value} {xs : List α} (h : OwnS k R e base W v xs) {row : Option Nat}
    (hg : W.grownBy W' row) (hr : ∀ b, row = some b → ¬ D b ∧ ¬ v.ownBlock = some b) : OwnS k R e base W' v xs :=
  h.kept hc (fun b hb => hg.block b (h.lt b hb).2 (fun e2 => (hr b e2.symm).2 hb)) (grown_same hg (fun b e2 => (hr b e2).1))
theorem OwnS.alloc {α : Type} {k : Nat} {R : World → Nat → Nat → α → Prop} {D : Nat → Prop} (hc : Carries k R D) {e : TypeId} {base : Nat} {W : World} {v : Value} {xs : List α} (h : OwnS k R e base W v xs) (o : Obj) : OwnS k R e base (W.alloc o) v xs :=
  h.kept hc (fun b hb => Below.heap_alloc W o b (h.lt b hb).2) (Same.below ((Below.refl _ _).alloc (Nat.le_refl _) o))
theorem OwnS.set {α : Type} {k : Nat} {R : World → Nat → Nat → α → Prop} {D : Nat → Prop} (hc : Carries k R D) {e : TypeId} {base : Nat} {W : World} {v : Value} {xs : List α} (h : OwnS k R e base W v xs) (g i : Nat) (x : Value)
    (hg : g < base) (hD : ¬ D g) : OwnS k R e base (W.setCell ⟨g, i, none⟩ x) v xs :=
  h.kept hc (fun b hb => Below.heap_setCell _ _ _ _ (by show b ≠ g; have := (h.lt b hb).1; omega)) (Same.of_kept ((Kept.refl W (· = g)).setCell (p := ⟨g, i, none⟩) (fun _ => rfl) x) (fun b hb e2 => hD (by rw [← e2]; exact hb)))
end Go.Proofs.Ytikkakbemphdhaa
