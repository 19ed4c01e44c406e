/- A table as plain data, its bytes, and how it lies in memory. -/
import Derived.Test.YtikkakbemphdhaaLaw2
set_option linter.unusedSimpArgs false
set_option linter.unusedVariables false
namespace Go.Proofs.Ytikkakbemphdhaa
open Go.RowKit Go.Fl

structure Tx where
  cat : Int
  s : ByteArray
structure Rw where
  mag : Int
  texts : List Tx
structure Cu where
  code : ByteArray
  sym : ByteArray
  nar : ByteArray
  names : List Tx
  d0 : Int
  d1 : Int
  d2 : Int
  d3 : Int
structure Un where
  name : ByteArray
  texts : List Tx
/-- a table; its single texts by their number in the order of its bytes. -/
structure Tb where
  s : Nat → ByteArray
  grp : Int
  short : List Rw
  long : List Rw
  mshort : List Rw
  curs : List Cu
  units : List Un
  munit : List Tx

def eTx (x : Tx) : List UInt8 := numB x.cat.toNat ++ textB x.s
def eAll {α : Type} (f : α → List UInt8) (xs : List α) : List UInt8 := numB xs.length ++ xs.flatMap f
def eRw (x : Rw) : List UInt8 := numB x.mag.toNat ++ eAll eTx x.texts
def eCu (c : Cu) : List UInt8 := textB c.code ++ textB c.sym ++ textB c.nar ++ eAll eTx c.names ++ numB c.d0.toNat ++ numB c.d1.toNat ++ numB c.d2.toNat ++ numB c.d3.toNat
def eUn (u : Un) : List UInt8 := textB u.name ++ eAll eTx u.texts
def eSs (s : Nat → ByteArray) (n : Nat) : List UInt8 := (List.range n).flatMap fun i => textB (s i)
def eTb (t : Tb) : List UInt8 :=
  eSs t.s 27 ++ numB t.grp.toNat ++ eAll eRw t.short ++ eAll eRw t.long ++ eAll eRw t.mshort ++ eAll eCu t.curs ++ eAll eUn t.units ++ eAll eTx t.munit

/-- a slice value whose elements lie in blocks of P. -/
def SliceOf {α : Type} (k : Nat) (R : World → Nat → Nat → α → Prop) (P : Nat → Prop) (W : World) (v : Value) (xs : List α) : Prop :=
  ∃ a cap, v = .slice a xs.length cap ∧ ∀ i, (h : i < xs.length) → ∃ b off, a = some ⟨b, off, none⟩ ∧ P b ∧ b < W.heap.size ∧ R W b (off + i * k) xs[i]

def TxAt (W : World) (b o : Nat) (x : Tx) : Prop := W.cell? ⟨b, o, none⟩ = some (.int .i64 x.cat) ∧ W.cell? ⟨b, o + 1, none⟩ = some (.string x.s)
def Txs (P : Nat → Prop) (W : World) (v : Value) (xs : List Tx) : Prop := SliceOf 2 TxAt P W v xs
def RwAt (P : Nat → Prop) (W : World) (b o : Nat) (x : Rw) : Prop :=
  W.cell? ⟨b, o, none⟩ = some (.int .i64 x.mag) ∧ ∃ tv, W.cell? ⟨b, o + 1, none⟩ = some tv ∧ Txs P W tv x.texts
def Rws (P : Nat → Prop) (W : World) (v : Value) (xs : List Rw) : Prop := SliceOf 2 (RwAt P) P W v xs
def CuAt (P : Nat → Prop) (W : World) (b o : Nat) (x : Cu) : Prop :=
  W.cell? ⟨b, o, none⟩ = some (.string x.code) ∧ W.cell? ⟨b, o + 1, none⟩ = some (.string x.sym) ∧ W.cell? ⟨b, o + 2, none⟩ = some (.string x.nar) ∧
  W.cell? ⟨b, o + 4, none⟩ = some (.int .i64 x.d0) ∧ W.cell? ⟨b, o + 5, none⟩ = some (.int .i64 x.d1) ∧ W.cell? ⟨b, o + 6, none⟩ = some (.int .i64 x.d2) ∧ W.cell? ⟨b, o + 7, none⟩ = some (.int .i64 x.d3) ∧
  ∃ tv, W.cell? ⟨b, o + 3, none⟩ = some tv ∧ Txs P W tv x.names
def Cus (P : Nat → Prop) (W : World) (v : Value) (xs : List Cu) : Prop := SliceOf 8 (CuAt P) P W v xs
def UnAt (P : Nat → Prop) (W : World) (b o : Nat) (x : Un) : Prop :=
  W.cell? ⟨b, o, none⟩ = some (.string x.name) ∧ ∃ tv, W.cell? ⟨b, o + 1, none⟩ = some tv ∧ Txs P W tv x.texts
def Uns (P : Nat → Prop) (W : World) (v : Value) (xs : List Un) : Prop := SliceOf 2 (UnAt P) P W v xs

theorem SliceOf.imp {α : Type} {k : Nat} {R R' : World → Nat → Nat → α → Prop} {P P' : Nat → Prop} {W W' : World} {v : Value} {xs : List α} (h : SliceOf k R P W v xs)
    (hs : W.heap.size ≤ W'.heap.size) (hP : ∀ b, b < W.heap.size → P b → P' b) (hR : ∀ b o x, P b → b < W.heap.size → R W b o x → R' W' b o x) : SliceOf k R' P' W' v xs := by
  obtain ⟨a, cap, hv, hi⟩ := h
  refine ⟨a, cap, hv, fun i h => ?_⟩
  obtain ⟨b, off, ha, hp, hb, hr⟩ := hi i h
  exact ⟨b, off, ha, hP b hb hp, by omega, hR _ _ _ hp hb hr⟩
theorem SliceOf.len {α : Type} {k : Nat} {R : World → Nat → Nat → α → Prop} {P : Nat → Prop} {W : World} {v : Value} {xs : List α} (h : SliceOf k R P W v xs) : ∃ a cap, v = .slice a xs.length cap := by
  obtain ⟨a, cap, hv, _⟩ := h
  exact ⟨a, cap, hv⟩
theorem SliceOf.el {α : Type} {k : Nat} {R : World → Nat → Nat → α → Prop} {P : Nat → Prop} {W : World} {a : Option Addr} {n cap : Nat} {xs : List α} (h : SliceOf k R P W (.slice a n cap) xs) (i : Nat) (hi : i < xs.length) :
    ∃ b off, a = some ⟨b, off, none⟩ ∧ P b ∧ b < W.heap.size ∧ R W b (off + i * k) xs[i] := by
  obtain ⟨a', cap', hv, h2⟩ := h
  cases hv
  exact h2 i hi
theorem SliceOf.nil {α : Type} {k : Nat} {R : World → Nat → Nat → α → Prop} {P : Nat → Prop} {W : World} : SliceOf k R P W (.slice none 0 0) ([] : List α) := ⟨none, 0, rfl, fun i h => by simp at h⟩

/-- what is told of the cells of a world, is told in another one. -/
def Same (P : Nat → Prop) (W W' : World) : Prop := W.heap.size ≤ W'.heap.size ∧ ∀ b o, P b → b < W.heap.size → W'.cell? ⟨b, o, none⟩ = W.cell? ⟨b, o, none⟩
theorem lt_of_cell {W : World} {b o : Nat} {v : Value} (h : W.cell? ⟨b, o, none⟩ = some v) : b < W.heap.size := World.block_lt_of_cell? W _ h
theorem Same.cell {P : Nat → Prop} {W W' : World} (h : Same P W W') {b o : Nat} {v : Value} (hp : P b) (hc : W.cell? ⟨b, o, none⟩ = some v) : W'.cell? ⟨b, o, none⟩ = some v := by
  rw [h.2 b o hp (lt_of_cell hc), hc]
theorem Same.of_below {P : Nat → Prop} {W W' : World} {B : Nat} (h : Below B W W') (hp : ∀ b, P b → b < B) : Same P W W' := ⟨h.size, fun b o hb _ => h.cell (p := ⟨b, o, none⟩) (hp b hb)⟩
theorem Same.below {P : Nat → Prop} {W W' : World} (h : Below W.heap.size W W') : Same P W W' := ⟨h.size, fun b o _ hb => h.cell (p := ⟨b, o, none⟩) hb⟩
theorem kept_cell {w w' : World} {S : Nat → Prop} (h : Kept w w' S) {b o : Nat} (hb : b < w.heap.size) (hn : ¬ S b) : w'.cell? ⟨b, o, none⟩ = w.cell? ⟨b, o, none⟩ := by
  simp only [World.cell?, h.block b hb hn]
theorem Same.of_kept {P : Nat → Prop} {W W' : World} {S : Nat → Prop} (h : Kept W W' S) (hp : ∀ b, P b → ¬ S b) : Same P W W' :=
  ⟨h.size, fun b o hb hlt => kept_cell h hlt (hp b hb)⟩

theorem TxAt.same {P : Nat → Prop} {W W' : World} (hs : Same P W W') {b o : Nat} {x : Tx} (hp : P b) (h : TxAt W b o x) : TxAt W' b o x := ⟨hs.cell hp h.1, hs.cell hp h.2⟩
theorem Txs.same {P : Nat → Prop} {W W' : World} {v : Value} {xs : List Tx} (h : Txs P W v xs) (hs : Same P W W') : Txs P W' v xs :=
  SliceOf.imp h hs.1 (fun _ _ h => h) (fun _ _ _ hp _ hr => hr.same hs hp)
theorem Txs.mono {P P' : Nat → Prop} {W : World} {v : Value} {xs : List Tx} (h : Txs P W v xs) (hp : ∀ b, b < W.heap.size → P b → P' b) : Txs P' W v xs :=
  SliceOf.imp h (Nat.le_refl _) hp (fun _ _ _ _ _ hr => hr)
theorem RwAt.same {P : Nat → Prop} {W W' : World} (hs : Same P W W') {b o : Nat} {x : Rw} (hp : P b) (h : RwAt P W b o x) : RwAt P W' b o x := by
  obtain ⟨h0, tv, h1, h2⟩ := h
  exact ⟨hs.cell hp h0, tv, hs.cell hp h1, h2.same hs⟩
theorem RwAt.mono {P P' : Nat → Prop} {W : World} {b o : Nat} {x : Rw} (h : RwAt P W b o x) (hp : ∀ b, b < W.heap.size → P b → P' b) : RwAt P' W b o x := by
  obtain ⟨h0, tv, h1, h2⟩ := h
  exact ⟨h0, tv, h1, h2.mono hp⟩
theorem Rws.same {P : Nat → Prop} {W W' : World} {v : Value} {xs : List Rw} (h : Rws P W v xs) (hs : Same P W W') : Rws P W' v xs :=
  SliceOf.imp h hs.1 (fun _ _ h => h) (fun _ _ _ hp _ hr => hr.same hs hp)
theorem Rws.mono {P P' : Nat → Prop} {W : World} {v : Value} {xs : List Rw} (h : Rws P W v xs) (hp : ∀ b, b < W.heap.size → P b → P' b) : Rws P' W v xs :=
  SliceOf.imp h (Nat.le_refl _) hp (fun _ _ _ _ _ hr => hr.mono hp)
theorem CuAt.same {P : Nat → Prop} {W W' : World} (hs : Same P W W') {b o : Nat} {x : Cu} (hp : P b) (h : CuAt P W b o x) : CuAt P W' b o x := by
  obtain ⟨h0, h1, h2, h3, h4, h5, h6, tv, h7, h8⟩ := h
  exact ⟨hs.cell hp h0, hs.cell hp h1, hs.cell hp h2, hs.cell hp h3, hs.cell hp h4, hs.cell hp h5, hs.cell hp h6, tv, hs.cell hp h7, h8.same hs⟩
theorem CuAt.mono {P P' : Nat → Prop} {W : World} {b o : Nat} {x : Cu} (h : CuAt P W b o x) (hp : ∀ b, b < W.heap.size → P b → P' b) : CuAt P' W b o x := by
  obtain ⟨h0, h1, h2, h3, h4, h5, h6, tv, h7, h8⟩ := h
  exact ⟨h0, h1, h2, h3, h4, h5, h6, tv, h7, h8.mono hp⟩
theorem Cus.same {P : Nat → Prop} {W W' : World} {v : Value} {xs : List Cu} (h : Cus P W v xs) (hs : Same P W W') : Cus P W' v xs :=
  SliceOf.imp h hs.1 (fun _ _ h => h) (fun _ _ _ hp _ hr => hr.same hs hp)
theorem Cus.mono {P P' : Nat → Prop} {W : World} {v : Value} {xs : List Cu} (h : Cus P W v xs) (hp : ∀ b, b < W.heap.size → P b → P' b) : Cus P' W v xs :=
  SliceOf.imp h (Nat.le_refl _) hp (fun _ _ _ _ _ hr => hr.mono hp)
theorem UnAt.same {P : Nat → Prop} {W W' : World} (hs : Same P W W') {b o : Nat} {x : Un} (hp : P b) (h : UnAt P W b o x) : UnAt P W' b o x := by
  obtain ⟨h0, tv, h1, h2⟩ := h
  exact ⟨hs.cell hp h0, tv, hs.cell hp h1, h2.same hs⟩
theorem UnAt.mono {P P' : Nat → Prop} {W : World} {b o : Nat} {x : Un} (h : UnAt P W b o x) (hp : ∀ b, b < W.heap.size → P b → P' b) : UnAt P' W b o x := by
  obtain ⟨h0, tv, h1, h2⟩ := h
  exact ⟨h0, tv, h1, h2.mono hp⟩
theorem Uns.same {P : Nat → Prop} {W W' : World} {v : Value} {xs : List Un} (h : Uns P W v xs) (hs : Same P W W') : Uns P W' v xs :=
  SliceOf.imp h hs.1 (fun _ _ h => h) (fun _ _ _ hp _ hr => hr.same hs hp)
theorem Uns.mono {P P' : Nat → Prop} {W : World} {v : Value} {xs : List Un} (h : Uns P W v xs) (hp : ∀ b, b < W.heap.size → P b → P' b) : Uns P' W v xs :=
  SliceOf.imp h (Nat.le_refl _) hp (fun _ _ _ _ _ hr => hr.mono hp)

/-- a table's cells. -/
def tbC (s : Nat → ByteArray) (grp : Int) (v1 v2 v3 v4 v5 v6 : Value) : Array Value :=
  #[.string (s 0), .string (s 1), .string (s 2), .string (s 3), .string (s 4), .string (s 5), .string (s 6), .string (s 7), .string (s 8), .string (s 9),
    .string (s 10), .string (s 11), .string (s 12), .string (s 13), .string (s 14), .string (s 15), .int .i64 grp, .string (s 16), .string (s 17), .string (s 18), .string (s 19), .string (s 20),
    v1, v2, v3, v4, v5, v6, .string (s 21), .string (s 22), .string (s 23), .string (s 24), .string (s 25), .string (s 26)]
/-- a table's value. -/
def tbV (s : Nat → ByteArray) (grp : Int) (v1 v2 v3 v4 v5 v6 : Value) : Value := .agg (tbC s grp v1 v2 v3 v4 v5 v6)
/-- where a text stands among the cells. -/
def pl (i : Nat) : Nat := if i < 16 then i else if i < 21 then i + 1 else i + 7
theorem tbC_pl (s : Nat → ByteArray) (grp : Int) (v1 v2 v3 v4 v5 v6 : Value) (i : Nat) (h : i < 27) : (tbC s grp v1 v2 v3 v4 v5 v6)[pl i]? = some (.string (s i)) := by
  have : i = 0 ∨ i = 1 ∨ i = 2 ∨ i = 3 ∨ i = 4 ∨ i = 5 ∨ i = 6 ∨ i = 7 ∨ i = 8 ∨ i = 9 ∨ i = 10 ∨ i = 11 ∨ i = 12 ∨ i = 13 ∨ i = 14 ∨ i = 15 ∨ i = 16 ∨ i = 17 ∨ i = 18 ∨ i = 19 ∨ i = 20 ∨ i = 21 ∨ i = 22 ∨ i = 23 ∨ i = 24 ∨ i = 25 ∨ i = 26 := by omega
  rcases this with h|h|h|h|h|h|h|h|h|h|h|h|h|h|h|h|h|h|h|h|h|h|h|h|h|h|h <;> subst h <;> rfl

/-- the slices of a table's value. -/
structure TbS (P : Nat → Prop) (W : World) (t : Tb) (v1 v2 v3 v4 v5 v6 : Value) : Prop where
  short : Rws P W v1 t.short
  long : Rws P W v2 t.long
  mshort : Rws P W v3 t.mshort
  curs : Cus P W v4 t.curs
  units : Uns P W v5 t.units
  munit : Txs P W v6 t.munit
theorem TbS.same {P : Nat → Prop} {W W' : World} {t : Tb} {v1 v2 v3 v4 v5 v6 : Value} (h : TbS P W t v1 v2 v3 v4 v5 v6) (hs : Same P W W') : TbS P W' t v1 v2 v3 v4 v5 v6 :=
  ⟨h.short.same hs, h.long.same hs, h.mshort.same hs, h.curs.same hs, h.units.same hs, h.munit.same hs⟩
theorem TbS.mono {P P' : Nat → Prop} {W : World} {t : Tb} {v1 v2 v3 v4 v5 v6 : Value} (h : TbS P W t v1 v2 v3 v4 v5 v6) (hp : ∀ b, b < W.heap.size → P b → P' b) : TbS P' W t v1 v2 v3 v4 v5 v6 :=
  ⟨h.short.mono hp, h.long.mono hp, h.mshort.mono hp, h.curs.mono hp, h.units.mono hp, h.munit.mono hp⟩

theorem heap_two (w : World) (o1 o2 : Obj) : ((w.alloc o1).alloc o2).heap[w.heap.size]? = some o1 :=
  (Below.heap_alloc _ _ _ (by simp)).trans (heap_alloc_new w _)
theorem cell_of {W : World} {g i : Nat} {cs : Array Value} {ty : TypeId} {fr : Nat × Nat} {v : Value} (h : W.heap[g]? = some (.cells cs ty fr)) (hi : cs[i]? = some v) : W.cell? ⟨g, i, none⟩ = some v := by
  simp [World.cell?, h, hi]
theorem cell_two (w : World) {o1 : Obj} {cs : Array Value} {ty : TypeId} {i : Nat} {v : Value} (h : cs[i]? = some v) : ((w.alloc o1).alloc (.cells cs ty)).cell? ⟨w.heap.size + 1, i, none⟩ = some v := by
  have h1 := heap_alloc_new (w.alloc o1) (.cells cs ty)
  rw [show (w.alloc o1).heap.size = w.heap.size + 1 by simp] at h1
  exact cell_of h1 h
/-- what is loaded field by field. -/
theorem tb_cells {W : World} {g : Nat} {s : Nat → ByteArray} {grp : Int} {v1 v2 v3 v4 v5 v6 : Value} (h : W.heap[g]? = some (.cells (tbC s grp v1 v2 v3 v4 v5 v6) 55 (0, 0))) :
    W.cell? ⟨g, 16, none⟩ = some (.int .i64 grp) ∧ W.cell? ⟨g, 21, none⟩ = some (.string (s 20)) ∧ W.cell? ⟨g, 22, none⟩ = some v1 ∧ W.cell? ⟨g, 23, none⟩ = some v2 ∧ W.cell? ⟨g, 24, none⟩ = some v3 ∧
    W.cell? ⟨g, 25, none⟩ = some v4 ∧ W.cell? ⟨g, 26, none⟩ = some v5 ∧ W.cell? ⟨g, 27, none⟩ = some v6 :=
  ⟨cell_of h rfl, cell_of h rfl, cell_of h rfl, cell_of h rfl, cell_of h rfl, cell_of h rfl, cell_of h rfl, cell_of h rfl⟩

/-- what is so of all that came in: lengths and numbers fit. -/
def Tx.fit (x : Tx) : Prop := x.s.size ≤ 9223372036854775807 ∧ x.cat ≤ 9223372036854775807
def Fits {α : Type} (f : α → Prop) (xs : List α) : Prop := xs.length ≤ 9223372036854775807 ∧ ∀ x ∈ xs, f x
def Rw.fit (x : Rw) : Prop := x.mag ≤ 9223372036854775807 ∧ Fits Tx.fit x.texts
def Cu.fit (x : Cu) : Prop := x.code.size ≤ 140737488355328 ∧ x.sym.size ≤ 140737488355328 ∧ x.nar.size ≤ 140737488355328 ∧ Fits Tx.fit x.names ∧
  x.d0 ≤ 9223372036854775807 ∧ x.d1 ≤ 9223372036854775807 ∧ x.d2 ≤ 9223372036854775807 ∧ x.d3 ≤ 9223372036854775807
def Un.fit (x : Un) : Prop := x.name.size ≤ 9223372036854775807 ∧ Fits Tx.fit x.texts
structure Tb.fit (t : Tb) : Prop where
  s : ∀ i, (t.s i).size ≤ 9223372036854775807
  grp : t.grp ≤ 9223372036854775807
  short : Fits Rw.fit t.short
  long : Fits Rw.fit t.long
  mshort : Fits Rw.fit t.mshort
  curs : Fits Cu.fit t.curs
  units : Fits Un.fit t.units
  munit : Fits Tx.fit t.munit
end Go.Proofs.Ytikkakbemphdhaa
