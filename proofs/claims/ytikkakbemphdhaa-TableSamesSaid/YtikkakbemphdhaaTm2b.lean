/- Where Turn's result lies. -/
import Derived.Test.YtikkakbemphdhaaTm1
import Derived.Test.YtikkakbemphdhaaTm2
set_option linter.unusedSimpArgs false
set_option linter.unusedVariables false
namespace Go.Proofs.Ytikkakbemphdhaa
open Go.RowKit Go.Fl

/-- a block that the store of the result leaves as it is. -/
def Live (w W : World) (b : Nat) : Prop := b < W.heap.size ∧ b ≠ w.heap.size + 1
theorem live_rws {w W : World} {v : Value} {xs : List Rw} (h : SliceOf 2 (RwAt (fun b => b < w.heap.size)) (fun b => v.ownBlock = some b) W v xs) (hl : ∀ b, v.ownBlock = some b → w.heap.size + 2 ≤ b) : Rws (Live w W) W v xs :=
  SliceOf.imp h (Nat.le_refl _) (fun b hb e => ⟨hb, by have := hl b e; omega⟩) (fun b o x _ _ hr => hr.mono (fun b hb h2 => ⟨hb, by omega⟩))
theorem live_cus {w W : World} {v : Value} {xs : List Cu} (h : SliceOf 8 (CuAt (fun b => b < w.heap.size)) (fun b => v.ownBlock = some b) W v xs) (hl : ∀ b, v.ownBlock = some b → w.heap.size + 2 ≤ b) : Cus (Live w W) W v xs :=
  SliceOf.imp h (Nat.le_refl _) (fun b hb e => ⟨hb, by have := hl b e; omega⟩) (fun b o x _ _ hr => hr.mono (fun b hb h2 => ⟨hb, by omega⟩))
theorem live_uns {w W : World} {v : Value} {xs : List Un} (h : SliceOf 2 (UnAt (fun b => b < w.heap.size)) (fun b => v.ownBlock = some b) W v xs) (hl : ∀ b, v.ownBlock = some b → w.heap.size + 2 ≤ b) : Uns (Live w W) W v xs :=
  SliceOf.imp h (Nat.le_refl _) (fun b hb e => ⟨hb, by have := hl b e; omega⟩) (fun b o x _ _ hr => hr.mono (fun b hb h2 => ⟨hb, by omega⟩))
theorem live_txs {w W : World} {v : Value} {xs : List Tx} (h : SliceOf 2 TxAt (fun b => v.ownBlock = some b) W v xs) (hl : ∀ b, v.ownBlock = some b → w.heap.size + 2 ≤ b) : Txs (Live w W) W v xs :=
  SliceOf.imp h (Nat.le_refl _) (fun b hb e => ⟨hb, by have := hl b e; omega⟩) (fun b o x _ _ hr => hr)
theorem OwnS.rws {w W : World} {v : Value} {xs : List Rw} (h : OwnS 2 (RwAt (fun b => b < w.heap.size)) 66 (w.heap.size + 2) W v xs) : Rws (Live w W) W v xs := live_rws h.sl (fun b e => (h.lt b e).1)
theorem OwnS.cus {w W : World} {v : Value} {xs : List Cu} (h : OwnS 8 (CuAt (fun b => b < w.heap.size)) 64 (w.heap.size + 2) W v xs) : Cus (Live w W) W v xs := live_cus h.sl (fun b e => (h.lt b e).1)
theorem OwnS.uns {w W : World} {v : Value} {xs : List Un} (h : OwnS 2 (UnAt (fun b => b < w.heap.size)) 76 (w.heap.size + 2) W v xs) : Uns (Live w W) W v xs := live_uns h.sl (fun b e => (h.lt b e).1)
theorem OwnS.txs {w W : World} {v : Value} {xs : List Tx} (h : OwnS 2 TxAt 98 (w.heap.size + 2) W v xs) : Txs (Live w W) W v xs := live_txs h.sl (fun b e => (h.lt b e).1)

/-- the slices of the argument that Turn does not copy. -/
theorem args_rws {w W : World} (hb : Below w.heap.size w W) {v : Value} {xs : List Rw} (h : Rws (fun b => b < w.heap.size) w v xs) : Rws (Live w W) W v xs :=
  (h.same (Same.of_below hb (fun _ h => h))).mono (fun b hb h2 => ⟨hb, by omega⟩)
theorem args_txs {w W : World} (hb : Below w.heap.size w W) {v : Value} {xs : List Tx} (h : Txs (fun b => b < w.heap.size) w v xs) : Txs (Live w W) W v xs :=
  (h.same (Same.of_below hb (fun _ h => h))).mono (fun b hb h2 => ⟨hb, by omega⟩)
theorem TbS.fin {w W wq : World} {u : Tb} {v1 v2 v3 v4 v5 v6 : Value} (h : TbS (Live w W) W u v1 v2 v3 v4 v5 v6) (hk : Kept W wq (· = w.heap.size + 1)) : TbS (fun b => b < wq.heap.size) wq u v1 v2 v3 v4 v5 v6 :=
  (h.same (Same.of_kept hk (fun b hb e => hb.2 e))).mono (fun b hb _ => hb)

theorem OwnS.head {α : Type} {k : Nat} {R : World → Nat → Nat → α → Prop} {e : TypeId} {base : Nat} {W : World} {a : Option Addr} {n c : Nat} {x : α} {r : List α} (h : OwnS k R e base W (.slice a n c) (x :: r)) :
    ∃ g, a = some ⟨g, 0, none⟩ ∧ base ≤ g ∧ g < W.heap.size ∧ R W g 0 x ∧ n = r.length + 1 ∧ ∀ j, W.frozen? ⟨g, j, none⟩ = false := by
  have hlt := h.lt
  obtain ⟨⟨cs, hown⟩, hsl⟩ := h
  rcases hown.2 with ⟨_, h0⟩ | ⟨g, cap, cur, hv, h1, h2, h3⟩
  · simp at h0
  · injection hv with e1 e2 e3
    subst e1
    obtain ⟨b, off, hb, _, hlt2, hr⟩ := (hsl.len.elim fun a' ⟨c', e⟩ => by injection e with e1 e2 e3; rw [e2] at hsl; exact hsl.el 0 (by simp) : ∃ b off, (some ⟨g, 0, none⟩ : Option Addr) = some ⟨b, off, none⟩ ∧ _ ∧ b < W.heap.size ∧ R W b (off + 0 * k) x)
    injection hb with hb
    injection hb with e4 e5
    subst e4 e5
    rw [Nat.zero_mul] at hr
    exact ⟨_, rfl, h1, hlt2, hr, by simpa using e2, fun j => by simp [World.frozen?, h2]⟩

/-- the first element of an own slice is set. -/
theorem OwnS.first {α : Type} {k : Nat} {R : World → Nat → Nat → α → Prop} {D : Nat → Prop} (hc : Carries k R D) {e : TypeId} {base : Nat} {W : World} {g n c : Nat} {x : α} {r : List α}
    (h : OwnS k R e base W (.slice (some ⟨g, 0, none⟩) n c) (x :: r)) (hD : ¬ D g) (j : Nat) (hj : j < k) (u : Value) (x' : α) (hx : R (W.setCell ⟨g, j, none⟩ u) g 0 x') :
    SliceOf k R (fun b => (Value.slice (some ⟨g, 0, none⟩) n c).ownBlock = some b) (W.setCell ⟨g, j, none⟩ u) (.slice (some ⟨g, 0, none⟩) n c) (x' :: r) := by
  obtain ⟨a', c', hv, hi⟩ := h.sl
  injection hv with e1 e2 e3
  subst e1 e2 e3
  refine ⟨some ⟨g, 0, none⟩, c, rfl, fun i hi' => ?_⟩
  obtain ⟨b, off, hb, hp, hlt, hr⟩ := hi i (by simpa using hi')
  injection hb with hb
  injection hb with e4 e5
  subst e4 e5
  refine ⟨_, _, rfl, hp, by simpa [World.setCell] using hlt, ?_⟩
  cases i with
  | zero =>
    rw [Nat.zero_mul]
    exact hx
  | succ i =>
    refine hc.move _ _ _ _ _ _ _ (Same.of_kept ((Kept.refl W (· = g)).setCell (p := ⟨g, j, none⟩) (fun _ => rfl) u) (fun b hb e2 => hD (by rw [← e2]; exact hb))) (fun j' hj' => World.cell?_setCell_other _ _ _ _ (fun e => ?_)) hr
    injection e with _ e
    rw [Nat.add_mul] at e
    omega

theorem OwnS.drew {α : Type} {k : Nat} {R : World → Nat → Nat → α → Prop} {D : Nat → Prop} (hc : Carries k R D) {e : TypeId} {base : Nat} {W : World} {v : Value} {xs : List α} (h : OwnS k R e base W v xs) : OwnS k R e base W.drew v xs :=
  h.kept hc (fun _ _ => rfl) ⟨Nat.le_refl _, fun _ _ _ _ => rfl⟩
theorem TP.drew {w W : World} {s : Nat → ByteArray} {grp : Int} {v1 v2 v3 v4 v5 v6 : Value} (h : TP w W s grp v1 v2 v3 v4 v5 v6) : TP w W.drew s grp v1 v2 v3 v4 v5 v6 := h.below ((Below.refl _ _).drew)
/-- a text of the table is set. -/
theorem TP.setS {w W : World} {s : Nat → ByteArray} {grp : Int} {v1 v2 v3 v4 v5 v6 : Value} (h : TP w W s grp v1 v2 v3 v4 v5 v6) (i : Nat) (hi : i < 27) (x : ByteArray) :
    TP w (W.setCell ⟨w.heap.size, pl i, none⟩ (.string x)) (fun j => if j = i then x else s j) grp v1 v2 v3 v4 v5 v6 := h.set (pl i) (.string x) (tbC_set _ _ _ _ _ _ _ _ i hi x)

/-- what is read as a result out of the block. -/
theorem res29 {W : World} {g : Nat} {s : Nat → ByteArray} {grp : Int} {v1 v2 v3 v4 v5 v6 : Value} (h : IsTb W g s grp v1 v2 v3 v4 v5 v6) {a : Array Value} {c : Value} (h2 : a[4]? = some (.pointer (some ⟨g, 0, none⟩))) (h3 : a[5]? = some c) :
    (results Try.f29 a).run Try.prog W = .ok (.tuple #[tbV s grp v1 v2 v3 v4 v5 v6, c]) W := by
  have hld := run_loadVar_mid (P := Try.prog) W g 0 55 (tbC s grp v1 v2 v3 v4 v5 v6).toList _ h.range Try.underlying55 rfl size55
  have ha : (asAddr (.pointer (some ⟨g, 0, none⟩))).run Try.prog W = .ok ⟨g, 0, none⟩ W := by simp [asAddr, go_sem]
  simp [results, Try.results29, hld, ha, h2, h3, tbV, Sem.run_bind, Sem.run_pure, Result.andThen]

/-- the number of the k-th text that Turn may turn. -/
def qn (k : Nat) : Nat := if k = 0 then 3 else 9 + k
def pts (g : Nat) : Array Value := #[.pointer (some ⟨g, 3, none⟩), .pointer (some ⟨g, 10, none⟩), .pointer (some ⟨g, 11, none⟩), .pointer (some ⟨g, 12, none⟩), .pointer (some ⟨g, 13, none⟩), .pointer (some ⟨g, 14, none⟩), .pointer (some ⟨g, 15, none⟩),
  .pointer (some ⟨g, 17, none⟩), .pointer (some ⟨g, 18, none⟩), .pointer (some ⟨g, 19, none⟩), .pointer (some ⟨g, 20, none⟩), .pointer (some ⟨g, 21, none⟩), .pointer (some ⟨g, 28, none⟩), .pointer (some ⟨g, 29, none⟩), .pointer (some ⟨g, 30, none⟩),
  .pointer (some ⟨g, 31, none⟩), .pointer (some ⟨g, 32, none⟩), .pointer (some ⟨g, 33, none⟩)]
theorem pts_get (g k : Nat) (h : k < 18) : (pts g)[k]? = some (.pointer (some ⟨g, pl (qn k), none⟩)) ∧ qn k < 27 := by
  have : k = 0 ∨ k = 1 ∨ k = 2 ∨ k = 3 ∨ k = 4 ∨ k = 5 ∨ k = 6 ∨ k = 7 ∨ k = 8 ∨ k = 9 ∨ k = 10 ∨ k = 11 ∨ k = 12 ∨ k = 13 ∨ k = 14 ∨ k = 15 ∨ k = 16 ∨ k = 17 := by omega
  rcases this with h|h|h|h|h|h|h|h|h|h|h|h|h|h|h|h|h|h <;> subst h <;> exact ⟨rfl, by decide⟩
theorem which27 (n : Int) : ∃ k : Nat, wrap64 ((IntKind.u64.wrap n).tmod 27) = (k : Int) ∧ k < 27 := by
  rw [IntKind.wrap_u64]
  have h : 0 ≤ n % 18446744073709551616 := Int.emod_nonneg _ (by omega)
  rw [Int.tmod_eq_emod_of_nonneg h]
  refine ⟨((n % 18446744073709551616) % 27).toNat, ?_, by omega⟩
  unfold wrap64
  omega
theorem wrap_one (n : Int) (h0 : 0 ≤ n) (h : n ≤ 1000) : wrap64 (n + 1) = n + 1 := by unfold wrap64; omega
end Go.Proofs.Ytikkakbemphdhaa
