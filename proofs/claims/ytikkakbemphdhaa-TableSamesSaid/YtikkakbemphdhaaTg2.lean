/- The walks of One, Two and Base(0): what is told of Base(0) is that its first sign is no empty text. -/
import Derived.Test.YtikkakbemphdhaaTg1
import Derived.Test.YtikkakbemphdhaaTe2
import Derived.Test.YtikkakbemphdhaaTg0
set_option linter.unusedSimpArgs false
set_option linter.unusedVariables false
namespace Go.Proofs.Ytikkakbemphdhaa
open Go.RowKit Go.Fl

def OnePost (w : World) (e : Ending) (w' : World) : Prop := ∃ a n c, e = .returned (.slice a n c) ∧ Below w.heap.size w w'
set_option maxRecDepth 100000 in
set_option maxHeartbeats 800000 in
theorem one_weak (s : ByteArray) (w : World) : Calls Try.prog 54 #[.string s] w (OnePost w) := by
  go_enter Try.func54, Try.ntmps54
  go_wp2
  go_ret
  exact ⟨_, _, _, rfl, (Below.refl _ _).alloc (Nat.le_refl _) _⟩
set_option maxRecDepth 100000 in
set_option maxHeartbeats 800000 in
theorem two_weak (s r : ByteArray) (w : World) : Calls Try.prog 55 #[.string s, .string r] w (OnePost w) := by
  go_enter Try.func55, Try.ntmps55
  go_wp2
  go_ret
  exact ⟨_, _, _, rfl, (Below.refl _ _).alloc (Nat.le_refl _) _⟩

def BasePost (w : World) (e : Ending) (w' : World) : Prop :=
  ∃ (s : Nat → ByteArray) (grp : Int) (v1 v2 v3 v4 v5 v6 : Value), e = .returned (tbV s grp v1 v2 v3 v4 v5 v6) ∧ ¬ s 0 = noB ∧ Below w.heap.size w w'


/-- what stands while Base's loop goes on. -/
structure BInv (gT g2 : Nat) (s : Nat → ByteArray) (W1 W : World) (a1 : Option Addr) (j1 c1 : Nat) (a3 : Option Addr) (j3 c3 : Nat) : Prop where
  tb : IsTb W gT s 1 (.slice a1 j1 c1) nilV (.slice a3 j3 c3) nilV nilV nilV
  o1 : ∃ xs, W.ownsRow (g2 + 1) 66 2 (.slice a1 j1 c1) j1 xs
  o3 : ∃ xs, W.ownsRow (g2 + 1) 66 2 (.slice a3 j3 c3) j3 xs
  dis : ∀ b, (Value.slice a1 j1 c1).ownBlock = some b → ¬ (Value.slice a3 j3 c3).ownBlock = some b
  str : ∀ i, i < 7 → ∃ x : ByteArray, x.size ≤ 100 ∧ W.cell? ⟨g2, i, none⟩ = some (.string x)
  bel : Below gT W1 W
  lt : gT < g2
  lt2 : g2 < W.heap.size
theorem BInv.below {gT g2 : Nat} {s : Nat → ByteArray} {W1 W W' : World} {a1 a3 : Option Addr} {j1 c1 j3 c3 : Nat} (h : BInv gT g2 s W1 W a1 j1 c1 a3 j3 c3) (hb : Below W.heap.size W W') : BInv gT g2 s W1 W' a1 j1 c1 a3 j3 c3 := by
  obtain ⟨xs, h1⟩ := h.o1
  obtain ⟨ys, h3⟩ := h.o3
  refine ⟨heapC hb h.tb, ⟨xs, ownsRow_kept (S := fun _ => False) h1 (Kept.of_below hb) (fun _ _ h => h)⟩, ⟨ys, ownsRow_kept (S := fun _ => False) h3 (Kept.of_below hb) (fun _ _ h => h)⟩, h.dis, fun i hi => ?_, h.bel.trans (hb.mono ?_), h.lt, Nat.lt_of_lt_of_le h.lt2 hb.size⟩
  · obtain ⟨x, h1, h2⟩ := h.str i hi
    exact ⟨x, h1, (hb.cell (p := ⟨g2, i, none⟩) h.lt2).trans h2⟩
  · have := h.lt; have := h.lt2; omega
theorem BInv.grown {gT g2 : Nat} {s : Nat → ByteArray} {W1 W W3 : World} {a1 a3 : Option Addr} {j1 c1 j3 c3 : Nat} (h : BInv gT g2 s W1 W a1 j1 c1 a3 j3 c3) {own : Option Nat} (hg : W.grownBy W3 own) (ho : ∀ b, own = some b → g2 + 1 ≤ b) :
    IsTb W3 gT s 1 (.slice a1 j1 c1) nilV (.slice a3 j3 c3) nilV nilV nilV ∧ (∀ i, i < 7 → ∃ x : ByteArray, x.size ≤ 100 ∧ W3.cell? ⟨g2, i, none⟩ = some (.string x)) ∧ Below gT W1 W3 ∧ g2 < W3.heap.size := by
  have hlt := h.lt
  have hlt2 := h.lt2
  refine ⟨(hg.block gT (lt_of_heap h.tb) (fun e => by have := ho _ e.symm; omega)).trans h.tb, fun i hi => ?_, h.bel.grown hg (by omega) (fun k e => by have := ho k e; omega), Nat.lt_of_lt_of_le hlt2 hg.size⟩
  obtain ⟨x, h1, h2⟩ := h.str i hi
  exact ⟨x, h1, hg.cell (a := ⟨g2, i, none⟩) h2 (fun e => by have := ho _ e.symm; simp at this; omega)⟩
theorem own_set {W : World} {base gT : Nat} {k n : Nat} {v x : Value} {xs : List Value} {o : Nat} (h : W.ownsRow base 66 k v n xs) (hg : gT < base) : (W.setCell ⟨gT, o, none⟩ x).ownsRow base 66 k v n xs :=
  ownsRow_kept h ((Kept.refl W (· = gT)).setCell (p := ⟨gT, o, none⟩) (fun _ => rfl) x) (fun b hb e => by omega)
theorem BInv.push1 {gT g2 : Nat} {s : Nat → ByteArray} {W1 W W3 : World} {a1 a3 : Option Addr} {j1 c1 j3 c3 : Nat} (h : BInv gT g2 s W1 W a1 j1 c1 a3 j3 c3) (hg : W.grownBy W3 (Value.slice a1 j1 c1).ownBlock) {r c : Nat} {ys : List Value}
    (hown : W3.ownsRow (g2 + 1) 66 2 (.slice (some ⟨r, 0, none⟩) (j1 + 1) c) (j1 + 1) ys) (hat : (Value.slice a1 j1 c1).ownBlock = some r ∨ r = W.heap.size) :
    BInv gT g2 s W1 (W3.setCell ⟨gT, 22, none⟩ (.slice (some ⟨r, 0, none⟩) (j1 + 1) c)) (some ⟨r, 0, none⟩) (j1 + 1) c a3 j3 c3 := by
  obtain ⟨xs, h1⟩ := h.o1
  obtain ⟨zs, h3⟩ := h.o3
  have hlt := h.lt
  obtain ⟨q1, q2, q3, q4⟩ := h.grown hg (fun b e => (h1.lt b e).1)
  have hne : (Value.slice a3 j3 c3).ownBlock = none ∨ (Value.slice a3 j3 c3).ownBlock ≠ (Value.slice a1 j1 c1).ownBlock := by
    cases e : (Value.slice a3 j3 c3).ownBlock with
    | none => exact .inl rfl
    | some b => exact .inr (fun e2 => h.dis b e2.symm e)
  refine ⟨(heap_set_same q1 22 _).trans rfl, ⟨ys, own_set hown (by omega)⟩, ⟨zs, own_set (h3.kept hg hne) (by omega)⟩, ?_, fun i hi => ?_, q3.setCell (Nat.le_refl _) _, hlt, by simpa [World.setCell] using q4⟩
  · intro b e e2
    have eb : b = r := by simp only [Value.ownBlock, Option.some.injEq] at e; exact e.symm
    rcases hat with e3 | e3
    · exact h.dis b (by rw [eb]; exact e3) e2
    · have := (h3.lt b e2).2; omega
  · obtain ⟨x, h1, h2⟩ := q2 i hi
    exact ⟨x, h1, (kept_cell ((Kept.refl W3 (· = gT)).setCell (p := ⟨gT, 22, none⟩) (fun _ => rfl) _) q4 (by omega)).trans h2⟩
theorem BInv.push3 {gT g2 : Nat} {s : Nat → ByteArray} {W1 W W3 : World} {a1 a3 : Option Addr} {j1 c1 j3 c3 : Nat} (h : BInv gT g2 s W1 W a1 j1 c1 a3 j3 c3) (hg : W.grownBy W3 (Value.slice a3 j3 c3).ownBlock) {r c : Nat} {ys : List Value}
    (hown : W3.ownsRow (g2 + 1) 66 2 (.slice (some ⟨r, 0, none⟩) (j3 + 1) c) (j3 + 1) ys) (hat : (Value.slice a3 j3 c3).ownBlock = some r ∨ r = W.heap.size) :
    BInv gT g2 s W1 (W3.setCell ⟨gT, 24, none⟩ (.slice (some ⟨r, 0, none⟩) (j3 + 1) c)) a1 j1 c1 (some ⟨r, 0, none⟩) (j3 + 1) c := by
  obtain ⟨xs, h1⟩ := h.o1
  obtain ⟨zs, h3⟩ := h.o3
  have hlt := h.lt
  obtain ⟨q1, q2, q3, q4⟩ := h.grown hg (fun b e => (h3.lt b e).1)
  have hne : (Value.slice a1 j1 c1).ownBlock = none ∨ (Value.slice a1 j1 c1).ownBlock ≠ (Value.slice a3 j3 c3).ownBlock := by
    cases e : (Value.slice a1 j1 c1).ownBlock with
    | none => exact .inl rfl
    | some b => exact .inr (fun e2 => h.dis b e e2.symm)
  refine ⟨(heap_set_same q1 24 _).trans rfl, ⟨xs, own_set (h1.kept hg hne) (by omega)⟩, ⟨ys, own_set hown (by omega)⟩, ?_, fun i hi => ?_, q3.setCell (Nat.le_refl _) _, hlt, by simpa [World.setCell] using q4⟩
  · intro b e e2
    have eb : b = r := by simp only [Value.ownBlock, Option.some.injEq] at e2; exact e2.symm
    rcases hat with e3 | e3
    · exact h.dis b e (by rw [eb]; exact e3)
    · have := (h1.lt b e).2; omega
  · obtain ⟨x, h1, h2⟩ := q2 i hi
    exact ⟨x, h1, (kept_cell ((Kept.refl W3 (· = gT)).setCell (p := ⟨gT, 24, none⟩) (fun _ => rfl) _) q4 (by omega)).trans h2⟩

def b0S (G : Nat → ByteArray) (i : Nat) : ByteArray :=
  (([G 0, G 1, G 2, G 3, G 4, G 5, G 6, G 7, G 8, G 9, ⟨#[45]⟩, ⟨#[43]⟩, ⟨#[37]⟩, ⟨#[226, 128, 176]⟩, ⟨#[46]⟩, ⟨#[44]⟩, ⟨#[35, 44, 35, 35, 48, 46, 35, 35, 35]⟩, ⟨#[35, 44, 35, 35, 48, 37]⟩, ⟨#[194, 164, 35, 44, 35, 35, 48, 46, 48, 48]⟩,
    ⟨#[194, 164, 35, 44, 35, 35, 48, 46, 48, 48, 59, 40, 194, 164, 35, 44, 35, 35, 48, 46, 48, 48, 41]⟩, ⟨#[111, 110, 101, 58, 32, 105, 32, 61, 32, 49, 32, 97, 110, 100, 32, 118, 32, 61, 32, 48]⟩] : List ByteArray)[i]?).getD noB

theorem wp_name {P : Program} {c : Code} {Q : Exit → Act → World → Prop} {a : Act} {W : World} (I : World → Prop) (hI : I W) (h : ∀ W', I W' → Code.wp P c Q a W') : Code.wp P c Q a W := h W hI
/-- what stands behind Base's loop. -/
def CInv (gR gT : Nat) (w W : World) : Prop :=
  ∃ (s : Nat → ByteArray) (grp : Int) (a1 a2 a3 a4 a5 a6 : Option Addr) (n1 n2 n3 n4 n5 n6 c1 c2 c3 c4 c5 c6 : Nat), IsTb W gT s grp (.slice a1 n1 c1) (.slice a2 n2 c2) (.slice a3 n3 c3) (.slice a4 n4 c4) (.slice a5 n5 c5) (.slice a6 n6 c6) ∧ s 0 = dgG 0 ∧
    IsTb W gR (fun _ => noB) 0 nilV nilV nilV nilV nilV nilV ∧ Below w.heap.size w W ∧ w.heap.size ≤ gT ∧ ¬ gR = gT
theorem CInv.below {gR gT : Nat} {w W W' : World} (h : CInv gR gT w W) (hb : Below W.heap.size W W') : CInv gR gT w W' := by
  obtain ⟨s, grp, a1, a2, a3, a4, a5, a6, n1, n2, n3, n4, n5, n6, c1, c2, c3, c4, c5, c6, h1, h2, h3, h4, h5, h6⟩ := h
  exact ⟨s, grp, a1, a2, a3, a4, a5, a6, n1, n2, n3, n4, n5, n6, c1, c2, c3, c4, c5, c6, heapC hb h1, h2, heapC hb h3, h4.trans (hb.mono h4.size), h5, h6⟩
theorem CInv.alloc {gR gT : Nat} {w W : World} (h : CInv gR gT w W) (o : Obj) : CInv gR gT w (W.alloc o) := h.below ((Below.refl _ _).alloc (Nat.le_refl _) o)
theorem CInv.at {gR gT : Nat} {w W : World} (h : CInv gR gT w W) (i : Nat) (hi : i < 34) : ∃ v, W.cell? ⟨gT, i, none⟩ = some v ∧ W.frozen? ⟨gT, i, none⟩ = false := by
  obtain ⟨s, grp, a1, a2, a3, a4, a5, a6, n1, n2, n3, n4, n5, n6, c1, c2, c3, c4, c5, c6, h1, _⟩ := h
  exact ⟨_, h1.at i _ (Array.getElem?_eq_getElem (by exact hi))⟩
theorem alloc_at {W : World} {g i : Nat} {v : Value} (h : W.cell? ⟨g, i, none⟩ = some v) (hf : W.frozen? ⟨g, i, none⟩ = false) : (∀ o, (W.alloc o).cell? ⟨g, i, none⟩ = some v) ∧ ∀ o, (W.alloc o).frozen? ⟨g, i, none⟩ = false :=
  ⟨fun o => ((Below.refl W.heap.size W).alloc (Nat.le_refl _) o).cell (p := ⟨g, i, none⟩) (lt_of_cell h) |>.trans h, fun o => ((Below.refl W.heap.size W).alloc (Nat.le_refl _) o).frozen (p := ⟨g, i, none⟩) (lt_of_cell h) |>.trans hf⟩
theorem CInv.set {gR gT : Nat} {w W : World} (h : CInv gR gT w W) (i : Nat) (hi : 22 ≤ i ∧ i ≤ 27) (a : Option Addr) (n c : Nat) : CInv gR gT w (W.setCell ⟨gT, i, none⟩ (.slice a n c)) := by
  obtain ⟨s, grp, a1, a2, a3, a4, a5, a6, n1, n2, n3, n4, n5, n6, c1, c2, c3, c4, c5, c6, h1, h2, h3, h4, h5, h6⟩ := h
  have hz : IsTb (W.setCell ⟨gT, i, none⟩ (.slice a n c)) gR (fun _ => noB) 0 nilV nilV nilV nilV nilV nilV := (Below.heap_setCell _ _ _ _ h6).trans h3
  have hb := h4.setCell (p := ⟨gT, i, none⟩) h5 (.slice a n c)
  have hs := heap_set_same h1 i (.slice a n c)
  have : i = 22 ∨ i = 23 ∨ i = 24 ∨ i = 25 ∨ i = 26 ∨ i = 27 := by omega
  rcases this with e|e|e|e|e|e <;> subst e
  · exact ⟨s, grp, a, a2, a3, a4, a5, a6, n, n2, n3, n4, n5, n6, c, c2, c3, c4, c5, c6, hs, h2, hz, hb, h5, h6⟩
  · exact ⟨s, grp, a1, a, a3, a4, a5, a6, n1, n, n3, n4, n5, n6, c1, c, c3, c4, c5, c6, hs, h2, hz, hb, h5, h6⟩
  · exact ⟨s, grp, a1, a2, a, a4, a5, a6, n1, n2, n, n4, n5, n6, c1, c2, c, c4, c5, c6, hs, h2, hz, hb, h5, h6⟩
  · exact ⟨s, grp, a1, a2, a3, a, a5, a6, n1, n2, n3, n, n5, n6, c1, c2, c3, c, c5, c6, hs, h2, hz, hb, h5, h6⟩
  · exact ⟨s, grp, a1, a2, a3, a4, a, a6, n1, n2, n3, n4, n, n6, c1, c2, c3, c4, c, c6, hs, h2, hz, hb, h5, h6⟩
  · exact ⟨s, grp, a1, a2, a3, a4, a5, a, n1, n2, n3, n4, n5, n, c1, c2, c3, c4, c5, c, hs, h2, hz, hb, h5, h6⟩
theorem CInv.setS {gR gT : Nat} {w W : World} (h : CInv gR gT w W) (i : Nat) (hi : 28 ≤ i ∧ i ≤ 33) (x : ByteArray) : CInv gR gT w (W.setCell ⟨gT, i, none⟩ (.string x)) := by
  obtain ⟨s, grp, a1, a2, a3, a4, a5, a6, n1, n2, n3, n4, n5, n6, c1, c2, c3, c4, c5, c6, h1, h2, h3, h4, h5, h6⟩ := h
  have hs := heap_set_same h1 i (.string x)
  obtain ⟨j, rfl⟩ : ∃ j, i = j + 7 := ⟨i - 7, by omega⟩
  have hp : pl j = j + 7 := by unfold pl; rw [if_neg (by omega), if_neg (by omega)]
  have e := tbC_set s grp (.slice a1 n1 c1) (.slice a2 n2 c2) (.slice a3 n3 c3) (.slice a4 n4 c4) (.slice a5 n5 c5) (.slice a6 n6 c6) j (by omega) x
  rw [hp] at e
  rw [e] at hs
  exact ⟨_, grp, a1, a2, a3, a4, a5, a6, n1, n2, n3, n4, n5, n6, c1, c2, c3, c4, c5, c6, hs, by rw [if_neg (by omega)]; exact h2, (Below.heap_setCell _ _ _ _ h6).trans h3, h4.setCell (p := ⟨gT, j + 7, none⟩) h5 _, h5, h6⟩

theorem res30 {W : World} {g : Nat} {s : Nat → ByteArray} {grp : Int} {v1 v2 v3 v4 v5 v6 : Value} (h : IsTb W g s grp v1 v2 v3 v4 v5 v6) {a : Array Value} (h2 : a[2]? = some (.pointer (some ⟨g, 0, none⟩))) :
    (results Try.f30 a).run Try.prog W = .ok (tbV s grp v1 v2 v3 v4 v5 v6) W := by
  have hld := run_loadVar_mid (P := Try.prog) W g 0 55 (tbC s grp v1 v2 v3 v4 v5 v6).toList _ h.range Try.underlying55 rfl size55
  have ha : (asAddr (.pointer (some ⟨g, 0, none⟩))).run Try.prog W = .ok ⟨g, 0, none⟩ W := by simp [asAddr, go_sem]
  simp [results, Try.results30, hld, ha, h2, tbV, Sem.run_bind, Sem.run_pure, Result.andThen]

set_option maxRecDepth 100000 in
set_option maxHeartbeats 3200000 in
theorem base0 (w : World) : Calls Try.prog 30 #[.int .i64 0] w (BasePost w) := by
  go_enter Try.func30, Try.ntmps30
  go_wp2_with fail
  refine (signs_any _).mono ?_
  rintro e w1 ⟨rfl, hb⟩
  obtain ⟨G, hG⟩ : ∃ G, G = dgG := ⟨_, rfl⟩
  rw [← hG]
  have HG : Hid (G 0 = dgG 0) := Lib.hid (by rw [hG])
  clear hG
  have HZ : Hid (IsTb (w1.alloc (.cells zTb 55)) w1.heap.size (fun _ => noB) 0 nilV nilV nilV nilV nilV nilV) := Lib.hid (heap_alloc_new w1 _)
  have HB0 : Hid (Below w.heap.size w w1) := Lib.hid (((Below.refl _ _).alloc (Nat.le_refl _) _).trans (hb.mono (by simp)))
  have HR0 : Hid (IsTb w1 w.heap.size (fun _ => noB) 0 nilV nilV nilV nilV nilV nilV) := Lib.hid ((hb.block _ (by simp)).trans (heap_alloc_new w (.cells zTb 55)))
  have hlt : w.heap.size < w1.heap.size := by have := hb.size; simp at this; omega
  clear hb
  unfold arr
  go_upto_region 2 with (refine wpList_store_mid rfl 55 _ _ rfl w1.heap.size 0 _ rfl rfl HZ.out.there size55 (by simp [Value.oneCell']) ?_)
  have HTs : Hid (IsTb ((w1.alloc (.cells zTb 55)).setCells w1.heap.size 0 (tbC (b0S G) 1 nilV nilV nilV nilV nilV nilV).toList) w1.heap.size (b0S G) 1 nilV nilV nilV nilV nilV nilV) := Lib.hid (HZ.out.put _ rfl)
  have HKs := Lib.hid (setCells_kept (tbC (b0S G) 1 nilV nilV nilV nilV nilV nilV).toList 0 (w1.alloc (.cells zTb 55)) w1.heap.size)
  show Code.wp Try.prog _ _ _ ((w1.alloc (.cells zTb 55)).setCells w1.heap.size 0 (tbC (b0S G) 1 nilV nilV nilV nilV nilV nilV).toList)
  generalize (w1.alloc (.cells zTb 55)).setCells w1.heap.size 0 (tbC (b0S G) 1 nilV nilV nilV nilV nilV nilV).toList = W1 at *
  simp only [Act.put]
  have hlt2 : w.heap.size < w1.heap.size := hlt
  obtain ⟨gT, hgT⟩ : ∃ g, w1.heap.size = g := ⟨_, rfl⟩
  obtain ⟨s, hsE⟩ : ∃ s, b0S G = s := ⟨_, rfl⟩
  have HS0 : Hid (s 0 = dgG 0) := by rw [← hsE]; exact HG
  have HK1 : Hid (Kept w1 W1 (· = gT)) := by rw [← hgT]; exact Lib.hid (((Kept.refl w1 (· = w1.heap.size)).alloc _).trans HKs.out (fun _ _ h => h))
  rw [hgT, hsE] at HTs
  rw [hgT] at hlt2
  rw [hgT]
  have HGT := Lib.hid hgT
  clear hsE HZ HKs hgT HG
  have hgW : gT < W1.heap.size := lt_of_heap HTs.out
  obtain ⟨g2, hg2⟩ : ∃ g, W1.heap.size = g := ⟨_, rfl⟩
  have HI0 : Hid (BInv gT g2 s W1 (W1.alloc (.cells #[.string ⟨#[48, 75]⟩, .string ⟨#[48, 48, 75]⟩, .string ⟨#[48, 48, 48, 75]⟩, .string ⟨#[48, 77]⟩, .string ⟨#[48, 48, 77]⟩, .string ⟨#[48, 48, 48, 77]⟩, .string ⟨#[48, 66]⟩] 9)) none 0 0 none 0 0) := by
    rw [← hg2]
    refine Lib.hid ⟨heapA _ _ HTs.out, ⟨[], World.ownsRow_nil _ _ _ _⟩, ⟨[], World.ownsRow_nil _ _ _ _⟩, (fun b e => by cases e), fun i hi => ?_, (Below.refl _ _).alloc (by omega) _, hgW, by simp⟩
    have hn := heap_alloc_new W1 (.cells #[.string ⟨#[48, 75]⟩, .string ⟨#[48, 48, 75]⟩, .string ⟨#[48, 48, 48, 75]⟩, .string ⟨#[48, 77]⟩, .string ⟨#[48, 48, 77]⟩, .string ⟨#[48, 48, 48, 77]⟩, .string ⟨#[48, 66]⟩] 9)
    have : i = 0 ∨ i = 1 ∨ i = 2 ∨ i = 3 ∨ i = 4 ∨ i = 5 ∨ i = 6 := by omega
    rcases this with h|h|h|h|h|h|h <;> subst h <;> exact ⟨_, by decide, cell_of hn rfl⟩
  obtain ⟨i0, hi, hz0, hz1, hz2⟩ := info_parts Try.info66
  go_wp2
  try rw [hg2]
  clear hg2
  go_loopg [11] 7 (fun gk v wr => ∃ (j : Nat) (a1 : Option Addr) (c1 : Nat) (a3 : Option Addr) (c3 : Nat), v = .int .i64 j ∧ j + gk = 7 ∧ Hid (BInv gT g2 s W1 wr a1 j c1 a3 j c3))
  case atStart => exact ⟨0, none, 0, none, 0, rfl, by omega, HI0⟩
  case round =>
    obtain ⟨j, a1, c1, a3, c3, rfl, hj, HI⟩ := hrel
    obtain ⟨go, rfl⟩ : ∃ x, x = gk := ⟨_, rfl⟩
    by_cases hjl : j < 7
    · obtain ⟨x, hx1, hx2⟩ := HI.out.str j hjl
      have hx3 : ¬ (9223372036854775807 < 2 + x.size) := by omega
      go_upto_region 5 with fail
      have hS : wr.drew.cell? ⟨gT, 22, none⟩ = some (.slice a1 j c1) := (HI.out.tb.at 22 _ rfl).1
      refine kBegin (fun w' => w'.cell? ⟨gT, 22, none⟩ = some (.slice a1 j c1)) [10] (by kernel_rfl) ?_
      change wpAnyK _ _ _ _ _ _ _ _ _ wr.drew
      refine kPure 0 16 (v := ?vz1) rfl rfl (by kernel_rfl) (by kernel_rfl) (by kernel_rfl) (fun _ _ _ h => h) (by kernel_rfl) ?hz1 ?rz1
      case hz1 => (intro w; go_simp <;> with_reducible rfl)
      simp only [List.setIfInBounds_toArray, List.set_cons_zero, List.set_cons_succ]
      refine kLoad 1 17 [10] (v := ?vz2) rfl rfl (by kernel_rfl) (by kernel_rfl) (by kernel_rfl) (by kernel_rfl) (fun _ _ _ h => h) (by kernel_rfl) ?hz2 hS ?rz2
      case hz2 => (intro w hSw; (try dsimp only at hSw); go_simp <;> with_reducible rfl)
      simp only [List.setIfInBounds_toArray, List.set_cons_zero, List.set_cons_succ]
      refine kPure 2 18 (v := ?vz3) rfl rfl (by kernel_rfl) (by kernel_rfl) (by kernel_rfl) (fun _ _ _ h => h) (by kernel_rfl) ?hz3 ?rz3
      case hz3 => (intro w; go_simp <;> with_reducible rfl)
      simp only [List.setIfInBounds_toArray, List.set_cons_zero, List.set_cons_succ]
      refine kPure 3 19 (v := ?vz4) rfl rfl (by kernel_rfl) (by kernel_rfl) (by kernel_rfl) (fun _ _ _ h => h) (by kernel_rfl) ?hz4 ?rz4
      case hz4 => (intro w; go_simp <;> with_reducible rfl)
      simp only [List.setIfInBounds_toArray, List.set_cons_zero, List.set_cons_succ]
      refine kPure 4 20 (v := ?vz5) rfl rfl (by kernel_rfl) (by kernel_rfl) (by kernel_rfl) (fun _ _ _ h => h) (by kernel_rfl) ?hz5 ?rz5
      case hz5 => (intro w; go_simp <;> with_reducible rfl)
      simp only [List.setIfInBounds_toArray, List.set_cons_zero, List.set_cons_succ]
      refine kAll (rs := [5]) (by kernel_rfl) (by simp) (kCons rfl (by kernel_rfl) (fun K hK => ?s6) kNil)
      case s6 =>
        go_simp
        refine (one_weak _ _).mono ?_
        rintro e w2 ⟨a, n, c, rfl, hb2⟩
        have H2 := Lib.hid (BInv.below (W := wr.drew) (HI.out.below (Below.refl _ _).drew) (W' := w2) hb2)
        refine hK.out _ _ (fun _ _ => (H2.out.tb.at 22 _ rfl).1) ?_
        clear hK hb2 hS
        (try simp only [Act.put, List.setIfInBounds_toArray, List.set_cons_zero, List.set_cons_succ])
        refine kPure 6 22 (v := ?vz7) rfl rfl (by kernel_rfl) (by kernel_rfl) (by kernel_rfl) (fun _ _ _ h => h) (by kernel_rfl) ?hz7 ?rz7
        case hz7 => (intro w; go_simp <;> with_reducible rfl)
        simp only [List.setIfInBounds_toArray, List.set_cons_zero, List.set_cons_succ]
        refine kAll (rs := [7]) (by kernel_rfl) (by simp) (kCons rfl (by kernel_rfl) (fun K hK => ?s8) kNil)
        case s8 =>
          go_simp
          have H3 := Lib.hid (H2.out.below ((Below.refl _ _).alloc (Nat.le_refl _) (.cells #[.int .i64 (IntKind.i64.wrap (3 + (j : Int))), .slice a n c] 66)))
          refine hK.out _ _ (fun _ _ => (H3.out.tb.at 22 _ rfl).1) ?_
          clear hK
          (try simp only [Act.put, List.setIfInBounds_toArray, List.set_cons_zero, List.set_cons_succ])
          refine kAll (rs := [8]) (by kernel_rfl) (by simp) (kCons rfl (by kernel_rfl) (fun K hK => ?s9) kNil)
          case s9 =>
            obtain ⟨xs, hox⟩ := H3.out.o1
            have hg2w : g2 < w2.heap.size := H2.out.lt2
            refine wp_append_lies _ _ _ 48 rfl (g2 + 1) 66 i0 (.agg #[.int .i64 0, .slice none 0 0]) 2 32 Try.underlying48 hi hz0 hz1 hz2 rfl (by omega) (.slice a1 j c1) j xs rfl hox ⟨w2.heap.size, 0, none⟩ 1 1 [.int .i64 (IntKind.i64.wrap (3 + (j : Int))), .slice a n c] rfl rfl (cells_news (heap_alloc_new w2 (.cells #[.int .i64 (IntKind.i64.wrap (3 + (j : Int))), .slice a n c] 66)) rfl) (by intro u hu; simp at hu; rcases hu with h|h <;> subst h <;> rfl) (by omega) (by unfold maxLen; omega) (by omega) (by simp; omega) _ rfl ?_
            intro r3 c4 w3 hown hgrow hat hlt
            obtain ⟨q1, _, _, _⟩ := H3.out.grown hgrow (fun b e => (hox.lt b e).1)
            have HP := Lib.hid (H3.out.push1 hgrow hown hat)
            obtain ⟨qc, qf⟩ := IsTb.at q1 22 _ rfl
            refine hK.out _ _ (fun _ _ => qc) ?_
            clear hK
            (try simp only [Act.put, List.setIfInBounds_toArray, List.set_cons_zero, List.set_cons_succ])
            refine kPure 9 25 (v := ?vz10) rfl rfl (by kernel_rfl) (by kernel_rfl) (by kernel_rfl) (fun _ _ _ h => h) (by kernel_rfl) ?hz10 ?rz10
            case hz10 => (intro w; go_simp <;> with_reducible rfl)
            simp only [List.setIfInBounds_toArray, List.set_cons_zero, List.set_cons_succ]
            refine kAll (rs := [10]) (by kernel_rfl) (by simp) (kCons rfl (by kernel_rfl) (fun K hK => ?s11) kNil)
            case s11 =>
              go_simp
              refine hK.out _ _ (fun h => absurd h (by decide)) ?_
              clear hK
              refine kDone (by kernel_rfl) ?_ _
              clear hown hgrow hat hlt q1 qc qf hox hg2w
              generalize w3.setCell ⟨gT, 22, none⟩ (.slice (some ⟨r3, 0, none⟩) (j + 1) c4) = wm at *
              have HJ := HP
              clear HP H2 H3 HI hx2
              obtain ⟨a1, ha1⟩ : ∃ a : Option Addr, some ⟨r3, 0, none⟩ = a := ⟨_, rfl⟩
              obtain ⟨c1, hc1⟩ : ∃ c, c4 = c := ⟨_, rfl⟩
              rw [ha1, hc1] at HJ
              clear ha1 hc1
              go_upto_region 6 with fail
              have hS : wm.drew.cell? ⟨gT, 24, none⟩ = some (.slice a3 j c3) := (HJ.out.tb.at 24 _ rfl).1
              refine kBegin (fun w' => w'.cell? ⟨gT, 24, none⟩ = some (.slice a3 j c3)) [11] (by kernel_rfl) ?_
              change wpAnyK _ _ _ _ _ _ _ _ _ wm.drew
              refine kPure 0 26 (v := ?vz12) rfl rfl (by kernel_rfl) (by kernel_rfl) (by kernel_rfl) (fun _ _ _ h => h) (by kernel_rfl) ?hz12 ?rz12
              case hz12 => (intro w; go_simp <;> with_reducible rfl)
              simp only [List.setIfInBounds_toArray, List.set_cons_zero, List.set_cons_succ]
              refine kLoad 1 27 [11] (v := ?vz13) rfl rfl (by kernel_rfl) (by kernel_rfl) (by kernel_rfl) (by kernel_rfl) (fun _ _ _ h => h) (by kernel_rfl) ?hz13 hS ?rz13
              case hz13 => (intro w hSw; (try dsimp only at hSw); go_simp <;> with_reducible rfl)
              simp only [List.setIfInBounds_toArray, List.set_cons_zero, List.set_cons_succ]
              refine kPure 2 28 (v := ?vz14) rfl rfl (by kernel_rfl) (by kernel_rfl) (by kernel_rfl) (fun _ _ _ h => h) (by kernel_rfl) ?hz14 ?rz14
              case hz14 => (intro w; go_simp <;> with_reducible rfl)
              simp only [List.setIfInBounds_toArray, List.set_cons_zero, List.set_cons_succ]
              refine kPure 3 29 (v := ?vz15) rfl rfl (by kernel_rfl) (by kernel_rfl) (by kernel_rfl) (fun _ _ _ h => h) (by kernel_rfl) ?hz15 ?rz15
              case hz15 => (intro w; go_simp <;> with_reducible rfl)
              simp only [List.setIfInBounds_toArray, List.set_cons_zero, List.set_cons_succ]
              refine kPure 4 30 (v := ?vz16) rfl rfl (by kernel_rfl) (by kernel_rfl) (by kernel_rfl) (fun _ _ _ h => h) (by kernel_rfl) ?hz16 ?rz16
              case hz16 => (intro w; go_simp <;> with_reducible rfl)
              simp only [List.setIfInBounds_toArray, List.set_cons_zero, List.set_cons_succ]
              refine kPure 5 31 (v := ?vz17) rfl rfl (by kernel_rfl) (by kernel_rfl) (by kernel_rfl) (fun _ _ _ h => h) (by kernel_rfl) ?hz17 ?rz17
              case hz17 => (intro w; go_simp <;> with_reducible rfl)
              simp only [List.setIfInBounds_toArray, List.set_cons_zero, List.set_cons_succ]
              refine kAll (rs := [6]) (by kernel_rfl) (by simp) (kCons rfl (by kernel_rfl) (fun K hK => ?s18) kNil)
              case s18 =>
                go_simp
                refine (one_weak _ _).mono ?_
                rintro e w2 ⟨a, n, c, rfl, hb2⟩
                have H2 := Lib.hid (BInv.below (W := wm.drew) (HJ.out.below (Below.refl _ _).drew) (W' := w2) hb2)
                refine hK.out _ _ (fun _ _ => (H2.out.tb.at 24 _ rfl).1) ?_
                clear hK hb2 hS
                (try simp only [Act.put, List.setIfInBounds_toArray, List.set_cons_zero, List.set_cons_succ])
                refine kPure 7 33 (v := ?vz19) rfl rfl (by kernel_rfl) (by kernel_rfl) (by kernel_rfl) (fun _ _ _ h => h) (by kernel_rfl) ?hz19 ?rz19
                case hz19 => (intro w; go_simp <;> with_reducible rfl)
                simp only [List.setIfInBounds_toArray, List.set_cons_zero, List.set_cons_succ]
                refine kAll (rs := [8]) (by kernel_rfl) (by simp) (kCons rfl (by kernel_rfl) (fun K hK => ?s20) kNil)
                case s20 =>
                  go_simp
                  have H3 := Lib.hid (H2.out.below ((Below.refl _ _).alloc (Nat.le_refl _) (.cells #[.int .i64 (IntKind.i64.wrap (3 + (j : Int))), .slice a n c] 66)))
                  refine hK.out _ _ (fun _ _ => (H3.out.tb.at 24 _ rfl).1) ?_
                  clear hK
                  (try simp only [Act.put, List.setIfInBounds_toArray, List.set_cons_zero, List.set_cons_succ])
                  refine kAll (rs := [9]) (by kernel_rfl) (by simp) (kCons rfl (by kernel_rfl) (fun K hK => ?s21) kNil)
                  case s21 =>
                    obtain ⟨xs, hox⟩ := H3.out.o3
                    have hg2w : g2 < w2.heap.size := H2.out.lt2
                    refine wp_append_lies _ _ _ 48 rfl (g2 + 1) 66 i0 (.agg #[.int .i64 0, .slice none 0 0]) 2 32 Try.underlying48 hi hz0 hz1 hz2 rfl (by omega) (.slice a3 j c3) j xs rfl hox ⟨w2.heap.size, 0, none⟩ 1 1 [.int .i64 (IntKind.i64.wrap (3 + (j : Int))), .slice a n c] rfl rfl (cells_news (heap_alloc_new w2 (.cells #[.int .i64 (IntKind.i64.wrap (3 + (j : Int))), .slice a n c] 66)) rfl) (by intro u hu; simp at hu; rcases hu with h|h <;> subst h <;> rfl) (by omega) (by unfold maxLen; omega) (by omega) (by simp; omega) _ rfl ?_
                    intro r3 c4 w3 hown hgrow hat hlt
                    obtain ⟨q1, _, _, _⟩ := H3.out.grown hgrow (fun b e => (hox.lt b e).1)
                    have HP := Lib.hid (H3.out.push3 hgrow hown hat)
                    obtain ⟨qc, qf⟩ := IsTb.at q1 24 _ rfl
                    refine hK.out _ _ (fun _ _ => qc) ?_
                    clear hK
                    (try simp only [Act.put, List.setIfInBounds_toArray, List.set_cons_zero, List.set_cons_succ])
                    refine kPure 10 36 (v := ?vz22) rfl rfl (by kernel_rfl) (by kernel_rfl) (by kernel_rfl) (fun _ _ _ h => h) (by kernel_rfl) ?hz22 ?rz22
                    case hz22 => (intro w; go_simp <;> with_reducible rfl)
                    simp only [List.setIfInBounds_toArray, List.set_cons_zero, List.set_cons_succ]
                    refine kAll (rs := [11]) (by kernel_rfl) (by simp) (kCons rfl (by kernel_rfl) (fun K hK => ?s23) kNil)
                    case s23 =>
                      go_simp
                      refine hK.out _ _ (fun h => absurd h (by decide)) ?_
                      clear hK
                      refine kDone (by kernel_rfl) ?_ _
                      clear hown hgrow hat hlt q1 qc qf hox hg2w
                      go_wp2
                      go_roundg (go - 1)
                      case measure => omega
                      case rel => exact ⟨j + 1, _, _, _, _, rfl, by omega, HP⟩
    · obtain rfl : j = 7 := by omega
      have hTR : w.heap.size ≤ gT := by omega
      have HC0 : Hid (CInv w.heap.size gT w wr) := Lib.hid ⟨s, 1, _, none, _, none, none, none, _, 0, _, 0, 0, 0, _, 0, _, 0, 0, 0, HI.out.tb, HS0.out, (HI.out.bel.block _ hlt2).trans (HK1.out.heap HR0.out (by omega)), HB0.out.trans ((HK1.out.below (Nat.le_of_lt (by have := HGT.out; omega)) (fun k hk e => by omega)).trans (HI.out.bel.mono hTR)), hTR, by omega⟩
      clear HI HTs HB0 HR0 HS0 HI0 HK1 hlt hgW hi hz0 hz1 hz2 hj hjl
      go_wp2_with fail
      refine (two_weak _ _ _).mono ?_
      rintro e wx1 ⟨b1, m1, d1, rfl, hbx⟩
      have HC1 := Lib.hid (HC0.out.below hbx)
      clear hbx
      go_wp2_with fail
      refine (two_weak _ _ _).mono ?_
      rintro e wx2 ⟨b2, m2, d2, rfl, hbx⟩
      have HC2 := Lib.hid (HC1.out.below hbx)
      clear hbx
      obtain ⟨qv, qc, qf⟩ := HC2.out.at 23 (by omega)
      obtain ⟨pc, pf⟩ := alloc_at qc qf
      go_upto_region 9 with fail
      have HCa := Lib.hid (fun o a n c => (HC2.out.alloc o).set 23 ⟨by omega, by omega⟩ a n c)
      refine wp_name (CInv w.heap.size gT w) (HCa.out _ _ _ _) (fun wy0 hC => ?_)
      have HC3 := Lib.hid hC
      clear hC qc qf pc pf HCa
      go_wp2_with fail
      refine (two_weak _ _ _).mono ?_
      rintro e wx4 ⟨b4, m4, d4, rfl, hbx⟩
      have HC4 := Lib.hid (HC3.out.below hbx)
      clear hbx
      go_wp2_with fail
      refine (one_weak _ _).mono ?_
      rintro e wx5 ⟨b5, m5, d5, rfl, hbx⟩
      have HC5 := Lib.hid (HC4.out.below hbx)
      clear hbx
      go_wp2_with fail
      refine (two_weak _ _ _).mono ?_
      rintro e wx6 ⟨b6, m6, d6, rfl, hbx⟩
      have HC6 := Lib.hid (HC5.out.below hbx)
      clear hbx
      obtain ⟨qv, qc, qf⟩ := HC6.out.at 25 (by omega)
      obtain ⟨pc, pf⟩ := alloc_at qc qf
      go_upto_region 10 with fail
      have HCa := Lib.hid (fun o a n c => (HC6.out.alloc o).set 25 ⟨by omega, by omega⟩ a n c)
      refine wp_name (CInv w.heap.size gT w) (HCa.out _ _ _ _) (fun wy1 hC => ?_)
      have HC7 := Lib.hid hC
      clear hC qc qf pc pf HCa
      go_wp2_with fail
      refine (two_weak _ _ _).mono ?_
      rintro e wx8 ⟨b8, m8, d8, rfl, hbx⟩
      have HC8 := Lib.hid (HC7.out.below hbx)
      clear hbx
      go_wp2_with fail
      refine (one_weak _ _).mono ?_
      rintro e wx9 ⟨b9, m9, d9, rfl, hbx⟩
      have HC9 := Lib.hid (HC8.out.below hbx)
      clear hbx
      obtain ⟨qv, qc, qf⟩ := HC9.out.at 26 (by omega)
      obtain ⟨pc, pf⟩ := alloc_at qc qf
      go_upto_region 11 with fail
      have HCa := Lib.hid (fun o a n c => (HC9.out.alloc o).set 26 ⟨by omega, by omega⟩ a n c)
      refine wp_name (CInv w.heap.size gT w) (HCa.out _ _ _ _) (fun wy2 hC => ?_)
      have HC10 := Lib.hid hC
      clear hC qc qf pc pf HCa
      go_wp2_with fail
      refine (one_weak _ _).mono ?_
      rintro e wx11 ⟨b11, m11, d11, rfl, hbx⟩
      have HC11 := Lib.hid (HC10.out.below hbx)
      clear hbx
      obtain ⟨qv, qc, qf⟩ := HC11.out.at 27 (by omega)
      obtain ⟨pc, pf⟩ := alloc_at qc qf
      go_upto_region 12 with fail
      refine wp_name (CInv w.heap.size gT w) (HC11.out.set 27 ⟨by omega, by omega⟩ _ _ _) (fun wy3 hC => ?_)
      have HC12 := Lib.hid hC
      clear hC qc qf pc pf
      obtain ⟨v28, q28, f28⟩ := HC12.out.at 28 (by omega)
      obtain ⟨v29, q29, f29⟩ := HC12.out.at 29 (by omega)
      obtain ⟨v30, q30, f30⟩ := HC12.out.at 30 (by omega)
      obtain ⟨v31, q31, f31⟩ := HC12.out.at 31 (by omega)
      obtain ⟨v32, q32, f32⟩ := HC12.out.at 32 (by omega)
      obtain ⟨v33, q33, f33⟩ := HC12.out.at 33 (by omega)
      go_upto_region 14 with fail
      refine wp_name (CInv w.heap.size gT w) ((((((HC12.out.setS 28 ⟨by omega, by omega⟩ _).setS 29 ⟨by omega, by omega⟩ _).setS 30 ⟨by omega, by omega⟩ _).setS 31 ⟨by omega, by omega⟩ _).setS 32 ⟨by omega, by omega⟩ _).setS 33 ⟨by omega, by omega⟩ _) (fun wz hC => ?_)
      have HCz := Lib.hid hC
      clear hC q28 f28 q29 f29 q30 f30 q31 f31 q32 f32 q33 f33
      go_upto_region 37 with fail
      obtain ⟨s, grp, a1, a2, a3, a4, a5, a6, n1, n2, n3, n4, n5, n6, c1, c2, c3, c4, c5, c6, h1, h2, h3, h4, h5, h6⟩ := HCz.out
      refine wp_region_list ?_
      refine wpList_load_mid rfl 55 _ rfl gT 0 rfl (tbC s grp (.slice a1 n1 c1) (.slice a2 n2 c2) (.slice a3 n3 c3) (.slice a4 n4 c4) (.slice a5 n5 c5) (.slice a6 n6 c6)).toList _ h1.range Try.underlying55 rfl size55 ?_
      refine wpList_store_mid rfl 55 _ _ rfl w.heap.size 0 (tbC s grp (.slice a1 n1 c1) (.slice a2 n2 c2) (.slice a3 n3 c3) (.slice a4 n4 c4) (.slice a5 n5 c5) (.slice a6 n6 c6)) rfl rfl h3.there size55 (tbC_one _ _ _ _ _ _ _ _ _ _ _ _ _ _ _ _ _ _ _ _) ?_
      have hp : IsTb (wz.setCells w.heap.size 0 (tbC s grp (.slice a1 n1 c1) (.slice a2 n2 c2) (.slice a3 n3 c3) (.slice a4 n4 c4) (.slice a5 n5 c5) (.slice a6 n6 c6)).toList) w.heap.size s grp (.slice a1 n1 c1) (.slice a2 n2 c2) (.slice a3 n3 c3) (.slice a4 n4 c4) (.slice a5 n5 c5) (.slice a6 n6 c6) := h3.put _ rfl
      have HBE := Lib.hid (h4.trans ((setCells_kept (tbC s grp (.slice a1 n1 c1) (.slice a2 n2 c2) (.slice a3 n3 c3) (.slice a4 n4 c4) (.slice a5 n5 c5) (.slice a6 n6 c6)).toList 0 wz w.heap.size).below h4.size (fun k hk e => by omega)))
      have HS := Lib.hid h2
      have HPP := Lib.hid hp
      generalize wz.setCells w.heap.size 0 (tbC s grp (.slice a1 n1 c1) (.slice a2 n2 c2) (.slice a3 n3 c3) (.slice a4 n4 c4) (.slice a5 n5 c5) (.slice a6 n6 c6)).toList = wq at *
      clear hp h1 h2 h3 h4 h5 h6 HCz
      go_wp2
      refine bodyPost_ret (res30 HPP.out rfl) rfl ⟨s, grp, _, _, _, _, _, _, rfl, ?_, HBE.out⟩
      rw [HS.out]
      decide
end Go.Proofs.Ytikkakbemphdhaa
