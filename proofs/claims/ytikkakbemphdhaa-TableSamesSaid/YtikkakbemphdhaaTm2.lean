/- A table with one thing turned: it is good, its bytes are few and others. -/
import Derived.Test.YtikkakbemphdhaaTk0
set_option linter.unusedSimpArgs false
set_option linter.unusedVariables false
namespace Go.Proofs.Ytikkakbemphdhaa
open Go.RowKit Go.Fl

def rw0 : Rw := ⟨0, []⟩
def rw1 : Rw := ⟨1, []⟩
def cu0 : Cu := ⟨noB, noB, noB, [], 0, 0, 0, 0⟩
def un0 : Un := ⟨noB, []⟩
def tx0 : Tx := ⟨0, noB⟩
inductive Turned (t : Tb) : Tb → Prop
  | s (i : Nat) (h : i < 27) : Turned t { t with s := fun j => if j = i then t.s i ++ ⟨#[120]⟩ else t.s j }
  | grp : Turned t { t with grp := t.grp + 1 }
  | short : Turned t { t with short := t.short ++ [rw0] }
  | long : Turned t { t with long := rw1 :: t.long }
  | mshort : Turned t { t with mshort := rw1 :: t.mshort }
  | curs : Turned t { t with curs := t.curs ++ [cu0] }
  | units : Turned t { t with units := t.units ++ [un0] }
  | munit : Turned t { t with munit := tx0 :: t.munit }
  | cur (c : Cu) (r : List Cu) (h : t.curs = c :: r) : Turned t { t with curs := { c with d3 := c.d3 + 1 } :: r }
  | row (x : Rw) (r : List Rw) (h : t.short = x :: r) : Turned t { t with short := { x with mag := x.mag + 1 } :: r }

/-- good, and its parts are short. -/
structure Fair (t : Tb) : Prop where
  fit : t.fit
  good : t.good
  s : ∀ i, i < 27 → (t.s i).size ≤ 6000
  short : (eAll eRw t.short).length ≤ 400000
  long : (eAll eRw t.long).length ≤ 400000
  mshort : (eAll eRw t.mshort).length ≤ 400000
  curs : (eAll eCu t.curs).length ≤ 400000
  units : (eAll eUn t.units).length ≤ 400000
  munit : (eAll eTx t.munit).length ≤ 400000

theorem Fair.len {t : Tb} (h : Fair t) : (eTb t).length ≤ 3000000 := by
  have h1 := eSs_le t.s 6000 (by omega) 27 h.s
  have h2 := num_le t.grp h.fit.grp
  have a1 := h.short
  have a2 := h.long
  have a3 := h.mshort
  have a4 := h.curs
  have a5 := h.units
  have a6 := h.munit
  unfold eTb
  simp only [List.length_append]
  omega
theorem inj_tb {t u : Tb} (ht : t.good) (hu : u.good) (h : eTb t = eTb u) : TbEq t u := by
  have h1 := (tb_back t [] ht).2
  have h2 := (tb_back u [] hu).2
  rw [h] at h1
  exact ⟨fun i hi => (h1.s i hi).symm.trans (h2.s i hi), h1.grp.symm.trans h2.grp, h1.short.symm.trans h2.short, h1.long.symm.trans h2.long, h1.mshort.symm.trans h2.mshort, h1.curs.symm.trans h2.curs, h1.units.symm.trans h2.units, h1.munit.symm.trans h2.munit⟩

theorem all_more {α : Type} (f : α → List UInt8) (xs ys : List α) (x : α) (hl : ys.length ≤ 1000) (h : (ys.flatMap f).length ≤ (xs.flatMap f).length + (f x).length) : (eAll f ys).length ≤ 9 + (eAll f xs).length + (f x).length := by
  have h1 := numB_len9 ys.length (by omega)
  unfold eAll
  rw [List.length_append, List.length_append]
  omega

theorem len_all0 : (eAll eTx []).length ≤ 9 := by
  have := numB_len9 0 (by omega)
  unfold eAll
  simpa using this
theorem len_rw (n : Int) (h : n ≤ 9223372036854775807) : (eRw ⟨n, []⟩).length ≤ 20 := by
  have h1 := num_le n h
  have h2 := len_all0
  unfold eRw
  rw [List.length_append]
  show (numB n.toNat).length + (eAll eTx []).length ≤ _
  omega
theorem len_b0 : (textB noB).length ≤ 9 := by
  have h0 : noB.size = 0 := by unfold noB; rfl
  have := textB_len noB (by omega)
  omega
theorem len_tx : (eTx tx0).length ≤ 20 := by
  have h1 := num_le 0 (by omega)
  have h2 := len_b0
  unfold eTx
  rw [List.length_append]
  show (numB (Int.toNat 0)).length + (textB noB).length ≤ _
  omega
theorem len_un : (eUn un0).length ≤ 20 := by
  have h1 := len_all0
  have h2 := len_b0
  unfold eUn
  rw [List.length_append]
  show (textB noB).length + (eAll eTx []).length ≤ _
  omega
theorem len_cu : (eCu cu0).length ≤ 100 := by
  have h1 := len_all0
  have h2 := len_b0
  have h3 := num_le 0 (by omega)
  unfold eCu cu0
  simp only [List.length_append]
  omega

theorem turned_fair {t u : Tb} (h : Turned t u) (hok : t.ok) (hf : t.fit) (hg : t.grp ≤ 1000) (hc : ∀ c r, t.curs = c :: r → c.d3 ≤ 1000) (hr : ∀ x r, t.short = x :: r → x.mag ≤ 1000) : Fair t ∧ Fair u ∧ ¬ TbEq t u := by
  have r1 := ok_rws hok.short hf.short
  have r2 := ok_rws hok.long hf.long
  have r3 := ok_rws hok.mshort hf.mshort
  have r4 := ok_cus hok.curs hf.curs
  have r5 := ok_uns hok.units hf.units
  have r6 := ok_txs hok.munit hf.munit
  have r7 := hok.s
  have g := (ok_tb hok hf).1
  have n1 := r1.2
  have n2 := r2.2
  have n3 := r3.2
  have n4 := r4.2
  have n5 := r5.2
  have n6 := r6.2
  have F : Fair t := ⟨hf, g, fun i hi => by have := r7 i hi; omega, by omega, by omega, by omega, by omega, by omega, by omega⟩
  refine ⟨F, ?_⟩
  obtain ⟨q1, q2, q3, q4, q5, q6, q7⟩ := g.rest
  have l1 := hok.short.1
  have l2 := hok.long.1
  have l3 := hok.mshort.1
  have l4 := hok.curs.1
  have l5 := hok.units.1
  have l6 := hok.munit.1
  have gI0 : goodI 0 := ⟨by omega, by omega⟩
  have gI1 : goodI 1 := ⟨by omega, by omega⟩
  have gL0 : goodL Tx.good [] := ⟨by simp, by simp⟩
  have gB0 : goodB noB := by unfold goodB noB; decide
  have fL0 : Fits Tx.fit [] := ⟨by simp, by simp⟩
  cases h with
  | s i hi =>
    have hz : (t.s i ++ ⟨#[120]⟩ : ByteArray).size = (t.s i).size + 1 := by rw [ByteArray.size_append]; rfl
    have hi5 := r7 i hi
    refine ⟨⟨⟨fun j => ?_, hf.grp, hf.short, hf.long, hf.mshort, hf.curs, hf.units, hf.munit⟩, ⟨fun j hj => ?_, g.rest⟩, fun j hj => ?_, F.short, F.long, F.mshort, F.curs, F.units, F.munit⟩, fun e => ?_⟩
    · show ((if j = i then t.s i ++ ⟨#[120]⟩ else t.s j) : ByteArray).size ≤ _
      split
      · omega
      · exact hf.s j
    · show goodB (if j = i then t.s i ++ ⟨#[120]⟩ else t.s j)
      split
      · unfold goodB; omega
      · exact g.s j hj
    · show ((if j = i then t.s i ++ ⟨#[120]⟩ else t.s j) : ByteArray).size ≤ _
      split
      · omega
      · exact F.s j hj
    · have h1 := e.s i hi
      have h2 : t.s i = t.s i ++ ⟨#[120]⟩ := h1.trans (if_pos rfl)
      have h3 := congrArg ByteArray.size h2
      omega
  | grp =>
    refine ⟨⟨⟨hf.s, ?_, hf.short, hf.long, hf.mshort, hf.curs, hf.units, hf.munit⟩, ⟨g.s, ⟨?_, q2, q3, q4, q5, q6, q7⟩⟩, F.s, F.short, F.long, F.mshort, F.curs, F.units, F.munit⟩, fun e => ?_⟩
    · show t.grp + 1 ≤ _; omega
    · have h0 := hok.grp
      exact ⟨show 0 ≤ t.grp + 1 by omega, show t.grp + 1 < _ by omega⟩
    · have h1 : t.grp = t.grp + 1 := e.grp
      omega
  | short =>
    have hl : (t.short ++ [rw0]).length ≤ 21 := by simp; omega
    have hb := all_more eRw t.short (t.short ++ [rw0]) rw0 (by omega) (by simp [List.flatMap_append])
    have hz : (eRw rw0).length ≤ 20 := len_rw 0 (by omega)
    refine ⟨⟨⟨hf.s, hf.grp, ⟨by show (t.short ++ [rw0]).length ≤ _; omega, fun x hx => ?_⟩, hf.long, hf.mshort, hf.curs, hf.units, hf.munit⟩, ⟨g.s, ⟨q1, ⟨by show (t.short ++ [rw0]).length ≤ _; omega, fun x hx => ?_⟩, q3, q4, q5, q6, q7⟩⟩, F.s, by show (eAll eRw (t.short ++ [rw0])).length ≤ _; omega, F.long, F.mshort, F.curs, F.units, F.munit⟩, fun e => ?_⟩
    · rcases List.mem_append.1 hx with h | h
      · exact hf.short.2 x h
      · obtain rfl := List.mem_singleton.1 h
        exact ⟨by decide, fL0⟩
    · rcases List.mem_append.1 hx with h | h
      · exact q2.2 x h
      · obtain rfl := List.mem_singleton.1 h
        exact ⟨gI0, gL0⟩
    · have h1 : t.short = t.short ++ [rw0] := e.short
      have h2 := congrArg List.length h1
      rw [List.length_append, List.length_singleton] at h2
      omega
  | long =>
    have hl : (rw1 :: t.long).length ≤ 21 := by simp; omega
    have hb := all_more eRw t.long (rw1 :: t.long) rw1 (by omega) (by simp; omega)
    have hz : (eRw rw1).length ≤ 20 := len_rw 1 (by omega)
    refine ⟨⟨⟨hf.s, hf.grp, hf.short, ⟨by show (rw1 :: t.long).length ≤ _; omega, fun x hx => ?_⟩, hf.mshort, hf.curs, hf.units, hf.munit⟩, ⟨g.s, ⟨q1, q2, ⟨by show (rw1 :: t.long).length ≤ _; omega, fun x hx => ?_⟩, q4, q5, q6, q7⟩⟩, F.s, F.short, by show (eAll eRw (rw1 :: t.long)).length ≤ _; omega, F.mshort, F.curs, F.units, F.munit⟩, fun e => ?_⟩
    · rcases List.mem_cons.1 hx with h | h
      · subst h
        exact ⟨by decide, fL0⟩
      · exact hf.long.2 x h
    · rcases List.mem_cons.1 hx with h | h
      · subst h
        exact ⟨gI1, gL0⟩
      · exact q3.2 x h
    · have h1 : t.long = rw1 :: t.long := e.long
      have h2 := congrArg List.length h1
      rw [List.length_cons] at h2
      omega
  | mshort =>
    have hl : (rw1 :: t.mshort).length ≤ 21 := by simp; omega
    have hb := all_more eRw t.mshort (rw1 :: t.mshort) rw1 (by omega) (by simp; omega)
    have hz : (eRw rw1).length ≤ 20 := len_rw 1 (by omega)
    refine ⟨⟨⟨hf.s, hf.grp, hf.short, hf.long, ⟨by show (rw1 :: t.mshort).length ≤ _; omega, fun x hx => ?_⟩, hf.curs, hf.units, hf.munit⟩, ⟨g.s, ⟨q1, q2, q3, ⟨by show (rw1 :: t.mshort).length ≤ _; omega, fun x hx => ?_⟩, q5, q6, q7⟩⟩, F.s, F.short, F.long, by show (eAll eRw (rw1 :: t.mshort)).length ≤ _; omega, F.curs, F.units, F.munit⟩, fun e => ?_⟩
    · rcases List.mem_cons.1 hx with h | h
      · subst h
        exact ⟨by decide, fL0⟩
      · exact hf.mshort.2 x h
    · rcases List.mem_cons.1 hx with h | h
      · subst h
        exact ⟨gI1, gL0⟩
      · exact q4.2 x h
    · have h1 : t.mshort = rw1 :: t.mshort := e.mshort
      have h2 := congrArg List.length h1
      rw [List.length_cons] at h2
      omega
  | curs =>
    have hl : (t.curs ++ [cu0]).length ≤ 51 := by simp; omega
    have hb := all_more eCu t.curs (t.curs ++ [cu0]) cu0 (by omega) (by simp [List.flatMap_append])
    have hz := len_cu
    refine ⟨⟨⟨hf.s, hf.grp, hf.short, hf.long, hf.mshort, ⟨by show (t.curs ++ [cu0]).length ≤ _; omega, fun x hx => ?_⟩, hf.units, hf.munit⟩, ⟨g.s, ⟨q1, q2, q3, q4, ⟨by show (t.curs ++ [cu0]).length ≤ _; omega, fun x hx => ?_⟩, q6, q7⟩⟩, F.s, F.short, F.long, F.mshort, by show (eAll eCu (t.curs ++ [cu0])).length ≤ _; omega, F.units, F.munit⟩, fun e => ?_⟩
    · rcases List.mem_append.1 hx with h | h
      · exact hf.curs.2 x h
      · obtain rfl := List.mem_singleton.1 h
        exact ⟨by decide, by decide, by decide, fL0, by decide, by decide, by decide, by decide⟩
    · rcases List.mem_append.1 hx with h | h
      · exact q5.2 x h
      · obtain rfl := List.mem_singleton.1 h
        exact ⟨gB0, gB0, gB0, gL0, gI0, gI0, gI0, gI0⟩
    · have h1 : t.curs = t.curs ++ [cu0] := e.curs
      have h2 := congrArg List.length h1
      rw [List.length_append, List.length_singleton] at h2
      omega
  | units =>
    have hl : (t.units ++ [un0]).length ≤ 51 := by simp; omega
    have hb := all_more eUn t.units (t.units ++ [un0]) un0 (by omega) (by simp [List.flatMap_append])
    have hz := len_un
    refine ⟨⟨⟨hf.s, hf.grp, hf.short, hf.long, hf.mshort, hf.curs, ⟨by show (t.units ++ [un0]).length ≤ _; omega, fun x hx => ?_⟩, hf.munit⟩, ⟨g.s, ⟨q1, q2, q3, q4, q5, ⟨by show (t.units ++ [un0]).length ≤ _; omega, fun x hx => ?_⟩, q7⟩⟩, F.s, F.short, F.long, F.mshort, F.curs, by show (eAll eUn (t.units ++ [un0])).length ≤ _; omega, F.munit⟩, fun e => ?_⟩
    · rcases List.mem_append.1 hx with h | h
      · exact hf.units.2 x h
      · obtain rfl := List.mem_singleton.1 h
        exact ⟨by decide, fL0⟩
    · rcases List.mem_append.1 hx with h | h
      · exact q6.2 x h
      · obtain rfl := List.mem_singleton.1 h
        exact ⟨gB0, gL0⟩
    · have h1 : t.units = t.units ++ [un0] := e.units
      have h2 := congrArg List.length h1
      rw [List.length_append, List.length_singleton] at h2
      omega
  | munit =>
    have hl : (tx0 :: t.munit).length ≤ 21 := by simp; omega
    have hb := all_more eTx t.munit (tx0 :: t.munit) tx0 (by omega) (by simp; omega)
    have hz := len_tx
    refine ⟨⟨⟨hf.s, hf.grp, hf.short, hf.long, hf.mshort, hf.curs, hf.units, ⟨by show (tx0 :: t.munit).length ≤ _; omega, fun x hx => ?_⟩⟩, ⟨g.s, ⟨q1, q2, q3, q4, q5, q6, ⟨by show (tx0 :: t.munit).length ≤ _; omega, fun x hx => ?_⟩⟩⟩, F.s, F.short, F.long, F.mshort, F.curs, F.units, by show (eAll eTx (tx0 :: t.munit)).length ≤ _; omega⟩, fun e => ?_⟩
    · rcases List.mem_cons.1 hx with h | h
      · subst h
        exact ⟨by decide, by decide⟩
      · exact hf.munit.2 x h
    · rcases List.mem_cons.1 hx with h | h
      · subst h
        exact ⟨gI0, gB0⟩
      · exact q7.2 x h
    · have h1 : t.munit = tx0 :: t.munit := e.munit
      have h2 := congrArg List.length h1
      rw [List.length_cons] at h2
      omega
  | cur c r hcr =>
    have hd := hc c r hcr
    have hfc := hf.curs
    have hgc := q5
    have hll := l4
    have hFc := F.curs
    rw [show t.rest.2.2.2.2.1 = t.curs from rfl] at hgc
    rw [hcr] at hfc hgc hll hFc
    obtain ⟨f1, f2, f3, f4, f5, f6, f7, f8⟩ := hfc.2 c (by simp)
    obtain ⟨k1, k2, k3, k4, k5, k6, k7, k8⟩ := hgc.2 c (by simp)
    have hl : ({ c with d3 := c.d3 + 1 } :: r : List Cu).length ≤ 50 := by simpa using hll
    have n9 := num_le (c.d3 + 1) (by omega)
    have hm : (eCu { c with d3 := c.d3 + 1 }).length ≤ (eCu c).length + 9 := by
      unfold eCu
      simp only [List.length_append]
      omega
    have hb : (eAll eCu ({ c with d3 := c.d3 + 1 } :: r)).length ≤ (eAll eCu (c :: r)).length + 18 := by
      have h1 := numB_len9 ({ c with d3 := c.d3 + 1 } :: r : List Cu).length (by omega)
      unfold eAll
      rw [List.length_append, List.length_append, List.flatMap_cons, List.flatMap_cons, List.length_append, List.length_append]
      omega
    have n4' := n4
    rw [hcr] at n4'
    refine ⟨⟨⟨hf.s, hf.grp, hf.short, hf.long, hf.mshort, ⟨Nat.le_trans hl (by omega), fun x hx => ?_⟩, hf.units, hf.munit⟩, ⟨g.s, ⟨q1, q2, q3, q4, ⟨Nat.le_trans hl (by omega), fun x hx => ?_⟩, q6, q7⟩⟩, F.s, F.short, F.long, F.mshort, Nat.le_trans hb (by omega), F.units, F.munit⟩, fun e => ?_⟩
    · rcases List.mem_cons.1 hx with h | h
      · subst h
        exact ⟨f1, f2, f3, f4, f5, f6, f7, show c.d3 + 1 ≤ _ by omega⟩
      · exact hfc.2 x (List.mem_cons_of_mem _ h)
    · rcases List.mem_cons.1 hx with h | h
      · subst h
        exact ⟨k1, k2, k3, k4, k5, k6, k7, show 0 ≤ c.d3 + 1 by have := k8.1; omega, show c.d3 + 1 < _ by omega⟩
      · exact hgc.2 x (List.mem_cons_of_mem _ h)
    · have h1 : t.curs = { c with d3 := c.d3 + 1 } :: r := e.curs
      rw [hcr] at h1
      injection h1 with h1 _
      have h2 : c.d3 = c.d3 + 1 := congrArg Cu.d3 h1
      omega
  | row y r hcr =>
    have hd := hr y r hcr
    have hfc := hf.short
    have hgc := q2
    have hll := l1
    rw [show t.rest.2.1 = t.short from rfl] at hgc
    rw [hcr] at hfc hgc hll
    obtain ⟨f1, f2⟩ := hfc.2 y (by simp)
    obtain ⟨k1, k2⟩ := hgc.2 y (by simp)
    have hl : ({ y with mag := y.mag + 1 } :: r : List Rw).length ≤ 20 := by simpa using hll
    have n9 := num_le (y.mag + 1) (by omega)
    have hm : (eRw { y with mag := y.mag + 1 }).length ≤ (eRw y).length + 9 := by
      unfold eRw
      simp only [List.length_append]
      omega
    have hb : (eAll eRw ({ y with mag := y.mag + 1 } :: r)).length ≤ (eAll eRw (y :: r)).length + 18 := by
      have h1 := numB_len9 ({ y with mag := y.mag + 1 } :: r : List Rw).length (by omega)
      unfold eAll
      rw [List.length_append, List.length_append, List.flatMap_cons, List.flatMap_cons, List.length_append, List.length_append]
      omega
    have n1' := n1
    rw [hcr] at n1'
    refine ⟨⟨⟨hf.s, hf.grp, ⟨Nat.le_trans hl (by omega), fun x hx => ?_⟩, hf.long, hf.mshort, hf.curs, hf.units, hf.munit⟩, ⟨g.s, ⟨q1, ⟨Nat.le_trans hl (by omega), fun x hx => ?_⟩, q3, q4, q5, q6, q7⟩⟩, F.s, Nat.le_trans hb (by omega), F.long, F.mshort, F.curs, F.units, F.munit⟩, fun e => ?_⟩
    · rcases List.mem_cons.1 hx with h | h
      · subst h
        exact ⟨show y.mag + 1 ≤ _ by omega, f2⟩
      · exact hfc.2 x (List.mem_cons_of_mem _ h)
    · rcases List.mem_cons.1 hx with h | h
      · subst h
        exact ⟨⟨show 0 ≤ y.mag + 1 by have := k1.1; omega, show y.mag + 1 < _ by omega⟩, k2⟩
      · exact hgc.2 x (List.mem_cons_of_mem _ h)
    · have h1 : t.short = { y with mag := y.mag + 1 } :: r := e.short
      rw [hcr] at h1
      injection h1 with h1 _
      have h2 : y.mag = y.mag + 1 := congrArg Rw.mag h1
      omega
end Go.Proofs.Ytikkakbemphdhaa
