/- The plain law of a table: what was laid is read again, and what is read was laid so. -/
import Derived.Test.YtikkakbemphdhaaTf1
import Derived.Test.YtikkakbemphdhaaTa6
import Derived.Test.YtikkakbemphdhaaTc4
set_option linter.unusedSimpArgs false
set_option linter.unusedVariables false
namespace Go.Proofs.Ytikkakbemphdhaa
open Go.RowKit Go.Fl

def goodB (s : ByteArray) : Prop := s.size < 9223372036854775808
def goodI (n : Int) : Prop := 0 ≤ n ∧ n < 9223372036854775808
theorem mkB_toList (s : ByteArray) : mkB s.data.toList = s := rfl
theorem toList_size (s : ByteArray) : s.data.toList.length = s.size := by rw [Array.length_toList]; rfl
theorem textL_toList (s : ByteArray) : textL s.data.toList = textB s := by rw [← textL_eq]; rfl
theorem goodI_iff (n : Int) : goodI n ↔ goodN n.toNat ∧ (n.toNat : Int) = n := by unfold goodI goodN; omega

/-- a text as bytes. -/
def rdB (l : List UInt8) (st : Option Nat) : ByteArray × Option Nat := (mkB (Rd.text l st).1, (Rd.text l st).2)
theorem prs_b : Prs rdB textB goodB :=
  prs_text.map mkB (fun s => s.data.toList) (fun a _ => by simp [mkB]) (fun _ _ => rfl) (fun c => (textL_toList c).symm) (fun c => by
    unfold goodB; rw [toList_size]; exact ⟨fun h => ⟨h, rfl⟩, fun h => h.1⟩)
def rdI (l : List UInt8) (st : Option Nat) : Int × Option Nat := ((Rd.num l st).1, (Rd.num l st).2)
theorem prs_i : Prs rdI (fun n => numB n.toNat) goodI :=
  prs_num.map (fun n => (n : Int)) Int.toNat (fun a _ => by simp) (fun _ _ => rfl) (fun c => rfl) goodI_iff

def Tx.good (x : Tx) : Prop := goodI x.cat ∧ goodB x.s
theorem prs_tx : Prs rdTx eTx Tx.good :=
  (prs_i.pair prs_b).map (fun z => ⟨z.1, z.2⟩) (fun x => (x.cat, x.s)) (fun _ _ => rfl) (fun _ _ => rfl) (fun _ => rfl) (fun c => ⟨fun h => ⟨⟨h.1, h.2⟩, rfl⟩, fun h => ⟨h.1.1, h.1.2⟩⟩)
theorem prs_txs : Prs rdTxs (eAll eTx) (goodL Tx.good) := prs_tx.all
def Rw.good (x : Rw) : Prop := goodI x.mag ∧ goodL Tx.good x.texts
theorem prs_rw : Prs rdRw eRw Rw.good :=
  (prs_i.pair prs_txs).map (fun z => ⟨z.1, z.2⟩) (fun x => (x.mag, x.texts)) (fun _ _ => rfl) (fun _ _ => rfl) (fun _ => rfl) (fun c => ⟨fun h => ⟨⟨h.1, h.2⟩, rfl⟩, fun h => ⟨h.1.1, h.1.2⟩⟩)
theorem prs_rws : Prs rdRws (eAll eRw) (goodL Rw.good) := prs_rw.all
def Un.good (x : Un) : Prop := goodB x.name ∧ goodL Tx.good x.texts
theorem prs_un : Prs rdUn eUn Un.good :=
  (prs_b.pair prs_txs).map (fun z => ⟨z.1, z.2⟩) (fun x => (x.name, x.texts)) (fun _ _ => rfl) (fun _ _ => rfl) (fun _ => rfl) (fun c => ⟨fun h => ⟨⟨h.1, h.2⟩, rfl⟩, fun h => ⟨h.1.1, h.1.2⟩⟩)
theorem prs_uns : Prs rdUns (eAll eUn) (goodL Un.good) := prs_un.all
def Cu.good (x : Cu) : Prop := goodB x.code ∧ goodB x.sym ∧ goodB x.nar ∧ goodL Tx.good x.names ∧ goodI x.d0 ∧ goodI x.d1 ∧ goodI x.d2 ∧ goodI x.d3
theorem prs_cu : Prs rdCu eCu Cu.good :=
  (prs_b.pair (prs_b.pair (prs_b.pair (prs_txs.pair (prs_i.pair (prs_i.pair (prs_i.pair prs_i))))))).map
    (fun z => ⟨z.1, z.2.1, z.2.2.1, z.2.2.2.1, z.2.2.2.2.1, z.2.2.2.2.2.1, z.2.2.2.2.2.2.1, z.2.2.2.2.2.2.2⟩) (fun x => (x.code, x.sym, x.nar, x.names, x.d0, x.d1, x.d2, x.d3)) (fun _ _ => rfl) (fun _ _ => rfl)
    (fun _ => by unfold eCu; simp only [List.append_assoc]) (fun c => ⟨fun h => ⟨⟨h.1, h.2.1, h.2.2.1, h.2.2.2.1, h.2.2.2.2.1, h.2.2.2.2.2.1, h.2.2.2.2.2.2.1, h.2.2.2.2.2.2.2⟩, rfl⟩, fun h => ⟨h.1.1, h.1.2.1, h.1.2.2.1, h.1.2.2.2.1, h.1.2.2.2.2.1, h.1.2.2.2.2.2.1, h.1.2.2.2.2.2.2.1, h.1.2.2.2.2.2.2.2⟩⟩)
theorem prs_cus : Prs rdCus (eAll eCu) (goodL Cu.good) := prs_cu.all

/-- what stands behind the single texts. -/
abbrev Rest := Int × List Rw × List Rw × List Rw × List Cu × List Un × List Tx
def rdRest : List UInt8 → Option Nat → Rest × Option Nat := rdPair rdI (rdPair rdRws (rdPair rdRws (rdPair rdRws (rdPair rdCus (rdPair rdUns rdTxs)))))
def Tb.rest (t : Tb) : Rest := (t.grp, t.short, t.long, t.mshort, t.curs, t.units, t.munit)
def eRest (z : Rest) : List UInt8 := numB z.1.toNat ++ (eAll eRw z.2.1 ++ (eAll eRw z.2.2.1 ++ (eAll eRw z.2.2.2.1 ++ (eAll eCu z.2.2.2.2.1 ++ (eAll eUn z.2.2.2.2.2.1 ++ eAll eTx z.2.2.2.2.2.2)))))
def goodR (z : Rest) : Prop := goodI z.1 ∧ goodL Rw.good z.2.1 ∧ goodL Rw.good z.2.2.1 ∧ goodL Rw.good z.2.2.2.1 ∧ goodL Cu.good z.2.2.2.2.1 ∧ goodL Un.good z.2.2.2.2.2.1 ∧ goodL Tx.good z.2.2.2.2.2.2
theorem prs_rest : Prs rdRest eRest goodR := prs_i.pair (prs_rws.pair (prs_rws.pair (prs_rws.pair (prs_cus.pair (prs_uns.pair prs_txs)))))
theorem eTb_rest (t : Tb) : eTb t = eSs t.s 27 ++ eRest t.rest := by
  unfold eTb eRest Tb.rest
  simp only [List.append_assoc]
theorem rdTb_eq (l : List UInt8) (st : Option Nat) : (rdTb l st).2 = (rdRest l (stS l st 27)).2 ∧ (rdTb l st).1.rest = (rdRest l (stS l st 27)).1 ∧ (rdTb l st).1.s = rdS l st := by
  simp only [rdTb, rdRest, Tb.rest, rdPair, rdI, and_self]

theorem eSs_split (f : Nat → ByteArray) (j k : Nat) : ∃ q, eSs f (j + 1 + k) = eSs f j ++ (textB (f j) ++ q) := by
  induction k with
  | zero => exact ⟨[], by rw [Nat.add_zero, eSs_succ, List.append_nil]⟩
  | succ k ih =>
    obtain ⟨q, hq⟩ := ih
    exact ⟨q ++ textB (f (j + 1 + k)), by rw [← Nat.add_assoc, eSs_succ, hq]; simp only [List.append_assoc]⟩
theorem ss_back (f : Nat → ByteArray) (p q : List UInt8) (hf : ∀ i, i < 27 → goodB (f i)) : ∀ j, j ≤ 27 → stS (p ++ (eSs f 27 ++ q)) (some p.length) j = some (p.length + (eSs f j).length) ∧ ∀ i, i < j → rdS (p ++ (eSs f 27 ++ q)) (some p.length) i = f i
  | 0, _ => ⟨rfl, fun i h => by omega⟩
  | j + 1, hj => by
    obtain ⟨h1, h2⟩ := ss_back f p q hf j (by omega)
    obtain ⟨r, hr⟩ := eSs_split f j (27 - (j + 1))
    rw [show j + 1 + (27 - (j + 1)) = 27 by omega] at hr
    have h3 := prs_b.back (p ++ eSs f j) (r ++ q) (f j) (hf j (by omega))
    have e : p ++ eSs f j ++ (textB (f j) ++ (r ++ q)) = p ++ (eSs f 27 ++ q) := by rw [hr]; simp only [List.append_assoc]
    rw [e, List.length_append] at h3
    have h4 : (rdB (p ++ (eSs f 27 ++ q)) (some (p.length + (eSs f j).length))).1 = f j := by rw [h3]
    have h5 : (rdB (p ++ (eSs f 27 ++ q)) (some (p.length + (eSs f j).length))).2 = some (p.length + (eSs f j).length + (textB (f j)).length) := by rw [h3]
    refine ⟨?_, fun i hi => ?_⟩
    · rw [stS, h1, eSs_succ f j, List.length_append, ← Nat.add_assoc]
      exact h5
    · by_cases e : i = j
      · subst e
        unfold rdS
        rw [h1]
        exact h4
      · exact h2 i (by omega)
theorem ss_canon (l : List UInt8) (a : Nat) (ha : a ≤ l.length) : ∀ j b, stS l (some a) j = some b → (∀ i, i < j → goodB (rdS l (some a) i)) ∧ b ≤ l.length ∧ ∃ p q, p.length = a ∧ l = p ++ (eSs (rdS l (some a)) j ++ q) ∧ b = a + (eSs (rdS l (some a)) j).length
  | 0, b, h => by
    rw [stS] at h
    injection h with h
    subst h
    exact ⟨fun i h => by omega, ha, l.take a, l.drop a, by simp; omega, by simp [eSs], by simp [eSs]⟩
  | j + 1, b, h => by
    rw [stS] at h
    cases hc : stS l (some a) j with
    | none => rw [hc] at h; cases h
    | some c =>
      rw [hc] at h
      obtain ⟨hg, hcl, p, q, hp, hl, hcc⟩ := ss_canon l a ha j c hc
      have hrd : rdS l (some a) j = (rdB l (some c)).1 := by unfold rdS; rw [hc]; rfl
      obtain ⟨hg2, p2, q2, hp2, hl2, hbb⟩ := prs_b.canon l c b hcl h
      rw [← hrd] at hg2 hl2 hbb
      refine ⟨fun i hi => ?_, prs_b.le hcl h, p, q2, hp, ?_, by rw [eSs_succ, List.length_append]; omega⟩
      · by_cases e : i = j
        · subst e; exact hg2
        · exact hg i (by omega)
      · have e : p2 = p ++ eSs (rdS l (some a)) j := by
          have h3 : l.take c = p2 := by conv => lhs; rw [hl2]
                                        rw [← hp2, List.take_left]
          have h4 : l.take c = p ++ eSs (rdS l (some a)) j := by
            conv => lhs; rw [hl]
            rw [← List.append_assoc, show c = (p ++ eSs (rdS l (some a)) j).length by rw [List.length_append]; omega, List.take_left]
          rw [← h3, h4]
        conv => lhs; rw [hl2, e]
        rw [eSs_succ]
        simp only [List.append_assoc]

structure Tb.good (t : Tb) : Prop where
  s : ∀ i, i < 27 → goodB (t.s i)
  rest : goodR t.rest

theorem tb_back (t : Tb) (q : List UInt8) (h : t.good) : (rdTb (eTb t ++ q) (some 0)).2 = some (eTb t).length ∧ TbEq (rdTb (eTb t ++ q) (some 0)).1 t := by
  obtain ⟨h1, h2⟩ := ss_back t.s [] (eRest t.rest ++ q) h.s 27 (Nat.le_refl _)
  have e : [] ++ (eSs t.s 27 ++ (eRest t.rest ++ q)) = eTb t ++ q := by rw [eTb_rest]; simp only [List.nil_append, List.append_assoc]
  rw [e] at h1 h2
  simp only [List.length_nil, Nat.zero_add] at h1 h2
  have h3 := prs_rest.back (eSs t.s 27) q t.rest h.rest
  have e2 : eSs t.s 27 ++ (eRest t.rest ++ q) = eTb t ++ q := by rw [eTb_rest]; simp only [List.append_assoc]
  rw [e2] at h3
  obtain ⟨r1, r2, r3⟩ := rdTb_eq (eTb t ++ q) (some 0)
  rw [h1, h3] at r1 r2
  refine ⟨by rw [r1, eTb_rest, List.length_append], ?_⟩
  have r2' : (rdTb (eTb t ++ q) (some 0)).1.rest = t.rest := r2
  generalize (rdTb (eTb t ++ q) (some 0)).1 = u at *
  unfold Tb.rest at r2'
  simp only [Prod.mk.injEq] at r2'
  obtain ⟨x1, x2, x3, x4, x5, x6, x7⟩ := r2'
  exact ⟨fun i hi => by rw [r3]; exact h2 i hi, x1, x2, x3, x4, x5, x6, x7⟩
theorem tb_canon (l : List UInt8) (b : Nat) (h : (rdTb l (some 0)).2 = some b) : (rdTb l (some 0)).1.good ∧ ∃ q, l = eTb (rdTb l (some 0)).1 ++ q ∧ b = (eTb (rdTb l (some 0)).1).length := by
  obtain ⟨r1, r2, r3⟩ := rdTb_eq l (some 0)
  rw [r1] at h
  cases hc : stS l (some 0) 27 with
  | none => rw [hc, prs_rest.none] at h; cases h
  | some c =>
    rw [hc] at h r2
    obtain ⟨hg, hcl, p, q, hp, hl, hcc⟩ := ss_canon l 0 (Nat.zero_le _) 27 c hc
    obtain ⟨hg2, p2, q2, hp2, hl2, hbb⟩ := prs_rest.canon l c b hcl h
    rw [← r3] at hg hl hcc
    rw [← r2] at hg2 hl2 hbb
    have hp0 : p = [] := List.eq_nil_of_length_eq_zero hp
    subst hp0
    rw [List.nil_append] at hl
    rw [Nat.zero_add] at hcc
    refine ⟨⟨hg, hg2⟩, q2, ?_, ?_⟩
    · have e : p2 = eSs (rdTb l (some 0)).1.s 27 := by
        have h3 : l.take c = p2 := by conv => lhs; rw [hl2]
                                      rw [← hp2, List.take_left]
        have h4 : l.take c = eSs (rdTb l (some 0)).1.s 27 := by
          conv => lhs; rw [hl]
          rw [show c = (eSs (rdTb l (some 0)).1.s 27).length by omega, List.take_left]
        rw [← h3, h4]
      conv => lhs; rw [hl2, e]
      rw [eTb_rest, List.append_assoc]
    · rw [eTb_rest, List.length_append]
      omega
/-- what is no whole table's bytes. -/
theorem tb_cut (t : Tb) (k : Nat) (h : t.good) (hk : k < (eTb t).length) : ¬ (rdTb ((eTb t).take k) (some 0)).2 = some k := by
  intro h2
  obtain ⟨hg, q, hl, hb⟩ := tb_canon _ _ h2
  have hq : q = [] := by
    have := congrArg List.length hl
    rw [List.length_append, List.length_take] at this
    exact List.eq_nil_of_length_eq_zero (by omega)
  subst hq
  rw [List.append_nil] at hl
  have e : eTb t = eTb (rdTb ((eTb t).take k) (some 0)).1 ++ (eTb t).drop k := by rw [← hl, List.take_append_drop]
  have h3 := (tb_back _ ((eTb t).drop k) hg).1
  rw [← e] at h3
  have h4 := (tb_back t [] h).1
  rw [List.append_nil] at h4
  rw [h4] at h3
  injection h3 with h3
  omega
end Go.Proofs.Ytikkakbemphdhaa
