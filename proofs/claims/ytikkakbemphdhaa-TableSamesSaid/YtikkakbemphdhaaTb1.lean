/- The walk of Encode. -/
import Derived.Test.YtikkakbemphdhaaTa9
import Derived.Test.YtikkakbemphdhaaTa6
set_option linter.unusedSimpArgs false
set_option linter.unusedVariables false
namespace Go.Proofs.Ytikkakbemphdhaa
open Go.RowKit Go.Fl

/-- one of three lists of rows. -/
def pick3 {α : Type} (a b c : α) : Nat → α
  | 0 => a
  | 1 => b
  | _ => c
theorem pick3_get (a b c : Value) (i : Nat) (h : i < 3) : (#[a, b, c] : Array Value)[i]? = some (pick3 a b c i) := by
  have : i = 0 ∨ i = 1 ∨ i = 2 := by omega
  rcases this with h|h|h <;> subst h <;> rfl
/-- what is laid up to the i-th list of rows. -/
def bR (t : Tb) : Nat → List UInt8
  | 0 => eSs t.s 27 ++ numB t.grp.toNat
  | i + 1 => bR t i ++ eAll eRw (pick3 t.short t.long t.mshort i)
theorem bB_eq (t : Tb) : bB t = bR t 3 ++ numB t.curs.length := rfl
theorem bR_le (t : Tb) (i : Nat) (h : i ≤ 3) : (bR t i).length ≤ (bB t).length := by
  rw [bB_eq]
  have e3 : (bR t 3).length = (bR t 2).length + (eAll eRw t.mshort).length := List.length_append
  have e2 : (bR t 2).length = (bR t 1).length + (eAll eRw t.long).length := List.length_append
  have e1 : (bR t 1).length = (bR t 0).length + (eAll eRw t.short).length := List.length_append
  rw [List.length_append]
  have : i = 0 ∨ i = 1 ∨ i = 2 ∨ i = 3 := by omega
  rcases this with h|h|h|h <;> subst h <;> omega
theorem KeptW.heap {w w1 : World} {g : Nat} {r r' : Option Nat} (h : KeptW w w1 g r r') {b : Nat} {o : Obj} (hb : w.heap[b]? = some o) (hg : b ≠ g) (hr : some b ≠ r) : w1.heap[b]? = some o := by
  rw [h.block b (lt_of_heap hb) hg hr, hb]

set_option maxRecDepth 100000 in
set_option maxHeartbeats 4000000 in
theorem encode_any (P : Nat → Prop) (t : Tb) (v1 v2 v3 v4 v5 v6 : Value) (w : World) (hI : TbS P w t v1 v2 v3 v4 v5 v6) (hP : ∀ b, P b → b < w.heap.size) (hf : t.fit) (hl : (eTb t).length ≤ 140737488355300) :
    Calls Try.prog 25 #[tbV t.s t.grp v1 v2 v3 v4 v5 v6] w (StrPost (eTb t) 140737488355300 w) := by
  have HI := Lib.hid hI
  have HF := Lib.hid hf
  have HL := Lib.hid (lens_of t _ hl)
  obtain ⟨a1, c1, rfl⟩ := hI.short.len
  obtain ⟨a2, c2, rfl⟩ := hI.long.len
  obtain ⟨a3, c3, rfl⟩ := hI.mshort.len
  obtain ⟨a4, c4, rfl⟩ := hI.curs.len
  obtain ⟨a5, c5, rfl⟩ := hI.units.len
  have l4 := hf.curs.1
  have l5 := hf.units.1
  have lg := hf.grp
  have Hlen := Lib.hid hl
  have HP : Hid (∀ b, P b → b < w.heap.size + 1) := Lib.hid (fun b hb => by have := hP b hb; omega)
  obtain ⟨base, hbase⟩ : ∃ b, b = w.heap.size + 1 := ⟨_, rfl⟩
  rw [← hbase] at HP
  clear hI hf hl hP
  unfold tbV tbC
  go_enter Try.func25, Try.ntmps25
  go_wp2_with fail
  refine (texts27_any _ _).mono ?_
  rintro e wA ⟨rp, cp, rfl, hrp, hrp2, HC, hb⟩
  have HT : Hid (wA.heap[w.heap.size]? = some (.cells (tbC t.s t.grp (.slice a1 t.short.length c1) (.slice a2 t.long.length c2) (.slice a3 t.mshort.length c3) (.slice a4 t.curs.length c4) (.slice a5 t.units.length c5) v6) 55 (0, 0))) := Lib.hid ((hb.block _ (by simp; omega)).trans (heap_two w _ _))
  have HWA : Hid (IsW wA base base none []) := by
    have h := (isW_new (w.alloc (.cells (tbC t.s t.grp (.slice a1 t.short.length c1) (.slice a2 t.long.length c2) (.slice a3 t.mshort.length c3) (.slice a4 t.curs.length c4) (.slice a5 t.units.length c5) v6) 55)))
    have h2 : (w.alloc (.cells (tbC t.s t.grp (.slice a1 t.short.length c1) (.slice a2 t.long.length c2) (.slice a3 t.mshort.length c3) (.slice a4 t.curs.length c4) (.slice a5 t.units.length c5) v6) 55)).heap.size = base := by rw [hbase]; simp
    rw [h2] at h
    exact Lib.hid (h.kept (Kept.of_below (S := fun _ => False) hb) (fun h => h) (fun k h => by cases h))
  have hrp3 : base < rp := by first | omega | (simp at hrp; omega)
  have HB0 : Hid (Below w.heap.size w wA) := Lib.hid ((((Below.refl _ _).alloc (Nat.le_refl _) _).alloc (by simp) _).trans (hb.mono (by simp; omega)))
  have hsA : base < wA.heap.size := by omega
  have HSz : Hid (w.heap.size + 1 = base) := Lib.hid hbase.symm
  rw [HSz.out]
  have HIA := Lib.hid (HI.out.same (Same.below HB0.out))
  clear hb hrp hbase
  go_wp2
  go_loopg [16] 27 (fun gk v wr => ∃ (j : Nat) (r' : Option Nat), v = .int .i64 j ∧ j + gk = 27 ∧ Hid (IsW wr base base r' (eSs t.s j)) ∧ Hid (KeptW wA wr base none r'))
  case atStart => exact ⟨0, none, rfl, by omega, HWA, Lib.hid (KeptW.refl _ _ _)⟩
  case round =>
    obtain ⟨j, r', rfl, hj, HW, HK⟩ := hrel
    have hbs : base ≤ wr.heap.size := by have := HK.out.size; omega
    by_cases hjl : j < 27
    · have hc0 := (HK.out.cell hrp2 (by omega) (by simp) j).trans (HC.out j hjl)
      have hc1 := (HK.out.cell (b := w.heap.size) (by have := HSz.out; omega) (by have := HSz.out; omega) (by simp) (pl j)).trans (cell_of HT.out (tbC_pl t.s t.grp (.slice a1 t.short.length c1) (.slice a2 t.long.length c2) (.slice a3 t.mshort.length c3) _ _ v6 j hjl))
      have hz : (eSs t.s j).length + (t.s j).size ≤ 140737488355300 := by
        have h1 := (HL.out.ss j hjl).1
        rw [eSs_succ, List.length_append] at h1
        have h2 := size_le_textB (t.s j)
        omega
      go_wp2_with fail
      refine (wText_any base base r' _ _ _ HW.out hbs hz).mono ?_
      rintro e w2 ⟨rfl, r2, hW2, hK2⟩
      have HW2 := Lib.hid hW2
      have HK2 := Lib.hid hK2
      clear hW2 hK2
      go_wp2
      go_roundg (gk - 1)
      case measure => omega
      case rel => exact ⟨j + 1, r2, rfl, by omega, by rw [eSs_succ]; exact HW2, Lib.hid (HK.out.trans HK2.out)⟩
    · obtain rfl : j = 27 := by omega
      clear hj hjl
      have HTw := Lib.hid (HK.out.heap HT.out (by have := HSz.out; omega) (by simp))
      have HIw := Lib.hid (HIA.out.same (Same.of_keptW HK.out HWA.out HP.out))
      have HBw := Lib.hid (HB0.out.trans ((HK.out.below HWA.out (by omega)).mono (by have := HSz.out; omega)))
      obtain ⟨hc7, hc12, hc13, hc14, hc15, hc16, hc17, hc18⟩ := tb_cells HTw.out
      have hl0 : (eSs t.s 27).length ≤ 140737488355300 := by
        have h1 := bR_le t 0 (by omega)
        have h2 := HL.out.b
        have h3 : (bR t 0).length = (eSs t.s 27).length + (numB t.grp.toNat).length := List.length_append
        omega
      go_wp2_with fail
      refine (wNum_any base base r' _ _ _ lg HW.out hbs hl0).mono ?_
      rintro e w2 ⟨rfl, r2, hW2, hK2⟩
      have HT2 := Lib.hid (hK2.heap HTw.out (by have := HSz.out; omega) (fun e => by have := HW.out.row _ e.symm; have := HSz.out; omega))
      have HI2 := Lib.hid (HIw.out.same (Same.of_keptW hK2 HW.out HP.out))
      have HB2 := Lib.hid (HBw.out.trans ((hK2.below HW.out hbs).mono (by have := HSz.out; omega)))
      have hbs2 : base ≤ w2.heap.size := Nat.le_trans hbs hK2.size
      have HW2 : Hid (IsW w2 base base r2 (bR t 0)) := Lib.hid hW2
      clear hW2 hK2 HTw HIw HBw HT HWA HB0 HIA HC HK HW hrp2 hrp3 hbs hc7 hc12 hc13 hc14 hc15 hc16 hc17 hc18 hl0
      obtain ⟨hc7, hc12, hc13, hc14, hc15, hc16, hc17, hc18⟩ := tb_cells HT2.out
      go_wp2
      obtain ⟨g3, hg3⟩ : ∃ g, w2.heap.size = g := ⟨_, rfl⟩
      obtain ⟨wB, hwB⟩ : ∃ W, w2.alloc (.cells #[.slice a1 t.short.length c1, .slice a2 t.long.length c2, .slice a3 t.mshort.length c3] 48) = W := ⟨_, rfl⟩
      have HC3 : Hid (∀ i, i < 3 → wB.cell? ⟨g3, i, none⟩ = some (pick3 (.slice a1 t.short.length c1) (.slice a2 t.long.length c2) (.slice a3 t.mshort.length c3) i)) := by subst hg3 hwB; exact Lib.hid (fun i h => cell_of (heap_alloc_new w2 _) (pick3_get (.slice a1 t.short.length c1) (.slice a2 t.long.length c2) (.slice a3 t.mshort.length c3) i h))
      have hg3s : g3 < wB.heap.size := by subst hg3 hwB; simp
      have hg3b : base < g3 + 1 := by omega
      have HG3 : Hid (g3 ≠ base ∧ ∀ k, r2 = some k → k ≠ g3) := Lib.hid ⟨by have := HW2.out.lt.1; omega, fun k hk e => by have := HW2.out.lt.2 k hk; omega⟩
      have HTB : Hid (wB.heap[w.heap.size]? = some (.cells (tbC t.s t.grp (.slice a1 t.short.length c1) (.slice a2 t.long.length c2) (.slice a3 t.mshort.length c3) (.slice a4 t.curs.length c4) (.slice a5 t.units.length c5) v6) 55 (0, 0))) := by rw [← hwB]; exact Lib.hid ((Below.heap_alloc _ _ _ (lt_of_heap HT2.out)).trans HT2.out)
      have HIB : Hid (TbS P wB t (.slice a1 t.short.length c1) (.slice a2 t.long.length c2) (.slice a3 t.mshort.length c3) (.slice a4 t.curs.length c4) (.slice a5 t.units.length c5) v6) := by rw [← hwB]; exact Lib.hid (HI2.out.same (Same.below ((Below.refl _ _).alloc (Nat.le_refl _) _)))
      have HBB : Hid (Below w.heap.size w wB) := by rw [← hwB]; exact Lib.hid (HB2.out.alloc HB2.out.size _)
      have HWB : Hid (IsW wB base base r2 (bR t 0)) := by rw [← hwB]; exact Lib.hid (HW2.out.alloc _)
      have hbsB : base ≤ wB.heap.size := by rw [← hwB]; simp; omega
      rw [hg3, hwB]
      clear hg3 hwB HT2 HI2 HB2 HW2 hbs2 hc7 hc12 hc13 hc14 hc15 hc16 hc17 hc18
      go_loopg [38] 3 (fun gk v wr => ∃ (j : Nat) (r' : Option Nat), v = .int .i64 j ∧ j + gk = 3 ∧ Hid (IsW wr base base r' (bR t j)) ∧ Hid (KeptW wB wr base r2 r'))
      case atStart => exact ⟨0, r2, rfl, by omega, HWB, Lib.hid (KeptW.refl _ _ _)⟩
      case round =>
        obtain ⟨j, r', rfl, hj, HW, HK⟩ := hrel
        have hbs : base ≤ wr.heap.size := Nat.le_trans hbsB HK.out.size
        by_cases hjl : j < 3
        · have hc0 := (HK.out.cell hg3s HG3.out.1 (fun e => HG3.out.2 _ e.symm rfl) j).trans (HC3.out j hjl)
          have hR : Hid (Rws P wr (pick3 (.slice a1 t.short.length c1) (.slice a2 t.long.length c2) (.slice a3 t.mshort.length c3) j) (pick3 t.short t.long t.mshort j) ∧ Fits Rw.fit (pick3 t.short t.long t.mshort j)) := by
            have h := HIB.out.same (Same.of_keptW HK.out HWB.out HP.out)
            have : j = 0 ∨ j = 1 ∨ j = 2 := by omega
            rcases this with e|e|e <;> subst e
            · exact Lib.hid ⟨h.short, HF.out.short⟩
            · exact Lib.hid ⟨h.long, HF.out.long⟩
            · exact Lib.hid ⟨h.mshort, HF.out.mshort⟩
          have hz : (bR t j).length + (eAll eRw (pick3 t.short t.long t.mshort j)).length ≤ 140737488355300 := by
            have h1 := bR_le t (j + 1) (by omega)
            have h2 := HL.out.b
            have h3 : (bR t (j + 1)).length = (bR t j).length + (eAll eRw (pick3 t.short t.long t.mshort j)).length := List.length_append
            omega
          go_wp2_with fail
          refine (wRows_any P base base r' _ _ _ _ hR.out.1 HP.out hR.out.2 HW.out hbs hz).mono ?_
          rintro e w3 ⟨rfl, r3, hW3, hK3⟩
          have HW3 := Lib.hid hW3
          have HK3 := Lib.hid hK3
          clear hW3 hK3
          go_wp2
          go_roundg (gk - 1)
          case measure => omega
          case rel => exact ⟨j + 1, r3, rfl, by omega, HW3, Lib.hid (HK.out.trans HK3.out)⟩
        · obtain rfl : j = 3 := by omega
          clear hj hjl
          have HTw := Lib.hid (HK.out.heap HTB.out (by have := HSz.out; omega) (fun e => by have := HWB.out.row _ e.symm; have := HSz.out; omega))
          have HIw := Lib.hid (HIB.out.same (Same.of_keptW HK.out HWB.out HP.out))
          have HBw := Lib.hid (HBB.out.trans ((HK.out.below HWB.out hbsB).mono (by have := HSz.out; omega)))
          obtain ⟨hc7, hc12, hc13, hc14, hc15, hc16, hc17, hc18⟩ := tb_cells HTw.out
          have hl0 : (bR t 3).length ≤ 140737488355300 := Nat.le_trans (bR_le t 3 (by omega)) HL.out.b
          go_wp2_with fail
          refine (wNum_any base base r' _ _ _ (by omega) HW.out hbs hl0).mono ?_
          rintro e wC ⟨rfl, rC, hW2, hK2⟩
          rw [Int.toNat_natCast] at hW2
          have HTC := Lib.hid (hK2.heap HTw.out (by have := HSz.out; omega) (fun e => by have := HW.out.row _ e.symm; have := HSz.out; omega))
          have HIC := Lib.hid (HIw.out.same (Same.of_keptW hK2 HW.out HP.out))
          have HBC := Lib.hid (HBw.out.trans ((hK2.below HW.out hbs).mono (by have := HSz.out; omega)))
          have hbsC : base ≤ wC.heap.size := Nat.le_trans hbs hK2.size
          have HWC : Hid (IsW wC base base rC (bC t 0)) := by
            refine Lib.hid ?_
            have e : bC t 0 = bR t 3 ++ numB t.curs.length := by unfold bC; rw [List.take_zero, List.flatMap_nil, List.append_nil, bB_eq]
            rw [e]
            exact hW2
          clear hW2 hK2 HTw HIw HBw HK HW hbs hc7 hc12 hc13 hc14 hc15 hc16 hc17 hc18 hl0 HTB HIB HBB HWB HC3 HG3 hg3s hg3b hbsB
          obtain ⟨hc7, hc12, hc13, hc14, hc15, hc16, hc17, hc18⟩ := tb_cells HTC.out
          go_wp2
          go_loopg [54] t.curs.length (fun gk v wr => ∃ (j : Nat) (r' : Option Nat), v = .int .i64 j ∧ j + gk = t.curs.length ∧ Hid (IsW wr base base r' (bC t j)) ∧ Hid (KeptW wC wr base rC r'))
          case atStart => exact ⟨0, rC, rfl, by omega, HWC, Lib.hid (KeptW.refl _ _ _)⟩
          case round =>
            clear hc7 hc12 hc13 hc14 hc15 hc16 hc17 hc18
            obtain ⟨j, r', rfl, hj, HW, HK⟩ := hrel
            have hbs : base ≤ wr.heap.size := Nat.le_trans hbsC HK.out.size
            by_cases hjl : j < t.curs.length
            · have hSa := Same.of_keptW HK.out HWC.out HP.out
              obtain ⟨b, off, rfl, hp, hbb, hd0, hd1, hd2, hd4, hd5, hd6, hd7, tv, hd3, hT⟩ := HIC.out.curs.el j hjl
              have hw0 := hSa.cell hp hd0
              have hw1 := hSa.cell hp hd1
              have hw2 := hSa.cell hp hd2
              have hw3 := hSa.cell hp hd3
              have hw4 := hSa.cell hp hd4
              have hw5 := hSa.cell hp hd5
              have hw6 := hSa.cell hp hd6
              have hw7 := hSa.cell hp hd7
              have HT' := Lib.hid (hT.same hSa)
              clear hd0 hd1 hd2 hd3 hd4 hd5 hd6 hd7 hSa
              obtain ⟨ta, tc, rfl⟩ := hT.len
              have HLc := Lib.hid (bC_succ t j hjl)
              have HLl := HL.out.c (j + 1)
              obtain ⟨f0, f1, f2, ff, f4, f5, f6, f7⟩ := HF.out.curs.2 t.curs[j] (List.getElem_mem _)
              have FF := Lib.hid ff
              obtain ⟨c, hc⟩ : ∃ c, t.curs[j] = c := ⟨_, rfl⟩
              rw [hc] at hw0 hw1 hw2 hw3 hw4 hw5 hw6 hw7 HT' HLc f0 f1 f2 FF f4 f5 f6 f7
              clear hc hT ff
              obtain ⟨z1, z2, z3, z4, z5, z6, z7, z8⟩ : (bC t j).length + c.code.size ≤ 140737488355300 ∧ (bC t j ++ textB c.code).length + c.sym.size ≤ 140737488355300 ∧ (bC t j ++ textB c.code ++ textB c.sym).length + c.nar.size ≤ 140737488355300 ∧
                  (bC t j ++ textB c.code ++ textB c.sym ++ textB c.nar).length + (eAll eTx c.names).length ≤ 140737488355300 ∧ (bC t j ++ textB c.code ++ textB c.sym ++ textB c.nar ++ eAll eTx c.names).length ≤ 140737488355300 ∧
                  (bC t j ++ textB c.code ++ textB c.sym ++ textB c.nar ++ eAll eTx c.names ++ numB c.d0.toNat).length ≤ 140737488355300 ∧
                  (bC t j ++ textB c.code ++ textB c.sym ++ textB c.nar ++ eAll eTx c.names ++ numB c.d0.toNat ++ numB c.d1.toNat).length ≤ 140737488355300 ∧
                  (bC t j ++ textB c.code ++ textB c.sym ++ textB c.nar ++ eAll eTx c.names ++ numB c.d0.toNat ++ numB c.d1.toNat ++ numB c.d2.toNat).length ≤ 140737488355300 := by
                have q0 := size_le_textB c.code
                have q1 := size_le_textB c.sym
                have q2 := size_le_textB c.nar
                rw [HLc.out] at HLl
                unfold eCu at HLl
                simp only [List.length_append] at HLl ⊢
                omega
              clear HLl
              go_wp2
              obtain ⟨gx, hg⟩ : ∃ g, g = wr.heap.size := ⟨_, rfl⟩
              obtain ⟨W0, hW0⟩ : ∃ W0, wr.alloc (.cells #[.string c.code, .string c.sym, .string c.nar, .slice ta c.names.length tc, .int .i64 c.d0, .int .i64 c.d1, .int .i64 c.d2, .int .i64 c.d3] 64) = W0 := ⟨_, rfl⟩
              have k0 : W0.cell? ⟨gx, 0, none⟩ = some (.string c.code) := by subst hg hW0; exact cell_of (heap_alloc_new wr _) rfl
              have k1 : W0.cell? ⟨gx, 1, none⟩ = some (.string c.sym) := by subst hg hW0; exact cell_of (heap_alloc_new wr _) rfl
              have k2 : W0.cell? ⟨gx, 2, none⟩ = some (.string c.nar) := by subst hg hW0; exact cell_of (heap_alloc_new wr _) rfl
              have k3 : W0.cell? ⟨gx, 3, none⟩ = some (.slice ta c.names.length tc) := by subst hg hW0; exact cell_of (heap_alloc_new wr _) rfl
              have k4 : W0.cell? ⟨gx, 4, none⟩ = some (.int .i64 c.d0) := by subst hg hW0; exact cell_of (heap_alloc_new wr _) rfl
              have k5 : W0.cell? ⟨gx, 5, none⟩ = some (.int .i64 c.d1) := by subst hg hW0; exact cell_of (heap_alloc_new wr _) rfl
              have k6 : W0.cell? ⟨gx, 6, none⟩ = some (.int .i64 c.d2) := by subst hg hW0; exact cell_of (heap_alloc_new wr _) rfl
              have k7 : W0.cell? ⟨gx, 7, none⟩ = some (.int .i64 c.d3) := by subst hg hW0; exact cell_of (heap_alloc_new wr _) rfl
              have HW1 : Hid (IsW W0.drew base base r' (bC t j)) := by rw [← hW0]; exact Lib.hid (HW.out.alloc _).drew
              have HK1 : Hid (KeptW wC W0.drew base rC r') := by rw [← hW0]; exact Lib.hid (HK.out.alloc _).drew
              have hgx : gx < W0.drew.heap.size := by subst hg hW0; simp
              have hbs0 : base ≤ W0.drew.heap.size := by rw [← hW0]; simp; omega
              have hgn : gx ≠ base := by have := HW.out.lt.1; omega
              have hgr : Hid (some gx ≠ r') := Lib.hid (fun e => by have := HW.out.lt.2 _ e.symm; omega)
              have HTx : Hid (Txs P W0.drew (.slice ta c.names.length tc) c.names) := by rw [← hW0]; exact Lib.hid (HT'.out.same (Same.below ((Below.refl _ _).alloc (Nat.le_refl _) _).drew))
              have hS0 : ∀ o, W0.drew.cell? ⟨gx, o, none⟩ = W0.cell? ⟨gx, o, none⟩ := fun _ => rfl
              rw [← hg, hW0]
              clear hg hw0 hw1 hw2 hw3 hw4 hw5 hw6 hw7 hW0 HT' HW HK
              go_region_held3 (fun w' => ∀ o, w'.cell? ⟨gx, o, none⟩ = W0.cell? ⟨gx, o, none⟩)
                (assumption)
                (first
                  | (go_at_call 11; ((with_reducible refine (wText_any base base r' _ c.code _ HW1.out hbs0 z1).mono ?_); rintro e w2 ⟨rfl, r2, hWx, hKx⟩; have HW2 := Lib.hid hWx; have HK2 := Lib.hid hKx; clear hWx hKx; have hS2 := fun o => (KeptW.cell HK2.out hgx hgn hgr.out o).trans (hS0 o)))
                  | (go_at_call 11; ((with_reducible refine (wText_any base base r2 _ c.sym _ HW2.out (Nat.le_trans hbs0 HK2.out.size) z2).mono ?_); rintro e w3 ⟨rfl, r3, hWx, hKx⟩; have HW3 := Lib.hid hWx; have HK3 := Lib.hid (HK2.out.trans hKx); clear hWx hKx; have hS3 := fun o => (KeptW.cell HK3.out hgx hgn hgr.out o).trans (hS0 o)))
                  | (go_at_call 11; ((with_reducible refine (wText_any base base r3 _ c.nar _ HW3.out (Nat.le_trans hbs0 HK3.out.size) z3).mono ?_); rintro e w4 ⟨rfl, r4, hWx, hKx⟩; have HW4 := Lib.hid hWx; have HK4 := Lib.hid (HK3.out.trans hKx); clear hWx hKx; have hS4 := fun o => (KeptW.cell HK4.out hgx hgn hgr.out o).trans (hS0 o))))
              have hbs4 : base ≤ w4.heap.size := Nat.le_trans hbs0 HK4.out.size
              go_wp2_with fail
              refine (wTexts_any P base base r4 _ _ _ _ (HTx.out.same (Same.of_keptW HK4.out HW1.out HP.out)) HP.out FF.out HW4.out hbs4 z4).mono ?_
              rintro e w5 ⟨rfl, r5, hWx, hKx⟩
              have HW5 := Lib.hid hWx
              have HK5 := Lib.hid (HK4.out.trans hKx).drew
              clear hWx hKx
              have hS5 : ∀ o, w5.drew.cell? ⟨gx, o, none⟩ = W0.cell? ⟨gx, o, none⟩ := fun o => (KeptW.cell HK5.out hgx hgn hgr.out o).trans (hS0 o)
              have hbs5 : base ≤ w5.drew.heap.size := Nat.le_trans hbs0 HK5.out.size
              have HW5d : Hid (IsW w5.drew base base r5 (bC t j ++ textB c.code ++ textB c.sym ++ textB c.nar ++ eAll eTx c.names)) := HW5
              clear hS2 hS3 hS4 hbs4 HK2 HK3 HK4 HW2 HW3 HW4 HW5 HTx
              go_wp2
              go_region_held3 (fun w' => ∀ o, w'.cell? ⟨gx, o, none⟩ = W0.cell? ⟨gx, o, none⟩)
                (assumption)
                (first
                  | (go_at_call 13; ((with_reducible refine (wNum_any base base r5 _ c.d0 _ f4 HW5d.out hbs5 z5).mono ?_); rintro e w6 ⟨rfl, r6, hWx, hKx⟩; have HW6 := Lib.hid hWx; have HK6 := Lib.hid (HK5.out.trans hKx); clear hWx hKx; have hS6 := fun o => (KeptW.cell HK6.out hgx hgn hgr.out o).trans (hS0 o)))
                  | (go_at_call 13; ((with_reducible refine (wNum_any base base r6 _ c.d1 _ f5 HW6.out (Nat.le_trans hbs0 HK6.out.size) z6).mono ?_); rintro e w7 ⟨rfl, r7, hWx, hKx⟩; have HW7 := Lib.hid hWx; have HK7 := Lib.hid (HK6.out.trans hKx); clear hWx hKx; have hS7 := fun o => (KeptW.cell HK7.out hgx hgn hgr.out o).trans (hS0 o)))
                  | (go_at_call 13; ((with_reducible refine (wNum_any base base r7 _ c.d2 _ f6 HW7.out (Nat.le_trans hbs0 HK7.out.size) z7).mono ?_); rintro e w8 ⟨rfl, r8, hWx, hKx⟩; have HW8 := Lib.hid hWx; have HK8 := Lib.hid (HK7.out.trans hKx); clear hWx hKx; have hS8 := fun o => (KeptW.cell HK8.out hgx hgn hgr.out o).trans (hS0 o)))
                  | (go_at_call 13; ((with_reducible refine (wNum_any base base r8 _ c.d3 _ f7 HW8.out (Nat.le_trans hbs0 HK8.out.size) z8).mono ?_); rintro e w9 ⟨rfl, r9, hWx, hKx⟩; have HW9 := Lib.hid hWx; have HK9 := Lib.hid (HK8.out.trans hKx); clear hWx hKx; have hS9 := fun o => (KeptW.cell HK9.out hgx hgn hgr.out o).trans (hS0 o))))
              have HWE : Hid (IsW w9 base base r9 (bC t (j + 1))) := by
                rw [HLc.out]
                unfold eCu
                simp only [List.append_assoc] at HW9 ⊢
                exact HW9
              have HKE := Lib.hid (HK1.out.trans HK9.out)
              clear hS6 hS7 hS8 hS9 HK6 HK7 HK8 HK9 HW6 HW7 HW8 HW9 hS5 hS0 z1 z2 z3 z4 z5 z6 z7 z8
              go_wp2
              go_roundg (gk - 1)
              case measure => omega
              case rel => exact ⟨j + 1, r9, rfl, by omega, HWE, HKE⟩
            · obtain rfl : j = t.curs.length := by omega
              clear hj hjl
              have HTw := Lib.hid (HK.out.heap HTC.out (by have := HSz.out; omega) (fun e => by have := HWC.out.row _ e.symm; have := HSz.out; omega))
              have HIw := Lib.hid (HIC.out.same (Same.of_keptW HK.out HWC.out HP.out))
              have HBw := Lib.hid (HBC.out.trans ((HK.out.below HWC.out hbsC).mono (by have := HSz.out; omega)))
              obtain ⟨hc7, hc12, hc13, hc14, hc15, hc16, hc17, hc18⟩ := tb_cells HTw.out
              have hl0 : (bC t t.curs.length).length ≤ 140737488355300 := HL.out.c _
              go_wp2_with fail
              refine (wNum_any base base r' _ _ _ (by omega) HW.out hbs hl0).mono ?_
              rintro e wD ⟨rfl, rD, hW2, hK2⟩
              rw [Int.toNat_natCast] at hW2
              have HTD := Lib.hid (hK2.heap HTw.out (by have := HSz.out; omega) (fun e => by have := HW.out.row _ e.symm; have := HSz.out; omega))
              have HID := Lib.hid (HIw.out.same (Same.of_keptW hK2 HW.out HP.out))
              have HBD := Lib.hid (HBw.out.trans ((hK2.below HW.out hbs).mono (by have := HSz.out; omega)))
              have hbsD : base ≤ wD.heap.size := Nat.le_trans hbs hK2.size
              have HWD : Hid (IsW wD base base rD (bE t 0)) := by
                refine Lib.hid ?_
                have e : bE t 0 = bC t t.curs.length ++ numB t.units.length := by unfold bE; rw [List.take_zero, List.flatMap_nil, List.append_nil]; rfl
                rw [e]
                exact hW2
              clear hW2 hK2 HTw HIw HBw HK HW hbs hc7 hc12 hc13 hc14 hc15 hc16 hc17 hc18 hl0 HTC HIC HBC HWC hbsC
              obtain ⟨hc7, hc12, hc13, hc14, hc15, hc16, hc17, hc18⟩ := tb_cells HTD.out
              go_wp2
              go_loopg [94] t.units.length (fun gk v wr => ∃ (j : Nat) (r' : Option Nat), v = .int .i64 j ∧ j + gk = t.units.length ∧ Hid (IsW wr base base r' (bE t j)) ∧ Hid (KeptW wD wr base rD r'))
              case atStart => exact ⟨0, rD, rfl, by omega, HWD, Lib.hid (KeptW.refl _ _ _)⟩
              case round =>
                clear hc7 hc12 hc13 hc14 hc15 hc16 hc17 hc18
                obtain ⟨j, r', rfl, hj, HW, HK⟩ := hrel
                have hbs : base ≤ wr.heap.size := Nat.le_trans hbsD HK.out.size
                by_cases hjl : j < t.units.length
                · have hSa := Same.of_keptW HK.out HWD.out HP.out
                  obtain ⟨b, off, rfl, hp, hbb, hd0, tv, hd1, hT⟩ := HID.out.units.el j hjl
                  have hw0 := hSa.cell hp hd0
                  have hw1 := hSa.cell hp hd1
                  have HT' := Lib.hid (hT.same hSa)
                  clear hd0 hd1 hSa
                  obtain ⟨ta, tc, rfl⟩ := hT.len
                  have HLc := Lib.hid (bE_succ t j hjl)
                  have HLl := HL.out.e (j + 1)
                  obtain ⟨f0, ff⟩ := HF.out.units.2 t.units[j] (List.getElem_mem _)
                  have FF := Lib.hid ff
                  obtain ⟨c, hc⟩ : ∃ c, t.units[j] = c := ⟨_, rfl⟩
                  rw [hc] at hw0 hw1 HT' HLc f0 FF
                  clear hc hT ff
                  obtain ⟨z1, z2⟩ : (bE t j).length + c.name.size ≤ 140737488355300 ∧ (bE t j ++ textB c.name).length + (eAll eTx c.texts).length ≤ 140737488355300 := by
                    have q0 := size_le_textB c.name
                    rw [HLc.out] at HLl
                    unfold eUn at HLl
                    simp only [List.length_append] at HLl ⊢
                    omega
                  clear HLl
                  go_wp2_with fail
                  refine (wText_any base base r' _ _ _ (HW.out.alloc _) (by simp; omega) z1).mono ?_
                  rintro e w2 ⟨rfl, r2, hWx, hKx⟩
                  have k1 : w2.cell? ⟨wr.heap.size, 1, none⟩ = some (.slice ta c.texts.length tc) := box_cell hKx HW.out.lt.1 HW.out.lt.2 rfl
                  have HT2 := Lib.hid ((HT'.out.same (Same.below ((Below.refl _ _).alloc (Nat.le_refl _) _))).same (Same.of_keptW hKx (HW.out.alloc _) HP.out))
                  have HW2 := Lib.hid hWx
                  have HK2 := Lib.hid hKx
                  have hbs2 : base ≤ w2.heap.size := by have := hKx.size; simp at this; omega
                  clear hWx hKx hw0 hw1 HT'
                  go_wp2_with fail
                  refine (wTexts_any P base base r2 _ _ _ _ HT2.out HP.out FF.out HW2.out hbs2 z2).mono ?_
                  rintro e w3 ⟨rfl, r3, hWx, hKx⟩
                  have HWE : Hid (IsW w3 base base r3 (bE t (j + 1))) := by
                    rw [HLc.out]
                    unfold eUn
                    rw [← List.append_assoc]
                    exact Lib.hid hWx
                  have HKE := Lib.hid (((HK.out.alloc _).trans HK2.out).trans hKx)
                  clear hWx hKx k1
                  go_wp2
                  go_roundg (gk - 1)
                  case measure => omega
                  case rel => exact ⟨j + 1, r3, rfl, by omega, HWE, HKE⟩
                · obtain rfl : j = t.units.length := by omega
                  clear hj hjl
                  have HTw := Lib.hid (HK.out.heap HTD.out (by have := HSz.out; omega) (fun e => by have := HWD.out.row _ e.symm; have := HSz.out; omega))
                  have HIw := Lib.hid (HID.out.same (Same.of_keptW HK.out HWD.out HP.out))
                  have HBw := Lib.hid (HBD.out.trans ((HK.out.below HWD.out hbsD).mono (by have := HSz.out; omega)))
                  obtain ⟨hc7, hc12, hc13, hc14, hc15, hc16, hc17, hc18⟩ := tb_cells HTw.out
                  have hl0 : (bE t t.units.length).length + (eAll eTx t.munit).length ≤ 140737488355300 := by
                    have h := Hlen.out
                    rw [eTb_eq, List.length_append] at h
                    exact h
                  go_wp2_with fail
                  refine (wTexts_any P base base r' _ _ _ _ HIw.out.munit HP.out HF.out.munit HW.out hbs hl0).mono ?_
                  rintro e w4 ⟨rfl, r4, hW4, hK4⟩
                  rw [← eTb_eq] at hW4
                  have HW4 := Lib.hid hW4
                  have HB4 := Lib.hid (HBw.out.trans ((hK4.below HW.out hbs).mono (by have := HSz.out; omega)))
                  clear hW4 hK4 HIw HBw HTw HW HK
                  go_wp2_with fail
                  refine (wString_any base base r4 _ _ HW4.out).mono ?_
                  rintro e w5 ⟨rfl, rfl⟩
                  go_wp2
                  go_ret
                  exact ⟨_, rfl, Lib.hid (by simp [StrIs]), by show (eTb t).length ≤ _; exact Hlen.out, HB4.out⟩
end Go.Proofs.Ytikkakbemphdhaa
