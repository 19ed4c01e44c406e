/- The walk of Same. -/
import Derived.Test.YtikkakbemphdhaaTc3
import Derived.Test.YtikkakbemphdhaaTa6
set_option linter.unusedSimpArgs false
set_option linter.unusedVariables false
namespace Go.Proofs.Ytikkakbemphdhaa
open Go.RowKit Go.Fl

def StrsEq (s r : Nat → ByteArray) : Prop := ∀ i, i < 27 → s i = r i

set_option maxRecDepth 100000 in
set_option maxHeartbeats 800000 in
theorem eqStrs_any (rp cp g rq cq k : Nat) (s r : Nat → ByteArray) (w : World) (hp : Hid (∀ i, i < 27 → w.cell? ⟨rp, i, none⟩ = some (.pointer (some ⟨g, pl i, none⟩)))) (hq : Hid (∀ i, i < 27 → w.cell? ⟨rq, i, none⟩ = some (.pointer (some ⟨k, pl i, none⟩))))
    (hs : Hid (∀ i, i < 27 → w.cell? ⟨g, pl i, none⟩ = some (.string (s i)))) (hr : Hid (∀ i, i < 27 → w.cell? ⟨k, pl i, none⟩ = some (.string (r i)))) :
    Calls Try.prog 45 #[.slice (some ⟨rp, 0, none⟩) 27 cp, .slice (some ⟨rq, 0, none⟩) 27 cq, .func (.func 46) #[] #[]] w (EqPost (StrsEq s r) w) := by
  go_enter Try.func45, Try.ntmps45
  go_wp2
  go_loopg [17] 27 (fun gk v wr => ∃ (j : Nat), v = .int .i64 j ∧ j + gk = 27 ∧ Hid (∀ i, i < j → s i = r i) ∧ Below w.heap.size w wr)
  case atStart => exact ⟨0, rfl, by omega, Lib.hid (fun i h => by omega), Below.refl _ _⟩
  case round =>
    obtain ⟨j, rfl, hj, HL, hbr⟩ := hrel
    by_cases hjl : j < 27
    · have hc0 := (hbr.cell (p := ⟨rp, j, none⟩) (lt_of_cell (hp.out j hjl))).trans (hp.out j hjl)
      have hc1 := (hbr.cell (p := ⟨rq, j, none⟩) (lt_of_cell (hq.out j hjl))).trans (hq.out j hjl)
      have hc2 := (hbr.cell (p := ⟨g, pl j, none⟩) (lt_of_cell (hs.out j hjl))).trans (hs.out j hjl)
      have hc3 := (hbr.cell (p := ⟨k, pl j, none⟩) (lt_of_cell (hr.out j hjl))).trans (hr.out j hjl)
      go_wp2_with fail
      refine (same1_any _ _ _ _ _ hc2 hc3).mono ?_
      rintro e w1 ⟨b, rfl, hbe, hb1⟩
      have hb3 := hbr.trans (hb1.mono hbr.size)
      clear hb1 hc0 hc1 hc2 hc3
      cases b with
      | true =>
        have HXY := Lib.hid (hbe.out.1 rfl)
        clear hbe
        go_wp2
        go_roundg (gk - 1)
        case measure => omega
        case rel => exact ⟨j + 1, rfl, by omega, Lib.hid (fun i hij => by
            by_cases e : i = j
            · subst e; exact HXY.out
            · exact HL.out i (by omega)), hb3⟩
      | false =>
        go_wp2
        go_ret
        exact ⟨_, rfl, Lib.hid ⟨(fun h => by cases h), fun h => hbe.out.2 (h j hjl)⟩, hb3⟩
    · obtain rfl : j = 27 := by omega
      go_wp2
      go_ret
      exact ⟨_, rfl, Lib.hid ⟨fun _ => HL.out, fun _ => rfl⟩, hbr⟩

theorem heap_two2 (w : World) (o1 o2 : Obj) : ((w.alloc o1).alloc o2).heap[w.heap.size + 1]? = some o2 := by
  have h1 := heap_alloc_new (w.alloc o1) o2
  rw [show (w.alloc o1).heap.size = w.heap.size + 1 by simp] at h1
  exact h1
/-- two tables are the same. -/
structure TbEq (t u : Tb) : Prop where
  s : StrsEq t.s u.s
  grp : t.grp = u.grp
  short : t.short = u.short
  long : t.long = u.long
  mshort : t.mshort = u.mshort
  curs : t.curs = u.curs
  units : t.units = u.units
  munit : t.munit = u.munit

set_option maxRecDepth 100000 in
set_option maxHeartbeats 1600000 in
/-- where the single texts part, nothing else is looked at. -/
theorem same_early (t u : Tb) (v1 v2 v3 v4 v5 v6 u1 u2 u3 u4 u5 u6 : Value) (w : World) (hne : ¬ StrsEq t.s u.s) :
    Calls Try.prog 28 #[tbV t.s t.grp v1 v2 v3 v4 v5 v6, tbV u.s u.grp u1 u2 u3 u4 u5 u6] w (EqPost False w) := by
  have HN := Lib.hid hne
  clear hne
  unfold tbV tbC
  go_enter Try.func28, Try.ntmps28
  go_wp2_with fail
  refine (texts27_any _ _).mono ?_
  rintro e wA ⟨rp, cp, rfl, hrp, hrp2, HC, hb⟩
  have HB1 := Lib.hid hb
  clear hb
  go_wp2_with fail
  refine (texts27_any _ _).mono ?_
  rintro e wB ⟨rq, cq, rfl, hrq, hrq2, HD, hb⟩
  have hT1 := hb.block _ (Nat.lt_of_lt_of_le (by simp; omega) HB1.out.size) |>.trans ((HB1.out.block _ (by simp; omega)).trans (heap_two w (.cells (tbC t.s t.grp v1 v2 v3 v4 v5 v6) 55) (.cells (tbC u.s u.grp u1 u2 u3 u4 u5 u6) 55)))
  have hT2 := hb.block (w.heap.size + 1) (Nat.lt_of_lt_of_le (by simp) HB1.out.size) |>.trans ((HB1.out.block _ (by simp)).trans (heap_two2 w (.cells (tbC t.s t.grp v1 v2 v3 v4 v5 v6) 55) (.cells (tbC u.s u.grp u1 u2 u3 u4 u5 u6) 55)))
  have HS1 : Hid (∀ i, i < 27 → wB.cell? ⟨w.heap.size, pl i, none⟩ = some (.string (t.s i))) := Lib.hid (fun i h => cell_of hT1 (tbC_pl _ _ _ _ _ _ _ _ i h))
  have HS2 : Hid (∀ i, i < 27 → wB.cell? ⟨w.heap.size + 1, pl i, none⟩ = some (.string (u.s i))) := Lib.hid (fun i h => cell_of hT2 (tbC_pl _ _ _ _ _ _ _ _ i h))
  have HCB : Hid (∀ i, i < 27 → wB.cell? ⟨rp, i, none⟩ = some (.pointer (some ⟨w.heap.size, pl i, none⟩))) := Lib.hid (fun i h => (hb.cell (p := ⟨rp, i, none⟩) hrp2).trans (HC.out i h))
  have HTT := Lib.hid (And.intro hT1 hT2)
  have HBB := Lib.hid ((((Below.refl w.heap.size w).alloc (Nat.le_refl _) (.cells (tbC t.s t.grp v1 v2 v3 v4 v5 v6) 55)).alloc (by simp) (.cells (tbC u.s u.grp u1 u2 u3 u4 u5 u6) 55)).trans ((HB1.out.mono (by simp; omega)).trans (hb.mono (Nat.le_trans (by simp; omega) HB1.out.size))))
  clear hb hT1 hT2 hrp hrp2 hrq hrq2 HC HB1
  go_wp2_with fail
  refine (eqStrs_any rp cp w.heap.size rq cq (w.heap.size + 1) t.s u.s _ HCB HD HS1 HS2).mono ?_
  rintro e wC ⟨b, rfl, hbe, hb⟩
  have HB3 := Lib.hid (HBB.out.trans (hb.mono HBB.out.size))
  cases b with
  | true => exact absurd (hbe.out.1 rfl) HN.out
  | false =>
    go_wp2
    go_ret
    exact ⟨_, rfl, Lib.hid ⟨(fun h => by cases h), False.elim⟩, HB3.out⟩

set_option maxRecDepth 100000 in
set_option maxHeartbeats 4000000 in
theorem same_any (P : Nat → Prop) (t u : Tb) (v1 v2 v3 v4 v5 v6 u1 u2 u3 u4 u5 u6 : Value) (w : World) (hI : TbS P w t v1 v2 v3 v4 v5 v6) (hJ : TbS P w u u1 u2 u3 u4 u5 u6) (hf : t.fit) (hg : u.fit) :
    Calls Try.prog 28 #[tbV t.s t.grp v1 v2 v3 v4 v5 v6, tbV u.s u.grp u1 u2 u3 u4 u5 u6] w (EqPost (TbEq t u) w) := by
  by_cases hne : ¬ StrsEq t.s u.s
  · refine (same_early t u _ _ _ _ _ _ _ _ _ _ _ _ w hne).mono ?_
    rintro e w1 ⟨b, he, hb, hw⟩
    exact ⟨b, he, Lib.hid ⟨fun h => (hb.out.1 h).elim, fun h => absurd h.s hne⟩, hw⟩
  have hne := Classical.not_not.1 hne
  have HN := Lib.hid hne
  have HI := Lib.hid hI
  have HJ := Lib.hid hJ
  have HF := Lib.hid hf
  have HG := Lib.hid hg
  obtain ⟨a1, c1, rfl⟩ := hI.short.len
  obtain ⟨b1, d1, rfl⟩ := hJ.short.len
  obtain ⟨a2, c2, rfl⟩ := hI.long.len
  obtain ⟨b2, d2, rfl⟩ := hJ.long.len
  obtain ⟨a3, c3, rfl⟩ := hI.mshort.len
  obtain ⟨b3, d3, rfl⟩ := hJ.mshort.len
  obtain ⟨a4, c4, rfl⟩ := hI.curs.len
  obtain ⟨b4, d4, rfl⟩ := hJ.curs.len
  obtain ⟨a5, c5, rfl⟩ := hI.units.len
  obtain ⟨b5, d5, rfl⟩ := hJ.units.len
  obtain ⟨a6, c6, rfl⟩ := hI.munit.len
  obtain ⟨b6, d6, rfl⟩ := hJ.munit.len
  clear hI hJ hf hg hne
  unfold tbV tbC
  go_enter Try.func28, Try.ntmps28
  go_wp2_with fail
  refine (texts27_any _ _).mono ?_
  rintro e wA ⟨rp, cp, rfl, hrp, hrp2, HC, hb⟩
  have HB1 := Lib.hid hb
  clear hb
  go_wp2_with fail
  refine (texts27_any _ _).mono ?_
  rintro e wB ⟨rq, cq, rfl, hrq, hrq2, HD, hb⟩
  have hT1 := hb.block _ (Nat.lt_of_lt_of_le (by simp; omega) HB1.out.size) |>.trans ((HB1.out.block _ (by simp; omega)).trans (heap_two w (.cells (tbC t.s t.grp (.slice a1 t.short.length c1) (.slice a2 t.long.length c2) (.slice a3 t.mshort.length c3) (.slice a4 t.curs.length c4) (.slice a5 t.units.length c5) (.slice a6 t.munit.length c6)) 55) (.cells (tbC u.s u.grp (.slice b1 u.short.length d1) (.slice b2 u.long.length d2) (.slice b3 u.mshort.length d3) (.slice b4 u.curs.length d4) (.slice b5 u.units.length d5) (.slice b6 u.munit.length d6)) 55)))
  have hT2 := hb.block (w.heap.size + 1) (Nat.lt_of_lt_of_le (by simp) HB1.out.size) |>.trans ((HB1.out.block _ (by simp)).trans (heap_two2 w (.cells (tbC t.s t.grp (.slice a1 t.short.length c1) (.slice a2 t.long.length c2) (.slice a3 t.mshort.length c3) (.slice a4 t.curs.length c4) (.slice a5 t.units.length c5) (.slice a6 t.munit.length c6)) 55) (.cells (tbC u.s u.grp (.slice b1 u.short.length d1) (.slice b2 u.long.length d2) (.slice b3 u.mshort.length d3) (.slice b4 u.curs.length d4) (.slice b5 u.units.length d5) (.slice b6 u.munit.length d6)) 55)))
  have HS1 : Hid (∀ i, i < 27 → wB.cell? ⟨w.heap.size, pl i, none⟩ = some (.string (t.s i))) := Lib.hid (fun i h => cell_of hT1 (tbC_pl _ _ _ _ _ _ _ _ i h))
  have HS2 : Hid (∀ i, i < 27 → wB.cell? ⟨w.heap.size + 1, pl i, none⟩ = some (.string (u.s i))) := Lib.hid (fun i h => cell_of hT2 (tbC_pl _ _ _ _ _ _ _ _ i h))
  have HCB : Hid (∀ i, i < 27 → wB.cell? ⟨rp, i, none⟩ = some (.pointer (some ⟨w.heap.size, pl i, none⟩))) := Lib.hid (fun i h => (hb.cell (p := ⟨rp, i, none⟩) hrp2).trans (HC.out i h))
  have HTT := Lib.hid (And.intro hT1 hT2)
  have HBB := Lib.hid ((((Below.refl w.heap.size w).alloc (Nat.le_refl _) (.cells (tbC t.s t.grp (.slice a1 t.short.length c1) (.slice a2 t.long.length c2) (.slice a3 t.mshort.length c3) (.slice a4 t.curs.length c4) (.slice a5 t.units.length c5) (.slice a6 t.munit.length c6)) 55)).alloc (by simp) (.cells (tbC u.s u.grp (.slice b1 u.short.length d1) (.slice b2 u.long.length d2) (.slice b3 u.mshort.length d3) (.slice b4 u.curs.length d4) (.slice b5 u.units.length d5) (.slice b6 u.munit.length d6)) 55)).trans ((HB1.out.mono (by simp; omega)).trans (hb.mono (Nat.le_trans (by simp; omega) HB1.out.size))))
  clear hb hT1 hT2 hrp hrp2 hrq hrq2 HC HB1
  go_wp2_with fail
  refine (eqStrs_any rp cp w.heap.size rq cq (w.heap.size + 1) t.s u.s _ HCB HD HS1 HS2).mono ?_
  rintro e wC ⟨b, rfl, hbe, hb⟩
  have HB3 := Lib.hid (HBB.out.trans (hb.mono HBB.out.size))
  cases b with
  | false => exact absurd HN.out (fun h => by have := hbe.out.2 h; cases this)
  | true =>
    clear hbe HCB HD HS1 HS2 HBB
    have HT1 := Lib.hid (heapB hb HTT.out.1)
    have HT2 := Lib.hid (heapB hb HTT.out.2)
    clear HTT hb
    obtain ⟨p7, p12, p13, p14, p15, p16, p17, p18⟩ := tb_cells HT1.out
    obtain ⟨q7, q12, q13, q14, q15, q16, q17, q18⟩ := tb_cells HT2.out
    by_cases hgr : ¬ t.grp = u.grp
    · have e1 : (t.grp == u.grp) = false := by simp [hgr]
      have e2 : (t.grp != u.grp) = true := by simp [hgr]
      have HGR := Lib.hid hgr
      clear hgr
      go_wp2
      go_ret
      exact ⟨_, rfl, Lib.hid ⟨(fun h => by cases h), fun h => absurd h.grp HGR.out⟩, HB3.out⟩
    have hgr := Classical.not_not.1 hgr
    have HGR := Lib.hid hgr
    have e1 : (t.grp == u.grp) = true := by simp [hgr]
    have e2 : (t.grp != u.grp) = false := by simp [hgr]
    clear hgr
    go_wp2_with fail
    refine (sameRows_any P _ _ _ _ _ (HI.out.short.same (Same.below HB3.out)) (HJ.out.short.same (Same.below HB3.out)) HF.out.short HG.out.short).mono ?_
    rintro e wD0 ⟨b, rfl, hbe, hb⟩
    have HBD0 := Lib.hid (HB3.out.trans (hb.mono HB3.out.size))
    have HU1 := Lib.hid (heapB hb HT1.out)
    have HV1 := Lib.hid (heapB hb HT2.out)
    clear hb p7 p12 p13 p14 p15 p16 p17 p18 q7 q12 q13 q14 q15 q16 q17 q18
    obtain ⟨p7, p12, p13, p14, p15, p16, p17, p18⟩ := tb_cells HU1.out
    obtain ⟨q7, q12, q13, q14, q15, q16, q17, q18⟩ := tb_cells HV1.out
    cases b with
    | false =>
      go_wp2
      go_ret
      exact ⟨_, rfl, Lib.hid ⟨(fun h => by cases h), fun h => hbe.out.2 h.short⟩, HBD0.out⟩
    | true =>
      have HE0 := Lib.hid (hbe.out.1 rfl)
      clear hbe
      go_wp2_with fail
      refine (sameRows_any P _ _ _ _ _ (HI.out.long.same (Same.below HBD0.out)) (HJ.out.long.same (Same.below HBD0.out)) HF.out.long HG.out.long).mono ?_
      rintro e wD1 ⟨b, rfl, hbe, hb⟩
      have HBD1 := Lib.hid (HBD0.out.trans (hb.mono HBD0.out.size))
      have HU2 := Lib.hid (heapB hb HU1.out)
      have HV2 := Lib.hid (heapB hb HV1.out)
      clear hb p7 p12 p13 p14 p15 p16 p17 p18 q7 q12 q13 q14 q15 q16 q17 q18
      obtain ⟨p7, p12, p13, p14, p15, p16, p17, p18⟩ := tb_cells HU2.out
      obtain ⟨q7, q12, q13, q14, q15, q16, q17, q18⟩ := tb_cells HV2.out
      cases b with
      | false =>
        go_wp2
        go_ret
        exact ⟨_, rfl, Lib.hid ⟨(fun h => by cases h), fun h => hbe.out.2 h.long⟩, HBD1.out⟩
      | true =>
        have HE1 := Lib.hid (hbe.out.1 rfl)
        clear hbe
        go_wp2_with fail
        refine (sameRows_any P _ _ _ _ _ (HI.out.mshort.same (Same.below HBD1.out)) (HJ.out.mshort.same (Same.below HBD1.out)) HF.out.mshort HG.out.mshort).mono ?_
        rintro e wD2 ⟨b, rfl, hbe, hb⟩
        have HBD2 := Lib.hid (HBD1.out.trans (hb.mono HBD1.out.size))
        have HU3 := Lib.hid (heapB hb HU2.out)
        have HV3 := Lib.hid (heapB hb HV2.out)
        clear hb p7 p12 p13 p14 p15 p16 p17 p18 q7 q12 q13 q14 q15 q16 q17 q18
        obtain ⟨p7, p12, p13, p14, p15, p16, p17, p18⟩ := tb_cells HU3.out
        obtain ⟨q7, q12, q13, q14, q15, q16, q17, q18⟩ := tb_cells HV3.out
        cases b with
        | false =>
          go_wp2
          go_ret
          exact ⟨_, rfl, Lib.hid ⟨(fun h => by cases h), fun h => hbe.out.2 h.mshort⟩, HBD2.out⟩
        | true =>
          have HE2 := Lib.hid (hbe.out.1 rfl)
          clear hbe
          go_wp2_with fail
          refine (eqTexts_any P _ _ _ _ _ (HI.out.munit.same (Same.below HBD2.out)) (HJ.out.munit.same (Same.below HBD2.out)) HF.out.munit.1 HG.out.munit.1).mono ?_
          rintro e wD3 ⟨b, rfl, hbe, hb⟩
          have HBD3 := Lib.hid (HBD2.out.trans (hb.mono HBD2.out.size))
          have HU4 := Lib.hid (heapB hb HU3.out)
          have HV4 := Lib.hid (heapB hb HV3.out)
          clear hb p7 p12 p13 p14 p15 p16 p17 p18 q7 q12 q13 q14 q15 q16 q17 q18
          obtain ⟨p7, p12, p13, p14, p15, p16, p17, p18⟩ := tb_cells HU4.out
          obtain ⟨q7, q12, q13, q14, q15, q16, q17, q18⟩ := tb_cells HV4.out
          cases b with
          | false =>
            go_wp2
            go_ret
            exact ⟨_, rfl, Lib.hid ⟨(fun h => by cases h), fun h => hbe.out.2 h.munit⟩, HBD3.out⟩
          | true =>
            have HE3 := Lib.hid (hbe.out.1 rfl)
            clear hbe
            go_wp2_with fail
            refine (eqCurs_any P _ _ _ _ _ (HI.out.curs.same (Same.below HBD3.out)) (HJ.out.curs.same (Same.below HBD3.out)) HF.out.curs HG.out.curs).mono ?_
            rintro e wD4 ⟨b, rfl, hbe, hb⟩
            have HBD4 := Lib.hid (HBD3.out.trans (hb.mono HBD3.out.size))
            have HU5 := Lib.hid (heapB hb HU4.out)
            have HV5 := Lib.hid (heapB hb HV4.out)
            clear hb p7 p12 p13 p14 p15 p16 p17 p18 q7 q12 q13 q14 q15 q16 q17 q18
            obtain ⟨p7, p12, p13, p14, p15, p16, p17, p18⟩ := tb_cells HU5.out
            obtain ⟨q7, q12, q13, q14, q15, q16, q17, q18⟩ := tb_cells HV5.out
            cases b with
            | false =>
              go_wp2
              go_ret
              exact ⟨_, rfl, Lib.hid ⟨(fun h => by cases h), fun h => hbe.out.2 h.curs⟩, HBD4.out⟩
            | true =>
              have HE4 := Lib.hid (hbe.out.1 rfl)
              clear hbe
              go_wp2_with fail
              refine (eqUnits_any P _ _ _ _ _ (HI.out.units.same (Same.below HBD4.out)) (HJ.out.units.same (Same.below HBD4.out)) HF.out.units HG.out.units).mono ?_
              rintro e wD5 ⟨b, rfl, hbe, hb⟩
              have HBD5 := Lib.hid (HBD4.out.trans (hb.mono HBD4.out.size))
              go_wp2
              go_ret
              exact ⟨_, rfl, Lib.hid ⟨fun h => ⟨HN.out, HGR.out, HE0.out, HE1.out, HE2.out, HE4.out, hbe.out.1 h, HE3.out⟩, fun h => hbe.out.2 h.units⟩, HBD5.out⟩
end Go.Proofs.Ytikkakbemphdhaa
