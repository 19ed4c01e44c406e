/- The walk of Plain. -/
import Derived.Test.YtikkakbemphdhaaTa2
set_option linter.unusedSimpArgs false
set_option linter.unusedVariables false
namespace Go.Proofs.Ytikkakbemphdhaa
open Go.RowKit Go.Fl

def Cu.ok (c : Cu) : Prop := c.code.size + c.sym.size + c.nar.size ≤ 200 ∧ TxsOk c.names ∧ 0 ≤ c.d0 ∧ 0 ≤ c.d1 ∧ 0 ≤ c.d2 ∧ 0 ≤ c.d3
def Un.ok (u : Un) : Prop := u.name.size ≤ 200 ∧ TxsOk u.texts
structure Tb.ok (t : Tb) : Prop where
  s : ∀ i, i < 27 → (t.s i).size ≤ 5000
  grp : 0 ≤ t.grp
  short : RwsOk t.short
  long : RwsOk t.long
  mshort : RwsOk t.mshort
  curs : t.curs.length ≤ 50 ∧ ∀ c ∈ t.curs, c.ok
  units : t.units.length ≤ 50 ∧ ∀ u ∈ t.units, u.ok
  munit : TxsOk t.munit


/-- the signs' array. -/
def ten (s : Nat → ByteArray) : Array Value := #[.string (s 0), .string (s 1), .string (s 2), .string (s 3), .string (s 4), .string (s 5), .string (s 6), .string (s 7), .string (s 8), .string (s 9)]
theorem ten_get (s : Nat → ByteArray) (i : Nat) (hi : i < 10) : (ten s)[i]? = some (.string (s i)) := by
  have : i = 0 ∨ i = 1 ∨ i = 2 ∨ i = 3 ∨ i = 4 ∨ i = 5 ∨ i = 6 ∨ i = 7 ∨ i = 8 ∨ i = 9 := by omega
  rcases this with h|h|h|h|h|h|h|h|h|h <;> subst h <;> rfl
theorem idx_any (s : Nat → ByteArray) (i : Nat) (hi : i < 10) (W : World) : (Instr.index 47 (.agg (ten s)) (.int .i64 (i : Int))).run Try.prog W = .ok (.string (s i)) W := by
  have h2 := ten_get s i hi
  have hn : 0 ≤ (i : Int) ∧ (i : Int) < ((10 : Nat) : Int) := by omega
  simp [Instr.index, run_underlying Try.underlying47, asIntOf, hi, h2, go_sem]
/-- Plain's sixteen texts. -/
def p16 (i : Nat) : Nat := if i < 10 then 10 + i else 11 + i
def six (s : Nat → ByteArray) : Array Value := #[.string (s 10), .string (s 11), .string (s 12), .string (s 13), .string (s 14), .string (s 15), .string (s 16), .string (s 17), .string (s 18), .string (s 19),
  .string (s 21), .string (s 22), .string (s 23), .string (s 24), .string (s 25), .string (s 26)]
theorem six_get (s : Nat → ByteArray) (i : Nat) (hi : i < 16) : (six s)[i]? = some (.string (s (p16 i))) := by
  have : i = 0 ∨ i = 1 ∨ i = 2 ∨ i = 3 ∨ i = 4 ∨ i = 5 ∨ i = 6 ∨ i = 7 ∨ i = 8 ∨ i = 9 ∨ i = 10 ∨ i = 11 ∨ i = 12 ∨ i = 13 ∨ i = 14 ∨ i = 15 := by omega
  rcases this with h|h|h|h|h|h|h|h|h|h|h|h|h|h|h|h <;> subst h <;> rfl

set_option maxRecDepth 100000 in
set_option maxHeartbeats 4000000 in
theorem plain_any (P : Nat → Prop) (t : Tb) (v1 v2 v3 v4 v5 v6 : Value) (w : World) (hI : TbS P w t v1 v2 v3 v4 v5 v6) (hf : t.fit) :
    Calls Try.prog 24 #[tbV t.s t.grp v1 v2 v3 v4 v5 v6] w (OkPost t.ok w) := by
  have HI := Lib.hid hI
  have HF := Lib.hid hf
  have hs := Lib.hid hf.s
  obtain ⟨a1, c1, rfl⟩ := hI.short.len
  obtain ⟨a2, c2, rfl⟩ := hI.long.len
  obtain ⟨a3, c3, rfl⟩ := hI.mshort.len
  obtain ⟨a4, c4, rfl⟩ := hI.curs.len
  obtain ⟨a5, c5, rfl⟩ := hI.units.len
  obtain ⟨a6, c6, rfl⟩ := hI.munit.len
  have l1 := hf.short.1
  have l2 := hf.long.1
  have l3 := hf.mshort.1
  have l4 := hf.curs.1
  have l5 := hf.units.1
  have l6 := hf.munit.1
  have lg := hf.grp
  clear hI hf
  have Hget := fun i hi => Lib.hid (idx_any t.s i hi)
  unfold tbV tbC
  unfold ten at Hget
  go_enter Try.func24, Try.ntmps24
  go_wp2
  go_loop [13] (fun v => ∃ (j : Nat), v = .int .i64 j ∧ j ≤ 10 ∧ Hid (∀ i, i < j → (t.s i).size ≤ 200)) (fun v => 100 - (intOf v).toNat)
  case atStart => exact ⟨0, rfl, by omega, Lib.hid (fun i h => by omega)⟩
  case round =>
    obtain ⟨j, rfl, hj, HL⟩ := hrel
    by_cases hjl : j < 10
    · have hgi := (Hget j hjl).out
      have hsz := hs.out j
      by_cases h2 : 200 < (t.s j).size
      · go_wp2
        go_ret
        exact ⟨false, rfl, by simp, (Below.refl _ _).alloc (Nat.le_refl _) _⟩
      · go_wp2
        go_round
        case measure => simp [intOf]; omega
        case rel => exact ⟨j + 1, rfl, by omega, Lib.hid fun i hi => by
            by_cases e : i = j
            · subst e; omega
            · exact HL.out i (by omega)⟩
    · obtain rfl : j = 10 := by omega
      clear hj hjl Hget
      go_wp2
      go_loopg [60] 16 (fun gk v wr => ∃ (j : Nat), v = .int .i64 j ∧ j + gk = 16 ∧ Hid (∀ i, i < j → (t.s (p16 i)).size ≤ 200) ∧ Hid (∀ i, i < 16 → wr.cell? ⟨w.heap.size + 1, i, none⟩ = some (.string (t.s (p16 i)))) ∧
        Hid (wr.heap[w.heap.size]? = some (.cells (tbC t.s t.grp (.slice a1 t.short.length c1) (.slice a2 t.long.length c2) (.slice a3 t.mshort.length c3) (.slice a4 t.curs.length c4) (.slice a5 t.units.length c5) (.slice a6 t.munit.length c6)) 55 (0, 0))) ∧ Below w.heap.size w wr)
      case atStart => exact ⟨0, rfl, by omega, Lib.hid (fun i h => by omega), Lib.hid (fun i h => cell_two w (six_get t.s i h)), Lib.hid (heap_two w _ _), ((Below.refl _ _).alloc (Nat.le_refl _) _).alloc (by simp) _⟩
      case round =>
        obtain ⟨j, rfl, hj, HL2, HC, HT, hbr⟩ := hrel
        by_cases hjl : j < 16
        · have hc := HC.out j hjl
          have hsz := hs.out (p16 j)
          by_cases h2 : 200 < (t.s (p16 j)).size
          · go_wp2
            go_ret
            exact ⟨false, rfl, by simp, hbr⟩
          · go_wp2
            go_roundg (gk - 1)
            case measure => omega
            case rel => exact ⟨j + 1, rfl, by omega, Lib.hid fun i hi => by
                by_cases e : i = j
                · subst e; omega
                · exact HL2.out i (by omega), HC, HT, hbr⟩
        · obtain rfl : j = 16 := by omega
          clear hj hjl HC
          obtain ⟨hc7, hc12, hc13, hc14, hc15, hc16, hc17, hc18⟩ := tb_cells HT.out
          have hs12 := hs.out 20
          by_cases hg : t.grp < 0
          · go_wp2
            go_ret
            exact ⟨false, rfl, by simp, hbr⟩
          by_cases h20 : 5000 < (t.s 20).size
          · go_wp2
            go_ret
            exact ⟨false, rfl, by simp, hbr⟩
          go_wp2_with fail
          refine (rows_any P _ _ _ (HI.out.short.same (Same.below hbr)) HF.out.short).mono ?_
          rintro e wa0 ⟨f, rfl, hfa, hba⟩
          have HT1 := Lib.hid ((hba.block _ (lt_of_heap HT.out)).trans HT.out)
          have hbr1 := hbr.trans (hba.mono hbr.size)
          clear hba hc16 hc17 hc18 hc15 hc14 hc13 hc7 hc12
          obtain ⟨hc7, hc12, hc13, hc14, hc15, hc16, hc17, hc18⟩ := tb_cells HT1.out
          cases f with
          | false =>
            go_wp2
            go_ret
            exact ⟨false, rfl, by simp, hbr1⟩
          | true =>
            have HK1 := Lib.hid (hfa rfl)
            clear hfa
            go_wp2_with fail
            refine (rows_any P _ _ _ (HI.out.long.same (Same.below hbr1)) HF.out.long).mono ?_
            rintro e wa1 ⟨f, rfl, hfa, hba⟩
            have HT2 := Lib.hid ((hba.block _ (lt_of_heap HT1.out)).trans HT1.out)
            have hbr2 := hbr1.trans (hba.mono hbr1.size)
            clear hba hc16 hc17 hc18 hc15 hc14 hc13 hc7 hc12
            obtain ⟨hc7, hc12, hc13, hc14, hc15, hc16, hc17, hc18⟩ := tb_cells HT2.out
            cases f with
            | false =>
              go_wp2
              go_ret
              exact ⟨false, rfl, by simp, hbr2⟩
            | true =>
              have HK2 := Lib.hid (hfa rfl)
              clear hfa
              go_wp2_with fail
              refine (rows_any P _ _ _ (HI.out.mshort.same (Same.below hbr2)) HF.out.mshort).mono ?_
              rintro e wa2 ⟨f, rfl, hfa, hba⟩
              have HT3 := Lib.hid ((hba.block _ (lt_of_heap HT2.out)).trans HT2.out)
              have hbr3 := hbr2.trans (hba.mono hbr2.size)
              clear hba hc16 hc17 hc18 hc15 hc14 hc13 hc7 hc12
              obtain ⟨hc7, hc12, hc13, hc14, hc15, hc16, hc17, hc18⟩ := tb_cells HT3.out
              cases f with
              | false =>
                go_wp2
                go_ret
                exact ⟨false, rfl, by simp, hbr3⟩
              | true =>
                have HK3 := Lib.hid (hfa rfl)
                clear hfa
                go_wp2_with fail
                refine (texts_any P _ _ _ (HI.out.munit.same (Same.below hbr3)) HF.out.munit).mono ?_
                rintro e wa3 ⟨f, rfl, hfa, hba⟩
                have HT4 := Lib.hid ((hba.block _ (lt_of_heap HT3.out)).trans HT3.out)
                have hbr4 := hbr3.trans (hba.mono hbr3.size)
                clear hba hc16 hc17 hc18 hc15 hc14 hc13 hc7 hc12
                obtain ⟨hc7, hc12, hc13, hc14, hc15, hc16, hc17, hc18⟩ := tb_cells HT4.out
                cases f with
                | false =>
                  go_wp2
                  go_ret
                  exact ⟨false, rfl, by simp, hbr4⟩
                | true =>
                  have HK4 := Lib.hid (hfa rfl)
                  clear hfa
                  by_cases h4 : 50 < t.curs.length
                  · go_wp2
                    go_ret
                    exact ⟨false, rfl, by simp, hbr4⟩
                  by_cases h5 : 50 < t.units.length
                  · go_wp2
                    go_ret
                    exact ⟨false, rfl, by simp, hbr4⟩
                  go_wp2
                  go_loopg [116] t.curs.length (fun gk v wr => ∃ (j : Nat), v = .int .i64 j ∧ j + gk = t.curs.length ∧ Hid (∀ i, (h : i < t.curs.length) → i < j → t.curs[i].ok) ∧
                    Hid (wr.heap[w.heap.size]? = some (.cells (tbC t.s t.grp (.slice a1 t.short.length c1) (.slice a2 t.long.length c2) (.slice a3 t.mshort.length c3) (.slice a4 t.curs.length c4) (.slice a5 t.units.length c5) (.slice a6 t.munit.length c6)) 55 (0, 0))) ∧ Below w.heap.size w wr)
                  case atStart => exact ⟨0, rfl, by omega, Lib.hid (fun i _ h => by omega), HT4, hbr4⟩
                  case round =>
                    obtain ⟨j, rfl, hj, HLc, HT5, hb5⟩ := hrel
                    clear hc16 hc17 hc18 hc15 hc14 hc13 hc7 hc12
                    obtain ⟨hc7, hc12, hc13, hc14, hc15, hc16, hc17, hc18⟩ := tb_cells HT5.out
                    by_cases hjl : j < t.curs.length
                    · obtain ⟨b, off, rfl, hp, hbb, hd0, hd1, hd2, hd4, hd5, hd6, hd7, tv, hd3, hT⟩ := HI.out.curs.el j hjl
                      have hw0 := (hb5.cell (p := ⟨b, off + j * 8, none⟩) hbb).trans hd0
                      have hw1 := (hb5.cell (p := ⟨b, off + j * 8 + 1, none⟩) hbb).trans hd1
                      have hw2 := (hb5.cell (p := ⟨b, off + j * 8 + 2, none⟩) hbb).trans hd2
                      have hw3 := (hb5.cell (p := ⟨b, off + j * 8 + 3, none⟩) hbb).trans hd3
                      have hw4 := (hb5.cell (p := ⟨b, off + j * 8 + 4, none⟩) hbb).trans hd4
                      have hw5 := (hb5.cell (p := ⟨b, off + j * 8 + 5, none⟩) hbb).trans hd5
                      have hw6 := (hb5.cell (p := ⟨b, off + j * 8 + 6, none⟩) hbb).trans hd6
                      have hw7 := (hb5.cell (p := ⟨b, off + j * 8 + 7, none⟩) hbb).trans hd7
                      clear hd0 hd1 hd2 hd3 hd4 hd5 hd6 hd7
                      obtain ⟨ta, tc, rfl⟩ := hT.len
                      have HT' := Lib.hid hT
                      obtain ⟨f0, f1, f2, ff, f4, f5, f6, f7⟩ := HF.out.curs.2 t.curs[j] (List.getElem_mem _)
                      have FF := Lib.hid ff
                      clear hT ff
                      by_cases g1 : 200 < t.curs[j].code.size + t.curs[j].sym.size + t.curs[j].nar.size
                      · go_wp2
                        go_ret
                        exact ⟨false, rfl, by simp, hb5.alloc hb5.size _⟩
                      go_wp2_with fail
                      refine (texts_any P _ _ _ (HT'.out.same (Same.below (hb5.alloc hb5.size _))) FF.out).mono ?_
                      rintro e wa ⟨f, rfl, hfa, hba⟩
                      have hb6 := (hb5.alloc hb5.size _).trans (hba.mono (Nat.le_trans hb5.size (by simp)))
                      have HT6 := Lib.hid ((hba.block _ (lt_of_heap ((Below.heap_alloc _ _ _ (lt_of_heap HT5.out)).trans HT5.out))).trans ((Below.heap_alloc _ _ _ (lt_of_heap HT5.out)).trans HT5.out))
                      have hbx := hba.block wr.heap.size (by simp)
                      have hn := heap_alloc_new wr (.cells #[.string t.curs[j].code, .string t.curs[j].sym, .string t.curs[j].nar, .slice ta t.curs[j].names.length tc, .int .i64 t.curs[j].d0, .int .i64 t.curs[j].d1, .int .i64 t.curs[j].d2, .int .i64 t.curs[j].d3] 64)
                      have hn2 := hbx.trans hn
                      have k4 : wa.cell? ⟨wr.heap.size, 4, none⟩ = some (.int .i64 t.curs[j].d0) := cell_of hn2 rfl
                      have k5 : wa.cell? ⟨wr.heap.size, 5, none⟩ = some (.int .i64 t.curs[j].d1) := cell_of hn2 rfl
                      have k6 : wa.cell? ⟨wr.heap.size, 6, none⟩ = some (.int .i64 t.curs[j].d2) := cell_of hn2 rfl
                      have k7 : wa.cell? ⟨wr.heap.size, 7, none⟩ = some (.int .i64 t.curs[j].d3) := cell_of hn2 rfl
                      clear hba hbx hn hn2 hc16 hc17 hc18 hc15 hc14 hc13 hc7 hc12 hw0 hw1 hw2 hw3 hw4 hw5 hw6 hw7
                      cases f with
                      | false =>
                        go_wp2
                        go_ret
                        exact ⟨false, rfl, by simp, hb6⟩
                      | true =>
                        have HN := Lib.hid (hfa rfl)
                        clear hfa
                        by_cases g4 : t.curs[j].d0 < 0
                        · go_wp2
                          go_ret
                          exact ⟨false, rfl, by simp, hb6⟩
                        by_cases g5 : t.curs[j].d1 < 0
                        · go_wp2
                          go_ret
                          exact ⟨false, rfl, by simp, hb6⟩
                        by_cases g6 : t.curs[j].d2 < 0
                        · go_wp2
                          go_ret
                          exact ⟨false, rfl, by simp, hb6⟩
                        by_cases g7 : t.curs[j].d3 < 0
                        · go_wp2
                          go_ret
                          exact ⟨false, rfl, by simp, hb6⟩
                        go_wp2
                        go_roundg (gk - 1)
                        case measure => omega
                        case rel => exact ⟨j + 1, rfl, by omega, Lib.hid (fun i hi hij => by
                            by_cases e : i = j
                            · subst e; exact ⟨by omega, HN.out, by omega, by omega, by omega, by omega⟩
                            · exact HLc.out i hi (by omega)), HT6, hb6⟩
                    · obtain rfl : j = t.curs.length := by omega
                      clear hj hjl
                      go_wp2
                      go_loopg [162] t.units.length (fun gk v wr => ∃ (j : Nat), v = .int .i64 j ∧ j + gk = t.units.length ∧ Hid (∀ i, (h : i < t.units.length) → i < j → t.units[i].ok) ∧ Below w.heap.size w wr)
                      case atStart => exact ⟨0, rfl, by omega, Lib.hid (fun i _ h => by omega), hb5⟩
                      case round =>
                        obtain ⟨j, rfl, hj, HLu, hb6⟩ := hrel
                        by_cases hjl : j < t.units.length
                        · obtain ⟨b, off, rfl, hp, hbb, hd0, tv, hd1, hT⟩ := HI.out.units.el j hjl
                          have hw0 := (hb6.cell (p := ⟨b, off + j * 2, none⟩) hbb).trans hd0
                          have hw1 := (hb6.cell (p := ⟨b, off + j * 2 + 1, none⟩) hbb).trans hd1
                          clear hd0 hd1
                          obtain ⟨ta, tc, rfl⟩ := hT.len
                          have HT' := Lib.hid hT
                          obtain ⟨f0, ff⟩ := HF.out.units.2 t.units[j] (List.getElem_mem _)
                          have FF := Lib.hid ff
                          clear hT ff
                          by_cases g1 : 200 < t.units[j].name.size
                          · go_wp2
                            go_ret
                            exact ⟨false, rfl, by simp, hb6.alloc hb6.size _⟩
                          go_wp2_with fail
                          refine (texts_any P _ _ _ (HT'.out.same (Same.below (hb6.alloc hb6.size _))) FF.out).mono ?_
                          rintro e wa ⟨f, rfl, hfa, hba⟩
                          have hb7 := (hb6.alloc hb6.size _).trans (hba.mono (Nat.le_trans hb6.size (by simp)))
                          clear hba
                          cases f with
                          | false =>
                            go_wp2
                            go_ret
                            exact ⟨false, rfl, by simp, hb7⟩
                          | true =>
                            have HN := Lib.hid (hfa rfl)
                            clear hfa
                            go_wp2
                            go_roundg (gk - 1)
                            case measure => omega
                            case rel => exact ⟨j + 1, rfl, by omega, Lib.hid (fun i hi hij => by
                                by_cases e : i = j
                                · subst e; exact ⟨by omega, HN.out⟩
                                · exact HLu.out i hi (by omega)), hb7⟩
                        · obtain rfl : j = t.units.length := by omega
                          go_wp2
                          go_ret
                          refine ⟨true, rfl, fun _ => ⟨?_, by omega, HK1.out, HK2.out, HK3.out, ⟨by omega, ?_⟩, ⟨by omega, ?_⟩, HK4.out⟩, hb6⟩
                          · intro i hi
                            by_cases e1 : i < 10
                            · have := HL.out i e1; omega
                            by_cases e2 : i < 20
                            · have := HL2.out (i - 10) (by omega)
                              unfold p16 at this
                              rw [if_pos (by omega), show 10 + (i - 10) = i by omega] at this
                              omega
                            by_cases e3 : i = 20
                            · subst e3; omega
                            have := HL2.out (i - 11) (by omega)
                            unfold p16 at this
                            rw [if_neg (by omega), show 11 + (i - 11) = i by omega] at this
                            omega
                          · intro x hx
                            obtain ⟨i, hi, rfl⟩ := List.mem_iff_getElem.1 hx
                            exact HLc.out i hi hi
                          · intro x hx
                            obtain ⟨i, hi, rfl⟩ := List.mem_iff_getElem.1 hx
                            exact HLu.out i hi hi
end Go.Proofs.Ytikkakbemphdhaa
