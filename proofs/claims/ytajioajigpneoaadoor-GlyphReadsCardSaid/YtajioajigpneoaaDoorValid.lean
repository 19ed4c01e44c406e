/- (Set).Valid. -/
import Derived.Test.YtajioajigpneoaaDoorWrite
set_option linter.unusedSimpArgs false
set_option linter.unusedVariables false
namespace Go.Proofs.YtajioajigpneoaaDoor
open Go.RowKit Go.Fl Go.Shelf

def oneB (s : ByteArray) : Bool := valid s && decide (Lib.runeCount s = 1)
/-- signs may stand for digits. -/
def VG (G : Nat → ByteArray) : Prop := ∀ i, i < 10 → oneB (G i) = true ∧ ∀ j, j < i → G i ≠ G j
def ValidPost (G : Nat → ByteArray) (w : World) (e : Ending) (w' : World) : Prop := ∃ r : Bool, e = .returned (.bool r) ∧ (r = true ↔ VG G) ∧ Below w.heap.size w w'

theorem ba_ne {g h : ByteArray} (e : ¬ g = h) : (g.toList == h.toList) = false := by
  rw [beq_eq_false_iff_ne, Lib.toList_data, Lib.toList_data]
  intro hl
  refine e (ByteArray.ext ?_)
  exact Array.ext' hl
theorem len33 : Tryd.prog.arrayLen 33 = 10 := by kernel_rfl
theorem elem33 : Tryd.prog.elem 33 = 9 := by kernel_rfl
theorem sl_any (B i : Nat) (hi : i ≤ 10) (W : World) : (Instr.sliceAt 33 (.pointer (some ⟨B, 0, none⟩)) none (some (.int .i64 (i : Int))) none).run Tryd.prog W = .ok (.slice (some ⟨B, 0, none⟩) i 10) W := by
  rw [run_sliceAt_array_h W 33 ⟨B, 0, none⟩ (by rw [len33, elem33]; exact Tryd.underlying33) .i64 (i : Int) (by omega) (by rw [len33]; omega), len33, elem33]
  simp [go_sem, slicedAt, Addr.add]

set_option maxRecDepth 100000 in
set_option maxHeartbeats 2000000 in
theorem gvalid_any (G : Nat → ByteArray) (w : World) (hG : ∀ i, i < 10 → (G i).size ≤ 1000) (hT : Tabs w) : Calls Tryd.prog 19 #[.agg (arr G)] w (ValidPost G w) := by
  have HG := Lib.hid hG
  have HT := Lib.hid hT
  have HX0 := Lib.hid (heap_alloc_new w (.cells (arr G) 33))
  have Hget := fun i hi => Lib.hid (idx_any G i hi)
  clear hG hT
  unfold arr at Hget ⊢
  go_enter Tryd.func19, Tryd.ntmps19
  go_wp2
  go_loopg [3, 4, 8] 10 (fun gk a b v wr => ∃ i : Nat, v = .int .i64 i ∧ Hid (i + gk = 10) ∧ Hid (∀ k, k < i → oneB (G k) = true ∧ ∀ j, j < k → G k ≠ G j) ∧ Hid (wr.heap[w.heap.size]? = some (.cells (arr G) 33 (0, 0))) ∧ Hid (Below w.heap.size w wr))
  case atStart => exact ⟨0, rfl, Lib.hid (by omega), Lib.hid (fun k h => by omega), HX0, Lib.hid ((Below.refl _ _).alloc (Nat.le_refl _) _)⟩
  case round =>
    obtain ⟨i, rfl, hig, hal, hX, hbr⟩ := hrel
    by_cases hi : i < 10
    · have hgi := (Hget i hi).out
      have hgs := HG.out i hi
      have hsl := sl_any w.heap.size i (by omega)
      have C := fun W (h : Tabs W) => Lib.hid (one_any (G i) W (by omega) h)
      obtain ⟨gq, rfl⟩ : ∃ gq, gq = gk := ⟨_, rfl⟩
      obtain ⟨g, hg⟩ : ∃ g, G i = g := ⟨_, rfl⟩
      have Hg := Lib.hid hg
      rw [hg] at hgi hgs
      simp only [hg] at C
      clear hg
      cases ho : oneB g with
      | false =>
        have ho2 := ho
        unfold oneB at ho2
        simp only [ho2] at C
        have Ho := Lib.hid ho
        clear ho ho2
        go_wp2_with fail
        refine (C wr (HT.out.below hbr.out)).out.mono ?_
        rintro e w1 ⟨rfl, hb1⟩
        have HB1 := Lib.hid (bt hbr.out hb1)
        clear hb1
        go_wp2_with fail
        go_ret
        refine ⟨false, rfl, ⟨(fun h => by cases h), fun h => ?_⟩, HB1.out⟩
        have := (h i hi).1
        rw [Hg.out, Ho.out] at this
        exact this
      | true =>
        have ho2 := ho
        unfold oneB at ho2
        simp only [ho2] at C
        have Ho := Lib.hid ho
        clear ho ho2
        go_wp2_with fail
        refine (C wr (HT.out.below hbr.out)).out.mono ?_
        rintro e w1 ⟨rfl, hb1⟩
        have HB1 := Lib.hid (bt hbr.out hb1)
        have HX1 : Hid (w1.heap[w.heap.size]? = some (.cells (arr G) 33 (0, 0))) := Lib.hid ((hb1.block _ (lt_of_heap hX.out)).trans hX.out)
        clear hb1
        go_wp2
        go_loopg [6, 18] i (fun gk a v wr => ∃ j : Nat, v = .int .i64 j ∧ Hid (j + gk = i) ∧ Hid (∀ k, k < j → g ≠ G k) ∧ w1 = wr)
        case atStart => exact ⟨0, rfl, Lib.hid (by omega), Lib.hid (fun k h => by omega), rfl⟩
        case round =>
          obtain ⟨j, rfl, hjg, hjal, rfl⟩ := hrel
          by_cases hj : j < i
          · have hcj := (arr_cell HX1.out (show j < 10 by omega)).1
            obtain ⟨h, hh⟩ : ∃ h, G j = h := ⟨_, rfl⟩
            have Hh := Lib.hid hh
            rw [hh] at hcj
            clear hh
            by_cases he : g = h
            · subst he
              go_wp2
              go_ret
              refine ⟨false, rfl, ⟨(fun h => by cases h), fun hv => ?_⟩, HB1.out⟩
              exact absurd (by rw [Hg.out, Hh.out]) ((hv i hi).2 j hj)
            · have hne := ba_ne he
              have He := Lib.hid he
              clear he
              go_wp2
              go_roundg (gk - 1)
              case measure => have := hjg.out; omega
              case rel =>
                refine ⟨j + 1, rfl, Lib.hid (by have := hjg.out; omega), Lib.hid (fun k hk => ?_), rfl⟩
                by_cases e : k = j
                · subst e; rw [Hh.out]; exact He.out
                · exact hjal.out k (by omega)
          · obtain rfl : j = i := by have := hjg.out; omega
            go_wp2
            go_roundg (gq - 1)
            case measure => have := hig.out; omega
            case rel =>
              refine ⟨j + 1, rfl, Lib.hid (by have := hig.out; omega), Lib.hid (fun k hk => ?_), HX1, HB1⟩
              by_cases e : k = j
              · subst e; rw [Hg.out]; exact ⟨Ho.out, hjal.out⟩
              · exact hal.out k (by omega)
    · go_wp2
      go_ret
      refine ⟨true, rfl, ⟨fun _ => ?_, fun _ => rfl⟩, hbr.out⟩
      intro k hk
      exact hal.out k (by omega)
end Go.Proofs.YtajioajigpneoaaDoor
