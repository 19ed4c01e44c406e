/- The walk of the table's texts(). -/
import Derived.Test.YtikkakbemphdhaaTa8
import Derived.Deep.AppendLies
set_option linter.unusedSimpArgs false
set_option linter.unusedVariables false
namespace Go.Proofs.Ytikkakbemphdhaa
open Go.RowKit Go.Fl

theorem Try.info79 : (Try.prog.info? 79).map (fun i => (i.zero, i.size, i.bytes)) = some (some (.pointer none), 1, 8) := by kernel_rfl
def ptr (g : Nat) (i : Nat) : Value := .pointer (some ⟨g, pl i, none⟩)
def ptrs (g n : Nat) : List Value := (List.range n).map (ptr g)
theorem ptrs_succ (g n : Nat) : ptrs g (n + 1) = ptrs g n ++ [ptr g n] := by
  unfold ptrs
  rw [List.range_succ, List.map_append]
  rfl

theorem ptrs27 (g : Nat) : ptrs g 10 ++ [.pointer (some ⟨g, 10, none⟩), .pointer (some ⟨g, 11, none⟩), .pointer (some ⟨g, 12, none⟩), .pointer (some ⟨g, 13, none⟩), .pointer (some ⟨g, 14, none⟩), .pointer (some ⟨g, 15, none⟩), .pointer (some ⟨g, 17, none⟩), .pointer (some ⟨g, 18, none⟩), .pointer (some ⟨g, 19, none⟩), .pointer (some ⟨g, 20, none⟩), .pointer (some ⟨g, 21, none⟩), .pointer (some ⟨g, 28, none⟩), .pointer (some ⟨g, 29, none⟩), .pointer (some ⟨g, 30, none⟩), .pointer (some ⟨g, 31, none⟩), .pointer (some ⟨g, 32, none⟩), .pointer (some ⟨g, 33, none⟩)] = ptrs g 27 := by
  unfold ptrs ptr
  rfl
theorem ptrs_get (g i : Nat) (h : i < 27) : (ptrs g 27)[i]? = some (ptr g i) := by
  unfold ptrs
  rw [List.getElem?_map, List.getElem?_range h]
  rfl
theorem Addr.add_zero_none (r i : Nat) : (⟨r, 0, none⟩ : Addr).add i = ⟨r, i, none⟩ := by unfold Addr.add; split <;> simp_all

def TextsPost (g : Nat) (w : World) (e : Ending) (w' : World) : Prop :=
  ∃ r c, e = .returned (.slice (some ⟨r, 0, none⟩) 27 c) ∧ w.heap.size ≤ r ∧ r < w'.heap.size ∧ Hid (∀ i, i < 27 → w'.cell? ⟨r, i, none⟩ = some (.pointer (some ⟨g, pl i, none⟩))) ∧ Below w.heap.size w w'

set_option maxRecDepth 100000 in
set_option maxHeartbeats 800000 in
theorem texts27_any (g : Nat) (w : World) : Calls Try.prog 33 #[.pointer (some ⟨g, 0, none⟩)] w (TextsPost g w) := by
  obtain ⟨i0, hi, hz0, hz1, hz2⟩ := info_parts Try.info79
  go_enter Try.func33, Try.ntmps33
  go_wp2_with (at_make; refine wpList_make_own _ rfl _ _ 77 rfl w.heap.size 79 i0 (.pointer none) 1 Try.underlying77 hi hz0 hz1 _ _ 40 40 rfl rfl rfl (by rw [hz2]; decide) (by unfold maxLen; omega) (Nat.le_refl _) ?_; intro w1 hown hgrow)
  have HO := Lib.hid hown
  have HB := Lib.hid ((Below.refl w.heap.size w).grown hgrow (Nat.le_refl _) (fun k h => by cases h))
  clear hown hgrow
  go_loopg [3, 6] 10 (fun gk u v wr => ∃ (j r c : Nat), u = .slice (some ⟨r, 0, none⟩) j c ∧ v = .int .i64 j ∧ j + gk = 10 ∧ Hid (wr.ownsRow w.heap.size 79 1 u j (ptrs g j)) ∧ Hid (Below w.heap.size w wr))
  case atStart => exact ⟨0, _, _, rfl, rfl, by omega, HO, HB⟩
  case round =>
    clear HO HB
    obtain ⟨j, r, c, rfl, rfl, hj, HO, HB⟩ := hrel
    by_cases hjl : j < 10
    · have hpt : ptr g j = .pointer (some ⟨g, j, none⟩) := by unfold ptr pl; rw [if_pos (by omega)]
      have HP := Lib.hid hpt
      have hbw : w.heap.size ≤ wr.heap.size := HB.out.size
      clear hpt
      go_wp2_with (at_builtin; (refine wpList_append_lies _ rfl _ _ 77 rfl w.heap.size 79 i0 (.pointer none) 1 8 Try.underlying77 hi hz0 hz1 hz2 rfl (by decide) _ _ _ rfl (HO.out.alloc _) ⟨wr.heap.size, 0, none⟩ 1 1 [.pointer (some ⟨g, j, none⟩)] rfl rfl (cell_one_new _ _ _) (by intro u hu; simp at hu; subst hu; rfl) (by omega) (by unfold maxLen; omega) (by omega) (by simp; omega) _ rfl ?_); intro r2 c2 w2 hown hgrow hat hlt; have HO2 := Lib.hid hown; have HG := Lib.hid hgrow; have HA := Lib.hid hat; clear hown hgrow hat)
      go_roundg (gk - 1)
      case measure => omega
      case rel => exact ⟨j + 1, r2, c2, rfl, rfl, by omega, by rw [ptrs_succ, HP.out]; exact HO2, Lib.hid ((HB.out.alloc hbw _).grown HG.out (by simp; omega) (fun k hk => (HO.out.lt k hk).1))⟩
    · obtain rfl : j = 10 := by omega
      have hbw : w.heap.size ≤ wr.heap.size := HB.out.size
      have HO0 : Hid (wr.drew.ownsRow w.heap.size 79 1 (.slice (some ⟨r, 0, none⟩) 10 c) 10 (ptrs g 10)) := HO
      go_wp2
      go_region_held3 (fun _ => True) (trivial) (first | (refine step_append_lies _ rfl _ _ 77 rfl w.heap.size 79 i0 (.pointer none) 1 8 Try.underlying77 hi hz0 hz1 hz2 rfl (by decide) _ _ _ rfl (HO0.out.alloc _) ⟨wr.heap.size, 0, none⟩ 17 17 [.pointer (some ⟨g, 10, none⟩), .pointer (some ⟨g, 11, none⟩), .pointer (some ⟨g, 12, none⟩), .pointer (some ⟨g, 13, none⟩), .pointer (some ⟨g, 14, none⟩), .pointer (some ⟨g, 15, none⟩), .pointer (some ⟨g, 17, none⟩), .pointer (some ⟨g, 18, none⟩), .pointer (some ⟨g, 19, none⟩), .pointer (some ⟨g, 20, none⟩), .pointer (some ⟨g, 21, none⟩), .pointer (some ⟨g, 28, none⟩), .pointer (some ⟨g, 29, none⟩), .pointer (some ⟨g, 30, none⟩), .pointer (some ⟨g, 31, none⟩), .pointer (some ⟨g, 32, none⟩), .pointer (some ⟨g, 33, none⟩)] rfl rfl (World.news_of_block (cs := #[.pointer (some ⟨g, 10, none⟩), .pointer (some ⟨g, 11, none⟩), .pointer (some ⟨g, 12, none⟩), .pointer (some ⟨g, 13, none⟩), .pointer (some ⟨g, 14, none⟩), .pointer (some ⟨g, 15, none⟩), .pointer (some ⟨g, 17, none⟩), .pointer (some ⟨g, 18, none⟩), .pointer (some ⟨g, 19, none⟩), .pointer (some ⟨g, 20, none⟩), .pointer (some ⟨g, 21, none⟩), .pointer (some ⟨g, 28, none⟩), .pointer (some ⟨g, 29, none⟩), .pointer (some ⟨g, 30, none⟩), .pointer (some ⟨g, 31, none⟩), .pointer (some ⟨g, 32, none⟩), .pointer (some ⟨g, 33, none⟩)]) (heap_alloc_new _ _)) (by intro u hu; simp at hu; rcases hu with h|h|h|h|h|h|h|h|h|h|h|h|h|h|h|h|h <;> subst h <;> rfl) (by omega) (by unfold maxLen; omega) (by omega) (by simp; omega) _ rfl ?_; intro r2 c2 w2 hown hgrow hat hlt; have HO2 := Lib.hid hown; have HG := Lib.hid hgrow; have HA := Lib.hid hat; clear hown hgrow hat))
      go_wp2
      go_ret
      refine ⟨r2, c2, rfl, (HO2.out.lt r2 rfl).1, hlt, Lib.hid (fun i hi => ?_), (HB.out.drew.alloc (by simp; omega) _).grown HG.out (by simp; omega) (fun k hk => (HO0.out.lt k hk).1)⟩
      have h := HO2.out.cells (g := r2) rfl i (ptr g i) (by rw [ptrs27 g, ptrs_get g i hi])
      rw [Addr.add_zero_none] at h
      exact h
end Go.Proofs.Ytikkakbemphdhaa
