/- The walk of layRows of the statements. -/
import Derived.Test.YtikkakbemphdhaaTa4
set_option linter.unusedSimpArgs false
set_option linter.unusedVariables false
namespace Go.Proofs.Ytikkakbemphdhaa
open Go.RowKit Go.Fl

theorem keepG {w W W' W0 : World} {g : Nat} (h : (∀ o, W.cell? ⟨g, o, none⟩ = W0.cell? ⟨g, o, none⟩) ∧ Below w.heap.size w W ∧ g < W.heap.size) (hb : Below W.heap.size W W') :
    (∀ o, W'.cell? ⟨g, o, none⟩ = W0.cell? ⟨g, o, none⟩) ∧ Below w.heap.size w W' ∧ g < W'.heap.size :=
  ⟨fun o => (hb.cell (p := ⟨g, o, none⟩) h.2.2).trans (h.1 o), h.2.1.trans (hb.mono h.2.1.size), Nat.lt_of_lt_of_le h.2.2 hb.size⟩

set_option maxRecDepth 100000 in
set_option maxHeartbeats 800000 in
theorem lRows_any (P : Nat → Prop) (v : Value) (xs : List Rw) (w : World) (hI : Rws P w v xs) (hf : Fits Rw.fit xs) (hl : (eAll eRw xs).length ≤ 140737488355328) :
    Calls Try.prog 37 #[v] w (StrPost (eAll eRw xs) 140737488355328 w) := by
  obtain ⟨a, cap, rfl, hI⟩ := hI
  obtain ⟨hl0, hz⟩ := hf
  have HI := Lib.hid hI
  have HZ := Lib.hid hz
  have HLen := Lib.hid hl
  clear hI hz hl
  go_enter Try.func37, Try.ntmps37
  go_wp2_with fail
  refine (lNum_str _ _ (by omega)).mono ?_
  rintro e w1 ⟨y, rfl, hyb, hys, hb⟩
  rw [Int.toNat_natCast] at hyb
  go_wp2
  go_loopg [3, 11] xs.length (fun gk u v wr => ∃ (j : Nat) (S : ByteArray), u = .string S ∧ v = .int .i64 j ∧ j + gk = xs.length ∧ Hid (StrIs S (numB xs.length ++ (xs.take j).flatMap eRw)) ∧ Below w.heap.size w wr)
  case atStart => exact ⟨0, y, rfl, rfl, by omega, Lib.hid (by show StrIs _ _; rw [List.take_zero, List.flatMap_nil, List.append_nil]; exact hyb.out), hb⟩
  case round =>
    obtain ⟨j, S, rfl, rfl, hj, HS, hbr⟩ := hrel
    by_cases hjl : j < xs.length
    · obtain ⟨b, off, rfl, hp, hbb, hc0, tv, hc1, hT⟩ := HI.out j hjl
      have hw0 := (hbr.cell (p := ⟨b, off + j * 2, none⟩) hbb).trans hc0
      have hw1 := (hbr.cell (p := ⟨b, off + j * 2 + 1, none⟩) hbb).trans hc1
      obtain ⟨ta, tc, rfl⟩ := hT.len
      have HT := Lib.hid hT
      clear hc0 hc1 hT
      go_wp2
      have HE := Lib.hid (eAll_take eRw xs j hjl)
      obtain ⟨hz1, HF, hz2, hz3⟩ : xs[j].mag ≤ 9223372036854775807 ∧ Hid (Fits Tx.fit xs[j].texts) ∧ (eAll eTx xs[j].texts).length ≤ 140737488355328 ∧ S.size ≤ 140737488355328 - (eRw xs[j]).length := by
        obtain ⟨h1, h2⟩ := HZ.out xs[j] (List.getElem_mem _)
        have h3 := strIs_size HS.out
        have h4 := HLen.out
        have h5 := eAll_le eRw xs (j + 1)
        have h7 : (eRw xs[j]).length = (numB xs[j].mag.toNat).length + (eAll eTx xs[j].texts).length := List.length_append
        unfold eAll at h4
        rw [HE.out] at h5
        rw [List.length_append] at h3 h4 h5
        exact ⟨h1, Lib.hid h2, by omega, by omega⟩
      obtain ⟨g, hg⟩ : ∃ g, g = wr.heap.size := ⟨_, rfl⟩
      obtain ⟨W0, hW0⟩ : ∃ W0, wr.alloc (.cells #[.int .i64 xs[j].mag, .slice ta xs[j].texts.length tc] 66) = W0 := ⟨_, rfl⟩
      have k0 : W0.cell? ⟨g, 0, none⟩ = some (.int .i64 xs[j].mag) := by subst hg hW0; exact cell_of (heap_alloc_new wr _) rfl
      have k1 : W0.cell? ⟨g, 1, none⟩ = some (.slice ta xs[j].texts.length tc) := by subst hg hW0; exact cell_of (heap_alloc_new wr _) rfl
      have hS0 : (∀ o, W0.drew.cell? ⟨g, o, none⟩ = W0.cell? ⟨g, o, none⟩) ∧ Below w.heap.size w W0.drew ∧ g < W0.drew.heap.size := ⟨fun o => rfl, by rw [← hW0]; exact (hbr.alloc hbr.size _).drew, by subst hg hW0; simp⟩
      rw [← hg, hW0]
      clear hg hw0 hw1 hW0
      go_region_held3 (fun w' => (∀ o, w'.cell? ⟨g, o, none⟩ = W0.cell? ⟨g, o, none⟩) ∧ Below w.heap.size w w' ∧ g < w'.heap.size)
        (assumption)
        (first | (go_at_call 12; refine (lNum_str _ _ (by omega)).mono ?_; rintro e w2 ⟨s2, rfl, hs2, hs2z, hb2⟩; have hz4 : ¬ (9223372036854775807 < S.size + s2.size) := (by omega); have hS2 := keepG ‹_ ∧ Below w.heap.size w _ ∧ _› hb2) |
          (go_at_call 38; refine (lTexts_any P _ _ _ (HT.out.same (Same.below (‹_ ∧ Below w.heap.size w _ ∧ _›).2.1)) HF.out (by omega)).mono ?_; rintro e w3 ⟨s3, rfl, hs3, hs3z, hb3⟩; have hz5 : ¬ (9223372036854775807 < S.size + s2.size + s3.size) := (by omega); have hS3 := keepG ‹_ ∧ Below w.heap.size w _ ∧ _› hb3))
      all_goals
        go_wp2
        go_roundg (gk - 1)
        case measure => omega
        case rel => exact ⟨j + 1, _, rfl, rfl, by omega, Lib.hid (by
            show StrIs _ _
            rw [HE.out, ← List.append_assoc]
            unfold eRw
            rw [← List.append_assoc]
            exact strIs_append (strIs_append HS.out hs2.out) hs3.out), hS3.2.1⟩
    · obtain rfl : j = xs.length := by omega
      rw [List.take_length] at HS
      go_wp2
      go_ret
      exact ⟨S, rfl, HS, by rw [strIs_size HS.out]; exact HLen.out, hbr⟩
end Go.Proofs.Ytikkakbemphdhaa
