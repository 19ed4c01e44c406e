/- The walk of layRows. -/
import Derived.Test.YtikkakbemphdhaaTa7
set_option linter.unusedSimpArgs false
set_option linter.unusedVariables false
namespace Go.Proofs.Ytikkakbemphdhaa
open Go.RowKit Go.Fl

theorem box_cell {w w1 : World} {g : Nat} {r r' : Option Nat} {cs : Array Value} {ty : TypeId} (hK : KeptW (w.alloc (.cells cs ty)) w1 g r r') (hg : g < w.heap.size) (hr : ∀ k, r = some k → k < w.heap.size) {i : Nat} {v : Value} (hi : cs[i]? = some v) :
    w1.cell? ⟨w.heap.size, i, none⟩ = some v := cell_of (box_kept hK hg hr) hi

set_option maxRecDepth 100000 in
set_option maxHeartbeats 800000 in
theorem wRows_any (P : Nat → Prop) (base g : Nat) (r : Option Nat) (l : List UInt8) (v : Value) (xs : List Rw) (w : World) (hI : Rws P w v xs) (hP : ∀ b, P b → b < base) (hf : Fits Rw.fit xs)
    (hW : IsW w base g r l) (hbase : base ≤ w.heap.size) (hl : l.length + (eAll eRw xs).length ≤ 140737488355300) :
    Calls Try.prog 34 #[.pointer (some ⟨g, 0, none⟩), v] w fun e w' => e = .returned (.tuple #[]) ∧ ∃ r', IsW w' base g r' (l ++ eAll eRw xs) ∧ KeptW w w' g r r' := by
  obtain ⟨a, cap, rfl, hI⟩ := hI
  obtain ⟨hl0, hz⟩ := hf
  have HI := Lib.hid hI
  have HZ := Lib.hid hz
  have HLen := Lib.hid hl
  have HW := Lib.hid hW
  clear hI hz hl hW
  have hl9 : l.length ≤ 140737488355300 := by have := HLen.out; omega
  go_enter Try.func34, Try.ntmps34
  go_wp2_with fail
  refine (wNum_any base g r l _ _ (by omega) HW.out hbase hl9).mono ?_
  rintro e w1 ⟨rfl, r1, hW1, hK1⟩
  rw [Int.toNat_natCast] at hW1
  have HW1 := Lib.hid hW1
  have HK1 := Lib.hid hK1
  clear hW1 hK1
  go_wp2
  go_loopg [12] xs.length (fun gk v wr => ∃ (j : Nat) (r' : Option Nat), v = .int .i64 j ∧ j + gk = xs.length ∧ Hid (IsW wr base g r' (l ++ (numB xs.length ++ (xs.take j).flatMap eRw))) ∧ Hid (KeptW w wr g r r'))
  case atStart => exact ⟨0, r1, rfl, by omega, by (rw [List.take_zero, List.flatMap_nil, List.append_nil]; exact HW1), HK1⟩
  case round =>
    clear HW1 HK1
    obtain ⟨j, r', rfl, hj, HW1, HK1⟩ := hrel
    have hbs : base ≤ wr.heap.size := Nat.le_trans hbase HK1.out.size
    by_cases hjl : j < xs.length
    · obtain ⟨b, off, rfl, hp, hbb, hc0, tv, hc1, hT⟩ := HI.out j hjl
      have hS := Same.of_keptW HK1.out HW.out hP
      have hw0 := hS.cell hp hc0
      have hw1 := hS.cell hp hc1
      have HT := Lib.hid (hT.same hS)
      obtain ⟨ta, tc, rfl⟩ := hT.len
      clear hc0 hc1 hS hT
      have HE := Lib.hid (eAll_take eRw xs j hjl)
      obtain ⟨hz1, FF, hz3, hz4⟩ : xs[j].mag ≤ 9223372036854775807 ∧ Hid (Fits Tx.fit xs[j].texts) ∧ (l ++ (numB xs.length ++ (xs.take j).flatMap eRw)).length ≤ 140737488355300 ∧
          (l ++ (numB xs.length ++ (xs.take j).flatMap eRw) ++ numB xs[j].mag.toNat).length + (eAll eTx xs[j].texts).length ≤ 140737488355300 := by
        obtain ⟨h1, h2⟩ := HZ.out xs[j] (List.getElem_mem _)
        have h4 := HLen.out
        have h5 := eAll_le eRw xs (j + 1)
        have h7 : (eRw xs[j]).length = (numB xs[j].mag.toNat).length + (eAll eTx xs[j].texts).length := List.length_append
        unfold eAll at h4
        rw [HE.out] at h5
        simp only [List.length_append] at h4 h5 ⊢
        exact ⟨h1, Lib.hid h2, by omega, by omega⟩
      go_wp2_with fail
      refine (wNum_any base g r' _ xs[j].mag _ hz1 (HW1.out.alloc _) (by simp; omega) hz3).mono ?_
      rintro e w2 ⟨rfl, r2, hW2, hK2⟩
      have k1 : w2.cell? ⟨wr.heap.size, 1, none⟩ = some (.slice ta xs[j].texts.length tc) := box_cell hK2 HW1.out.lt.1 HW1.out.lt.2 rfl
      have hT2 : Txs P w2 (.slice ta xs[j].texts.length tc) xs[j].texts := (HT.out.same (Same.below ((Below.refl _ _).alloc (Nat.le_refl _) _))).same (Same.of_keptW hK2 (HW1.out.alloc _) hP)
      have HW2 := Lib.hid hW2
      have HK2 := Lib.hid hK2
      have HT2 := Lib.hid hT2
      have hbs2 : base ≤ w2.heap.size := by have := hK2.size; simp at this; omega
      clear hW2 hK2 hT2 HT hw0 hw1
      go_wp2_with fail
      refine (wTexts_any P base g r2 _ _ _ _ HT2.out hP FF.out HW2.out hbs2 hz4).mono ?_
      rintro e w3 ⟨rfl, r3, hW3, hK3⟩
      have HW3 := Lib.hid hW3
      have HK3 := Lib.hid hK3
      clear hW3 hK3
      go_wp2
      go_roundg (gk - 1)
      case measure => omega
      case rel => exact ⟨j + 1, r3, rfl, by omega, by (rw [HE.out]; unfold eRw; simp only [List.append_assoc] at HW3 ⊢; exact HW3), Lib.hid (((HK1.out.alloc _).trans HK2.out).trans HK3.out)⟩
    · obtain rfl : j = xs.length := by omega
      rw [List.take_length] at HW1
      go_wp2
      go_end0
      exact ⟨rfl, r', HW1.out, HK1.out⟩
end Go.Proofs.Ytikkakbemphdhaa
