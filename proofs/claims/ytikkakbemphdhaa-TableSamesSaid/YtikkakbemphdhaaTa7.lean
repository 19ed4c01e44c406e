/- The walks of layTexts and layRows. -/
import Derived.Test.YtikkakbemphdhaaTa5
import Derived.Test.YtikkakbemphdhaaBack1b
set_option linter.unusedSimpArgs false
set_option linter.unusedVariables false
namespace Go.Proofs.Ytikkakbemphdhaa
open Go.RowKit Go.Fl

theorem KeptW.alloc {w w1 : World} {g : Nat} {r r' : Option Nat} (h : KeptW w w1 g r r') (o : Obj) : KeptW w (w1.alloc o) g r r' :=
  ⟨h.os, h.tape, h.output, Nat.le_trans h.size (by simp), fun k hk hg hr => (Below.heap_alloc w1 o k (Nat.lt_of_lt_of_le hk h.size)).trans (h.block k hk hg hr), h.row⟩
theorem KeptW.drew {w w1 : World} {g : Nat} {r r' : Option Nat} (h : KeptW w w1 g r r') : KeptW w w1.drew g r r' := ⟨h.os, h.tape, h.output, h.size, h.block, h.row⟩
theorem IsW.alloc {W : World} {base g : Nat} {r : Option Nat} {l : List UInt8} (h : IsW W base g r l) (o : Obj) : IsW (W.alloc o) base g r l :=
  h.kept ((Kept.refl W (fun _ => False)).alloc o) id (fun _ _ h => h)
theorem IsW.drew {W : World} {base g : Nat} {r : Option Nat} {l : List UInt8} (h : IsW W base g r l) : IsW W.drew base g r l := h
/-- the cells of a block that the Writer does not own. -/
theorem KeptW.cell {w w1 : World} {g : Nat} {r r' : Option Nat} (h : KeptW w w1 g r r') {b : Nat} (hb : b < w.heap.size) (hg : b ≠ g) (hr : some b ≠ r) (o : Nat) : w1.cell? ⟨b, o, none⟩ = w.cell? ⟨b, o, none⟩ := by
  simp only [World.cell?, h.block b hb hg hr]
theorem Same.of_keptW {P : Nat → Prop} {w w1 : World} {base g : Nat} {r r' : Option Nat} {l : List UInt8} (h : KeptW w w1 g r r') (hI : IsW w base g r l) (hP : ∀ b, P b → b < base) : Same P w w1 :=
  ⟨h.size, fun b o hb hlt => h.cell hlt (fun e => by have := hP b hb; have := hI.1; omega) (fun e => by have := hP b hb; have := hI.row b e.symm; omega) o⟩
/-- where the row lies now, what was made later does not lie. -/
theorem KeptW.row_ne {w w1 : World} {g : Nat} {r r' : Option Nat} (h : KeptW w w1 g r r') {b : Nat} (hb : b < w.heap.size) (hr : some b ≠ r) : some b ≠ r' := by
  rcases h.row with e | ⟨k, e, hk⟩
  · rw [e]; exact hr
  · rw [e]; intro h; injection h with h; omega

set_option maxRecDepth 100000 in
set_option maxHeartbeats 800000 in
theorem wTexts_any (P : Nat → Prop) (base g : Nat) (r : Option Nat) (l : List UInt8) (v : Value) (xs : List Tx) (w : World) (hI : Txs P w v xs) (hP : ∀ b, P b → b < base) (hf : Fits Tx.fit xs)
    (hW : IsW w base g r l) (hbase : base ≤ w.heap.size) (hl : l.length + (eAll eTx xs).length ≤ 140737488355300) :
    Calls Try.prog 35 #[.pointer (some ⟨g, 0, none⟩), v] w fun e w' => e = .returned (.tuple #[]) ∧ ∃ r', IsW w' base g r' (l ++ eAll eTx xs) ∧ KeptW w w' g r r' := by
  obtain ⟨a, cap, rfl, hI⟩ := hI
  obtain ⟨hl0, hz⟩ := hf
  have HI := Lib.hid hI
  have HZ := Lib.hid hz
  have HLen := Lib.hid hl
  have HW := Lib.hid hW
  clear hI hz hl hW
  have hl9 : l.length ≤ 140737488355300 := by have := HLen.out; omega
  go_enter Try.func35, Try.ntmps35
  go_wp2_with fail
  refine (wNum_any base g r l _ _ (by omega) HW.out hbase hl9).mono ?_
  rintro e w1 ⟨rfl, r1, hW1, hK1⟩
  rw [Int.toNat_natCast] at hW1
  have HW1 := Lib.hid hW1
  have HK1 := Lib.hid hK1
  clear hW1 hK1
  go_wp2
  go_loopg [12] xs.length (fun gk v wr => ∃ (j : Nat) (r' : Option Nat), v = .int .i64 j ∧ j + gk = xs.length ∧ Hid (IsW wr base g r' (l ++ (numB xs.length ++ (xs.take j).flatMap eTx))) ∧ Hid (KeptW w wr g r r'))
  case atStart => exact ⟨0, r1, rfl, by omega, by (rw [List.take_zero, List.flatMap_nil, List.append_nil]; exact HW1), HK1⟩
  case round =>
    clear HW1 HK1
    obtain ⟨j, r', rfl, hj, HW1, HK1⟩ := hrel
    have hbs : base ≤ wr.heap.size := Nat.le_trans hbase HK1.out.size
    by_cases hjl : j < xs.length
    · obtain ⟨b, off, rfl, hp, hbb, hc0, hc1⟩ := HI.out j hjl
      have hS := Same.of_keptW HK1.out HW.out hP
      have hw0 := hS.cell hp hc0
      have hw1 := hS.cell hp hc1
      clear hc0 hc1 hS
      have HE := Lib.hid (eAll_take eTx xs j hjl)
      obtain ⟨hz1, hz2⟩ : xs[j].cat ≤ 9223372036854775807 ∧ (l ++ (numB xs.length ++ (xs.take j).flatMap eTx)).length + (eTx xs[j]).length ≤ 140737488355300 := by
        obtain ⟨h1, h2⟩ := HZ.out xs[j] (List.getElem_mem _)
        have h4 := HLen.out
        have h5 := eAll_le eTx xs (j + 1)
        unfold eAll at h4
        rw [HE.out] at h5
        simp only [List.length_append] at h4 h5 ⊢
        exact ⟨h2, by omega⟩
      obtain ⟨hz3, hz4⟩ : (l ++ (numB xs.length ++ (xs.take j).flatMap eTx)).length ≤ 140737488355300 ∧ (l ++ (numB xs.length ++ (xs.take j).flatMap eTx) ++ numB xs[j].cat.toNat).length + xs[j].s.size ≤ 140737488355300 := by
        have h6 := size_le_textB xs[j].s
        have h7 : (eTx xs[j]).length = (numB xs[j].cat.toNat).length + (textB xs[j].s).length := List.length_append
        rw [List.length_append (bs := numB xs[j].cat.toNat)]
        exact ⟨by omega, by omega⟩
      clear hz2
      go_wp2
      obtain ⟨gx, hg⟩ : ∃ g, g = wr.heap.size := ⟨_, rfl⟩
      obtain ⟨W0, hW0⟩ : ∃ W0, wr.alloc (.cells #[.int .i64 xs[j].cat, .string xs[j].s] 98) = W0 := ⟨_, rfl⟩
      have k0 : W0.cell? ⟨gx, 0, none⟩ = some (.int .i64 xs[j].cat) := by subst hg hW0; exact cell_of (heap_alloc_new wr _) rfl
      have k1 : W0.cell? ⟨gx, 1, none⟩ = some (.string xs[j].s) := by subst hg hW0; exact cell_of (heap_alloc_new wr _) rfl
      have HW2 : Hid (IsW W0.drew base g r' (l ++ (numB xs.length ++ (xs.take j).flatMap eTx))) := by rw [← hW0]; exact Lib.hid (HW1.out.alloc _).drew
      have HK2 : Hid (KeptW w W0.drew g r r') := by rw [← hW0]; exact Lib.hid (HK1.out.alloc _).drew
      have hgx : gx < W0.drew.heap.size := by subst hg hW0; simp
      have hbs0 : base ≤ W0.drew.heap.size := by rw [← hW0]; simp; omega
      have hgn : gx ≠ g := by have := HW1.out.lt.1; omega
      have hgr : Hid (some gx ≠ r') := Lib.hid (fun e => by have := HW1.out.lt.2 _ e.symm; omega)
      have hS0 : ∀ o, W0.drew.cell? ⟨gx, o, none⟩ = W0.cell? ⟨gx, o, none⟩ := fun _ => rfl
      rw [← hg, hW0]
      clear hg hw0 hw1 hW0
      go_region_held3 (fun w' => ∀ o, w'.cell? ⟨gx, o, none⟩ = W0.cell? ⟨gx, o, none⟩)
        (assumption)
        (first
          | (go_at_call 13; ((with_reducible refine (wNum_any base g r' _ xs[j].cat _ hz1 HW2.out hbs0 hz3).mono ?_); rintro e w2 ⟨rfl, r2, hW3, hK3⟩; have HW3 := Lib.hid hW3; have HK3 := Lib.hid hK3; clear hW3 hK3; have hS2 := fun o => (KeptW.cell HK3.out hgx hgn hgr.out o).trans (hS0 o)))
          | (go_at_call 11; ((with_reducible refine (wText_any base g r2 _ xs[j].s _ HW3.out (Nat.le_trans hbs0 HK3.out.size) hz4).mono ?_); rintro e w3 ⟨rfl, r3, hW4, hK4⟩; have HW4 := Lib.hid hW4; have HK4 := Lib.hid hK4; clear hW4 hK4; have hS3 := fun o => (KeptW.cell HK4.out (Nat.lt_of_lt_of_le hgx HK3.out.size) hgn (HK3.out.row_ne hgx hgr.out) o).trans (hS2 o))))
      go_wp2
      go_roundg (gk - 1)
      case measure => omega
      case rel => exact ⟨j + 1, r3, rfl, by omega, by (rw [HE.out]; unfold eTx; simp only [List.append_assoc] at HW4 ⊢; exact HW4), Lib.hid ((HK2.out.trans HK3.out).trans HK4.out)⟩
    · obtain rfl : j = xs.length := by omega
      rw [List.take_length] at HW1
      go_wp2
      go_end0
      exact ⟨rfl, r', HW1.out, HK1.out⟩
end Go.Proofs.Ytikkakbemphdhaa
