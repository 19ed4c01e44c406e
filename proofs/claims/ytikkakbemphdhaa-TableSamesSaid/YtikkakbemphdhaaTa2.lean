/- The walk of rows. -/
import Derived.Test.YtikkakbemphdhaaTa1
set_option linter.unusedSimpArgs false
set_option linter.unusedVariables false
namespace Go.Proofs.Ytikkakbemphdhaa
open Go.RowKit Go.Fl

def Rw.ok (x : Rw) : Prop := 0 ≤ x.mag ∧ TxsOk x.texts
def RwsOk (xs : List Rw) : Prop := xs.length ≤ 20 ∧ ∀ x ∈ xs, x.ok

set_option maxRecDepth 100000 in
set_option maxHeartbeats 800000 in
theorem rows_any (P : Nat → Prop) (v : Value) (xs : List Rw) (W : World) (hI : Rws P W v xs) (hf : Fits Rw.fit xs) : Calls Try.prog 31 #[v] W (OkPost (RwsOk xs) W) := by
  obtain ⟨a, cap, rfl, hI⟩ := hI
  obtain ⟨hl, hz⟩ := hf
  go_enter Try.func31, Try.ntmps31
  go_wp2
  go_loopg [7] xs.length (fun gk v wr => ∃ (j : Nat), v = .int .i64 j ∧ j + gk = xs.length ∧ (∀ i, (h : i < xs.length) → i < j → xs[i].ok) ∧ Below W.heap.size W wr)
  case atStart => exact ⟨0, rfl, by omega, fun i _ h => by omega, Below.refl _ _⟩
  case round =>
    obtain ⟨j, rfl, hj, hle, hbr⟩ := hrel
    have HL := Lib.hid hle
    clear hle
    by_cases hjl : j < xs.length
    · obtain ⟨b, off, rfl, hp, hbb, hc0, tv, hc1, hT⟩ := hI j hjl
      have hw0 := (hbr.cell (p := ⟨b, off + j * 2, none⟩) hbb).trans hc0
      have hw1 := (hbr.cell (p := ⟨b, off + j * 2 + 1, none⟩) hbb).trans hc1
      have HT := Lib.hid (hT.same (Same.below hbr))
      obtain ⟨ta, tc, rfl⟩ := hT.len
      have HF := Lib.hid (hz xs[j] (List.getElem_mem _))
      have HI := Lib.hid hI
      have HZ := Lib.hid hz
      have HX := Lib.hid (Iff.rfl : xs[j].ok ↔ (0 ≤ xs[j].mag ∧ TxsOk xs[j].texts))
      clear hI hc0 hc1 hz hT
      by_cases h2 : xs[j].mag < 0
      · go_wp2
        go_ret
        exact ⟨false, rfl, by simp, hbr.alloc hbr.size _⟩
      · go_wp2_with fail
        refine (texts_any P _ _ _ (HT.out.same (Same.below ((Below.refl _ _).alloc (Nat.le_refl _) _))) HF.out.2).mono ?_
        rintro e w1 ⟨f, rfl, hf, hb1⟩
        have hb2 := hbr.trans (((Below.refl _ _).alloc (Nat.le_refl _) _).trans (hb1.mono (by simp)) |>.mono hbr.size)
        clear hb1
        cases f with
        | false =>
          go_wp2
          go_ret
          exact ⟨false, rfl, by simp, hb2⟩
        | true =>
          have HOK := Lib.hid (hf rfl)
          go_wp2
          go_roundg (gk - 1)
          case measure => omega
          case rel => exact ⟨j + 1, rfl, by omega, fun i hi hij => by
            by_cases e : i = j
            · subst e; exact ⟨by omega, HOK.out⟩
            · exact HL.out i hi (by omega), hb2⟩
    · by_cases h3 : 20 < xs.length
      · go_wp2
        go_ret
        exact ⟨_, rfl, fun h => absurd h (by simp; omega), hbr⟩
      · go_wp2
        go_ret
        refine ⟨_, rfl, fun _ => ⟨by omega, fun x hx => ?_⟩, hbr⟩
        obtain ⟨i, hi, rfl⟩ := List.mem_iff_getElem.1 hx
        exact HL.out i hi (by omega)
end Go.Proofs.Ytikkakbemphdhaa
