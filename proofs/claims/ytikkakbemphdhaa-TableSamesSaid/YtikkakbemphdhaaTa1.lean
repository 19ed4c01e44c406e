/- The walks of texts, rows and Plain. -/
import Derived.Test.YtikkakbemphdhaaTa0
import Derived.Deep.LoopGhost
set_option linter.unusedSimpArgs false
set_option linter.unusedVariables false
namespace Go.Proofs.Ytikkakbemphdhaa
open Go.RowKit Go.Fl

def Tx.ok (x : Tx) : Prop := 0 ≤ x.cat ∧ x.s.size ≤ 200
def TxsOk (xs : List Tx) : Prop := xs.length ≤ 20 ∧ ∀ x ∈ xs, x.ok
def OkPost (p : Prop) (w : World) (e : Ending) (w' : World) : Prop := ∃ b : Bool, e = .returned (.bool b) ∧ (b = true → p) ∧ Below w.heap.size w w'

set_option maxRecDepth 100000 in
set_option maxHeartbeats 800000 in
theorem texts_any (P : Nat → Prop) (v : Value) (xs : List Tx) (w : World) (hI : Txs P w v xs) (hf : Fits Tx.fit xs) : Calls Try.prog 32 #[v] w (OkPost (TxsOk xs) w) := by
  obtain ⟨a, cap, rfl, hI⟩ := hI
  obtain ⟨hl, hz⟩ := hf
  go_enter Try.func32, Try.ntmps32
  go_wp2
  go_loopg [7] xs.length (fun gk v wr => ∃ (j : Nat), v = .int .i64 j ∧ j + gk = xs.length ∧ (∀ i, (h : i < xs.length) → i < j → xs[i].ok) ∧ Below w.heap.size w wr)
  case atStart => exact ⟨0, rfl, by omega, fun i _ h => by omega, Below.refl _ _⟩
  case round =>
    obtain ⟨j, rfl, hj, hle, hbr⟩ := hrel
    have HL := Lib.hid hle
    clear hle
    by_cases hjl : j < xs.length
    · obtain ⟨b, off, rfl, hp, hbb, hc0, hc1⟩ := hI j hjl
      have hw0 := (hbr.cell (p := ⟨b, off + j * 2, none⟩) hbb).trans hc0
      have hw1 := (hbr.cell (p := ⟨b, off + j * 2 + 1, none⟩) hbb).trans hc1
      obtain ⟨hsz, hcat⟩ := hz xs[j] (List.getElem_mem _)
      have HI := Lib.hid hI
      have HZ := Lib.hid hz
      have HX := Lib.hid (Iff.rfl : xs[j].ok ↔ (0 ≤ xs[j].cat ∧ xs[j].s.size ≤ 200))
      clear hI hc0 hc1 hz
      by_cases h2 : xs[j].cat < 0
      · go_wp2
        go_ret
        exact ⟨false, rfl, by simp, hbr.alloc hbr.size _⟩
      · by_cases h3 : 200 < xs[j].s.size
        · go_wp2
          go_ret
          exact ⟨false, rfl, by simp, hbr.alloc hbr.size _⟩
        · go_wp2
          go_roundg (gk - 1)
          case measure => omega
          case rel => exact ⟨j + 1, rfl, by omega, fun i hi hij => by
            by_cases e : i = j
            · subst e; exact ⟨by omega, by omega⟩
            · exact HL.out i hi (by omega), hbr.alloc hbr.size _⟩
    · by_cases h3 : 20 < xs.length
      · go_wp2
        go_ret
        exact ⟨_, rfl, fun h => absurd h (by simp; omega), hbr⟩
      · go_wp2
        go_ret
        refine ⟨_, rfl, fun _ => ⟨by omega, fun x hx => ?_⟩, hbr⟩
        obtain ⟨i, hi, rfl⟩ := List.mem_iff_getElem.1 hx
        exact HL.out i hi (by omega)
end Go.Proofs.Ytikkakbemphdhaa
