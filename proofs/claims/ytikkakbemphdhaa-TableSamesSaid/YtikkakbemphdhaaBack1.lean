/- The walk of few. -/
import Derived.Test.YtikkakbemphdhaaBack0
import Derived.Test.YtikkakbemphdhaaLaw2
import Derived.Deep.LoopGhost
namespace Go.Proofs.Ytikkakbemphdhaa
open Go.RowKit Go.Fl

/-- the items of a slice, in a world. -/
def Items (W : World) (a : Option Addr) (xs : List Itm) : Prop :=
  ∀ i, (h : i < xs.length) → ∃ b off, a = some ⟨b, off, none⟩ ∧ b < W.heap.size ∧ W.cell? ⟨b, off + i * 3, none⟩ = some (.bool xs[i].t) ∧ W.cell? ⟨b, off + i * 3 + 1, none⟩ = some (.int .i64 xs[i].n) ∧
    W.cell? ⟨b, off + i * 3 + 2, none⟩ = some (.string xs[i].s)

def FewPost (xs : List Itm) (w : World) (e : Ending) (w' : World) : Prop :=
  ∃ b : Bool, e = .returned (.bool b) ∧ (b = true → xs.length ≤ 20 ∧ ∀ x ∈ xs, x.s.size ≤ 300) ∧ Below w.heap.size w w'

set_option maxRecDepth 100000 in
set_option maxHeartbeats 800000 in
theorem few_any (a : Option Addr) (xs : List Itm) (cap : Nat) (w : World) (hl : xs.length ≤ 9223372036854775807) (hI : Items w a xs) (hz : ∀ x ∈ xs, x.s.size ≤ 9223372036854775807) :
    Calls Try.prog 10 #[.slice a xs.length cap] w (FewPost xs w) := by
  by_cases h0 : 20 < xs.length
  · go_enter Try.func10, Try.ntmps10
    go_wp2
    go_ret
    exact ⟨false, rfl, by simp, Below.refl _ _⟩
  · go_enter Try.func10, Try.ntmps10
    go_wp2
    go_loopg [10] xs.length (fun gk v wr => ∃ (j : Nat), v = .int .i64 j ∧ j + gk = xs.length ∧ (∀ i, (h : i < xs.length) → i < j → xs[i].s.size ≤ 300) ∧ Below w.heap.size w wr)
    case atStart => exact ⟨0, rfl, by omega, fun i _ h => by omega, Below.refl _ _⟩
    case round =>
      obtain ⟨j, rfl, hj, hle, hbr⟩ := hrel
      have HL := Lib.hid hle
      clear hle
      by_cases hjl : j < xs.length
      · obtain ⟨b, off, rfl, hbb, hc0, hc1, hc2⟩ := hI j hjl
        have hw0 := (hbr.cell (p := ⟨b, off + j * 3, none⟩) hbb).trans hc0
        have hw1 := (hbr.cell (p := ⟨b, off + j * 3 + 1, none⟩) hbb).trans hc1
        have hw2 := (hbr.cell (p := ⟨b, off + j * 3 + 2, none⟩) hbb).trans hc2
        have hsz := hz xs[j] (List.getElem_mem _)
        have HI := Lib.hid hI
        have HZ := Lib.hid hz
        have HX := Lib.hid (rfl : xs[j].s = xs[j].s)
        clear hI hc0 hc1 hc2 hz
        by_cases h3 : 300 < xs[j].s.size
        · go_wp2
          go_ret
          exact ⟨false, rfl, by simp, hbr.alloc hbr.size _⟩
        · go_wp2
          go_roundg (gk - 1)
          case measure => omega
          case rel => exact ⟨j + 1, rfl, by omega, fun i hi hij => by
            by_cases e : i = j
            · subst e; omega
            · exact HL.out i hi (by omega), hbr.alloc hbr.size _⟩
      · go_wp2
        go_ret
        refine ⟨true, rfl, fun _ => ⟨by omega, fun x hx => ?_⟩, hbr⟩
        obtain ⟨i, hi, rfl⟩ := List.mem_iff_getElem.1 hx
        exact HL.out i hi (by omega)
end Go.Proofs.Ytikkakbemphdhaa
