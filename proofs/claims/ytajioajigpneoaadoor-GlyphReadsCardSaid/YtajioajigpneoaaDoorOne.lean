/- (Set).One: the least digit whose sign stands at the beginning. -/
import Derived.Test.YtajioajigpneoaaDoorPlain
set_option linter.unusedSimpArgs false
set_option linter.unusedVariables false
namespace Go.Proofs.YtajioajigpneoaaDoor
open Go.RowKit Go.Fl Go.Shelf

/-- from digit i on. -/
def oneFrom (G : Nat → ByteArray) (s : List UInt8) : Nat → Nat → Int × Nat
  | 0, _ => (-1, 0)
  | n + 1, i => if (G i).size ≠ 0 ∧ Lib.hasPrefix s (G i).data.toList = true then ((i : Int), (G i).size) else oneFrom G s n (i + 1)
def oneRes (G : Nat → ByteArray) (s : List UInt8) : Int × Nat := oneFrom G s 10 0

theorem idx_any (G : Nat → ByteArray) (i : Nat) (hi : i < 10) (W : World) : (Instr.index 33 (.agg (arr G)) (.int .i64 (i : Int))).run Tryd.prog W = .ok (.string (G i)) W := by
  have h2 := arr_get G i hi
  have hn : 0 ≤ (i : Int) ∧ (i : Int) < ((10 : Nat) : Int) := by omega
  simp [Instr.index, run_underlying Tryd.underlying33, asIntOf, hi, h2, go_sem]
theorem some_of {g : ByteArray} (h : ¬ g.size = 0) : g.toList.isEmpty = false := by
  cases hg : g.toList.isEmpty with
  | false => rfl
  | true =>
    rw [Lib.toList_data, List.isEmpty_iff] at hg
    refine absurd ?_ h
    show g.data.size = 0
    rw [← Array.length_toList, hg]
    rfl
theorem empty_of {g : ByteArray} (h : g.size = 0) : g = ⟨#[]⟩ := by
  refine ByteArray.ext ?_
  exact Array.eq_empty_of_size_eq_zero h

set_option maxRecDepth 100000 in
set_option maxHeartbeats 2000000 in
theorem gone_any (G : Nat → ByteArray) (s : ByteArray) (w : World) (hG : ∀ i, i < 10 → (G i).size ≤ 9223372036854775807) : Calls Tryd.prog 20 #[.agg (arr G), .string s] w fun e w' => e = .returned (.tuple #[.int .i64 (oneRes G s.data.toList).1, .int .i64 (oneRes G s.data.toList).2]) ∧ Below w.heap.size w w' := by
  have HG := Lib.hid hG
  clear hG
  obtain ⟨R, hR⟩ : ∃ R, oneRes G s.data.toList = R := ⟨_, rfl⟩
  rw [hR]
  have HR := Lib.hid hR
  have Hget := fun i hi => Lib.hid (idx_any G i hi)
  clear hR
  unfold arr at Hget ⊢
  go_enter Tryd.func20, Tryd.ntmps20
  go_wp2
  go_loopg [6, 7, 9] 10 (fun gk a b v wr => ∃ i : Nat, v = .int .i64 i ∧ Hid (i + gk = 10) ∧ Hid (oneFrom G s.data.toList gk i = R) ∧ Hid (Below w.heap.size w wr))
  case atStart => exact ⟨0, rfl, Lib.hid (by omega), Lib.hid HR.out, Lib.hid ((Below.refl _ _).alloc (Nat.le_refl _) _)⟩
  case round =>
    obtain ⟨i, rfl, hig, hsc, hbr⟩ := hrel
    by_cases hi : i < 10
    · have hgi := (Hget i hi).out
      have hgs := HG.out i hi
      obtain ⟨k, rfl⟩ : ∃ k, gk = k + 1 := ⟨gk - 1, by have := hig.out; omega⟩
      have hst := hsc.out
      rw [oneFrom] at hst
      generalize G i = g at hgi hgs hst
      by_cases h0 : g.size = 0
      · obtain rfl := empty_of h0
        rw [if_neg (fun h => h.1 rfl)] at hst
        have Hst := Lib.hid hst
        clear hst h0
        go_wp2
        go_roundg k
        case measure => omega
        case rel => exact ⟨i + 1, rfl, Lib.hid (by have := hig.out; omega), Hst, hbr⟩
      · have hne := some_of h0
        have Hpre := fun W => Lib.hid (Tryd.strings_HasPrefix s g W)
        cases hp : Lib.hasPrefix s.data.toList g.data.toList with
        | true =>
          rw [if_pos ⟨h0, hp⟩] at hst
          subst hst
          rw [hp] at Hpre
          clear hp h0
          go_wp2_with fail
          refine (Hpre wr).out.mono ?_
          rintro e w1 ⟨rfl, rfl⟩
          go_wp2_with fail
          go_ret2
          exact ⟨rfl, hbr.out⟩
        | false =>
          rw [if_neg (fun h => by rw [hp] at h; cases h.2)] at hst
          have Hst := Lib.hid hst
          rw [hp] at Hpre
          clear hp h0 hst
          go_wp2_with fail
          refine (Hpre wr).out.mono ?_
          rintro e w1 ⟨rfl, rfl⟩
          go_wp2_with fail
          go_roundg k
          case measure => omega
          case rel => exact ⟨i + 1, rfl, Lib.hid (by have := hig.out; omega), Hst, hbr⟩
    · obtain rfl : gk = 0 := by have := hig.out; omega
      have hst := hsc.out
      rw [oneFrom] at hst
      subst hst
      go_wp2
      go_ret2
      exact ⟨rfl, hbr.out⟩
end Go.Proofs.YtajioajigpneoaaDoor
