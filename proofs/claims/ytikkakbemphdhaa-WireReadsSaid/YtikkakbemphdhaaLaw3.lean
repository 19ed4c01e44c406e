/- The statement's own reading of a number (layer 14). -/
import Derived.Test.YtikkakbemphdhaaLaw2
namespace Go.Proofs.Ytikkakbemphdhaa
open Go.RowKit Go.Fl

def pairOf : Option (Nat × Nat) → Nat × Nat
  | some p => p
  | none => (0, 0)

def NumberPost (s : ByteArray) (w : World) (e : Ending) (w' : World) : Prop :=
  e = .returned (.tuple #[.int .i64 ((pairOf (Rd.rdNum s.data.toList 0 0)).1 : Nat), .int .i64 ((pairOf (Rd.rdNum s.data.toList 0 0)).2 : Nat)]) ∧ w = w'

theorem numberPost_none {s : ByteArray} {w : World} (h : Rd.rdNum s.data.toList 0 0 = none) : NumberPost s w (.returned (.tuple #[.int .i64 0, .int .i64 0])) w := by
  unfold NumberPost; rw [h]; exact ⟨rfl, rfl⟩
theorem numberPost_some {s : ByteArray} {w : World} {v k : Nat} {n m : Int} (h : Rd.rdNum s.data.toList 0 0 = some (v, k)) (hn : n = v) (hm : m = k) : NumberPost s w (.returned (.tuple #[.int .i64 n, .int .i64 m])) w := by
  unfold NumberPost; rw [h, hn, hm]; exact ⟨rfl, rfl⟩

/-- one byte more of a number, as a sum. -/
theorem more_add (m t acc : Nat) (hm : m < 256) (ht : t ≤ 56) (ha : acc < 2 ^ t) :
    wrap64 ((acc : Int) + wrap64 (wrap64 (bits .and .u8 (m : Int) 127) * 2 ^ t)) = ((acc + m % 128 * 2 ^ t : Nat) : Int) := by
  have hp : 2 ^ t ≤ 2 ^ 56 := Nat.pow_le_pow_right (by omega) ht
  have h1 : m % 128 * 2 ^ t ≤ 127 * 2 ^ 56 := Nat.mul_le_mul (by omega) hp
  have e0 : (2 : Nat) ^ 56 = 72057594037927936 := by decide
  have e1 : wrap64 (bits .and .u8 (m : Int) 127) = ((m % 128 : Nat) : Int) := by rw [and127_u8 m hm]; unfold wrap64; omega
  have e2 : wrap64 (((m % 128 : Nat) : Int) * 2 ^ t) = ((m % 128 * 2 ^ t : Nat) : Int) := by
    rw [show (((m % 128 : Nat) : Int) * 2 ^ t) = ((m % 128 * 2 ^ t : Nat) : Int) by push_cast; rfl]
    generalize m % 128 * 2 ^ t = z at h1 ⊢
    unfold wrap64; omega
  rw [e1, e2]
  generalize m % 128 * 2 ^ t = z at h1 ⊢
  unfold wrap64
  omega

set_option maxRecDepth 100000 in
set_option maxHeartbeats 800000 in
theorem number_any (s : ByteArray) (w : World) (hs : s.size ≤ 140737488355328) : Calls Try.prog 20 #[.string s] w (NumberPost s w) := by
  go_enter Try.func20, Try.ntmps20
  go_wp2
  go_loop [4, 5] (fun u v => ∃ (acc i : Nat), u = .int .i64 acc ∧ v = .int .i64 i ∧ i ≤ 9 ∧ i ≤ s.size ∧ acc < 2 ^ (7 * i) ∧ Hid (Rd.rdNum (s.data.toList.drop i) i acc = Rd.rdNum s.data.toList 0 0)) (fun _ v => 100 - (intOf v).toNat)
  case atStart => exact ⟨0, 0, rfl, rfl, by omega, by omega, by omega, Lib.hid rfl⟩
  case round =>
    obtain ⟨acc, i, rfl, rfl, hi9, his, hacc, hrd⟩ := hrel
    by_cases h1 : i < s.size ∧ i < 9
    · obtain ⟨h1, h2⟩ := h1
      have Hs := Lib.hid (drop_at h1)
      have hmore := Lib.hid (more_add s[i].toNat (7 * i) acc s[i].toNat_lt (by omega) hacc)
      have h9 : ¬ 9 ≤ i := by omega
      go_wp2
      · go_ret2
        have q1 : (s[i].toNat : Int) < 128 := by assumption
        have q2 : 0 < i := by assumption
        have q3 : ((s[i].toNat : Int) == 0) = true := by assumption
        refine numberPost_none (hrd.out.symm.trans ?_)
        rw [Hs.out, Rd.rdNum, if_neg h9, if_pos (by omega), if_pos ⟨by simpa using q3, q2⟩]
      · go_ret2
        have q1 : (s[i].toNat : Int) < 128 := by assumption
        have q3 : ((s[i].toNat : Int) == 0) = false := by assumption
        refine numberPost_some (v := acc + s[i].toNat % 128 * 2 ^ (7 * i)) (k := i + 1) (hrd.out.symm.trans ?_) hmore.out rfl
        rw [Hs.out, Rd.rdNum, if_neg h9, if_pos (by omega), if_neg (by simp at q3; omega), Nat.mod_eq_of_lt (by omega)]
      · go_ret2
        have q1 : (s[i].toNat : Int) < 128 := by assumption
        have q2 : ¬ 0 < i := by assumption
        refine numberPost_some (v := acc + s[i].toNat % 128 * 2 ^ (7 * i)) (k := i + 1) (hrd.out.symm.trans ?_) hmore.out rfl
        rw [Hs.out, Rd.rdNum, if_neg h9, if_pos (by omega), if_neg (by omega), Nat.mod_eq_of_lt (by omega)]
      · have q1 : 128 ≤ (s[i].toNat : Int) := by assumption
        refine ⟨⟨acc + s[i].toNat % 128 * 2 ^ (7 * i), i + 1, by rw [hmore.out], rfl, by omega, by omega, ?_, Lib.hid (Eq.trans ?_ hrd.out)⟩, by simp [intOf]; omega⟩
        · rw [show 7 * (i + 1) = 7 * i + 7 by omega, Nat.pow_add]
          have : s[i].toNat % 128 * 2 ^ (7 * i) ≤ 127 * 2 ^ (7 * i) := Nat.mul_le_mul_right _ (by omega)
          omega
        · rw [Hs.out, Rd.rdNum, if_neg h9, if_neg (by omega)]
    · have hres : Hid (Rd.rdNum s.data.toList 0 0 = none) := by
        refine Lib.hid (hrd.out.symm.trans ?_)
        by_cases h2 : i < s.size
        · rw [drop_at h2, Rd.rdNum, if_pos (by omega)]
        · rw [List.drop_of_length_le (by rw [Array.length_toList]; show s.size ≤ i; omega)]; rfl
      by_cases h2 : i < s.size
      · have h3 : ¬ i < 9 := by omega
        clear h1
        go_wp2
        go_ret2
        exact numberPost_none hres.out
      · clear h1
        go_wp2
        go_ret2
        exact numberPost_none hres.out
end Go.Proofs.Ytikkakbemphdhaa
