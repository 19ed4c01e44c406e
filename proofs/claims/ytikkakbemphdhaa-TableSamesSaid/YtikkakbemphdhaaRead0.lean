/- What the Reader reads, as plain functions on lists of bytes. -/
namespace Go.Fl.Rd

/-- what stands at a text's beginning, as a number; i bytes were read ahead of it. -/
def rdNum : List UInt8 → Nat → Nat → Option (Nat × Nat)
  | [], _, _ => none
  | b :: r, i, acc => if 9 ≤ i then none else if b.toNat < 128 then (if b.toNat = 0 ∧ 0 < i then none else some (acc + b.toNat * 2 ^ (7 * i), i + 1)) else rdNum r (i + 1) (acc + b.toNat % 128 * 2 ^ (7 * i))

/-- the reader of l at a (none: there was an error): a number, and where it is then. -/
def num (l : List UInt8) : Option Nat → Nat × Option Nat
  | none => (0, none)
  | some a => match rdNum (l.drop a) 0 0 with
    | some (v, k) => (v, some (a + k))
    | none => (0, none)

def text (l : List UInt8) (st : Option Nat) : List UInt8 × Option Nat :=
  match num l st with
  | (n, some a) => if a + n ≤ l.length then ((l.drop a).take n, some (a + n)) else ([], none)
  | (_, none) => ([], none)

def count (l : List UInt8) (st : Option Nat) (most : Int) : Nat × Option Nat :=
  if ((num l st).1 : Int) ≤ most then num l st else (0, none)

theorem rdNum_bound : ∀ (l : List UInt8) (i acc : Nat) (v k : Nat), rdNum l i acc = some (v, k) → i < k ∧ k ≤ i + l.length ∧ k ≤ 9
  | [], i, acc, v, k, h => by simp [rdNum] at h
  | b :: r, i, acc, v, k, h => by
    rw [rdNum] at h
    split at h
    · cases h
    · split at h
      · split at h
        · cases h
        · injection h with h
          injection h with h1 h2
          subst h2
          simp
          omega
      · obtain ⟨h1, h2, h3⟩ := rdNum_bound r _ _ v k h
        simp only [List.length_cons]
        omega
theorem rdNum_val : ∀ (l : List UInt8) (i acc : Nat) (v k : Nat), rdNum l i acc = some (v, k) → acc < 2 ^ (7 * i) → v < 2 ^ (7 * k)
  | [], i, acc, v, k, h, _ => by simp [rdNum] at h
  | b :: r, i, acc, v, k, h, ha => by
    have hp : 2 ^ (7 * (i + 1)) = 128 * 2 ^ (7 * i) := by rw [show 7 * (i + 1) = 7 + 7 * i by omega, Nat.pow_add]
    have step : ∀ x, x < 128 → acc + x * 2 ^ (7 * i) < 2 ^ (7 * (i + 1)) := by
      intro x hx
      rw [hp]
      have : x * 2 ^ (7 * i) ≤ 127 * 2 ^ (7 * i) := Nat.mul_le_mul_right _ (by omega)
      omega
    rw [rdNum] at h
    split at h
    · cases h
    · split at h
      · rename_i hb
        split at h
        · cases h
        · injection h with h
          injection h with h1 h2
          subst h1 h2
          exact step _ hb
      · exact rdNum_val r _ _ v k h (step _ (Nat.mod_lt _ (by omega)))
theorem num_lt (l : List UInt8) (st : Option Nat) : (num l st).1 < 2 ^ 63 := by
  unfold num
  split
  · exact Nat.pow_pos (by omega)
  · split
    · rename_i a v k h
      have h1 := rdNum_val _ _ _ _ _ h (by simp)
      have h2 := (rdNum_bound _ _ _ _ _ h).2.2
      exact Nat.lt_of_lt_of_le h1 (Nat.pow_le_pow_right (by omega) (by omega))
    · exact Nat.pow_pos (by omega)
theorem num_at (l : List UInt8) (st : Option Nat) (hs : ∀ a, st = some a → a ≤ l.length) : ∀ a, (num l st).2 = some a → a ≤ l.length := by
  intro a h
  cases st with
  | none => cases h
  | some a0 =>
    have h3 := hs a0 rfl
    simp only [num] at h
    cases h' : rdNum (l.drop a0) 0 0 with
    | none => rw [h'] at h; cases h
    | some p =>
      obtain ⟨v, k⟩ := p
      rw [h'] at h
      have h2 := (rdNum_bound _ _ _ _ _ h').2.1
      injection h with h
      rw [List.length_drop] at h2
      omega
theorem text_at (l : List UInt8) (st : Option Nat) : ∀ a, (text l st).2 = some a → a ≤ l.length := by
  intro a h
  unfold text at h
  split at h
  · split at h
    · injection h with h; omega
    · cases h
  · cases h
end Go.Fl.Rd
