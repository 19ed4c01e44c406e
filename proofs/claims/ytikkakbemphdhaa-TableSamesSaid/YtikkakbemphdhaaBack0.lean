/- What was laid is read again; what is cut off is not: plain lists of bytes. -/
import Derived.Test.YtikkakbemphdhaaWire2
import Derived.Test.YtikkakbemphdhaaRead0
namespace Go.Proofs.Ytikkakbemphdhaa
open Go.Fl

theorem rd_numB : ∀ (n i acc : Nat) (q : List UInt8), i + (numB n).length ≤ 9 → (n = 0 → i = 0) →
    Rd.rdNum (numB n ++ q) i acc = some (acc + n * 2 ^ (7 * i), i + (numB n).length) := by
  intro n
  induction n using Nat.strongRecOn with
  | ind n ih =>
    intro i acc q hl h0
    rw [numB] at hl ⊢
    by_cases h : n < 128
    · rw [if_pos h] at hl ⊢
      have e : (UInt8.ofNat n).toNat = n := by simp; omega
      simp only [List.length_singleton] at hl
      simp only [List.cons_append, List.nil_append, List.length_singleton]
      rw [Rd.rdNum, if_neg (by omega), e, if_pos h, if_neg (by omega)]
    · rw [if_neg h] at hl ⊢
      have e : (UInt8.ofNat (n % 128 + 128)).toNat = n % 128 + 128 := by simp; omega
      simp only [List.length_cons] at hl ⊢
      rw [List.cons_append, Rd.rdNum, if_neg (by omega), e, if_neg (by omega)]
      rw [ih (n / 128) (by omega) (i + 1) _ q (by omega) (by omega)]
      have e2 : (n % 128 + 128) % 128 = n % 128 := by omega
      have e3 : 2 ^ (7 * (i + 1)) = 128 * 2 ^ (7 * i) := by rw [show 7 * (i + 1) = 7 + 7 * i by omega, Nat.pow_add]
      rw [e2, e3]
      have e4 : n * 2 ^ (7 * i) = n % 128 * 2 ^ (7 * i) + n / 128 * (128 * 2 ^ (7 * i)) := by
        rw [← Nat.mul_assoc, ← Nat.add_mul]
        congr 1
        omega
      rw [e4]
      congr 2
      · omega
      · omega

theorem rd_cut : ∀ (n i acc j : Nat), j < (numB n).length → Rd.rdNum ((numB n).take j) i acc = none := by
  intro n
  induction n using Nat.strongRecOn with
  | ind n ih =>
    intro i acc j hj
    rw [numB] at hj ⊢
    by_cases h : n < 128
    · rw [if_pos h] at hj ⊢
      obtain rfl : j = 0 := by simpa using hj
      rfl
    · rw [if_neg h] at hj ⊢
      cases j with
      | zero => rfl
      | succ j =>
        have e : (UInt8.ofNat (n % 128 + 128)).toNat = n % 128 + 128 := by simp; omega
        simp only [List.length_cons] at hj
        rw [List.take_succ_cons, Rd.rdNum]
        split
        · rfl
        · rw [e, if_neg (by omega)]
          exact ih (n / 128) (by omega) _ _ j (by omega)

theorem num_back (p q : List UInt8) (n : Nat) (h : n < 9223372036854775808) : Rd.num (p ++ (numB n ++ q)) (some p.length) = (n, some (p.length + (numB n).length)) := by
  unfold Rd.num
  have h9 := numB_len9 n h
  simp only [List.drop_left]
  rw [rd_numB n 0 0 q (by omega) (fun _ => rfl)]
  simp
theorem num_cut (p : List UInt8) (n j : Nat) (hj : j < (numB n).length) : Rd.num (p ++ (numB n).take j) (some p.length) = (0, none) := by
  unfold Rd.num
  simp only [List.drop_left]
  rw [rd_cut n 0 0 j hj]

/-- an item: a text or a number. -/
structure Itm where
  t : Bool
  n : Int
  s : ByteArray

def Itm.enc (x : Itm) : List UInt8 := if x.t then textB x.s else numB x.n.toNat
def encAll (xs : List Itm) : List UInt8 := xs.flatMap Itm.enc
def Itm.rd (l : List UInt8) (st : Option Nat) (x : Itm) : Option Nat := if x.t then (Rd.text l st).2 else (Rd.num l st).2
def Itm.ok (x : Itm) : Prop := x.n < 9223372036854775808 ∧ x.s.size ≤ 300

theorem text_back (p q : List UInt8) (s : ByteArray) (h : s.size < 9223372036854775808) :
    Rd.text (p ++ (textB s ++ q)) (some p.length) = (s.data.toList, some (p.length + (textB s).length)) := by
  have hs : s.data.toList.length = s.size := by rw [Array.length_toList]; rfl
  unfold Rd.text textB
  rw [List.append_assoc, num_back p _ s.size h]
  simp only
  rw [if_pos (by simp only [List.length_append]; omega)]
  congr 1
  · rw [← List.append_assoc, show p.length + (numB s.size).length = (p ++ numB s.size).length by rw [List.length_append], List.drop_left, List.take_left' hs]
  · congr 1
    simp only [List.length_append]
    omega
theorem text_cut (p : List UInt8) (s : ByteArray) (j : Nat) (h : s.size < 9223372036854775808) (hj : j < (textB s).length) : Rd.text (p ++ (textB s).take j) (some p.length) = ([], none) := by
  have hs : s.data.toList.length = s.size := by rw [Array.length_toList]; rfl
  unfold textB at hj ⊢
  rw [List.length_append] at hj
  by_cases h1 : j < (numB s.size).length
  · rw [List.take_append_of_le_length (by omega)]
    unfold Rd.text
    rw [num_cut p s.size j h1]
  · have e : j = (numB s.size).length + (j - (numB s.size).length) := by omega
    rw [e, List.take_length_add_append]
    unfold Rd.text
    rw [num_back p _ s.size h]
    simp only
    rw [if_neg]
    simp only [List.length_append, List.length_take]
    omega
theorem enc_pos (x : Itm) : 0 < x.enc.length := by
  unfold Itm.enc
  split
  · unfold textB
    have := numB_pos x.s.size
    simp only [List.length_append]
    omega
  · exact numB_pos _
theorem enc_le (x : Itm) (h : x.ok) : x.enc.length ≤ 309 := by
  unfold Itm.enc
  have hs : x.s.data.toList.length = x.s.size := by rw [Array.length_toList]; rfl
  have h2 := h.2
  split
  · unfold textB
    have := numB_len9 x.s.size (by omega)
    simp only [List.length_append]
    omega
  · have := numB_len9 x.n.toNat (by have := h.1; omega)
    omega
theorem rd_back (p q : List UInt8) (x : Itm) (h : x.ok) : x.rd (p ++ (x.enc ++ q)) (some p.length) = some (p.length + x.enc.length) := by
  unfold Itm.rd Itm.enc
  have h2 := h.2
  have h1 := h.1
  split
  · rw [text_back p q x.s (by omega)]
  · rw [num_back p q _ (by omega)]
theorem rd_none (l : List UInt8) (x : Itm) : x.rd l none = none := by
  unfold Itm.rd
  split <;> rfl
theorem rd_cut_off (p : List UInt8) (x : Itm) (j : Nat) (h : x.ok) (hj : j < x.enc.length) : x.rd (p ++ x.enc.take j) (some p.length) = none := by
  unfold Itm.rd Itm.enc at *
  have h2 := h.2
  split
  · rename_i ht
    rw [if_pos ht] at hj
    rw [text_cut p x.s j (by omega) hj]
  · rename_i ht
    rw [if_neg ht] at hj
    rw [num_cut p _ j hj]

theorem encAll_append (xs ys : List Itm) : encAll (xs ++ ys) = encAll xs ++ encAll ys := List.flatMap_append
theorem encAll_cons (x : Itm) (ys : List Itm) : encAll (x :: ys) = x.enc ++ encAll ys := List.flatMap_cons

/-- what is cut off at k: the reader is where it was, or at an error. -/
theorem cut_step (ys zs : List Itm) (x : Itm) (k : Nat) (h : x.ok) (st : Option Nat) (hst : st = none ∨ (st = some (encAll ys).length ∧ (encAll ys).length ≤ k)) :
    x.rd ((encAll (ys ++ x :: zs)).take k) st = none ∨ (x.rd ((encAll (ys ++ x :: zs)).take k) st = some (encAll (ys ++ [x])).length ∧ (encAll (ys ++ [x])).length ≤ k) := by
  rcases hst with rfl | ⟨rfl, hk⟩
  · exact .inl (rd_none _ _)
  · have e0 : encAll (ys ++ x :: zs) = encAll ys ++ (x.enc ++ encAll zs) := by rw [encAll_append, encAll_cons]
    have e1 : encAll (ys ++ [x]) = encAll ys ++ x.enc := by rw [encAll_append, encAll_cons]; simp [encAll]
    obtain ⟨d, rfl⟩ : ∃ d, k = (encAll ys).length + d := ⟨k - (encAll ys).length, by omega⟩
    rw [e0, e1, List.take_length_add_append, List.length_append]
    by_cases hd : x.enc.length ≤ d
    · obtain ⟨d', rfl⟩ : ∃ d', d = x.enc.length + d' := ⟨d - x.enc.length, by omega⟩
      rw [List.take_length_add_append, rd_back _ _ x h]
      exact .inr ⟨rfl, by omega⟩
    · rw [List.take_append_of_le_length (by omega), rd_cut_off _ x d h (by omega)]
      exact .inl rfl
end Go.Proofs.Ytikkakbemphdhaa
