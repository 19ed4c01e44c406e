/- A code point's sign, read back. -/
import Derived.Test.YtajioajigpneoaaDoorPureG
import Derived.Laws.BitsLemmas
set_option linter.unusedSimpArgs false
set_option linter.unusedVariables false
namespace Go.Proofs.YtajioajigpneoaaDoor
open Go.RowKit Go.Fl Go.Shelf Go.Lib

/-- a code point that is one. -/
def Pt (p : Nat) : Prop := p ≤ 1114111 ∧ ¬ (55296 ≤ p ∧ p ≤ 57343)
def signL (p : Nat) : List UInt8 :=
  if p < 128 then [UInt8.ofNat p]
  else if p < 2048 then [UInt8.ofNat (192 + p / 64), UInt8.ofNat (128 + p % 64)]
  else if p < 65536 then [UInt8.ofNat (224 + p / 4096), UInt8.ofNat (128 + p / 64 % 64), UInt8.ofNat (128 + p % 64)]
  else [UInt8.ofNat (240 + p / 262144), UInt8.ofNat (128 + p / 4096 % 64), UInt8.ofNat (128 + p / 64 % 64), UInt8.ofNat (128 + p % 64)]

theorem byte_of {x : Nat} (h : x < 256) : (UInt8.ofNat x).toNat = x := by simp; omega

theorem sign_dec {p : Nat} (hp : Pt p) (t : List UInt8) : decodeL (signL p ++ t) = (p, (signL p).length) := by
  unfold Pt at hp
  unfold signL
  by_cases h1 : p < 128
  · simp only [if_pos h1]
    rw [List.cons_append, decodeL_ascii _ _ (by rw [byte_of (by omega)]; exact h1), byte_of (by omega)]
    rfl
  · simp only [if_neg h1]
    by_cases h2 : p < 2048
    · simp only [if_pos h2]
      rw [decodeL_N]
      simp only [List.cons_append, List.nil_append, List.getD_cons_zero, List.getD_cons_succ, List.length_cons, List.length_nil]
      rw [byte_of (show 192 + p / 64 < 256 by omega), byte_of (show 128 + p % 64 < 256 by omega)]
      unfold decodeN
      rw [if_neg (by omega), if_pos ⟨by omega, by omega, by omega⟩, if_pos (by omega)]
      exact Prod.ext (by dsimp only; omega) rfl
    · simp only [if_neg h2]
      by_cases h3 : p < 65536
      · simp only [if_pos h3]
        rw [decodeL_N]
        simp only [List.cons_append, List.nil_append, List.getD_cons_zero, List.getD_cons_succ, List.length_cons, List.length_nil]
        rw [byte_of (show 224 + p / 4096 < 256 by omega), byte_of (show 128 + p / 64 % 64 < 256 by omega), byte_of (show 128 + p % 64 < 256 by omega)]
        unfold decodeN
        rw [if_neg (by omega), if_neg (by omega), if_pos ⟨by omega, ⟨by omega, by omega⟩, by omega, by omega⟩, if_pos ⟨by omega, by omega⟩]
        exact Prod.ext (by dsimp only; omega) rfl
      · simp only [if_neg h3]
        rw [decodeL_N]
        simp only [List.cons_append, List.nil_append, List.getD_cons_zero, List.getD_cons_succ, List.length_cons, List.length_nil]
        rw [byte_of (show 240 + p / 262144 < 256 by omega), byte_of (show 128 + p / 4096 % 64 < 256 by omega), byte_of (show 128 + p / 64 % 64 < 256 by omega), byte_of (show 128 + p % 64 < 256 by omega)]
        unfold decodeN
        rw [if_neg (by omega), if_neg (by omega), if_neg (by omega), if_pos ⟨by omega, ⟨by omega, by omega⟩, ⟨by omega, by omega⟩, by omega, by omega⟩, if_pos ⟨by omega, by omega⟩]
        exact Prod.ext (by dsimp only; omega) rfl

theorem sign_len (p : Nat) : 1 ≤ (signL p).length ∧ (signL p).length ≤ 4 ∧ (2048 ≤ p → 3 ≤ (signL p).length) := by
  unfold signL
  by_cases h1 : p < 128
  · rw [if_pos h1]; simp; omega
  · rw [if_neg h1]
    by_cases h2 : p < 2048
    · rw [if_pos h2]; simp; omega
    · rw [if_neg h2]
      by_cases h3 : p < 65536
      · rw [if_pos h3]; simp
      · rw [if_neg h3]; simp

theorem sign_ok {p : Nat} (n : Nat) (hn : n = (signL p).length) : okP (p, n) = true ∧ ptP (p, n) = p := by
  have h : okP (p, n) = true := by
    unfold okP
    by_cases h1 : p = 65533
    · have := (sign_len p).2.2 (by omega)
      have h2 : ¬ n < 2 := by omega
      simp [h2]
    · simp [h1]
  exact ⟨h, by unfold ptP; rw [if_pos h]⟩

theorem sign_lead {p : Nat} (hp : Pt p) (t : List UInt8) : leadL (signL p ++ t) = (signL p).length := by
  have hl := sign_len p
  have h0 : signL p ++ t ≠ [] := fun e => by
    have := congrArg List.length e
    rw [List.length_append] at this
    simp only [List.length_nil] at this
    omega
  rcases lead_dec h0 with ⟨h1, h2⟩ | ⟨_, h2, _⟩
  · rw [sign_dec hp t] at h2
    injection h2 with h3 h4
    have := hl.2.2 (by omega)
    omega
  · rw [← h2, sign_dec hp t]

theorem sign_step {p : Nat} (hp : Pt p) (t : List UInt8) (n : Nat) : scanS (n + 1) (signL p ++ t) = ((scanS n t).1 + 1, (scanS n t).2) := by
  have hl := sign_len p
  have h0 : signL p ++ t ≠ [] := fun e => by
    have := congrArg List.length e
    rw [List.length_append] at this
    simp only [List.length_nil] at this
    omega
  rw [scanS, if_neg h0, sign_lead hp t, if_neg (by omega), List.drop_left]

theorem valid_count {s : ByteArray} {k : Nat} (n : Nat) (hn : s.size ≤ n) (h : scanS n s.data.toList = (k, true)) : valid s = true ∧ runeCount s = k := by
  have hl : s.data.toList.length = s.size := Array.length_toList
  have hs : scanS s.size s.data.toList = (k, true) := by rw [scanS_fuel s.size n _ (by omega) (by omega)]; exact h
  have hv : validD s.data.toList = true := by rw [← scanS_valid s.size s.data.toList (by omega), hs]
  refine ⟨hv, ?_⟩
  have h2 := scanS_count s s.size 0 (Nat.zero_le _) (by omega) (by rw [List.drop_zero]; exact hv)
  rw [List.drop_zero, hs] at h2
  exact h2.symm

/-- one sign. -/
theorem sign_one {p : Nat} (hp : Pt p) {X : ByteArray} (hX : X.data.toList = signL p) : valid X = true ∧ runeCount X = 1 := by
  have hl : X.data.toList.length = X.size := Array.length_toList
  refine valid_count (X.size + 1) (by omega) ?_
  have h := sign_step hp [] X.size
  rw [List.append_nil] at h
  rw [hX, h]
  cases X.size <;> simp [scanS]
/-- two signs. -/
theorem sign_two {p q : Nat} (hp : Pt p) (hq : Pt q) {X : ByteArray} (hX : X.data.toList = signL p ++ signL q) : valid X = true ∧ runeCount X = 2 := by
  have hl : X.data.toList.length = X.size := Array.length_toList
  refine valid_count (X.size + 1 + 1) (by omega) ?_
  have h := sign_step hp (signL q) (X.size + 1)
  have h2 := sign_step hq [] X.size
  rw [List.append_nil] at h2
  rw [hX, h, h2]
  cases X.size <;> simp [scanS]
theorem sign_first {p : Nat} (hp : Pt p) {X : ByteArray} {t : List UInt8} (hX : X.data.toList = signL p ++ t) : okP (decodeGo X) = true ∧ ptP (decodeGo X) = p := by
  have hl := sign_len p
  have e : decodeGo X = (p, (signL p).length) := by
    unfold decodeGo
    have hs : ¬ X.size = 0 := by
      have : X.data.toList.length = X.size := Array.length_toList
      rw [hX, List.length_append] at this
      omega
    rw [if_neg hs, ← sign_dec hp t, ← hX, ← decodeL_drop]
    rfl
  rw [e]
  exact sign_ok _ rfl
theorem sign_last {q : Nat} (hq : Pt q) (t : List UInt8) : okP (decodeLastL (t ++ signL q)) = true ∧ ptP (decodeLastL (t ++ signL q)) = q := by
  have hl := sign_len q
  have h1 := sign_lead hq []
  have h2 := sign_dec hq []
  rw [List.append_nil] at h1 h2
  rw [last_sign t (signL q) (by omega) h1, h2]
  exact sign_ok _ rfl
end Go.Proofs.YtajioajigpneoaaDoor
