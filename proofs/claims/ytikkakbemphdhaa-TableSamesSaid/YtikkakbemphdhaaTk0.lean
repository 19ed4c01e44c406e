/- What Plain let by is good, and its bytes are few. -/
import Derived.Test.YtikkakbemphdhaaTg3
import Derived.Test.YtikkakbemphdhaaTa3
set_option linter.unusedSimpArgs false
set_option linter.unusedVariables false
namespace Go.Proofs.Ytikkakbemphdhaa
open Go.RowKit Go.Fl

theorem flat_le {α : Type} (f : α → List UInt8) (B : Nat) : ∀ (xs : List α), (∀ x ∈ xs, (f x).length ≤ B) → (xs.flatMap f).length ≤ xs.length * B
  | [], _ => by simp
  | x :: xs, h => by
    have h1 := h x (by simp)
    have h2 := flat_le f B xs (fun y hy => h y (by simp [hy]))
    rw [List.flatMap_cons, List.length_append, List.length_cons, Nat.add_mul]
    omega
theorem all_le {α : Type} (f : α → List UInt8) (B k : Nat) (xs : List α) (hk : xs.length ≤ k) (hk2 : k ≤ 1000) (h : ∀ x ∈ xs, (f x).length ≤ B) : (eAll f xs).length ≤ 9 + k * B := by
  have h1 := flat_le f B xs h
  have h2 := numB_len9 xs.length (by omega)
  have h3 : xs.length * B ≤ k * B := Nat.mul_le_mul_right B hk
  unfold eAll
  rw [List.length_append]
  omega
theorem num_le (n : Int) (h : n ≤ 9223372036854775807) : (numB n.toNat).length ≤ 9 := numB_len9 _ (by omega)

theorem ok_txs {xs : List Tx} (h : TxsOk xs) (hf : Fits Tx.fit xs) : goodL Tx.good xs ∧ (eAll eTx xs).length ≤ 4369 := by
  refine ⟨⟨by have := h.1; omega, fun x hx => ?_⟩, ?_⟩
  · have h1 := h.2 x hx
    have h2 := hf.2 x hx
    exact ⟨⟨h1.1, by have := h2.2; omega⟩, by have := h1.2; unfold goodB; omega⟩
  · refine all_le eTx 218 20 xs h.1 (by omega) (fun x hx => ?_)
    have h1 := h.2 x hx
    have h2 := hf.2 x hx
    have h3 := num_le x.cat h2.2
    have h4 := textB_len x.s h2.1
    have h5 := h1.2
    unfold eTx
    rw [List.length_append]
    omega
theorem ok_rws {xs : List Rw} (h : RwsOk xs) (hf : Fits Rw.fit xs) : goodL Rw.good xs ∧ (eAll eRw xs).length ≤ 87569 := by
  refine ⟨⟨by have := h.1; omega, fun x hx => ?_⟩, ?_⟩
  · have h1 := h.2 x hx
    have h2 := hf.2 x hx
    exact ⟨⟨h1.1, by have := h2.1; omega⟩, (ok_txs h1.2 h2.2).1⟩
  · refine all_le eRw 4378 20 xs h.1 (by omega) (fun x hx => ?_)
    have h1 := h.2 x hx
    have h2 := hf.2 x hx
    have h3 := num_le x.mag h2.1
    have h4 := (ok_txs h1.2 h2.2).2
    unfold eRw
    rw [List.length_append]
    omega
theorem ok_uns {xs : List Un} (h : xs.length ≤ 50 ∧ ∀ u ∈ xs, u.ok) (hf : Fits Un.fit xs) : goodL Un.good xs ∧ (eAll eUn xs).length ≤ 228909 := by
  refine ⟨⟨by have := h.1; omega, fun x hx => ?_⟩, ?_⟩
  · have h1 := h.2 x hx
    have h2 := hf.2 x hx
    exact ⟨by have := h1.1; unfold goodB; omega, (ok_txs h1.2 h2.2).1⟩
  · refine all_le eUn 4578 50 xs h.1 (by omega) (fun x hx => ?_)
    have h1 := h.2 x hx
    have h2 := hf.2 x hx
    have h3 := textB_len x.name h2.1
    have h4 := (ok_txs h1.2 h2.2).2
    have h5 := h1.1
    unfold eUn
    rw [List.length_append]
    omega
theorem ok_cus {xs : List Cu} (h : xs.length ≤ 50 ∧ ∀ c ∈ xs, c.ok) (hf : Fits Cu.fit xs) : goodL Cu.good xs ∧ (eAll eCu xs).length ≤ 231609 := by
  refine ⟨⟨by have := h.1; omega, fun x hx => ?_⟩, ?_⟩
  · obtain ⟨q1, q2, q3, q4, q5, q6⟩ := h.2 x hx
    obtain ⟨f1, f2, f3, f4, f5, f6, f7, f8⟩ := hf.2 x hx
    exact ⟨by unfold goodB; omega, by unfold goodB; omega, by unfold goodB; omega, (ok_txs q2 f4).1, ⟨q3, by omega⟩, ⟨q4, by omega⟩, ⟨q5, by omega⟩, ⟨q6, by omega⟩⟩
  · refine all_le eCu 4632 50 xs h.1 (by omega) (fun x hx => ?_)
    obtain ⟨q1, q2, q3, q4, q5, q6⟩ := h.2 x hx
    obtain ⟨f1, f2, f3, f4, f5, f6, f7, f8⟩ := hf.2 x hx
    have a1 := textB_len x.code (by omega)
    have a2 := textB_len x.sym (by omega)
    have a3 := textB_len x.nar (by omega)
    have a4 := (ok_txs q2 f4).2
    have a5 := num_le x.d0 f5
    have a6 := num_le x.d1 f6
    have a7 := num_le x.d2 f7
    have a8 := num_le x.d3 f8
    unfold eCu
    simp only [List.length_append]
    omega
theorem eSs_le (s : Nat → ByteArray) (B : Nat) (hB : B ≤ 1000000) : ∀ n, (∀ i, i < n → (s i).size ≤ B) → (eSs s n).length ≤ n * (9 + B)
  | 0, _ => by simp [eSs]
  | n + 1, h => by
    have h1 := eSs_le s B hB n (fun i hi => h i (by omega))
    have h2 := textB_len (s n) (by have := h n (by omega); omega)
    have h3 := h n (by omega)
    rw [eSs_succ, List.length_append, Nat.add_mul]
    omega
/-- a table that Plain let by. -/
theorem ok_tb {t : Tb} (h : t.ok) (hf : t.fit) : t.good ∧ (eTb t).length ≤ 2000000 := by
  have r1 := ok_rws h.short hf.short
  have r2 := ok_rws h.long hf.long
  have r3 := ok_rws h.mshort hf.mshort
  have r4 := ok_cus h.curs hf.curs
  have r5 := ok_uns h.units hf.units
  have r6 := ok_txs h.munit hf.munit
  have r7 := eSs_le t.s 5000 (by omega) 27 h.s
  have r8 := num_le t.grp hf.grp
  refine ⟨⟨fun i hi => by have := h.s i hi; unfold goodB; omega, ⟨h.grp, by have := hf.grp; have e : t.rest.1 = t.grp := rfl; omega⟩, r1.1, r2.1, r3.1, r4.1, r5.1, r6.1⟩, ?_⟩
  have a1 := r1.2
  have a2 := r2.2
  have a3 := r3.2
  have a4 := r4.2
  have a5 := r5.2
  have a6 := r6.2
  unfold eTb
  simp only [List.length_append]
  omega
theorem eTb_pos (t : Tb) : 0 < (eTb t).length := by
  unfold eTb
  have := numB_pos t.grp.toNat
  simp only [List.length_append]
  omega
end Go.Proofs.Ytikkakbemphdhaa
