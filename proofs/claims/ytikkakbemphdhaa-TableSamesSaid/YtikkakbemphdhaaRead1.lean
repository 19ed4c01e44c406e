/- The Reader. -/
import Derived.Test.YtikkakbemphdhaaProg
import Derived.Test.YtikkakbemphdhaaLib1
import Derived.Test.YtikkakbemphdhaaRead0
import Derived.Deep.QuietTactic
import Derived.BigQuiet
namespace Go.Proofs.Ytikkakbemphdhaa
open Go.RowKit Go.Fl

/-- a Reader at block g: of the text s, at a; bad: there was an error. -/
def IsR (W : World) (g : Nat) (s : ByteArray) (a : Nat) (bad : Bool) : Prop :=
  W.heap[g]? = some (.cells #[.string s, .int .i64 a, .bool bad] 70 (0, 0))

theorem IsR.cells {W : World} {g : Nat} {s : ByteArray} {a : Nat} {bad : Bool} (h : IsR W g s a bad) :
    W.cell? ⟨g, 0, none⟩ = some (.string s) ∧ W.cell? ⟨g, 1, none⟩ = some (.int .i64 a) ∧ W.cell? ⟨g, 2, none⟩ = some (.bool bad) ∧
    W.frozen? ⟨g, 0, none⟩ = false ∧ W.frozen? ⟨g, 1, none⟩ = false ∧ W.frozen? ⟨g, 2, none⟩ = false := by
  unfold IsR at h
  refine ⟨?_, ?_, ?_, ?_, ?_, ?_⟩
  · simp [World.cell?, h]
  · simp [World.cell?, h]
  · simp [World.cell?, h]
  · simp [World.frozen?, h]
  · simp [World.frozen?, h]
  · simp [World.frozen?, h]
theorem IsR.drewN {W : World} {g : Nat} {s : ByteArray} {a : Nat} {bad : Bool} (h : IsR W g s a bad) (n : Nat) : IsR (W.drewN n) g s a bad := by
  unfold IsR; rw [World.heap_drewN]; exact h
theorem IsR.set1 {W : World} {g : Nat} {s : ByteArray} {a : Nat} {bad : Bool} (h : IsR W g s a bad) (b : Nat) : IsR (W.setCell ⟨g, 1, none⟩ (.int .i64 b)) g s b bad := by
  exact (heap_set_same h 1 _).trans rfl
theorem IsR.set2 {W : World} {g : Nat} {s : ByteArray} {a : Nat} {bad : Bool} (h : IsR W g s a bad) (b : Bool) : IsR (W.setCell ⟨g, 2, none⟩ (.bool b)) g s a b := by
  exact (heap_set_same h 2 _).trans rfl
theorem IsR.kept {W W' : World} {g : Nat} {s : ByteArray} {a : Nat} {bad : Bool} {S : Nat → Prop} (h : IsR W g s a bad) (hK : Kept W W' S) (hn : ¬ S g) : IsR W' g s a bad :=
  hK.heap h hn

/-- the same, of a state: none: there was an error. -/
def IsRd (W : World) (g : Nat) (s : ByteArray) : Option Nat → Prop
  | some a => a ≤ s.size ∧ IsR W g s a false
  | none => ∃ a, a ≤ s.size ∧ IsR W g s a true

theorem IsRd.kept {W W' : World} {g : Nat} {s : ByteArray} {st : Option Nat} {S : Nat → Prop} (h : IsRd W g s st) (hK : Kept W W' S) (hn : ¬ S g) : IsRd W' g s st := by
  cases st with
  | some a => exact ⟨h.1, h.2.kept hK hn⟩
  | none => obtain ⟨a, h1, h2⟩ := h; exact ⟨a, h1, h2.kept hK hn⟩

theorem ofInt_u8 (a : Nat) (ha : a < 256) : (BitVec.ofInt 8 (a : Int)).toNat = a := by
  rw [BitVec.ofInt_natCast, BitVec.toNat_ofNat]; exact Nat.mod_eq_of_lt (by omega)
theorem ofInt_i64' (a : Nat) (ha : a < 9223372036854775808) : (BitVec.ofInt 64 (a : Int)).toNat = a := by
  rw [BitVec.ofInt_natCast, BitVec.toNat_ofNat]; exact Nat.mod_eq_of_lt (by omega)
theorem and127_u8 (m : Nat) (h : m < 256) : bits .and .u8 (m : Int) 127 = ((m % 128 : Nat) : Int) := by
  have e : m &&& 127 = m % 128 := Nat.and_two_pow_sub_one_eq_mod m 7
  show IntKind.u8.wrap ((BitVec.ofInt 8 (m : Int) &&& BitVec.ofInt 8 ((127 : Nat) : Int)).toNat : Int) = _
  rw [BitVec.toNat_and, ofInt_u8 m h, ofInt_u8 127 (by omega), e, IntKind.wrap_u8]
  omega
/-- one byte more of a number. -/
theorem more (m t acc : Nat) (hm : m < 256) (ht : t ≤ 56) (ha : acc < 2 ^ t) :
    bits .or .i64 (acc : Int) (wrap64 (wrap64 (bits .and .u8 (m : Int) 127) * 2 ^ t)) = ((acc + m % 128 * 2 ^ t : Nat) : Int) := by
  have hp : 2 ^ t ≤ 2 ^ 56 := Nat.pow_le_pow_right (by omega) ht
  have h1 : m % 128 * 2 ^ t ≤ 127 * 2 ^ 56 := Nat.mul_le_mul (by omega) hp
  have e0 : (2 : Nat) ^ 56 = 72057594037927936 := by decide
  have e1 : wrap64 (bits .and .u8 (m : Int) 127) = ((m % 128 : Nat) : Int) := by rw [and127_u8 m hm]; unfold wrap64; omega
  have e2 : wrap64 (((m % 128 : Nat) : Int) * 2 ^ t) = ((m % 128 * 2 ^ t : Nat) : Int) := by
    rw [show (((m % 128 : Nat) : Int) * 2 ^ t) = ((m % 128 * 2 ^ t : Nat) : Int) by push_cast; rfl]
    generalize m % 128 * 2 ^ t = z at h1 ⊢
    unfold wrap64; omega
  rw [e1, e2]
  have e3 : acc ||| (m % 128 * 2 ^ t) = acc + m % 128 * 2 ^ t := by
    have := Nat.two_pow_add_eq_or_of_lt (i := t) (b := acc) ha (m % 128)
    rw [Nat.mul_comm (2 ^ t)] at this
    rw [Nat.or_comm, ← this, Nat.add_comm]
  show IntKind.i64.wrap ((BitVec.ofInt 64 (acc : Int) ||| BitVec.ofInt 64 ((m % 128 * 2 ^ t : Nat) : Int)).toNat : Int) = _
  generalize m % 128 * 2 ^ t = z at h1 e3 ⊢
  rw [BitVec.toNat_or, ofInt_i64' acc (by omega), ofInt_i64' z (by omega), e3, IntKind.wrap_i64]
  omega

end Go.Proofs.Ytikkakbemphdhaa
