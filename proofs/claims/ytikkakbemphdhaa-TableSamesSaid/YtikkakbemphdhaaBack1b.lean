/- Small facts for the walk of WireBack. -/
import Derived.Test.YtikkakbemphdhaaBack1
import Derived.Test.YtikkakbemphdhaaRead1
namespace Go.Proofs.Ytikkakbemphdhaa
open Go.RowKit Go.Fl

theorem and65535 (k : Int) : ∃ c : Nat, bits .and .i64 k 65535 = (c : Int) ∧ c < 65536 := by
  have h : (BitVec.ofInt 64 k &&& BitVec.ofInt 64 ((65535 : Nat) : Int)).toNat < 65536 := by
    rw [BitVec.toNat_and, ofInt_i64' 65535 (by omega)]
    exact Nat.lt_of_le_of_lt Nat.and_le_right (by omega)
  refine ⟨(BitVec.ofInt 64 k &&& BitVec.ofInt 64 ((65535 : Nat) : Int)).toNat, ?_, h⟩
  show IntKind.i64.wrap ((BitVec.ofInt 64 k &&& BitVec.ofInt 64 ((65535 : Nat) : Int)).toNat : Int) = _
  rw [IntKind.wrap_i64]
  omega
theorem encAll_take (xs : List Itm) (j : Nat) (h : j < xs.length) : encAll (xs.take (j + 1)) = encAll (xs.take j) ++ xs[j].enc := by
  rw [List.take_succ_eq_append_getElem h, encAll_append, encAll_cons]
  simp [encAll]
theorem encAll_len (xs : List Itm) (h : ∀ x ∈ xs, x.ok) : (encAll xs).length ≤ 309 * xs.length := by
  induction xs with
  | nil => simp [encAll]
  | cons x xs ih =>
    rw [encAll_cons, List.length_append, List.length_cons]
    have := enc_le x (h x (by simp))
    have := ih (fun y hy => h y (by simp [hy]))
    omega
theorem box_kept {w w1 : World} {g : Nat} {r r' : Option Nat} {o : Obj} (hK : KeptW (w.alloc o) w1 g r r') (hg : g < w.heap.size) (hr : ∀ k, r = some k → k < w.heap.size) :
    w1.heap[w.heap.size]? = some o := by
  rw [hK.block w.heap.size (by simp) (by omega) (fun e => by have := hr _ e.symm; omega)]
  exact heap_alloc_new w o
theorem IsW.lt {W : World} {base g : Nat} {r : Option Nat} {l : List UInt8} (h : IsW W base g r l) : g < W.heap.size ∧ ∀ k, r = some k → k < W.heap.size := by
  obtain ⟨_, v, hg, hv, hown⟩ := h
  exact ⟨lt_of_heap hg, fun k hk => (hown.lt k (hv.trans hk)).2⟩

theorem box3 {W : World} {b : Nat} {t : Bool} {n : Int} {s : ByteArray} (h : W.heap[b]? = some (.cells #[.bool t, .int .i64 n, .string s] 30 (0, 0))) :
    W.cell? ⟨b, 0, none⟩ = some (.bool t) ∧ W.cell? ⟨b, 1, none⟩ = some (.int .i64 n) ∧ W.cell? ⟨b, 2, none⟩ = some (.string s) := by
  refine ⟨?_, ?_, ?_⟩ <;> simp [World.cell?, h]

theorem size_of {S : ByteArray} {l : List UInt8} (h : S.data.toList = l) : S.size = l.length := by rw [← h, Array.length_toList]; rfl

end Go.Proofs.Ytikkakbemphdhaa
