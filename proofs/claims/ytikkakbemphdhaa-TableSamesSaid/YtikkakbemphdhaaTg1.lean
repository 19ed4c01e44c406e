/- The plain signs. -/
import Derived.Test.YtikkakbemphdhaaTe0
set_option linter.unusedSimpArgs false
set_option linter.unusedVariables false
namespace Go.Proofs.Ytikkakbemphdhaa
open Go.RowKit Go.Fl

def dg (n : Nat) : UInt8 := UInt8.ofNat (48 + n)
theorem enc_dig (k : Nat) (hk : k < 10) : Utf8.encode (48 + (k : Int)) = ⟨#[dg k]⟩ := by
  match k, hk with
  | 0, _ => rfl
  | 1, _ => rfl
  | 2, _ => rfl
  | 3, _ => rfl
  | 4, _ => rfl
  | 5, _ => rfl
  | 6, _ => rfl
  | 7, _ => rfl
  | 8, _ => rfl
  | 9, _ => rfl
  | n + 10, h => omega

/-- ten signs as a value's parts. -/
def arr (G : Nat → ByteArray) : Array Value := #[.string (G 0), .string (G 1), .string (G 2), .string (G 3), .string (G 4), .string (G 5), .string (G 6), .string (G 7), .string (G 8), .string (G 9)]
theorem arr_get (G : Nat → ByteArray) (i : Nat) (hi : i < 10) : (arr G)[i]? = some (.string (G i)) := by
  match i, hi with
  | 0, _ => rfl
  | 1, _ => rfl
  | 2, _ => rfl
  | 3, _ => rfl
  | 4, _ => rfl
  | 5, _ => rfl
  | 6, _ => rfl
  | 7, _ => rfl
  | 8, _ => rfl
  | 9, _ => rfl
  | n + 10, h => omega
theorem arr_set (G : Nat → ByteArray) (i : Nat) (hi : i < 10) (s : ByteArray) : (arr G).setIfInBounds i (.string s) = arr (fun j => if j = i then s else G j) := by
  match i, hi with
  | 0, _ => rfl
  | 1, _ => rfl
  | 2, _ => rfl
  | 3, _ => rfl
  | 4, _ => rfl
  | 5, _ => rfl
  | 6, _ => rfl
  | 7, _ => rfl
  | 8, _ => rfl
  | 9, _ => rfl
  | n + 10, h => omega
theorem arr_cell {W : World} {b t : Nat} {G : Nat → ByteArray} (h : W.heap[b]? = some (.cells (arr G) t (0, 0))) {i : Nat} (hi : i < 10) : W.cell? ⟨b, i, none⟩ = some (.string (G i)) ∧ W.frozen? ⟨b, i, none⟩ = false := by
  have h2 := arr_get G i hi
  refine ⟨?_, ?_⟩
  · simp [World.cell?, h, h2]
  · simp [World.frozen?, h]
theorem arr_ext {G H : Nat → ByteArray} (h : ∀ i, i < 10 → G i = H i) : arr G = arr H := by
  unfold arr
  rw [h 0 (by decide), h 1 (by decide), h 2 (by decide), h 3 (by decide), h 4 (by decide), h 5 (by decide), h 6 (by decide), h 7 (by decide), h 8 (by decide), h 9 (by decide)]
/-- ten cells, written one by one. -/
theorem arr_put {W : World} {b t : Nat} {cs : Array Value} (G : Nat → ByteArray) (hc : cs.size = 10) (h : W.heap[b]? = some (.cells cs t (0, 0))) :
    ((((((((((W.setCell ⟨b, 0, none⟩ (.string (G 0))).setCell ⟨b, 1, none⟩ (.string (G 1))).setCell ⟨b, 2, none⟩ (.string (G 2))).setCell ⟨b, 3, none⟩ (.string (G 3))).setCell ⟨b, 4, none⟩ (.string (G 4))).setCell ⟨b, 5, none⟩ (.string (G 5))).setCell ⟨b, 6, none⟩ (.string (G 6))).setCell ⟨b, 7, none⟩ (.string (G 7))).setCell ⟨b, 8, none⟩ (.string (G 8))).setCell ⟨b, 9, none⟩ (.string (G 9))).heap[b]? = some (.cells (arr G) t (0, 0)) := by
  obtain ⟨l⟩ := cs
  match l, hc with
  | [a0, a1, a2, a3, a4, a5, a6, a7, a8, a9], _ =>
  have h0 := heap_set_same h 0 (.string (G 0))
  have h1 := heap_set_same h0 1 (.string (G 1))
  have h2 := heap_set_same h1 2 (.string (G 2))
  have h3 := heap_set_same h2 3 (.string (G 3))
  have h4 := heap_set_same h3 4 (.string (G 4))
  have h5 := heap_set_same h4 5 (.string (G 5))
  have h6 := heap_set_same h5 6 (.string (G 6))
  have h7 := heap_set_same h6 7 (.string (G 7))
  have h8 := heap_set_same h7 8 (.string (G 8))
  have h9 := heap_set_same h8 9 (.string (G 9))
  rw [h9]
  simp only [List.setIfInBounds_toArray, List.set_cons_zero, List.set_cons_succ]
  rfl

def dgG (j : Nat) : ByteArray := ⟨#[dg j]⟩
def dgP (i j : Nat) : ByteArray := if j < i then ⟨#[dg j]⟩ else ⟨#[]⟩

set_option maxRecDepth 100000 in
set_option maxHeartbeats 2000000 in
theorem signs_any (w : World) : Calls Try.prog 53 #[] w fun e w' => e = .returned (.agg (arr dgG)) ∧ Below w.heap.size w w' := by
  go_enter Try.func53, Try.ntmps53
  go_wp2
  go_loopg [2, 3] 10 (fun gk a v wr => ∃ i : Nat, v = .int .i64 i ∧ Hid (i + gk = 10) ∧ Hid (wr.heap[w.heap.size + 1]? = some (.cells (arr (dgP i)) 47 (0, 0))) ∧ Hid (wr.heap[w.heap.size]? = some (.cells (arr (dgP 0)) 47 (0, 0))) ∧ Hid (Below w.heap.size w wr))
  case atStart =>
    refine ⟨0, rfl, Lib.hid (by omega), Lib.hid ?_, Lib.hid ?_, Lib.hid ?_⟩
    · have h := heap_alloc_new (w.alloc (.cells (arr (dgP 0)) 47)) (.cells (arr (dgP 0)) 47)
      simp only [World.alloc, Array.size_push] at h
      exact h
    · have h := heap_alloc_new w (.cells (arr (dgP 0)) 47)
      exact (Below.heap_alloc _ _ _ (by simp)).trans h
    · exact ((Below.refl _ _).alloc (Nat.le_refl _) _).alloc (by simp) _
  case round =>
    obtain ⟨i, rfl, hig, hO, hR, hbr⟩ := hrel
    by_cases hi : i < 10
    · obtain ⟨v0, c, f⟩ : ∃ v0, wr.cell? ⟨w.heap.size + 1, i, none⟩ = some (.string v0) ∧ wr.frozen? ⟨w.heap.size + 1, i, none⟩ = false := ⟨_, arr_cell hO.out hi⟩
      go_wp2
      go_roundg (gk - 1)
      case measure => have := hig.out; omega
      case rel =>
        rw [enc_dig i hi]
        refine ⟨i + 1, rfl, Lib.hid (by have := hig.out; omega), Lib.hid ?_, Lib.hid ?_, Lib.hid ?_⟩
        · have h := heap_set_same hO.out i (.string ⟨#[dg i]⟩)
          rw [arr_set _ _ hi, arr_ext (H := dgP (i + 1)) (fun j _ => by
            unfold dgP
            by_cases h1 : j = i
            · subst h1; simp
            · by_cases h2 : j < i
              · simp [h1, h2, show j < i + 1 by omega]
              · simp [h1, h2, show ¬ j < i + 1 by omega])] at h
          exact h
        · exact (Below.heap_setCell _ _ _ _ (show w.heap.size ≠ w.heap.size + 1 by omega)).trans hR.out
        · exact hbr.out.setCell (show w.heap.size ≤ w.heap.size + 1 by omega) _
    · obtain rfl : i = 10 := by have := hig.out; omega
      have c0 := (arr_cell hO.out (show 0 < 10 by decide)).1
      have c1 := (arr_cell hO.out (show 1 < 10 by decide)).1
      have c2 := (arr_cell hO.out (show 2 < 10 by decide)).1
      have c3 := (arr_cell hO.out (show 3 < 10 by decide)).1
      have c4 := (arr_cell hO.out (show 4 < 10 by decide)).1
      have c5 := (arr_cell hO.out (show 5 < 10 by decide)).1
      have c6 := (arr_cell hO.out (show 6 < 10 by decide)).1
      have c7 := (arr_cell hO.out (show 7 < 10 by decide)).1
      have c8 := (arr_cell hO.out (show 8 < 10 by decide)).1
      have c9 := (arr_cell hO.out (show 9 < 10 by decide)).1
      have r0 := arr_cell hR.out (show 0 < 10 by decide)
      have r1 := arr_cell hR.out (show 1 < 10 by decide)
      have r2 := arr_cell hR.out (show 2 < 10 by decide)
      have r3 := arr_cell hR.out (show 3 < 10 by decide)
      have r4 := arr_cell hR.out (show 4 < 10 by decide)
      have r5 := arr_cell hR.out (show 5 < 10 by decide)
      have r6 := arr_cell hR.out (show 6 < 10 by decide)
      have r7 := arr_cell hR.out (show 7 < 10 by decide)
      have r8 := arr_cell hR.out (show 8 < 10 by decide)
      have r9 := arr_cell hR.out (show 9 < 10 by decide)
      go_wp2
      have hz := arr_put (dgP 10) rfl hR.out
      have hbz := ((((((((((hbr.out.setCell (p := ⟨w.heap.size, 0, none⟩) (Nat.le_refl _) (.string (dgP 10 0))).setCell (p := ⟨w.heap.size, 1, none⟩) (Nat.le_refl _) (.string (dgP 10 1))).setCell (p := ⟨w.heap.size, 2, none⟩) (Nat.le_refl _) (.string (dgP 10 2))).setCell (p := ⟨w.heap.size, 3, none⟩) (Nat.le_refl _) (.string (dgP 10 3))).setCell (p := ⟨w.heap.size, 4, none⟩) (Nat.le_refl _) (.string (dgP 10 4))).setCell (p := ⟨w.heap.size, 5, none⟩) (Nat.le_refl _) (.string (dgP 10 5))).setCell (p := ⟨w.heap.size, 6, none⟩) (Nat.le_refl _) (.string (dgP 10 6))).setCell (p := ⟨w.heap.size, 7, none⟩) (Nat.le_refl _) (.string (dgP 10 7))).setCell (p := ⟨w.heap.size, 8, none⟩) (Nat.le_refl _) (.string (dgP 10 8))).setCell (p := ⟨w.heap.size, 9, none⟩) (Nat.le_refl _) (.string (dgP 10 9)))
      generalize ((((((((((wr.setCell ⟨w.heap.size, 0, none⟩ (.string (dgP 10 0))).setCell ⟨w.heap.size, 1, none⟩ (.string (dgP 10 1))).setCell ⟨w.heap.size, 2, none⟩ (.string (dgP 10 2))).setCell ⟨w.heap.size, 3, none⟩ (.string (dgP 10 3))).setCell ⟨w.heap.size, 4, none⟩ (.string (dgP 10 4))).setCell ⟨w.heap.size, 5, none⟩ (.string (dgP 10 5))).setCell ⟨w.heap.size, 6, none⟩ (.string (dgP 10 6))).setCell ⟨w.heap.size, 7, none⟩ (.string (dgP 10 7))).setCell ⟨w.heap.size, 8, none⟩ (.string (dgP 10 8))).setCell ⟨w.heap.size, 9, none⟩ (.string (dgP 10 9))) = wz at hz hbz ⊢
      have z0 := (arr_cell hz (show 0 < 10 by decide)).1
      have z1 := (arr_cell hz (show 1 < 10 by decide)).1
      have z2 := (arr_cell hz (show 2 < 10 by decide)).1
      have z3 := (arr_cell hz (show 3 < 10 by decide)).1
      have z4 := (arr_cell hz (show 4 < 10 by decide)).1
      have z5 := (arr_cell hz (show 5 < 10 by decide)).1
      have z6 := (arr_cell hz (show 6 < 10 by decide)).1
      have z7 := (arr_cell hz (show 7 < 10 by decide)).1
      have z8 := (arr_cell hz (show 8 < 10 by decide)).1
      have z9 := (arr_cell hz (show 9 < 10 by decide)).1
      refine bodyPost_ret (v := .agg (arr (dgP 10))) (by simp [results, Try.results53, go_sem, arr, z0, z1, z2, z3, z4, z5, z6, z7, z8, z9]) rfl ?_
      exact ⟨by rw [arr_ext (H := dgG) (fun j hj => by unfold dgP dgG; rw [if_pos hj])], hbz⟩
end Go.Proofs.Ytikkakbemphdhaa
