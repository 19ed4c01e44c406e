/- Set: signs for digits, of ten numbers. -/
import Derived.Test.YtajioajigpneoaaDoorValid
set_option linter.unusedSimpArgs false
set_option linter.unusedVariables false
namespace Go.Proofs.YtajioajigpneoaaDoor
open Go.RowKit Go.Fl Go.Shelf

/-- ten numbers as a value's parts. -/
def arrI (N : Nat → Int) : Array Value := #[.int .i64 (N 0), .int .i64 (N 1), .int .i64 (N 2), .int .i64 (N 3), .int .i64 (N 4), .int .i64 (N 5), .int .i64 (N 6), .int .i64 (N 7), .int .i64 (N 8), .int .i64 (N 9)]
theorem arrI_get (N : Nat → Int) (i : Nat) (hi : i < 10) : (arrI N)[i]? = some (.int .i64 (N i)) := by
  match i, hi with
  | 0, _ => rfl
  | 1, _ => rfl
  | 2, _ => rfl
  | 3, _ => rfl
  | 4, _ => rfl
  | 5, _ => rfl
  | 6, _ => rfl
  | 7, _ => rfl
  | 8, _ => rfl
  | 9, _ => rfl
  | n + 10, h => omega
theorem arrI_cell {W : World} {b t : Nat} {N : Nat → Int} (h : W.heap[b]? = some (.cells (arrI N) t (0, 0))) {i : Nat} (hi : i < 10) : W.cell? ⟨b, i, none⟩ = some (.int .i64 (N i)) := by
  have h2 := arrI_get N i hi
  simp [World.cell?, h, h2]

def signB (p : Nat) : ByteArray := ⟨(signL p).toArray⟩
def setG (Q : Nat → Nat) (i j : Nat) : ByteArray := if j < i then signB (Q j) else ⟨#[]⟩
def SetPost (w : World) (e : Ending) (w' : World) : Prop := ∃ Q : Nat → Nat, (∀ i, i < 10 → Pt (Q i)) ∧ e = .returned (.agg (arr fun i => signB (Q i))) ∧ Below w.heap.size w w'

set_option maxRecDepth 100000 in
set_option maxHeartbeats 2000000 in
theorem set_any (N : Nat → Int) (w : World) : Calls Tryd.prog 16 #[.agg (arrI N), .bool true] w (SetPost w) := by
  have HN0 := Lib.hid (heap_alloc_new w (.cells (arrI N) 30))
  unfold arrI
  go_enter Tryd.func16, Tryd.ntmps16
  go_wp2
  go_loopg [6, 7, 9] 10 (fun gk a b v wr => ∃ (i : Nat) (Q : Nat → Nat), v = .int .i64 i ∧ Hid (i + gk = 10) ∧ Hid (∀ k, k < i → Pt (Q k)) ∧ Hid (wr.heap[w.heap.size]? = some (.cells (arrI N) 30 (0, 0))) ∧ Hid (wr.heap[w.heap.size + 1]? = some (.cells (arr (dgP 0)) 33 (0, 0))) ∧
      Hid (wr.heap[w.heap.size + 1 + 1]? = some (.cells (arr (setG Q i)) 33 (0, 0))) ∧ Hid (Below w.heap.size w wr))
  case atStart =>
    refine ⟨0, fun _ => 0, rfl, Lib.hid (by omega), Lib.hid (fun k h => by omega), Lib.hid ?_, Lib.hid ?_, Lib.hid ?_, Lib.hid ?_⟩
    · exact (Below.heap_alloc _ _ _ (by simp; omega)).trans ((Below.heap_alloc _ _ _ (by simp)).trans HN0.out)
    · have h := heap_alloc_new (w.alloc (.cells (arrI N) 30)) (.cells (arr (dgP 0)) 33)
      simp only [World.alloc, Array.size_push] at h
      exact (Below.heap_alloc _ _ _ (by simp)).trans h
    · have h := heap_alloc_new ((w.alloc (.cells (arrI N) 30)).alloc (.cells (arr (dgP 0)) 33)) (.cells (arr (dgP 0)) 33)
      simp only [World.alloc, Array.size_push] at h
      exact h
    · exact (((Below.refl _ _).alloc (Nat.le_refl _) _).alloc (by simp) _).alloc (by simp; omega) _
  case round =>
    obtain ⟨i, Q, rfl, hig, hQ, hN, hR, hO, hbr⟩ := hrel
    by_cases hi : i < 10
    · have hni := arrI_cell hN.out hi
      obtain ⟨v0, c, f⟩ : ∃ v0, wr.cell? ⟨w.heap.size + 1 + 1, i, none⟩ = some (.string v0) ∧ wr.frozen? ⟨w.heap.size + 1 + 1, i, none⟩ = false := ⟨_, arr_cell hO.out hi⟩
      generalize N i = n at hni
      obtain ⟨m, hm, hml⟩ := and_le n 1048575 (by decide)
      have hm' : bits .and .i64 n 1048575 = (m : Int) := hm
      have hml' : (m : Int) ≤ 1048575 := by omega
      clear hm hml
      go_wp2_with fail
      obtain ⟨p, hp, C⟩ := point_any ((m : Int) * 10 + (i : Int)) wr
      refine C.mono ?_
      rintro e w2 ⟨rfl, rfl⟩
      have Hp := Lib.hid hp
      clear hp C
      go_wp2_with fail
      refine (sign_any p wr Hp.out).mono ?_
      rintro e w2 ⟨rfl, hb2⟩
      have c2 : w2.cell? ⟨w.heap.size + 1 + 1, i, none⟩ = some (.string v0) := by
        have h := hb2.cell (p := ⟨w.heap.size + 1 + 1, i, none⟩) (lt_of_heap hO.out)
        exact h.trans c
      have O2 := Lib.hid ((hb2.block _ (lt_of_heap hO.out)).trans hO.out)
      have f2 := (arr_cell O2.out hi).2
      have N2 := Lib.hid ((hb2.block _ (lt_of_heap hN.out)).trans hN.out)
      have R2 := Lib.hid ((hb2.block _ (lt_of_heap hR.out)).trans hR.out)
      have B2 := Lib.hid (bt hbr.out hb2)
      obtain ⟨S, hS⟩ : ∃ S : ByteArray, ⟨(signL p).toArray⟩ = S := ⟨_, rfl⟩
      have HS : Hid (S = signB p) := Lib.hid hS.symm
      rw [hS]
      clear hb2 c f hS
      go_wp2
      go_roundg (gk - 1)
      case measure => have := hig.out; omega
      case rel =>
        refine ⟨i + 1, fun k => if k = i then p else Q k, rfl, Lib.hid (by have := hig.out; omega), Lib.hid (fun k hk => ?_), Lib.hid ?_, Lib.hid ?_, Lib.hid ?_, Lib.hid ?_⟩
        · by_cases e : k = i
          · subst e; simp only [if_pos rfl]; exact Hp.out
          · simp only [if_neg e]; exact hQ.out k (by omega)
        · exact (Below.heap_setCell _ _ _ _ (show w.heap.size ≠ w.heap.size + 1 + 1 by omega)).trans N2.out
        · exact (Below.heap_setCell _ _ _ _ (show w.heap.size + 1 ≠ w.heap.size + 1 + 1 by omega)).trans R2.out
        · have h := heap_set_same O2.out i (.string S)
          rw [arr_set _ _ hi, arr_ext (H := setG (fun k => if k = i then p else Q k) (i + 1)) (fun j _ => by
            unfold setG
            by_cases h1 : j = i
            · subst h1; simp [HS.out]
            · by_cases h2 : j < i
              · simp [h1, h2, show j < i + 1 by omega]
              · simp [h1, h2, show ¬ j < i + 1 by omega])] at h
          exact h
        · exact B2.out.setCell (show w.heap.size ≤ w.heap.size + 1 + 1 by omega) _
    · obtain rfl : i = 10 := by have := hig.out; omega
      have c0 := (arr_cell hO.out (show 0 < 10 by decide)).1
      have c1 := (arr_cell hO.out (show 1 < 10 by decide)).1
      have c2 := (arr_cell hO.out (show 2 < 10 by decide)).1
      have c3 := (arr_cell hO.out (show 3 < 10 by decide)).1
      have c4 := (arr_cell hO.out (show 4 < 10 by decide)).1
      have c5 := (arr_cell hO.out (show 5 < 10 by decide)).1
      have c6 := (arr_cell hO.out (show 6 < 10 by decide)).1
      have c7 := (arr_cell hO.out (show 7 < 10 by decide)).1
      have c8 := (arr_cell hO.out (show 8 < 10 by decide)).1
      have c9 := (arr_cell hO.out (show 9 < 10 by decide)).1
      have r0 := arr_cell hR.out (show 0 < 10 by decide)
      have r1 := arr_cell hR.out (show 1 < 10 by decide)
      have r2 := arr_cell hR.out (show 2 < 10 by decide)
      have r3 := arr_cell hR.out (show 3 < 10 by decide)
      have r4 := arr_cell hR.out (show 4 < 10 by decide)
      have r5 := arr_cell hR.out (show 5 < 10 by decide)
      have r6 := arr_cell hR.out (show 6 < 10 by decide)
      have r7 := arr_cell hR.out (show 7 < 10 by decide)
      have r8 := arr_cell hR.out (show 8 < 10 by decide)
      have r9 := arr_cell hR.out (show 9 < 10 by decide)
      obtain ⟨F, hF⟩ : ∃ F, setG Q 10 = F := ⟨_, rfl⟩
      rw [hF] at c0 c1 c2 c3 c4 c5 c6 c7 c8 c9
      have HF := Lib.hid hF
      clear hF
      go_wp2
      have hz := arr_put F rfl hR.out
      have hB1 : w.heap.size ≤ w.heap.size + 1 := by omega
      have hbz := ((((((((((hbr.out.setCell (p := ⟨w.heap.size + 1, 0, none⟩) hB1 (.string (F 0))).setCell (p := ⟨w.heap.size + 1, 1, none⟩) hB1 (.string (F 1))).setCell (p := ⟨w.heap.size + 1, 2, none⟩) hB1 (.string (F 2))).setCell (p := ⟨w.heap.size + 1, 3, none⟩) hB1 (.string (F 3))).setCell (p := ⟨w.heap.size + 1, 4, none⟩) hB1 (.string (F 4))).setCell (p := ⟨w.heap.size + 1, 5, none⟩) hB1 (.string (F 5))).setCell (p := ⟨w.heap.size + 1, 6, none⟩) hB1 (.string (F 6))).setCell (p := ⟨w.heap.size + 1, 7, none⟩) hB1 (.string (F 7))).setCell (p := ⟨w.heap.size + 1, 8, none⟩) hB1 (.string (F 8))).setCell (p := ⟨w.heap.size + 1, 9, none⟩) hB1 (.string (F 9)))
      generalize ((((((((((wr.setCell ⟨w.heap.size + 1, 0, none⟩ (.string (F 0))).setCell ⟨w.heap.size + 1, 1, none⟩ (.string (F 1))).setCell ⟨w.heap.size + 1, 2, none⟩ (.string (F 2))).setCell ⟨w.heap.size + 1, 3, none⟩ (.string (F 3))).setCell ⟨w.heap.size + 1, 4, none⟩ (.string (F 4))).setCell ⟨w.heap.size + 1, 5, none⟩ (.string (F 5))).setCell ⟨w.heap.size + 1, 6, none⟩ (.string (F 6))).setCell ⟨w.heap.size + 1, 7, none⟩ (.string (F 7))).setCell ⟨w.heap.size + 1, 8, none⟩ (.string (F 8))).setCell ⟨w.heap.size + 1, 9, none⟩ (.string (F 9))) = wz at hz hbz ⊢
      have z0 := (arr_cell hz (show 0 < 10 by decide)).1
      have z1 := (arr_cell hz (show 1 < 10 by decide)).1
      have z2 := (arr_cell hz (show 2 < 10 by decide)).1
      have z3 := (arr_cell hz (show 3 < 10 by decide)).1
      have z4 := (arr_cell hz (show 4 < 10 by decide)).1
      have z5 := (arr_cell hz (show 5 < 10 by decide)).1
      have z6 := (arr_cell hz (show 6 < 10 by decide)).1
      have z7 := (arr_cell hz (show 7 < 10 by decide)).1
      have z8 := (arr_cell hz (show 8 < 10 by decide)).1
      have z9 := (arr_cell hz (show 9 < 10 by decide)).1
      refine bodyPost_ret (v := .agg (arr F)) (by simp [results, Tryd.results16, go_sem, arr, z0, z1, z2, z3, z4, z5, z6, z7, z8, z9]) rfl ?_
      refine ⟨Q, fun i hi => hQ.out i hi, ?_, hbz⟩
      rw [← HF.out, arr_ext (H := fun i => signB (Q i)) (fun j hj => by unfold setG; rw [if_pos hj])]
end Go.Proofs.YtajioajigpneoaaDoor
