/- The walks of readTexts. -/
import Derived.Test.YtikkakbemphdhaaTd0
import Derived.Test.YtikkakbemphdhaaTa9
import Derived.Deep.RegionHeld3
set_option linter.unusedSimpArgs false
set_option linter.unusedVariables false
namespace Go.Proofs.Ytikkakbemphdhaa
open Go.RowKit Go.Fl

theorem two_cells {W : World} {g : Nat} {a b : Value} {ty : TypeId} (h : W.heap[g]? = some (.cells #[a, b] ty (0, 0))) :
    W.cell? ⟨g, 0, none⟩ = some a ∧ W.cell? ⟨g, 1, none⟩ = some b ∧ W.frozen? ⟨g, 0, none⟩ = false ∧ W.frozen? ⟨g, 1, none⟩ = false := by
  refine ⟨?_, ?_, ?_, ?_⟩
  · simp [World.cell?, h]
  · simp [World.cell?, h]
  · simp [World.frozen?, h]
  · simp [World.frozen?, h]

theorem kept_set2 (w : World) (g : Nat) (u v : Value) : Kept w ((w.setCell ⟨g, 0, none⟩ u).setCell ⟨g, 1, none⟩ v) (· = g) :=
  Kept.setCell (p := ⟨g, 1, none⟩) (Kept.setCell (p := ⟨g, 0, none⟩) (Kept.refl w (· = g)) (fun _ => rfl) u) (fun _ => rfl) v

set_option maxRecDepth 100000 in
set_option maxHeartbeats 800000 in
theorem oneTx_any (g gb : Nat) (s : ByteArray) (st : Option Nat) (w : World) (hR : IsRd w g s st) (hs : s.size ≤ 140737488355328) (hb : w.heap[gb]? = some (.cells #[.pointer (some ⟨g, 0, none⟩)] 35 (0, 0))) (hbg : gb ≠ g) (hg : g < w.heap.size) :
    Calls Try.prog 59 #[.pointer (some ⟨gb, 0, none⟩)] w fun e w' => e = .returned (.agg #[.int .i64 (rdTx s.data.toList st).1.cat, .string (rdTx s.data.toList st).1.s]) ∧ IsRd w' g s (rdTx s.data.toList st).2 ∧ Kept w w' (· = g) := by
  have HR := Lib.hid hR
  have hgb := lt_of_heap hb
  have HB := Lib.hid hb
  clear hR hb
  go_enter Try.func59, Try.ntmps59
  go_wp2_with fail
  obtain ⟨gx, hgx⟩ : ∃ x, x = w.heap.size := ⟨_, rfl⟩
  obtain ⟨W0, hW0⟩ : ∃ W0, w.alloc (.cells #[.int .i64 0, .string ⟨#[]⟩] 98) = W0 := ⟨_, rfl⟩
  have HK0 : Hid (Kept w W0 (· = g)) := by rw [← hW0]; exact Lib.hid ((Kept.refl _ _).alloc _)
  have HK0d : Hid (Kept w W0 (fun _ => False)) := by rw [← hW0]; exact Lib.hid ((Kept.refl _ _).alloc _)
  have HR0 : Hid (IsRd W0.drew g s st) := Lib.hid (HR.out.kept (S := fun _ => False) HK0d.out.drew id)
  have HX0 : Hid (W0.heap[gx]? = some (.cells #[.int .i64 0, .string ⟨#[]⟩] 98 (0, 0))) := by subst hgx hW0; exact Lib.hid (heap_alloc_new w _)
  have HB0 : Hid (W0.heap[gb]? = some (.cells #[.pointer (some ⟨g, 0, none⟩)] 35 (0, 0))) := Lib.hid (HK0d.out.heap HB.out id)
  have hS0 : W0.drew.cell? ⟨gb, 0, none⟩ = some (.pointer (some ⟨g, 0, none⟩)) := cell_of (W := W0.drew) HB0.out rfl
  have hxb : ¬ gx = gb := by omega
  have hxg : ¬ gx = g := by omega
  rw [← hgx, hW0]
  have HGX := Lib.hid hgx
  clear hW0 hgx
  go_region_held3 (fun w' => w'.cell? ⟨gb, 0, none⟩ = some (.pointer (some ⟨g, 0, none⟩)))
    (first | assumption | go_keep)
    (first
      | (go_at_call 18; ((with_reducible refine (rNum_any g s st _ HR0.out hs).mono ?_); rintro e w2 ⟨rfl, hRx, hKx⟩; have HR2 := Lib.hid hRx; have HK2 := Lib.hid hKx; clear hRx hKx; have hS2 := (kept_cell HK2.out (lt_of_cell hS0) hbg (o := 0)).trans hS0))
      | (go_at_call 17; ((with_reducible refine (rText_any g s _ _ HR2.out hs).mono ?_); rintro e w3 ⟨rfl, hRx, hKx⟩; have HR3 := Lib.hid hRx; have HK3 := Lib.hid (HK2.out.trans hKx (fun _ _ h => h)); clear hRx hKx; have hS3 := (kept_cell HK3.out (lt_of_cell hS0) hbg (o := 0)).trans hS0; obtain ⟨hx0, hx1, hf0, hf1⟩ := two_cells (HK3.out.heap (w := W0.drew) HX0.out hxg))))
  go_wp2
  have HKE : Hid (Kept w3 ((w3.setCell ⟨gx, 0, none⟩ (.int .i64 (Rd.num s.data.toList st).1)).setCell ⟨gx, 1, none⟩ (.string ⟨(Rd.text s.data.toList (Rd.num s.data.toList st).2).1.toArray⟩)) (· = gx)) :=
    Lib.hid (kept_set2 _ _ _ _)
  exact bodyPost_ret (v := .agg #[.int .i64 (Rd.num s.data.toList st).1, .string ⟨(Rd.text s.data.toList (Rd.num s.data.toList st).2).1.toArray⟩]) (by simp [results, Try.results59, go_sem, hx0, hx1]) rfl
    ⟨rfl, HR3.out.kept HKE.out (fun h => hxg h.symm), ((HK0.out.drew.trans HK3.out (fun _ _ h => h)).trans HKE.out (fun k hk h => by have := HGX.out; omega))⟩
end Go.Proofs.Ytikkakbemphdhaa
