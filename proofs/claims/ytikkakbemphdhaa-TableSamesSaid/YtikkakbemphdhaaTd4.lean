/- The walk of a currency's reading. -/
import Derived.Test.YtikkakbemphdhaaTd3
import Derived.Deep.DeepCutAuto
import Derived.Deep.MidRow
import Derived.Test.YtikkakbemphdhaaLib3
set_option linter.unusedSimpArgs false
set_option linter.unusedVariables false
namespace Go.Proofs.Ytikkakbemphdhaa
open Go.RowKit Go.Fl

theorem IsRd.alloc {W : World} {g : Nat} {s : ByteArray} {st : Option Nat} (h : IsRd W g s st) (o : Obj) : IsRd (W.alloc o) g s st := h.kept ((Kept.refl W (fun _ => False)).alloc o) id
theorem Kept.of_alloc {w w' : World} {o : Obj} {S : Nat → Prop} (h : Kept (w.alloc o) w' S) : Kept w w' S :=
  ((Kept.refl w S).alloc o).trans h (fun _ _ h => h)
def zCu : Array Value := #[.string ⟨#[]⟩, .string ⟨#[]⟩, .string ⟨#[]⟩, .slice none 0 0, .int .i64 0, .int .i64 0, .int .i64 0, .int .i64 0]
theorem eight {W : World} {g : Nat} {a b c d e f x y : Value} {ty : TypeId} (h : W.heap[g]? = some (.cells #[a, b, c, d, e, f, x, y] ty (0, 0))) :
    (W.cell? ⟨g, 0, none⟩ = some a ∧ W.cell? ⟨g, 1, none⟩ = some b ∧ W.cell? ⟨g, 2, none⟩ = some c ∧ W.cell? ⟨g, 3, none⟩ = some d ∧ W.cell? ⟨g, 4, none⟩ = some e ∧ W.cell? ⟨g, 5, none⟩ = some f ∧ W.cell? ⟨g, 6, none⟩ = some x ∧ W.cell? ⟨g, 7, none⟩ = some y) ∧
    (W.frozen? ⟨g, 0, none⟩ = false ∧ W.frozen? ⟨g, 1, none⟩ = false ∧ W.frozen? ⟨g, 2, none⟩ = false ∧ W.frozen? ⟨g, 3, none⟩ = false ∧ W.frozen? ⟨g, 4, none⟩ = false ∧ W.frozen? ⟨g, 5, none⟩ = false ∧ W.frozen? ⟨g, 6, none⟩ = false ∧ W.frozen? ⟨g, 7, none⟩ = false) := by
  refine ⟨⟨?_, ?_, ?_, ?_, ?_, ?_, ?_, ?_⟩, ⟨?_, ?_, ?_, ?_, ?_, ?_, ?_, ?_⟩⟩
  all_goals first | (simp [World.cell?, h]; done) | (simp [World.frozen?, h]; done)

theorem size64 : (Try.prog.info? 64).map (·.size) = some 8 := by kernel_rfl
theorem there_of {W : World} {g : Nat} {a0 a1 a2 a3 a4 a5 a6 a7 : Value} {ty : TypeId} (h : W.heap[g]? = some (.cells #[a0, a1, a2, a3, a4, a5, a6, a7] ty (0, 0))) : W.there g 0 8 := by
  intro j hj
  refine ⟨?_, ?_⟩
  · simp [World.cell?, h, hj]
  · simp [World.frozen?, h]
theorem setCells8 {w : World} {g : Nat} {a0 a1 a2 a3 a4 a5 a6 a7 : Value} {ty : TypeId} {fr : Nat × Nat} (h : w.heap[g]? = some (.cells #[a0, a1, a2, a3, a4, a5, a6, a7] ty fr)) (b0 b1 b2 b3 b4 b5 b6 b7 : Value) :
    (w.setCells g 0 [b0, b1, b2, b3, b4, b5, b6, b7]).heap[g]? = some (.cells #[b0, b1, b2, b3, b4, b5, b6, b7] ty fr) := by
  have h0 : (w.setCell ⟨g, 0, none⟩ b0).heap[g]? = some (.cells #[b0, a1, a2, a3, a4, a5, a6, a7] ty fr) := (heap_set_same h 0 b0).trans rfl
  have h1 : ((w.setCell ⟨g, 0, none⟩ b0).setCell ⟨g, 1, none⟩ b1).heap[g]? = some (.cells #[b0, b1, a2, a3, a4, a5, a6, a7] ty fr) := (heap_set_same h0 1 b1).trans rfl
  have h2 : (((w.setCell ⟨g, 0, none⟩ b0).setCell ⟨g, 1, none⟩ b1).setCell ⟨g, 2, none⟩ b2).heap[g]? = some (.cells #[b0, b1, b2, a3, a4, a5, a6, a7] ty fr) := (heap_set_same h1 2 b2).trans rfl
  have h3 : ((((w.setCell ⟨g, 0, none⟩ b0).setCell ⟨g, 1, none⟩ b1).setCell ⟨g, 2, none⟩ b2).setCell ⟨g, 3, none⟩ b3).heap[g]? = some (.cells #[b0, b1, b2, b3, a4, a5, a6, a7] ty fr) := (heap_set_same h2 3 b3).trans rfl
  have h4 : (((((w.setCell ⟨g, 0, none⟩ b0).setCell ⟨g, 1, none⟩ b1).setCell ⟨g, 2, none⟩ b2).setCell ⟨g, 3, none⟩ b3).setCell ⟨g, 4, none⟩ b4).heap[g]? = some (.cells #[b0, b1, b2, b3, b4, a5, a6, a7] ty fr) := (heap_set_same h3 4 b4).trans rfl
  have h5 : ((((((w.setCell ⟨g, 0, none⟩ b0).setCell ⟨g, 1, none⟩ b1).setCell ⟨g, 2, none⟩ b2).setCell ⟨g, 3, none⟩ b3).setCell ⟨g, 4, none⟩ b4).setCell ⟨g, 5, none⟩ b5).heap[g]? = some (.cells #[b0, b1, b2, b3, b4, b5, a6, a7] ty fr) := (heap_set_same h4 5 b5).trans rfl
  have h6 : (((((((w.setCell ⟨g, 0, none⟩ b0).setCell ⟨g, 1, none⟩ b1).setCell ⟨g, 2, none⟩ b2).setCell ⟨g, 3, none⟩ b3).setCell ⟨g, 4, none⟩ b4).setCell ⟨g, 5, none⟩ b5).setCell ⟨g, 6, none⟩ b6).heap[g]? = some (.cells #[b0, b1, b2, b3, b4, b5, b6, a7] ty fr) := (heap_set_same h5 6 b6).trans rfl
  have h7 : ((((((((w.setCell ⟨g, 0, none⟩ b0).setCell ⟨g, 1, none⟩ b1).setCell ⟨g, 2, none⟩ b2).setCell ⟨g, 3, none⟩ b3).setCell ⟨g, 4, none⟩ b4).setCell ⟨g, 5, none⟩ b5).setCell ⟨g, 6, none⟩ b6).setCell ⟨g, 7, none⟩ b7).heap[g]? = some (.cells #[b0, b1, b2, b3, b4, b5, b6, b7] ty fr) := (heap_set_same h6 7 b7).trans rfl
  exact h7
theorem setCells4 {w : World} {g : Nat} {a0 a1 a2 a3 a4 a5 a6 a7 : Value} {ty : TypeId} {fr : Nat × Nat} (h : w.heap[g]? = some (.cells #[a0, a1, a2, a3, a4, a5, a6, a7] ty fr)) (b4 b5 b6 b7 : Value) :
    ((((w.setCell ⟨g, 4, none⟩ b4).setCell ⟨g, 5, none⟩ b5).setCell ⟨g, 6, none⟩ b6).setCell ⟨g, 7, none⟩ b7).heap[g]? = some (.cells #[a0, a1, a2, a3, b4, b5, b6, b7] ty fr) := by
  have h4 : (w.setCell ⟨g, 4, none⟩ b4).heap[g]? = some (.cells #[a0, a1, a2, a3, b4, a5, a6, a7] ty fr) := (heap_set_same h 4 b4).trans rfl
  have h5 : ((w.setCell ⟨g, 4, none⟩ b4).setCell ⟨g, 5, none⟩ b5).heap[g]? = some (.cells #[a0, a1, a2, a3, b4, b5, a6, a7] ty fr) := (heap_set_same h4 5 b5).trans rfl
  have h6 : (((w.setCell ⟨g, 4, none⟩ b4).setCell ⟨g, 5, none⟩ b5).setCell ⟨g, 6, none⟩ b6).heap[g]? = some (.cells #[a0, a1, a2, a3, b4, b5, b6, a7] ty fr) := (heap_set_same h5 6 b6).trans rfl
  exact (heap_set_same h6 7 b7).trans rfl
theorem setCells_kept : ∀ (vs : List Value) (o : Nat) (w : World) (g : Nat), Kept w (w.setCells g o vs) (· = g)
  | [], _, w, g => Kept.refl w _
  | v :: vs, o, w, g => ((Kept.refl w (· = g)).setCell (p := ⟨g, o, none⟩) (fun _ => rfl) v).trans (setCells_kept vs (o + 1) _ g) (fun _ _ h => h)

def OneCuPost (g : Nat) (s : ByteArray) (st : Option Nat) (w : World) (e : Ending) (w' : World) : Prop :=
  ∃ ta tc, e = .returned (.agg #[.string (rdCu s.data.toList st).1.code, .string (rdCu s.data.toList st).1.sym, .string (rdCu s.data.toList st).1.nar, .slice ta (rdCu s.data.toList st).1.names.length tc,
    .int .i64 (rdCu s.data.toList st).1.d0, .int .i64 (rdCu s.data.toList st).1.d1, .int .i64 (rdCu s.data.toList st).1.d2, .int .i64 (rdCu s.data.toList st).1.d3]) ∧
    Txs (fun b => w.heap.size ≤ b) w' (.slice ta (rdCu s.data.toList st).1.names.length tc) (rdCu s.data.toList st).1.names ∧ IsRd w' g s (rdCu s.data.toList st).2 ∧ Kept w w' (· = g)

set_option maxRecDepth 100000 in
set_option maxHeartbeats 1600000 in
theorem oneCu_any (g gb : Nat) (s : ByteArray) (st : Option Nat) (w : World) (hR : IsRd w g s st) (hs : s.size ≤ 140737488355328) (hb : w.heap[gb]? = some (.cells #[.pointer (some ⟨g, 0, none⟩)] 35 (0, 0))) (hbg : gb ≠ g) (hg : g < w.heap.size) :
    Calls Try.prog 41 #[.pointer (some ⟨gb, 0, none⟩)] w (OneCuPost g s st w) := by
  have HR := Lib.hid hR
  have hgb := lt_of_heap hb
  have HB := Lib.hid hb
  clear hR hb
  obtain ⟨A, hA⟩ : ∃ A, A = Rd.text s.data.toList st := ⟨_, rfl⟩
  obtain ⟨B, hB⟩ : ∃ B, B = Rd.text s.data.toList A.2 := ⟨_, rfl⟩
  obtain ⟨C, hC⟩ : ∃ C, C = Rd.text s.data.toList B.2 := ⟨_, rfl⟩
  have HA := Lib.hid hA
  have HB' := Lib.hid hB
  have HC := Lib.hid hC
  have cT1 : ∀ W, IsRd W g s st → Calls Try.prog 17 #[.pointer (some ⟨g, 0, none⟩)] W fun e w' => e = .returned (.string (mkB A.1)) ∧ IsRd w' g s A.2 ∧ Kept W w' (· = g) := fun W h => by rw [hA]; exact rText_any g s st W h hs
  have cT2 : ∀ W, IsRd W g s A.2 → Calls Try.prog 17 #[.pointer (some ⟨g, 0, none⟩)] W fun e w' => e = .returned (.string (mkB B.1)) ∧ IsRd w' g s B.2 ∧ Kept W w' (· = g) := fun W h => by rw [hB]; exact rText_any g s A.2 W h hs
  have cT3 : ∀ W, IsRd W g s B.2 → Calls Try.prog 17 #[.pointer (some ⟨g, 0, none⟩)] W fun e w' => e = .returned (.string (mkB C.1)) ∧ IsRd w' g s C.2 ∧ Kept W w' (· = g) := fun W h => by rw [hC]; exact rText_any g s B.2 W h hs
  have CT1 := Lib.hid cT1
  have CT2 := Lib.hid cT2
  have CT3 := Lib.hid cT3
  clear cT1 cT2 cT3 hA hB hC
  go_enter Try.func41, Try.ntmps41
  go_upto_region 1 with fail
  obtain ⟨gx, hgx⟩ : ∃ x, x = w.heap.size := ⟨_, rfl⟩
  obtain ⟨W0, hW0⟩ : ∃ W0, w.alloc (.cells #[.string ⟨#[]⟩, .string ⟨#[]⟩, .string ⟨#[]⟩, .slice none 0 0, .int .i64 0, .int .i64 0, .int .i64 0, .int .i64 0] 64) = W0 := ⟨_, rfl⟩
  have HK0 : Hid (Kept w W0.drew (· = g)) := by rw [← hW0]; exact Lib.hid ((Kept.refl _ _).alloc _).drew
  have HK0d : Hid (Kept w W0.drew (fun _ => False)) := by rw [← hW0]; exact Lib.hid ((Kept.refl _ _).alloc _).drew
  have HR0 : Hid (IsRd W0.drew g s st) := Lib.hid (HR.out.kept (S := fun _ => False) HK0d.out id)
  have HX0 : Hid (W0.drew.heap[gx]? = some (.cells #[.string ⟨#[]⟩, .string ⟨#[]⟩, .string ⟨#[]⟩, .slice none 0 0, .int .i64 0, .int .i64 0, .int .i64 0, .int .i64 0] 64 (0, 0))) := by subst hgx hW0; exact Lib.hid (heap_alloc_new w _)
  have HB0 : Hid (W0.drew.heap[gb]? = some (.cells #[.pointer (some ⟨g, 0, none⟩)] 35 (0, 0))) := Lib.hid (HK0d.out.heap HB.out id)
  have hS0 : W0.drew.cell? ⟨gb, 0, none⟩ = some (.pointer (some ⟨g, 0, none⟩)) := cell_of (W := W0.drew) HB0.out rfl
  have hgxlt := lt_of_heap HX0.out
  have hggx : g < gx := by omega
  have hxg : ¬ gx = g := by omega
  rw [← hgx, hW0]
  have HGX := Lib.hid hgx
  have HKd : Hid (Kept W0.drew W0.drew (· = g)) := Lib.hid (Kept.refl _ _)
  have hgbx : gb < gx := by omega
  clear hW0 hgx
  go_cut [2] (fun s2 wx => ∃ gc : Nat, s2 = .pointer (some ⟨gc, 0, none⟩) ∧ gx < gc ∧ Hid (wx.heap[gc]? = some (.cells #[.string (mkB A.1), .string (mkB B.1), .string (mkB C.1), .slice none 0 0, .int .i64 0, .int .i64 0, .int .i64 0, .int .i64 0] 64 (0, 0))) ∧ Hid (IsRd wx g s C.2) ∧ Hid (Kept W0.drew wx (fun k => k = g ∨ k = gc)))
  case first =>
    refine wp_region_noPanic ?_
    refine wp_region_held_drew (S := fun w' => w'.cell? ⟨gb, 0, none⟩ = some (.pointer (some ⟨g, 0, none⟩))) (by kernel_rfl) hS0 (fun hHeld => ?_)
    refine heldTake 0 3 (v := ?vq1) rfl rfl (by kernel_rfl) (by kernel_rfl) (by kernel_rfl) (fun _ _ _ h => h) (by kernel_rfl) ?hq1 hHeld ?rq1
    case hq1 => (intro w hSw; (try dsimp only at hSw); go_simp <;> with_reducible rfl)
    simp only [List.setIfInBounds_toArray, List.set_cons_zero, List.set_cons_succ]
    refine heldTake 2 5 (v := ?vq2) rfl rfl (by kernel_rfl) (by kernel_rfl) (by kernel_rfl) (fun _ _ _ h => h) (by kernel_rfl) ?hq2 hHeld ?rq2
    case hq2 => (intro w hSw; (try dsimp only at hSw); go_simp <;> with_reducible rfl)
    simp only [List.setIfInBounds_toArray, List.set_cons_zero, List.set_cons_succ]
    refine heldTake 4 7 (v := ?vq3) rfl rfl (by kernel_rfl) (by kernel_rfl) (by kernel_rfl) (fun _ _ _ h => h) (by kernel_rfl) ?hq3 hHeld ?rq3
    case hq3 => (intro w hSw; (try dsimp only at hSw); go_simp <;> with_reducible rfl)
    simp only [List.setIfInBounds_toArray, List.set_cons_zero, List.set_cons_succ]
    refine wpAnyH_ready (rs := [1, 7]) (by kernel_rfl) (by simp) ?_
    refine AllReadyH.cons rfl (fun K hK => ?cc4) (AllReadyH.cons rfl (fun K hK => ?cc5) AllReadyH.nil)
    case cc4 =>
      go_simp
      refine (CT1.out _ HR0.out).mono ?_
      rintro e w6 ⟨rfl, hRx, hKx⟩
      have HR6 := Lib.hid hRx
      have HK6 := Lib.hid (HKd.out.trans hKx (fun _ _ h => h))
      clear hRx hKx
      refine hK.out _ _ ((kept_cell HK6.out (lt_of_cell hS0) hbg (o := 0)).trans hS0) (fun hHeld => ?_)
      clear hK K
      (try simp only [Act.put, List.setIfInBounds_toArray, List.set_cons_zero, List.set_cons_succ])
      refine wpAnyH_ready (rs := [3, 7]) (by kernel_rfl) (by simp) ?_
      refine AllReadyH.cons rfl (fun K hK => ?cc7) (AllReadyH.cons rfl (fun K hK => ?cc8) AllReadyH.nil)
      case cc7 =>
        go_simp
        refine (CT2.out _ HR6.out).mono ?_
        rintro e w9 ⟨rfl, hRx, hKx⟩
        have HR9 := Lib.hid hRx
        have HK9 := Lib.hid (HK6.out.trans hKx (fun _ _ h => h))
        clear hRx hKx
        refine hK.out _ _ ((kept_cell HK9.out (lt_of_cell hS0) hbg (o := 0)).trans hS0) (fun hHeld => ?_)
        clear hK K
        (try simp only [Act.put, List.setIfInBounds_toArray, List.set_cons_zero, List.set_cons_succ])
        refine wpAnyH_ready (rs := [5, 7]) (by kernel_rfl) (by simp) ?_
        refine AllReadyH.cons rfl (fun K hK => ?cc10) (AllReadyH.cons rfl (fun K hK => ?cc11) AllReadyH.nil)
        case cc10 =>
          go_simp
          refine (CT3.out _ HR9.out).mono ?_
          rintro e w12 ⟨rfl, hRx, hKx⟩
          have HR12 := Lib.hid hRx
          have HK12 := Lib.hid (HK9.out.trans hKx (fun _ _ h => h))
          clear hRx hKx
          refine hK.out _ _ ((kept_cell HK12.out (lt_of_cell hS0) hbg (o := 0)).trans hS0) (fun hHeld => ?_)
          clear hK K
          (try simp only [Act.put, List.setIfInBounds_toArray, List.set_cons_zero, List.set_cons_succ])
          refine heldTake 6 9 (v := ?vq13) rfl rfl (by kernel_rfl) (by kernel_rfl) (by kernel_rfl) (fun _ _ _ h => h) (by kernel_rfl) ?hq13 hHeld ?rq13
          case hq13 => (intro w hSw; (try dsimp only at hSw); go_simp <;> with_reducible rfl)
          simp only [List.setIfInBounds_toArray, List.set_cons_zero, List.set_cons_succ]
          refine wpAnyH_ready (rs := [7]) (by kernel_rfl) (by simp) ?_
          refine AllReadyH.cons rfl (fun K hK => ?cc14) AllReadyH.nil
          case cc14 =>
            go_simp
            have HZ15 : Hid ((w12.alloc (.cells #[.string ⟨#[]⟩, .string ⟨#[]⟩, .string ⟨#[]⟩, .slice none 0 0, .int .i64 0, .int .i64 0, .int .i64 0, .int .i64 0] 64)).heap[w12.heap.size]? = some (.cells #[.string ⟨#[]⟩, .string ⟨#[]⟩, .string ⟨#[]⟩, .slice none 0 0, .int .i64 0, .int .i64 0, .int .i64 0, .int .i64 0] 64 (0, 0))) := Lib.hid (heap_alloc_new _ _)
            have HR15 : Hid (IsRd (w12.alloc (.cells #[.string ⟨#[]⟩, .string ⟨#[]⟩, .string ⟨#[]⟩, .slice none 0 0, .int .i64 0, .int .i64 0, .int .i64 0, .int .i64 0] 64)) g s C.2) := Lib.hid (HR12.out.alloc _)
            have HK15 : Hid (Kept W0.drew (w12.alloc (.cells #[.string ⟨#[]⟩, .string ⟨#[]⟩, .string ⟨#[]⟩, .slice none 0 0, .int .i64 0, .int .i64 0, .int .i64 0, .int .i64 0] 64)) (· = g)) := Lib.hid (HK12.out.alloc _)
            have hn15 : ¬ w12.heap.size = g := by have := HK12.out.size; omega
            have hgc15 : gx < w12.heap.size := by have := HK12.out.size; omega
            refine hK.out _ _ ((kept_cell HK15.out (lt_of_cell hS0) hbg (o := 0)).trans hS0) (fun hHeld => ?_)
            clear hK K
            (try simp only [Act.put, List.setIfInBounds_toArray, List.set_cons_zero, List.set_cons_succ])
            refine wpAnyH_ready (rs := [8]) (by kernel_rfl) (by simp) ?_
            refine AllReadyH.cons rfl (fun K hK => ?cc16) AllReadyH.nil
            case cc16 =>
              rw [if_pos (by rfl)]
              refine wp_store_mid 64 _ _ rfl w12.heap.size 0 #[.string (mkB A.1), .string (mkB B.1), .string (mkB C.1), .slice none 0 0, .int .i64 0, .int .i64 0, .int .i64 0, .int .i64 0] rfl rfl (there_of HZ15.out) size64 (by simp [Value.oneCell']) ?_
              have HX := Lib.hid (setCells8 HZ15.out (.string (mkB A.1)) (.string (mkB B.1)) (.string (mkB C.1)) (.slice none 0 0) (.int .i64 0) (.int .i64 0) (.int .i64 0) (.int .i64 0))
              have HKS := Lib.hid (setCells_kept [.string (mkB A.1), .string (mkB B.1), .string (mkB C.1), .slice none 0 0, .int .i64 0, .int .i64 0, .int .i64 0, .int .i64 0] 0 (w12.alloc (.cells #[.string ⟨#[]⟩, .string ⟨#[]⟩, .string ⟨#[]⟩, .slice none 0 0, .int .i64 0, .int .i64 0, .int .i64 0, .int .i64 0] 64)) w12.heap.size)
              have HKF : Hid (Kept W0.drew ((w12.alloc (.cells #[.string ⟨#[]⟩, .string ⟨#[]⟩, .string ⟨#[]⟩, .slice none 0 0, .int .i64 0, .int .i64 0, .int .i64 0, .int .i64 0] 64)).setCells w12.heap.size 0 [.string (mkB A.1), .string (mkB B.1), .string (mkB C.1), .slice none 0 0, .int .i64 0, .int .i64 0, .int .i64 0, .int .i64 0]) (fun k => k = g ∨ k = w12.heap.size)) := Lib.hid ((HK15.out.mono (fun _ _ h => Or.inl h)).trans HKS.out (fun _ _ h => Or.inr h))
              have HRF := Lib.hid (HR15.out.kept HKS.out (fun e => hn15 e.symm))
              dsimp only [Act.put]
              generalize World.setCells (w12.alloc (.cells #[.string ⟨#[]⟩, .string ⟨#[]⟩, .string ⟨#[]⟩, .slice none 0 0, .int .i64 0, .int .i64 0, .int .i64 0, .int .i64 0] 64)) w12.heap.size 0 [.string (mkB A.1), .string (mkB B.1), .string (mkB C.1), .slice none 0 0, .int .i64 0, .int .i64 0, .int .i64 0, .int .i64 0] = wF at *
              refine hK.out _ _ (((kept_cell HKF.out (lt_of_cell hS0) (fun e => e.elim hbg (fun e => by have h1 := HK15.out.size; have h2 := hgc15; omega)) (o := 0)).trans hS0)) (fun hHeld => ?_)
              clear hK K
              refine wpAnyH_done (by kernel_rfl) ?_ _
              refine NoPanic.normal ?_
              go_wp2_with fail
              go_meet
              exact ⟨w12.heap.size, rfl, hgc15, HX, HRF, HKF⟩
        case cc11 =>
          go_simp
          have HZ17 : Hid ((w9.alloc (.cells #[.string ⟨#[]⟩, .string ⟨#[]⟩, .string ⟨#[]⟩, .slice none 0 0, .int .i64 0, .int .i64 0, .int .i64 0, .int .i64 0] 64)).heap[w9.heap.size]? = some (.cells #[.string ⟨#[]⟩, .string ⟨#[]⟩, .string ⟨#[]⟩, .slice none 0 0, .int .i64 0, .int .i64 0, .int .i64 0, .int .i64 0] 64 (0, 0))) := Lib.hid (heap_alloc_new _ _)
          have HR17 : Hid (IsRd (w9.alloc (.cells #[.string ⟨#[]⟩, .string ⟨#[]⟩, .string ⟨#[]⟩, .slice none 0 0, .int .i64 0, .int .i64 0, .int .i64 0, .int .i64 0] 64)) g s B.2) := Lib.hid (HR9.out.alloc _)
          have HK17 : Hid (Kept W0.drew (w9.alloc (.cells #[.string ⟨#[]⟩, .string ⟨#[]⟩, .string ⟨#[]⟩, .slice none 0 0, .int .i64 0, .int .i64 0, .int .i64 0, .int .i64 0] 64)) (· = g)) := Lib.hid (HK9.out.alloc _)
          have hn17 : ¬ w9.heap.size = g := by have := HK9.out.size; omega
          have hgc17 : gx < w9.heap.size := by have := HK9.out.size; omega
          refine hK.out _ _ ((kept_cell HK17.out (lt_of_cell hS0) hbg (o := 0)).trans hS0) (fun hHeld => ?_)
          clear hK K
          (try simp only [Act.put, List.setIfInBounds_toArray, List.set_cons_zero, List.set_cons_succ])
          refine wpAnyH_ready (rs := [5]) (by kernel_rfl) (by simp) ?_
          refine AllReadyH.cons rfl (fun K hK => ?cc18) AllReadyH.nil
          case cc18 =>
            go_simp
            refine (CT3.out _ HR17.out).mono ?_
            rintro e w19 ⟨rfl, hRx, hKx⟩
            have HR19 := Lib.hid hRx
            have HK19 := Lib.hid (HK17.out.trans hKx (fun _ _ h => h))
            have HZ19 := Lib.hid (Kept.heap hKx HZ17.out hn17)
            clear hRx hKx
            refine hK.out _ _ ((kept_cell HK19.out (lt_of_cell hS0) hbg (o := 0)).trans hS0) (fun hHeld => ?_)
            clear hK K
            (try simp only [Act.put, List.setIfInBounds_toArray, List.set_cons_zero, List.set_cons_succ])
            refine heldTake 6 9 (v := ?vq20) rfl rfl (by kernel_rfl) (by kernel_rfl) (by kernel_rfl) (fun _ _ _ h => h) (by kernel_rfl) ?hq20 hHeld ?rq20
            case hq20 => (intro w hSw; (try dsimp only at hSw); go_simp <;> with_reducible rfl)
            simp only [List.setIfInBounds_toArray, List.set_cons_zero, List.set_cons_succ]
            refine wpAnyH_ready (rs := [8]) (by kernel_rfl) (by simp) ?_
            refine AllReadyH.cons rfl (fun K hK => ?cc21) AllReadyH.nil
            case cc21 =>
              rw [if_pos (by rfl)]
              refine wp_store_mid 64 _ _ rfl w9.heap.size 0 #[.string (mkB A.1), .string (mkB B.1), .string (mkB C.1), .slice none 0 0, .int .i64 0, .int .i64 0, .int .i64 0, .int .i64 0] rfl rfl (there_of HZ19.out) size64 (by simp [Value.oneCell']) ?_
              have HX := Lib.hid (setCells8 HZ19.out (.string (mkB A.1)) (.string (mkB B.1)) (.string (mkB C.1)) (.slice none 0 0) (.int .i64 0) (.int .i64 0) (.int .i64 0) (.int .i64 0))
              have HKS := Lib.hid (setCells_kept [.string (mkB A.1), .string (mkB B.1), .string (mkB C.1), .slice none 0 0, .int .i64 0, .int .i64 0, .int .i64 0, .int .i64 0] 0 w19 w9.heap.size)
              have HKF : Hid (Kept W0.drew (w19.setCells w9.heap.size 0 [.string (mkB A.1), .string (mkB B.1), .string (mkB C.1), .slice none 0 0, .int .i64 0, .int .i64 0, .int .i64 0, .int .i64 0]) (fun k => k = g ∨ k = w9.heap.size)) := Lib.hid ((HK19.out.mono (fun _ _ h => Or.inl h)).trans HKS.out (fun _ _ h => Or.inr h))
              have HRF := Lib.hid (HR19.out.kept HKS.out (fun e => hn17 e.symm))
              dsimp only [Act.put]
              generalize World.setCells w19 w9.heap.size 0 [.string (mkB A.1), .string (mkB B.1), .string (mkB C.1), .slice none 0 0, .int .i64 0, .int .i64 0, .int .i64 0, .int .i64 0] = wF at *
              refine hK.out _ _ (((kept_cell HKF.out (lt_of_cell hS0) (fun e => e.elim hbg (fun e => by have h1 := HK19.out.size; have h2 := hgc17; omega)) (o := 0)).trans hS0)) (fun hHeld => ?_)
              clear hK K
              refine wpAnyH_done (by kernel_rfl) ?_ _
              refine NoPanic.normal ?_
              go_wp2_with fail
              go_meet
              exact ⟨w9.heap.size, rfl, hgc17, HX, HRF, HKF⟩
      case cc8 =>
        go_simp
        have HZ22 : Hid ((w6.alloc (.cells #[.string ⟨#[]⟩, .string ⟨#[]⟩, .string ⟨#[]⟩, .slice none 0 0, .int .i64 0, .int .i64 0, .int .i64 0, .int .i64 0] 64)).heap[w6.heap.size]? = some (.cells #[.string ⟨#[]⟩, .string ⟨#[]⟩, .string ⟨#[]⟩, .slice none 0 0, .int .i64 0, .int .i64 0, .int .i64 0, .int .i64 0] 64 (0, 0))) := Lib.hid (heap_alloc_new _ _)
        have HR22 : Hid (IsRd (w6.alloc (.cells #[.string ⟨#[]⟩, .string ⟨#[]⟩, .string ⟨#[]⟩, .slice none 0 0, .int .i64 0, .int .i64 0, .int .i64 0, .int .i64 0] 64)) g s A.2) := Lib.hid (HR6.out.alloc _)
        have HK22 : Hid (Kept W0.drew (w6.alloc (.cells #[.string ⟨#[]⟩, .string ⟨#[]⟩, .string ⟨#[]⟩, .slice none 0 0, .int .i64 0, .int .i64 0, .int .i64 0, .int .i64 0] 64)) (· = g)) := Lib.hid (HK6.out.alloc _)
        have hn22 : ¬ w6.heap.size = g := by have := HK6.out.size; omega
        have hgc22 : gx < w6.heap.size := by have := HK6.out.size; omega
        refine hK.out _ _ ((kept_cell HK22.out (lt_of_cell hS0) hbg (o := 0)).trans hS0) (fun hHeld => ?_)
        clear hK K
        (try simp only [Act.put, List.setIfInBounds_toArray, List.set_cons_zero, List.set_cons_succ])
        refine wpAnyH_ready (rs := [3]) (by kernel_rfl) (by simp) ?_
        refine AllReadyH.cons rfl (fun K hK => ?cc23) AllReadyH.nil
        case cc23 =>
          go_simp
          refine (CT2.out _ HR22.out).mono ?_
          rintro e w24 ⟨rfl, hRx, hKx⟩
          have HR24 := Lib.hid hRx
          have HK24 := Lib.hid (HK22.out.trans hKx (fun _ _ h => h))
          have HZ24 := Lib.hid (Kept.heap hKx HZ22.out hn22)
          clear hRx hKx
          refine hK.out _ _ ((kept_cell HK24.out (lt_of_cell hS0) hbg (o := 0)).trans hS0) (fun hHeld => ?_)
          clear hK K
          (try simp only [Act.put, List.setIfInBounds_toArray, List.set_cons_zero, List.set_cons_succ])
          refine wpAnyH_ready (rs := [5]) (by kernel_rfl) (by simp) ?_
          refine AllReadyH.cons rfl (fun K hK => ?cc25) AllReadyH.nil
          case cc25 =>
            go_simp
            refine (CT3.out _ HR24.out).mono ?_
            rintro e w26 ⟨rfl, hRx, hKx⟩
            have HR26 := Lib.hid hRx
            have HK26 := Lib.hid (HK24.out.trans hKx (fun _ _ h => h))
            have HZ26 := Lib.hid (Kept.heap hKx HZ24.out hn22)
            clear hRx hKx
            refine hK.out _ _ ((kept_cell HK26.out (lt_of_cell hS0) hbg (o := 0)).trans hS0) (fun hHeld => ?_)
            clear hK K
            (try simp only [Act.put, List.setIfInBounds_toArray, List.set_cons_zero, List.set_cons_succ])
            refine heldTake 6 9 (v := ?vq27) rfl rfl (by kernel_rfl) (by kernel_rfl) (by kernel_rfl) (fun _ _ _ h => h) (by kernel_rfl) ?hq27 hHeld ?rq27
            case hq27 => (intro w hSw; (try dsimp only at hSw); go_simp <;> with_reducible rfl)
            simp only [List.setIfInBounds_toArray, List.set_cons_zero, List.set_cons_succ]
            refine wpAnyH_ready (rs := [8]) (by kernel_rfl) (by simp) ?_
            refine AllReadyH.cons rfl (fun K hK => ?cc28) AllReadyH.nil
            case cc28 =>
              rw [if_pos (by rfl)]
              refine wp_store_mid 64 _ _ rfl w6.heap.size 0 #[.string (mkB A.1), .string (mkB B.1), .string (mkB C.1), .slice none 0 0, .int .i64 0, .int .i64 0, .int .i64 0, .int .i64 0] rfl rfl (there_of HZ26.out) size64 (by simp [Value.oneCell']) ?_
              have HX := Lib.hid (setCells8 HZ26.out (.string (mkB A.1)) (.string (mkB B.1)) (.string (mkB C.1)) (.slice none 0 0) (.int .i64 0) (.int .i64 0) (.int .i64 0) (.int .i64 0))
              have HKS := Lib.hid (setCells_kept [.string (mkB A.1), .string (mkB B.1), .string (mkB C.1), .slice none 0 0, .int .i64 0, .int .i64 0, .int .i64 0, .int .i64 0] 0 w26 w6.heap.size)
              have HKF : Hid (Kept W0.drew (w26.setCells w6.heap.size 0 [.string (mkB A.1), .string (mkB B.1), .string (mkB C.1), .slice none 0 0, .int .i64 0, .int .i64 0, .int .i64 0, .int .i64 0]) (fun k => k = g ∨ k = w6.heap.size)) := Lib.hid ((HK26.out.mono (fun _ _ h => Or.inl h)).trans HKS.out (fun _ _ h => Or.inr h))
              have HRF := Lib.hid (HR26.out.kept HKS.out (fun e => hn22 e.symm))
              dsimp only [Act.put]
              generalize World.setCells w26 w6.heap.size 0 [.string (mkB A.1), .string (mkB B.1), .string (mkB C.1), .slice none 0 0, .int .i64 0, .int .i64 0, .int .i64 0, .int .i64 0] = wF at *
              refine hK.out _ _ (((kept_cell HKF.out (lt_of_cell hS0) (fun e => e.elim hbg (fun e => by have h1 := HK26.out.size; have h2 := hgc22; omega)) (o := 0)).trans hS0)) (fun hHeld => ?_)
              clear hK K
              refine wpAnyH_done (by kernel_rfl) ?_ _
              refine NoPanic.normal ?_
              go_wp2_with fail
              go_meet
              exact ⟨w6.heap.size, rfl, hgc22, HX, HRF, HKF⟩
    case cc5 =>
      go_simp
      have HZ29 : Hid ((W0.drew.alloc (.cells #[.string ⟨#[]⟩, .string ⟨#[]⟩, .string ⟨#[]⟩, .slice none 0 0, .int .i64 0, .int .i64 0, .int .i64 0, .int .i64 0] 64)).heap[W0.drew.heap.size]? = some (.cells #[.string ⟨#[]⟩, .string ⟨#[]⟩, .string ⟨#[]⟩, .slice none 0 0, .int .i64 0, .int .i64 0, .int .i64 0, .int .i64 0] 64 (0, 0))) := Lib.hid (heap_alloc_new _ _)
      have HR29 : Hid (IsRd (W0.drew.alloc (.cells #[.string ⟨#[]⟩, .string ⟨#[]⟩, .string ⟨#[]⟩, .slice none 0 0, .int .i64 0, .int .i64 0, .int .i64 0, .int .i64 0] 64)) g s st) := Lib.hid (HR0.out.alloc _)
      have HK29 : Hid (Kept W0.drew (W0.drew.alloc (.cells #[.string ⟨#[]⟩, .string ⟨#[]⟩, .string ⟨#[]⟩, .slice none 0 0, .int .i64 0, .int .i64 0, .int .i64 0, .int .i64 0] 64)) (· = g)) := Lib.hid (HKd.out.alloc _)
      have hn29 : ¬ W0.drew.heap.size = g := by have := HKd.out.size; omega
      have hgc29 : gx < W0.drew.heap.size := by have := HKd.out.size; omega
      refine hK.out _ _ ((kept_cell HK29.out (lt_of_cell hS0) hbg (o := 0)).trans hS0) (fun hHeld => ?_)
      clear hK K
      (try simp only [Act.put, List.setIfInBounds_toArray, List.set_cons_zero, List.set_cons_succ])
      refine wpAnyH_ready (rs := [1]) (by kernel_rfl) (by simp) ?_
      refine AllReadyH.cons rfl (fun K hK => ?cc30) AllReadyH.nil
      case cc30 =>
        go_simp
        refine (CT1.out _ HR29.out).mono ?_
        rintro e w31 ⟨rfl, hRx, hKx⟩
        have HR31 := Lib.hid hRx
        have HK31 := Lib.hid (HK29.out.trans hKx (fun _ _ h => h))
        have HZ31 := Lib.hid (Kept.heap hKx HZ29.out hn29)
        clear hRx hKx
        refine hK.out _ _ ((kept_cell HK31.out (lt_of_cell hS0) hbg (o := 0)).trans hS0) (fun hHeld => ?_)
        clear hK K
        (try simp only [Act.put, List.setIfInBounds_toArray, List.set_cons_zero, List.set_cons_succ])
        refine wpAnyH_ready (rs := [3]) (by kernel_rfl) (by simp) ?_
        refine AllReadyH.cons rfl (fun K hK => ?cc32) AllReadyH.nil
        case cc32 =>
          go_simp
          refine (CT2.out _ HR31.out).mono ?_
          rintro e w33 ⟨rfl, hRx, hKx⟩
          have HR33 := Lib.hid hRx
          have HK33 := Lib.hid (HK31.out.trans hKx (fun _ _ h => h))
          have HZ33 := Lib.hid (Kept.heap hKx HZ31.out hn29)
          clear hRx hKx
          refine hK.out _ _ ((kept_cell HK33.out (lt_of_cell hS0) hbg (o := 0)).trans hS0) (fun hHeld => ?_)
          clear hK K
          (try simp only [Act.put, List.setIfInBounds_toArray, List.set_cons_zero, List.set_cons_succ])
          refine wpAnyH_ready (rs := [5]) (by kernel_rfl) (by simp) ?_
          refine AllReadyH.cons rfl (fun K hK => ?cc34) AllReadyH.nil
          case cc34 =>
            go_simp
            refine (CT3.out _ HR33.out).mono ?_
            rintro e w35 ⟨rfl, hRx, hKx⟩
            have HR35 := Lib.hid hRx
            have HK35 := Lib.hid (HK33.out.trans hKx (fun _ _ h => h))
            have HZ35 := Lib.hid (Kept.heap hKx HZ33.out hn29)
            clear hRx hKx
            refine hK.out _ _ ((kept_cell HK35.out (lt_of_cell hS0) hbg (o := 0)).trans hS0) (fun hHeld => ?_)
            clear hK K
            (try simp only [Act.put, List.setIfInBounds_toArray, List.set_cons_zero, List.set_cons_succ])
            refine heldTake 6 9 (v := ?vq36) rfl rfl (by kernel_rfl) (by kernel_rfl) (by kernel_rfl) (fun _ _ _ h => h) (by kernel_rfl) ?hq36 hHeld ?rq36
            case hq36 => (intro w hSw; (try dsimp only at hSw); go_simp <;> with_reducible rfl)
            simp only [List.setIfInBounds_toArray, List.set_cons_zero, List.set_cons_succ]
            refine wpAnyH_ready (rs := [8]) (by kernel_rfl) (by simp) ?_
            refine AllReadyH.cons rfl (fun K hK => ?cc37) AllReadyH.nil
            case cc37 =>
              rw [if_pos (by rfl)]
              refine wp_store_mid 64 _ _ rfl W0.drew.heap.size 0 #[.string (mkB A.1), .string (mkB B.1), .string (mkB C.1), .slice none 0 0, .int .i64 0, .int .i64 0, .int .i64 0, .int .i64 0] rfl rfl (there_of HZ35.out) size64 (by simp [Value.oneCell']) ?_
              have HX := Lib.hid (setCells8 HZ35.out (.string (mkB A.1)) (.string (mkB B.1)) (.string (mkB C.1)) (.slice none 0 0) (.int .i64 0) (.int .i64 0) (.int .i64 0) (.int .i64 0))
              have HKS := Lib.hid (setCells_kept [.string (mkB A.1), .string (mkB B.1), .string (mkB C.1), .slice none 0 0, .int .i64 0, .int .i64 0, .int .i64 0, .int .i64 0] 0 w35 W0.drew.heap.size)
              have HKF : Hid (Kept W0.drew (w35.setCells W0.drew.heap.size 0 [.string (mkB A.1), .string (mkB B.1), .string (mkB C.1), .slice none 0 0, .int .i64 0, .int .i64 0, .int .i64 0, .int .i64 0]) (fun k => k = g ∨ k = W0.drew.heap.size)) := Lib.hid ((HK35.out.mono (fun _ _ h => Or.inl h)).trans HKS.out (fun _ _ h => Or.inr h))
              have HRF := Lib.hid (HR35.out.kept HKS.out (fun e => hn29 e.symm))
              dsimp only [Act.put]
              generalize World.setCells w35 W0.drew.heap.size 0 [.string (mkB A.1), .string (mkB B.1), .string (mkB C.1), .slice none 0 0, .int .i64 0, .int .i64 0, .int .i64 0, .int .i64 0] = wF at *
              refine hK.out _ _ (((kept_cell HKF.out (lt_of_cell hS0) (fun e => e.elim hbg (fun e => by have h1 := HK35.out.size; have h2 := hgc29; omega)) (o := 0)).trans hS0)) (fun hHeld => ?_)
              clear hK K
              refine wpAnyH_done (by kernel_rfl) ?_ _
              refine NoPanic.normal ?_
              go_wp2_with fail
              go_meet
              exact ⟨W0.drew.heap.size, rfl, hgc29, HX, HRF, HKF⟩
  case rest =>
    obtain ⟨gc, rfl, hgc, HX, HR1, HK1⟩ := hcut
    have hbgc : ¬ gb = gc := by omega
    have hgcg : ¬ gc = g := by omega
    have hxgc : ¬ gx = gc := by omega
    have HK1' := Lib.hid (HK1.out.mono (S' := fun k => k = g ∨ k = gc) (fun _ _ h => h))
    have HBc : Hid (wc.heap[gb]? = some (.cells #[.pointer (some ⟨g, 0, none⟩)] 35 (0, 0))) := Lib.hid (HK1.out.heap HB0.out (fun e => e.elim hbg hbgc))
    have HXc := Lib.hid (HK1.out.heap HX0.out (fun e => e.elim hxg hxgc))
    have hgltc : g < wc.heap.size := by have := HK1.out.size; omega
    have hS1 : wc.cell? ⟨gb, 0, none⟩ = some (.pointer (some ⟨g, 0, none⟩)) := cell_of HBc.out rfl
    go_wp2_with fail
    refine (readTexts_any g s _ _ HR1.out hs hgltc).mono ?_
    rintro e w5 ⟨tv, rfl, hT, hR5, hK5⟩
    obtain ⟨ta, tc, rfl⟩ := hT.out.len
    obtain ⟨⟨z0, z1, z2, z3, z4, z5, z6, z7⟩, ⟨y0, y1, y2, y3, y4, y5, y6, y7⟩⟩ := eight (hK5.out.heap HX.out hgcg)
    clear z0 z1 z2 z4 z5 z6 z7 y0 y1 y2 y4 y5 y6 y7
    go_upto_region 3 with fail
    obtain ⟨W6, hW6⟩ : ∃ W, w5.setCell ⟨gc, 3, none⟩ (.slice ta (rdTxs s.data.toList C.2).1.length tc) = W := ⟨_, rfl⟩
    have HKS : Hid (Kept w5 W6 (· = gc)) := by rw [← hW6]; exact Lib.hid ((Kept.refl w5 (· = gc)).setCell (p := ⟨gc, 3, none⟩) (fun _ => rfl) _)
    have HX6 : Hid (W6.drew.heap[gc]? = some (.cells #[.string (mkB A.1), .string (mkB B.1), .string (mkB C.1), .slice ta (rdTxs s.data.toList C.2).1.length tc, .int .i64 0, .int .i64 0, .int .i64 0, .int .i64 0] 64 (0, 0))) := by rw [← hW6]; exact Lib.hid ((heap_set_same (hK5.out.heap HX.out hgcg) 3 _).trans rfl)
    have HR6 : Hid (IsRd W6.drew g s (rdTxs s.data.toList C.2).2) := Lib.hid (hR5.out.kept HKS.out.drew (fun e => hgcg e.symm))
    have HK6 : Hid (Kept W0.drew W6.drew (fun k => k = g ∨ k = gc)) := Lib.hid (((HK1.out.trans hK5.out (fun _ _ h => Or.inl h)).trans HKS.out (fun _ _ h => Or.inr h)).drew)
    have hcs5 : wc.heap.size ≤ w5.heap.size := hK5.out.size
    have hgcc := lt_of_heap HX.out
    have HT6 : Hid (Txs (fun b => wc.heap.size ≤ b) W6.drew (.slice ta (rdTxs s.data.toList C.2).1.length tc) (rdTxs s.data.toList C.2).1) := Lib.hid (hT.out.same (Same.of_kept HKS.out.drew (fun b hb e => by omega)))
    have hS6 : W6.drew.cell? ⟨gb, 0, none⟩ = some (.pointer (some ⟨g, 0, none⟩)) := cell_of (W := W6.drew) (HK6.out.heap HB0.out (fun e => e.elim hbg hbgc)) rfl
    rw [hW6]
    have HN : Hid (rdTxs s.data.toList C.2 = rdTxs s.data.toList C.2) := Lib.hid rfl
    obtain ⟨N, hN⟩ : ∃ N, rdTxs s.data.toList C.2 = N := ⟨_, rfl⟩
    have HNE := Lib.hid hN
    rw [hN] at HX6 HR6 HT6
    obtain ⟨D0, hD0⟩ : ∃ D, D = Rd.num s.data.toList N.2 := ⟨_, rfl⟩
    obtain ⟨D1, hD1⟩ : ∃ D, D = Rd.num s.data.toList D0.2 := ⟨_, rfl⟩
    obtain ⟨D2, hD2⟩ : ∃ D, D = Rd.num s.data.toList D1.2 := ⟨_, rfl⟩
    obtain ⟨D3, hD3⟩ : ∃ D, D = Rd.num s.data.toList D2.2 := ⟨_, rfl⟩
    have cN0 : ∀ W, IsRd W g s N.2 → Calls Try.prog 18 #[.pointer (some ⟨g, 0, none⟩)] W fun e w' => e = .returned (.int .i64 D0.1) ∧ IsRd w' g s D0.2 ∧ Kept W w' (· = g) := fun W h => by rw [hD0]; exact rNum_any g s _ W h hs
    have cN1 : ∀ W, IsRd W g s D0.2 → Calls Try.prog 18 #[.pointer (some ⟨g, 0, none⟩)] W fun e w' => e = .returned (.int .i64 D1.1) ∧ IsRd w' g s D1.2 ∧ Kept W w' (· = g) := fun W h => by rw [hD1]; exact rNum_any g s _ W h hs
    have cN2 : ∀ W, IsRd W g s D1.2 → Calls Try.prog 18 #[.pointer (some ⟨g, 0, none⟩)] W fun e w' => e = .returned (.int .i64 D2.1) ∧ IsRd w' g s D2.2 ∧ Kept W w' (· = g) := fun W h => by rw [hD2]; exact rNum_any g s _ W h hs
    have cN3 : ∀ W, IsRd W g s D2.2 → Calls Try.prog 18 #[.pointer (some ⟨g, 0, none⟩)] W fun e w' => e = .returned (.int .i64 D3.1) ∧ IsRd w' g s D3.2 ∧ Kept W w' (· = g) := fun W h => by rw [hD3]; exact rNum_any g s _ W h hs
    have CN0 := Lib.hid cN0
    have CN1 := Lib.hid cN1
    have CN2 := Lib.hid cN2
    have CN3 := Lib.hid cN3
    have HRES : Hid (rdCu s.data.toList st = (⟨mkB A.1, mkB B.1, mkB C.1, N.1, D0.1, D1.1, D2.1, D3.1⟩, D3.2)) := Lib.hid (by rw [hD3, hD2, hD1, hD0, ← hN, HC.out, HB'.out, HA.out]; rfl)
    clear cN0 cN1 cN2 cN3 hD0 hD1 hD2 hD3 hN HN hW6 z3 y3 hS1 hT hR5 hK5
    have hgcb : ¬ gc = gb := fun e => hbgc e.symm
    go_region_held3 (fun w' => w'.cell? ⟨gb, 0, none⟩ = some (.pointer (some ⟨g, 0, none⟩)))
      (first | with_reducible assumption | go_keep)
      (first
        | (go_at_call 18; ((with_reducible refine (CN0.out _ HR6.out).mono ?_); rintro e w7 ⟨rfl, hRx, hKx⟩; have HR7 := Lib.hid hRx; have HK7 := Lib.hid hKx; clear hRx hKx; have hS7 := (kept_cell HK7.out (lt_of_cell hS6) hbg (o := 0)).trans hS6))
        | (go_at_call 18; ((with_reducible refine (CN1.out _ HR7.out).mono ?_); rintro e w8 ⟨rfl, hRx, hKx⟩; have HR8 := Lib.hid hRx; have HK8 := Lib.hid (HK7.out.trans hKx (fun _ _ h => h)); clear hRx hKx; have hS8 := (kept_cell HK8.out (lt_of_cell hS6) hbg (o := 0)).trans hS6))
        | (go_at_call 18; ((with_reducible refine (CN2.out _ HR8.out).mono ?_); rintro e w9 ⟨rfl, hRx, hKx⟩; have HR9 := Lib.hid hRx; have HK9 := Lib.hid (HK8.out.trans hKx (fun _ _ h => h)); clear hRx hKx; have hS9 := (kept_cell HK9.out (lt_of_cell hS6) hbg (o := 0)).trans hS6))
        | (go_at_call 18; ((with_reducible refine (CN3.out _ HR9.out).mono ?_); rintro e w10 ⟨rfl, hRx, hKx⟩; have HR10 := Lib.hid hRx; have HK10 := Lib.hid (HK9.out.trans hKx (fun _ _ h => h)); clear hRx hKx; have hS10 := (kept_cell HK10.out (lt_of_cell hS6) hbg (o := 0)).trans hS6; have HX10 := Lib.hid (HK10.out.heap HX6.out hgcg); have hZ5 := eight HX10.out; obtain ⟨⟨z0, z1, z2, z3, z4, z5, z6, z7⟩, ⟨y0, y1, y2, y3, y4, y5, y6, y7⟩⟩ := hZ5)))
    go_upto_region 4 with fail
    obtain ⟨W11, hW11⟩ : ∃ W, (((w10.setCell ⟨gc, 4, none⟩ (.int .i64 D0.1)).setCell ⟨gc, 5, none⟩ (.int .i64 D1.1)).setCell ⟨gc, 6, none⟩ (.int .i64 D2.1)).setCell ⟨gc, 7, none⟩ (.int .i64 D3.1) = W := ⟨_, rfl⟩
    have HX11 : Hid (W11.heap[gc]? = some (.cells #[.string (mkB A.1), .string (mkB B.1), .string (mkB C.1), .slice ta (rdTxs s.data.toList C.2).1.length tc, .int .i64 D0.1, .int .i64 D1.1, .int .i64 D2.1, .int .i64 D3.1] 64 (0, 0))) := by
      rw [HNE.out, ← hW11]
      exact Lib.hid (setCells4 HX10.out _ _ _ _)
    have HKS2 : Hid (Kept w10 W11 (· = gc)) := by
      rw [← hW11]
      exact Lib.hid (setCells_kept [.int .i64 D0.1, .int .i64 D1.1, .int .i64 D2.1, .int .i64 D3.1] 4 w10 gc)
    have HR11 := Lib.hid (HR10.out.kept HKS2.out (fun e => hgcg e.symm))
    have HT11 := Lib.hid ((HT6.out.same (Same.of_kept HK10.out (fun b hb e => by omega))).same (Same.of_kept HKS2.out (fun b hb e => by omega)))
    have HK11 := Lib.hid ((HK6.out.trans HK10.out (fun _ _ h => Or.inl h)).trans HKS2.out (fun _ _ h => Or.inr h))
    have HXx := Lib.hid (HK11.out.heap HX0.out (fun e => e.elim hxg hxgc))
    rw [hW11]
    clear hW11 z0 z1 z2 z3 z4 z5 z6 z7 y0 y1 y2 y3 y4 y5 y6 y7
    obtain ⟨⟨z0, z1, z2, z3, z4, z5, z6, z7⟩, _⟩ := eight HX11.out
    obtain ⟨⟨x0, x1, x2, x3, x4, x5, x6, x7⟩, ⟨y0, y1, y2, y3, y4, y5, y6, y7⟩⟩ := eight HXx.out
    go_wp2
    have hgx12 : gx < W11.heap.size := lt_of_heap HXx.out
    obtain ⟨W12, hW12⟩ : ∃ W, ((((((((W11.setCell ⟨gx, 0, none⟩ (.string (mkB A.1))).setCell ⟨gx, 1, none⟩ (.string (mkB B.1))).setCell ⟨gx, 2, none⟩ (.string (mkB C.1))).setCell ⟨gx, 3, none⟩ (.slice ta (rdTxs s.data.toList C.2).1.length tc)).setCell ⟨gx, 4, none⟩ (.int .i64 D0.1)).setCell ⟨gx, 5, none⟩ (.int .i64 D1.1)).setCell ⟨gx, 6, none⟩ (.int .i64 D2.1)).setCell ⟨gx, 7, none⟩ (.int .i64 D3.1)) = W := ⟨_, rfl⟩
    have HX12 : Hid (W12.heap[gx]? = some (.cells #[.string (mkB A.1), .string (mkB B.1), .string (mkB C.1), .slice ta (rdTxs s.data.toList C.2).1.length tc, .int .i64 D0.1, .int .i64 D1.1, .int .i64 D2.1, .int .i64 D3.1] 64 (0, 0))) := by
      rw [← hW12]
      exact Lib.hid (setCells8 HXx.out _ _ _ _ _ _ _ _)
    have HKS3 : Hid (Kept W11 W12 (· = gx)) := by
      rw [← hW12]
      exact Lib.hid (setCells_kept [.string (mkB A.1), .string (mkB B.1), .string (mkB C.1), .slice ta (rdTxs s.data.toList C.2).1.length tc, .int .i64 D0.1, .int .i64 D1.1, .int .i64 D2.1, .int .i64 D3.1] 0 W11 gx)
    rw [hW12]
    clear hW12 z0 z1 z2 z3 z4 z5 z6 z7 x0 x1 x2 x3 x4 x5 x6 x7 y0 y1 y2 y3 y4 y5 y6 y7
    obtain ⟨⟨z0, z1, z2, z3, z4, z5, z6, z7⟩, _⟩ := eight HX12.out
    refine bodyPost_ret (v := .agg #[.string (mkB A.1), .string (mkB B.1), .string (mkB C.1), .slice ta (rdTxs s.data.toList C.2).1.length tc, .int .i64 D0.1, .int .i64 D1.1, .int .i64 D2.1, .int .i64 D3.1]) (by simp [results, Try.results41, go_sem, z0, z1, z2, z3, z4, z5, z6, z7]) rfl ?_
    have hgw := HGX.out
    refine ⟨ta, tc, ?_, ?_, ?_, ?_⟩
    · rw [HRES.out, HNE.out]
    · rw [HRES.out]
      show Txs (fun b => w.heap.size ≤ b) W12 (.slice ta N.1.length tc) N.1
      rw [← HNE.out] at HT11 ⊢
      exact (HT11.out.same (Same.of_kept HKS3.out (fun b hb e => by omega))).mono (fun b _ h => by have := HK1.out.size; have := HK0.out.size; omega)
    · rw [HRES.out]
      exact HR11.out.kept HKS3.out (fun e => hxg e.symm)
    · exact (HK0.out.trans HK11.out (fun k hk e => e.elim id (fun e => by omega))).trans HKS3.out (fun k hk e => by omega)
end Go.Proofs.Ytikkakbemphdhaa
