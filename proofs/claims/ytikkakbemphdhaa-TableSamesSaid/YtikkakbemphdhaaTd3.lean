/- The walks of readRows and of the lists of units. -/
import Derived.Test.YtikkakbemphdhaaTd2
set_option linter.unusedSimpArgs false
set_option linter.unusedVariables false
namespace Go.Proofs.Ytikkakbemphdhaa
open Go.RowKit Go.Fl

theorem OwnOf.lt {α : Type} {k : Nat} {ty : TypeId} {R : (Nat → Prop) → World → List Value → α → Prop} {base : Nat} {W : World} {v : Value} {xs : List α} (h : OwnOf k ty R base W v xs) : ∀ b, v.ownBlock = some b → base ≤ b ∧ b < W.heap.size := by
  obtain ⟨cs, _, hown, _⟩ := h
  exact hown.lt
theorem Try.info66 : (Try.prog.info? 66).map (fun i => (i.zero, i.size, i.bytes)) = some (some (.agg #[.int .i64 0, .slice none 0 0]), 2, 32) := by kernel_rfl
theorem rws_of {base : Nat} {W : World} {v : Value} {xs : List Rw} (h : OwnOf 2 66 RwR base W v xs) : Rws (fun b => base ≤ b) W v xs := by
  refine h.slice fun g o x c hc hl hr => ?_
  obtain ⟨tv, rfl, ht⟩ := hr
  exact ⟨hc 0 (by omega), tv, hc 1 (by omega), ht.mono (fun b _ h => h.1)⟩

def OneRwPost (g : Nat) (s : ByteArray) (st : Option Nat) (w : World) (e : Ending) (w' : World) : Prop :=
  ∃ ta tc, e = .returned (.agg #[.int .i64 (rdRw s.data.toList st).1.mag, .slice ta (rdRw s.data.toList st).1.texts.length tc]) ∧ Txs (fun b => w.heap.size ≤ b) w' (.slice ta (rdRw s.data.toList st).1.texts.length tc) (rdRw s.data.toList st).1.texts ∧
    IsRd w' g s (rdRw s.data.toList st).2 ∧ Kept w w' (· = g)

set_option maxRecDepth 100000 in
set_option maxHeartbeats 800000 in
theorem oneRw_any (g gb : Nat) (s : ByteArray) (st : Option Nat) (w : World) (hR : IsRd w g s st) (hs : s.size ≤ 140737488355328) (hb : w.heap[gb]? = some (.cells #[.pointer (some ⟨g, 0, none⟩)] 35 (0, 0))) (hbg : gb ≠ g) (hg : g < w.heap.size) :
    Calls Try.prog 57 #[.pointer (some ⟨gb, 0, none⟩)] w (OneRwPost g s st w) := by
  have HR := Lib.hid hR
  have hgb := lt_of_heap hb
  have HB := Lib.hid hb
  clear hR hb
  have HQ1 : Hid ((rdRw s.data.toList st).1.texts = (rdTxs s.data.toList (Rd.num s.data.toList st).2).1) := Lib.hid rfl
  have HQ2 : Hid ((rdRw s.data.toList st).2 = (rdTxs s.data.toList (Rd.num s.data.toList st).2).2) := Lib.hid rfl
  have HQ3 : Hid ((.int .i64 (rdRw s.data.toList st).1.mag : Value) = .int .i64 (Rd.num s.data.toList st).1) := Lib.hid rfl
  go_enter Try.func57, Try.ntmps57
  go_wp2_with fail
  obtain ⟨gx, hgx⟩ : ∃ x, x = w.heap.size := ⟨_, rfl⟩
  obtain ⟨W0, hW0⟩ : ∃ W0, w.alloc (.cells #[.int .i64 0, .slice none 0 0] 66) = W0 := ⟨_, rfl⟩
  have HK0 : Hid (Kept w W0 (· = g)) := by rw [← hW0]; exact Lib.hid ((Kept.refl _ _).alloc _)
  have HK0d : Hid (Kept w W0 (fun _ => False)) := by rw [← hW0]; exact Lib.hid ((Kept.refl _ _).alloc _)
  have HR0 : Hid (IsRd W0.drew g s st) := Lib.hid (HR.out.kept (S := fun _ => False) HK0d.out.drew id)
  have HX0 : Hid (W0.heap[gx]? = some (.cells #[.int .i64 0, .slice none 0 0] 66 (0, 0))) := by subst hgx hW0; exact Lib.hid (heap_alloc_new w _)
  have HB0 : Hid (W0.heap[gb]? = some (.cells #[.pointer (some ⟨g, 0, none⟩)] 35 (0, 0))) := Lib.hid (HK0d.out.heap HB.out id)
  have hS0 : W0.drew.cell? ⟨gb, 0, none⟩ = some (.pointer (some ⟨g, 0, none⟩)) := cell_of (W := W0.drew) HB0.out rfl
  have hxb : ¬ gx = gb := by omega
  have hxg : ¬ gx = g := by omega
  have hgx0 : gx < W0.drew.heap.size := lt_of_heap HX0.out
  have hg0 : g < W0.drew.heap.size := Nat.lt_of_lt_of_le hg HK0.out.size
  rw [← hgx, hW0]
  have HGX := Lib.hid hgx
  clear hW0 hgx
  go_region_held3 (fun w' => w'.cell? ⟨gb, 0, none⟩ = some (.pointer (some ⟨g, 0, none⟩)))
    (first | assumption | go_keep)
    (first
      | (go_at_call 18; ((with_reducible refine (rNum_any g s st _ HR0.out hs).mono ?_); rintro e w2 ⟨rfl, hRx, hKx⟩; have HR2 := Lib.hid hRx; have HK2 := Lib.hid hKx; clear hRx hKx; have hS2 := (kept_cell HK2.out (lt_of_cell hS0) hbg (o := 0)).trans hS0))
      | (go_at_call 42; ((with_reducible refine (readTexts_any g s _ _ HR2.out hs (Nat.lt_of_lt_of_le hg0 HK2.out.size)).mono ?_); rintro e w3 ⟨tv, rfl, hT, hRx, hKx⟩; have HK3 := Lib.hid (HK2.out.trans hKx.out (fun _ _ h => h)); clear hKx; have hS3 := (kept_cell HK3.out (lt_of_cell hS0) hbg (o := 0)).trans hS0; obtain ⟨hx0, hx1, hf0, hf1⟩ := two_cells (HK3.out.heap (w := W0.drew) HX0.out hxg); obtain ⟨ta, tc, rfl⟩ := hT.out.len)))
  go_wp2
  have hgx2 : gx < w2.heap.size := Nat.lt_of_lt_of_le hgx0 HK2.out.size
  have hgw : w.heap.size ≤ w2.heap.size := by have := HGX.out; omega
  have HKE := Lib.hid (kept_set2 w3 gx (.int .i64 (Rd.num s.data.toList st).1) (.slice ta (rdTxs s.data.toList (Rd.num s.data.toList st).2).1.length tc))
  refine bodyPost_ret (v := .agg #[.int .i64 (Rd.num s.data.toList st).1, .slice ta (rdTxs s.data.toList (Rd.num s.data.toList st).2).1.length tc]) (by simp [results, Try.results57, go_sem, hx0, hx1]) rfl ?_
  refine ⟨ta, tc, ?_, ?_, ?_, ?_⟩
  · rw [HQ1.out, HQ3.out]
  · rw [HQ1.out]
    exact (hT.out.same (Same.of_kept HKE.out (fun b hb e => by omega))).mono (fun b _ h => by omega)
  · rw [HQ2.out]
    exact hRx.out.kept HKE.out (fun h => hxg h.symm)
  · exact (HK0.out.drew.trans HK3.out (fun _ _ h => h)).trans HKE.out (fun k hk h => by have := HGX.out; omega)

set_option maxRecDepth 100000 in
set_option maxHeartbeats 800000 in
theorem listRw_any (g gb : Nat) (s : ByteArray) (st : Option Nat) (w : World) (hR : IsRd w g s st) (hs : s.size ≤ 140737488355328) (hb : w.heap[gb]? = some (.cells #[.pointer (some ⟨g, 0, none⟩)] 35 (0, 0))) (hbg : gb ≠ g) (hg : g < w.heap.size) :
    Calls Try.prog 56 #[.pointer (some ⟨g, 0, none⟩), .func (.func 57) #[] #[.pointer (some ⟨gb, 0, none⟩)]] w (ListPost Rws g s (rdRws s.data.toList st) w) := by
  obtain ⟨i0, hi, hz0, hz1, hz2⟩ := info_parts Try.info66
  have HR := Lib.hid hR
  have HB := Lib.hid hb
  clear hR hb
  go_enter Try.func56, Try.ntmps56
  go_wp2_with fail
  refine (rCount_any g s st 65536 _ HR.out hs).mono ?_
  rintro e w1 ⟨rfl, hR1, hK1⟩
  have HR1 := Lib.hid hR1
  have HK1 := Lib.hid hK1
  have hn0 := count_le s.data.toList st
  have HQ : Hid (rdRws s.data.toList st = rdList (rdRw s.data.toList) (Rd.count s.data.toList st 65536).1 (Rd.count s.data.toList st 65536).2) := Lib.hid rfl
  clear hR1 hK1
  generalize rdRws s.data.toList st = Q at *
  generalize (Rd.count s.data.toList st 65536).1 = n0 at *
  generalize (Rd.count s.data.toList st 65536).2 = st1 at *
  go_wp2
  go_loopg [5, 6] n0 (fun gk v u wr => ∃ (acc : List Rw) (stc : Option Nat), u = .int .i64 gk ∧ acc.length + gk ≤ 65536 ∧ Hid (Q = (acc ++ (rdList (rdRw s.data.toList) gk stc).1, (rdList (rdRw s.data.toList) gk stc).2)) ∧
    Hid (OwnOf 2 66 RwR w.heap.size wr v acc) ∧ Hid (IsRd wr g s stc) ∧ Hid (Kept w wr (· = g)))
  case atStart => exact ⟨[], st1, rfl, by simp; omega, HQ, Lib.hid OwnOf.nil, HR1, HK1⟩
  case round =>
    clear HQ HR1 HK1
    obtain ⟨acc, stc, rfl, hle, HQ, HO, HR1, HK1⟩ := hrel
    by_cases hj : 0 < gk
    · obtain ⟨k, rfl⟩ : ∃ k, gk = k + 1 := ⟨gk - 1, by omega⟩
      cases stc with
      | none =>
        go_wp2_with fail
        refine (rOK_any g s none _ HR1.out).mono ?_
        rintro e w2 ⟨rfl, rfl⟩
        rw [show (none : Option Nat).isSome = false by rfl]
        rw [rdList_none, List.append_nil] at HQ
        go_wp2
        go_ret
        exact ⟨_, rfl, Lib.hid (by rw [HQ.out]; exact rws_of HO.out), Lib.hid (by rw [HQ.out]; exact HR1.out), HK1⟩
      | some a =>
        go_wp2_with fail
        refine (rOK_any g s (some a) _ HR1.out).mono ?_
        rintro e w2 ⟨rfl, rfl⟩
        rw [show (some a).isSome = true by rfl]
        go_wp2_with fail
        refine (oneRw_any g gb s (some a) _ HR1.out hs (HK1.out.heap HB.out hbg) hbg (Nat.lt_of_lt_of_le hg HK1.out.size)).mono ?_
        rintro e w2 ⟨ta, tc, rfl, hT2, hR2, hK2⟩
        have hbs : w.heap.size ≤ w2.heap.size := Nat.le_trans HK1.out.size hK2.size
        have hT3 := hT2.mono (P' := fun b => w.heap.size ≤ b ∧ some b ≠ u5.ownBlock) (fun b _ h => ⟨Nat.le_trans HK1.out.size h, fun e => by have h2 := HO.out.lt b e.symm; omega⟩)
        have HO2 := Lib.hid (HO.out.kept RwR.stable hK2 (fun b hb e => by omega))
        have HR2 := Lib.hid hR2
        have HK2 := Lib.hid (HK1.out.trans hK2 (fun _ _ h => h))
        have HQ2 : Hid (Q = (acc ++ [(rdRw s.data.toList (some a)).1] ++ (rdList (rdRw s.data.toList) k (rdRw s.data.toList (some a)).2).1, (rdList (rdRw s.data.toList) k (rdRw s.data.toList (some a)).2).2)) :=
          Lib.hid (HQ.out.trans (by rw [List.append_assoc]; rfl))
        clear hR2 hK2 HO HQ HR1 HK1 hT2
        generalize (rdRw s.data.toList (some a)).2 = st2 at *
        generalize (rdRw s.data.toList (some a)).1 = x at *
        obtain ⟨cs, hl, hown, hc⟩ := HO2.out
        have HC := Lib.hid hc
        have HW := Lib.hid hown
        have HL := Lib.hid hl
        clear hc hown hl HO2
        have HT := Lib.hid hT3
        clear hT3
        go_wp2_with (at_builtin; (refine wpList_append_own_at _ rfl _ _ 48 rfl w.heap.size 66 i0 (.agg #[.int .i64 0, .slice none 0 0]) 2 32 Try.underlying48 hi hz0 hz1 hz2 rfl (by omega) _ _ _ rfl (HW.out.alloc _) ⟨w2.heap.size, 0, none⟩ 1 1 [.int .i64 x.mag, .slice ta x.texts.length tc] rfl rfl (cells_news (heap_alloc_new w2 (.cells #[.int .i64 x.mag, .slice ta x.texts.length tc] 66)) rfl) (by intro u hu; simp at hu; rcases hu with h|h <;> subst h <;> rfl) (by unfold maxLen; omega) (by omega) (by simp; omega) ?_); intro v' w3 hown' hgrow hnil hat; have HOW := Lib.hid hown'; have HG := Lib.hid hgrow; have HA := Lib.hid hat; clear hown' hgrow hat hnil)
        go_roundg k
        case measure => omega
        case rel =>
          refine ⟨acc ++ [x], st2, by go_num, by rw [List.length_append]; simp only [List.length_cons, List.length_nil]; omega, HQ2, Lib.hid ?_, Lib.hid ?_, Lib.hid ?_⟩
          · exact OwnOf.push (W := w2.alloc (.cells #[.int .i64 x.mag, .slice ta x.texts.length tc] 66)) RwR.stable HL.out (fun i h h' => ⟨(HC.out i h h').1, RwR.stable.same _ _ _ _ _ (Same.below ((Below.refl _ _).alloc (Nat.le_refl _) _)) (HC.out i h h').2⟩) rfl ⟨_, rfl, HT.out.same (Same.below ((Below.refl _ _).alloc (Nat.le_refl _) _))⟩ HOW.out HG.out HA.out
          · exact (HR2.out.kept ((Kept.refl w2 (fun _ => False)).alloc _) id).kept (grown_kept HG.out) (fun e => by have := (HW.out.lt g e.symm).1; omega)
          · exact (HK2.out.trans ((Kept.refl w2 (fun _ => False)).alloc _) (fun _ _ h => h.elim)).trans (grown_kept HG.out) (fun k hk e => by have := (HW.out.lt k e.symm).1; omega)
    · obtain rfl : gk = 0 := by omega
      rw [rdList_zero, List.append_nil] at HQ
      go_wp2
      go_ret
      exact ⟨_, rfl, Lib.hid (by rw [HQ.out]; exact rws_of HO.out), Lib.hid (by rw [HQ.out]; exact HR1.out), HK1⟩

set_option maxRecDepth 100000 in
set_option maxHeartbeats 800000 in
theorem readRows_any (g : Nat) (s : ByteArray) (st : Option Nat) (w : World) (hR : IsRd w g s st) (hs : s.size ≤ 140737488355328) (hg : g < w.heap.size) :
    Calls Try.prog 39 #[.pointer (some ⟨g, 0, none⟩)] w (ListPost Rws g s (rdRws s.data.toList st) w) := by
  have HR := Lib.hid hR
  clear hR
  go_enter Try.func39, Try.ntmps39
  go_wp2_with fail
  refine (listRw_any g w.heap.size s st _ (HR.out.kept ((Kept.refl w (fun _ => False)).alloc _) id) hs (heap_alloc_new w _) (by omega) (by simp; omega)).mono ?_
  rintro e w1 ⟨v, rfl, hT, hR1, hK1⟩
  go_wp2
  go_ret
  exact ⟨v, rfl, Lib.hid (hT.out.mono (fun b _ h => by simp at h; omega)), hR1, Lib.hid (((Kept.refl w (· = g)).alloc _).trans hK1.out (fun _ _ h => h))⟩

theorem Try.info76 : (Try.prog.info? 76).map (fun i => (i.zero, i.size, i.bytes)) = some (some (.agg #[.string ⟨#[]⟩, .slice none 0 0]), 2, 40) := by kernel_rfl
theorem uns_of {base : Nat} {W : World} {v : Value} {xs : List Un} (h : OwnOf 2 76 UnR base W v xs) : Uns (fun b => base ≤ b) W v xs := by
  refine h.slice fun g o x c hc hl hr => ?_
  obtain ⟨tv, rfl, ht⟩ := hr
  exact ⟨hc 0 (by omega), tv, hc 1 (by omega), ht.mono (fun b _ h => h.1)⟩

def OneUnPost (g : Nat) (s : ByteArray) (st : Option Nat) (w : World) (e : Ending) (w' : World) : Prop :=
  ∃ ta tc, e = .returned (.agg #[.string (rdUn s.data.toList st).1.name, .slice ta (rdUn s.data.toList st).1.texts.length tc]) ∧ Txs (fun b => w.heap.size ≤ b) w' (.slice ta (rdUn s.data.toList st).1.texts.length tc) (rdUn s.data.toList st).1.texts ∧
    IsRd w' g s (rdUn s.data.toList st).2 ∧ Kept w w' (· = g)

set_option maxRecDepth 100000 in
set_option maxHeartbeats 800000 in
theorem oneUn_any (g gb : Nat) (s : ByteArray) (st : Option Nat) (w : World) (hR : IsRd w g s st) (hs : s.size ≤ 140737488355328) (hb : w.heap[gb]? = some (.cells #[.pointer (some ⟨g, 0, none⟩)] 35 (0, 0))) (hbg : gb ≠ g) (hg : g < w.heap.size) :
    Calls Try.prog 44 #[.pointer (some ⟨gb, 0, none⟩)] w (OneUnPost g s st w) := by
  have HR := Lib.hid hR
  have hgb := lt_of_heap hb
  have HB := Lib.hid hb
  clear hR hb
  have HQ1 : Hid ((rdUn s.data.toList st).1.texts = (rdTxs s.data.toList (Rd.text s.data.toList st).2).1) := Lib.hid rfl
  have HQ2 : Hid ((rdUn s.data.toList st).2 = (rdTxs s.data.toList (Rd.text s.data.toList st).2).2) := Lib.hid rfl
  have HQ3 : Hid ((.string (rdUn s.data.toList st).1.name : Value) = .string ⟨(Rd.text s.data.toList st).1.toArray⟩) := Lib.hid rfl
  go_enter Try.func44, Try.ntmps44
  go_wp2_with fail
  obtain ⟨gx, hgx⟩ : ∃ x, x = w.heap.size := ⟨_, rfl⟩
  obtain ⟨W0, hW0⟩ : ∃ W0, w.alloc (.cells #[.string ⟨#[]⟩, .slice none 0 0] 76) = W0 := ⟨_, rfl⟩
  have HK0 : Hid (Kept w W0 (· = g)) := by rw [← hW0]; exact Lib.hid ((Kept.refl _ _).alloc _)
  have HK0d : Hid (Kept w W0 (fun _ => False)) := by rw [← hW0]; exact Lib.hid ((Kept.refl _ _).alloc _)
  have HR0 : Hid (IsRd W0.drew g s st) := Lib.hid (HR.out.kept (S := fun _ => False) HK0d.out.drew id)
  have HX0 : Hid (W0.heap[gx]? = some (.cells #[.string ⟨#[]⟩, .slice none 0 0] 76 (0, 0))) := by subst hgx hW0; exact Lib.hid (heap_alloc_new w _)
  have HB0 : Hid (W0.heap[gb]? = some (.cells #[.pointer (some ⟨g, 0, none⟩)] 35 (0, 0))) := Lib.hid (HK0d.out.heap HB.out id)
  have hS0 : W0.drew.cell? ⟨gb, 0, none⟩ = some (.pointer (some ⟨g, 0, none⟩)) := cell_of (W := W0.drew) HB0.out rfl
  have hxb : ¬ gx = gb := by omega
  have hxg : ¬ gx = g := by omega
  have hgx0 : gx < W0.drew.heap.size := lt_of_heap HX0.out
  have hg0 : g < W0.drew.heap.size := Nat.lt_of_lt_of_le hg HK0.out.size
  rw [← hgx, hW0]
  have HGX := Lib.hid hgx
  clear hW0 hgx
  go_region_held3 (fun w' => w'.cell? ⟨gb, 0, none⟩ = some (.pointer (some ⟨g, 0, none⟩)))
    (first | assumption | go_keep)
    (first
      | (go_at_call 17; ((with_reducible refine (rText_any g s st _ HR0.out hs).mono ?_); rintro e w2 ⟨rfl, hRx, hKx⟩; have HR2 := Lib.hid hRx; have HK2 := Lib.hid hKx; clear hRx hKx; have hS2 := (kept_cell HK2.out (lt_of_cell hS0) hbg (o := 0)).trans hS0))
      | (go_at_call 42; ((with_reducible refine (readTexts_any g s _ _ HR2.out hs (Nat.lt_of_lt_of_le hg0 HK2.out.size)).mono ?_); rintro e w3 ⟨tv, rfl, hT, hRx, hKx⟩; have HK3 := Lib.hid (HK2.out.trans hKx.out (fun _ _ h => h)); clear hKx; have hS3 := (kept_cell HK3.out (lt_of_cell hS0) hbg (o := 0)).trans hS0; obtain ⟨hx0, hx1, hf0, hf1⟩ := two_cells (HK3.out.heap (w := W0.drew) HX0.out hxg); obtain ⟨ta, tc, rfl⟩ := hT.out.len)))
  go_wp2
  have hgx2 : gx < w2.heap.size := Nat.lt_of_lt_of_le hgx0 HK2.out.size
  have hgw : w.heap.size ≤ w2.heap.size := by have := HGX.out; omega
  have HKE := Lib.hid (kept_set2 w3 gx (.string ⟨(Rd.text s.data.toList st).1.toArray⟩) (.slice ta (rdTxs s.data.toList (Rd.text s.data.toList st).2).1.length tc))
  refine bodyPost_ret (v := .agg #[.string ⟨(Rd.text s.data.toList st).1.toArray⟩, .slice ta (rdTxs s.data.toList (Rd.text s.data.toList st).2).1.length tc]) (by simp [results, Try.results44, go_sem, hx0, hx1]) rfl ?_
  refine ⟨ta, tc, ?_, ?_, ?_, ?_⟩
  · rw [HQ1.out, HQ3.out]
  · rw [HQ1.out]
    exact (hT.out.same (Same.of_kept HKE.out (fun b hb e => by omega))).mono (fun b _ h => by omega)
  · rw [HQ2.out]
    exact hRx.out.kept HKE.out (fun h => hxg h.symm)
  · exact (HK0.out.drew.trans HK3.out (fun _ _ h => h)).trans HKE.out (fun k hk h => by have := HGX.out; omega)

set_option maxRecDepth 100000 in
set_option maxHeartbeats 800000 in
theorem listUn_any (g gb : Nat) (s : ByteArray) (st : Option Nat) (w : World) (hR : IsRd w g s st) (hs : s.size ≤ 140737488355328) (hb : w.heap[gb]? = some (.cells #[.pointer (some ⟨g, 0, none⟩)] 35 (0, 0))) (hbg : gb ≠ g) (hg : g < w.heap.size) :
    Calls Try.prog 43 #[.pointer (some ⟨g, 0, none⟩), .func (.func 44) #[] #[.pointer (some ⟨gb, 0, none⟩)]] w (ListPost Uns g s (rdUns s.data.toList st) w) := by
  obtain ⟨i0, hi, hz0, hz1, hz2⟩ := info_parts Try.info76
  have HR := Lib.hid hR
  have HB := Lib.hid hb
  clear hR hb
  go_enter Try.func43, Try.ntmps43
  go_wp2_with fail
  refine (rCount_any g s st 65536 _ HR.out hs).mono ?_
  rintro e w1 ⟨rfl, hR1, hK1⟩
  have HR1 := Lib.hid hR1
  have HK1 := Lib.hid hK1
  have hn0 := count_le s.data.toList st
  have HQ : Hid (rdUns s.data.toList st = rdList (rdUn s.data.toList) (Rd.count s.data.toList st 65536).1 (Rd.count s.data.toList st 65536).2) := Lib.hid rfl
  clear hR1 hK1
  generalize rdUns s.data.toList st = Q at *
  generalize (Rd.count s.data.toList st 65536).1 = n0 at *
  generalize (Rd.count s.data.toList st 65536).2 = st1 at *
  go_wp2
  go_loopg [5, 6] n0 (fun gk v u wr => ∃ (acc : List Un) (stc : Option Nat), u = .int .i64 gk ∧ acc.length + gk ≤ 65536 ∧ Hid (Q = (acc ++ (rdList (rdUn s.data.toList) gk stc).1, (rdList (rdUn s.data.toList) gk stc).2)) ∧
    Hid (OwnOf 2 76 UnR w.heap.size wr v acc) ∧ Hid (IsRd wr g s stc) ∧ Hid (Kept w wr (· = g)))
  case atStart => exact ⟨[], st1, rfl, by simp; omega, HQ, Lib.hid OwnOf.nil, HR1, HK1⟩
  case round =>
    clear HQ HR1 HK1
    obtain ⟨acc, stc, rfl, hle, HQ, HO, HR1, HK1⟩ := hrel
    by_cases hj : 0 < gk
    · obtain ⟨k, rfl⟩ : ∃ k, gk = k + 1 := ⟨gk - 1, by omega⟩
      cases stc with
      | none =>
        go_wp2_with fail
        refine (rOK_any g s none _ HR1.out).mono ?_
        rintro e w2 ⟨rfl, rfl⟩
        rw [show (none : Option Nat).isSome = false by rfl]
        rw [rdList_none, List.append_nil] at HQ
        go_wp2
        go_ret
        exact ⟨_, rfl, Lib.hid (by rw [HQ.out]; exact uns_of HO.out), Lib.hid (by rw [HQ.out]; exact HR1.out), HK1⟩
      | some a =>
        go_wp2_with fail
        refine (rOK_any g s (some a) _ HR1.out).mono ?_
        rintro e w2 ⟨rfl, rfl⟩
        rw [show (some a).isSome = true by rfl]
        go_wp2_with fail
        refine (oneUn_any g gb s (some a) _ HR1.out hs (HK1.out.heap HB.out hbg) hbg (Nat.lt_of_lt_of_le hg HK1.out.size)).mono ?_
        rintro e w2 ⟨ta, tc, rfl, hT2, hR2, hK2⟩
        have hbs : w.heap.size ≤ w2.heap.size := Nat.le_trans HK1.out.size hK2.size
        have hT3 := hT2.mono (P' := fun b => w.heap.size ≤ b ∧ some b ≠ u5.ownBlock) (fun b _ h => ⟨Nat.le_trans HK1.out.size h, fun e => by have h2 := HO.out.lt b e.symm; omega⟩)
        have HO2 := Lib.hid (HO.out.kept UnR.stable hK2 (fun b hb e => by omega))
        have HR2 := Lib.hid hR2
        have HK2 := Lib.hid (HK1.out.trans hK2 (fun _ _ h => h))
        have HQ2 : Hid (Q = (acc ++ [(rdUn s.data.toList (some a)).1] ++ (rdList (rdUn s.data.toList) k (rdUn s.data.toList (some a)).2).1, (rdList (rdUn s.data.toList) k (rdUn s.data.toList (some a)).2).2)) :=
          Lib.hid (HQ.out.trans (by rw [List.append_assoc]; rfl))
        clear hR2 hK2 HO HQ HR1 HK1 hT2
        generalize (rdUn s.data.toList (some a)).2 = st2 at *
        generalize (rdUn s.data.toList (some a)).1 = x at *
        obtain ⟨cs, hl, hown, hc⟩ := HO2.out
        have HC := Lib.hid hc
        have HW := Lib.hid hown
        have HL := Lib.hid hl
        clear hc hown hl HO2
        have HT := Lib.hid hT3
        clear hT3
        go_wp2_with (at_builtin; (refine wpList_append_own_at _ rfl _ _ 50 rfl w.heap.size 76 i0 (.agg #[.string ⟨#[]⟩, .slice none 0 0]) 2 40 Try.underlying50 hi hz0 hz1 hz2 rfl (by omega) _ _ _ rfl (HW.out.alloc _) ⟨w2.heap.size, 0, none⟩ 1 1 [.string x.name, .slice ta x.texts.length tc] rfl rfl (cells_news (heap_alloc_new w2 (.cells #[.string x.name, .slice ta x.texts.length tc] 76)) rfl) (by intro u hu; simp at hu; rcases hu with h|h <;> subst h <;> rfl) (by unfold maxLen; omega) (by omega) (by simp; omega) ?_); intro v' w3 hown' hgrow hnil hat; have HOW := Lib.hid hown'; have HG := Lib.hid hgrow; have HA := Lib.hid hat; clear hown' hgrow hat hnil)
        go_roundg k
        case measure => omega
        case rel =>
          refine ⟨acc ++ [x], st2, by go_num, by rw [List.length_append]; simp only [List.length_cons, List.length_nil]; omega, HQ2, Lib.hid ?_, Lib.hid ?_, Lib.hid ?_⟩
          · exact OwnOf.push (W := w2.alloc (.cells #[.string x.name, .slice ta x.texts.length tc] 76)) UnR.stable HL.out (fun i h h' => ⟨(HC.out i h h').1, UnR.stable.same _ _ _ _ _ (Same.below ((Below.refl _ _).alloc (Nat.le_refl _) _)) (HC.out i h h').2⟩) rfl ⟨_, rfl, HT.out.same (Same.below ((Below.refl _ _).alloc (Nat.le_refl _) _))⟩ HOW.out HG.out HA.out
          · exact (HR2.out.kept ((Kept.refl w2 (fun _ => False)).alloc _) id).kept (grown_kept HG.out) (fun e => by have := (HW.out.lt g e.symm).1; omega)
          · exact (HK2.out.trans ((Kept.refl w2 (fun _ => False)).alloc _) (fun _ _ h => h.elim)).trans (grown_kept HG.out) (fun k hk e => by have := (HW.out.lt k e.symm).1; omega)
    · obtain rfl : gk = 0 := by omega
      rw [rdList_zero, List.append_nil] at HQ
      go_wp2
      go_ret
      exact ⟨_, rfl, Lib.hid (by rw [HQ.out]; exact uns_of HO.out), Lib.hid (by rw [HQ.out]; exact HR1.out), HK1⟩
end Go.Proofs.Ytikkakbemphdhaa
