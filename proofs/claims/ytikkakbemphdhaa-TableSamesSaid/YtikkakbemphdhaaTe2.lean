/- The walk of Decode, of a text that is not too long. -/
import Derived.Test.YtikkakbemphdhaaTe1
set_option linter.unusedSimpArgs false
set_option linter.unusedVariables false
namespace Go.Proofs.Ytikkakbemphdhaa
open Go.RowKit Go.Fl

theorem heapA (w : World) (o : Obj) {g : Nat} {x : Obj} (h : w.heap[g]? = some x) : (w.alloc o).heap[g]? = some x := (Below.heap_alloc w o g (lt_of_heap h)).trans h

theorem heapC {W W' : World} {g : Nat} {o : Obj} (hb : Below W.heap.size W W') (h : W.heap[g]? = some o) : W'.heap[g]? = some o := (hb.block _ (lt_of_heap h)).trans h
def w3D (w : World) (s : ByteArray) : World := (w.alloc (.cells zTb 55)).alloc (.cells #[.string s, .int .i64 (0 : Nat), .bool false] 70)
def w4D (w : World) (s : ByteArray) : World := ((w3D w s).alloc (.cells #[.pointer (some ⟨w.heap.size + 1, 0, none⟩)] 35)).alloc (.cells zTb 55)
theorem dec_start {w wA : World} {s : ByteArray} (hb : Below (w4D w s).heap.size (w4D w s) wA) :
    IsTb wA w.heap.size (fun _ => noB) 0 nilV nilV nilV nilV nilV nilV ∧ IsRd wA (w.heap.size + 1) s (some 0) ∧ wA.heap[w.heap.size + 1 + 1]? = some (.cells #[.pointer (some ⟨w.heap.size + 1, 0, none⟩)] 35 (0, 0)) ∧
    IsTb wA (w.heap.size + 1 + 1 + 1) (fun _ => noB) 0 nilV nilV nilV nilV nilV nilV ∧ w.heap.size + 4 ≤ wA.heap.size ∧ Below w.heap.size w wA ∧ (w4D w s).heap.size = w.heap.size + 4 := by
  have s1 : (w.alloc (.cells zTb 55)).heap.size = w.heap.size + 1 := by simp
  have s2 : (w3D w s).heap.size = w.heap.size + 1 + 1 := by unfold w3D; simp
  have s3 : ((w3D w s).alloc (.cells #[.pointer (some ⟨w.heap.size + 1, 0, none⟩)] 35)).heap.size = w.heap.size + 1 + 1 + 1 := by rw [← s2]; simp
  have s4 : (w4D w s).heap.size = w.heap.size + 4 := by unfold w4D; simp [s2]
  have h1 : (w4D w s).heap[w.heap.size]? = some (.cells zTb 55 (0, 0)) := heapA _ _ (heapA _ _ (heapA _ _ (heap_alloc_new w _)))
  have h2 : (w4D w s).heap[w.heap.size + 1]? = some (.cells #[.string s, .int .i64 (0 : Nat), .bool false] 70 (0, 0)) := by
    refine heapA _ _ (heapA _ _ ?_)
    rw [← s1]
    exact heap_alloc_new _ _
  have h3 : (w4D w s).heap[w.heap.size + 1 + 1]? = some (.cells #[.pointer (some ⟨w.heap.size + 1, 0, none⟩)] 35 (0, 0)) := by
    refine heapA _ _ ?_
    rw [← s2]
    exact heap_alloc_new _ _
  have h4 : (w4D w s).heap[w.heap.size + 1 + 1 + 1]? = some (.cells zTb 55 (0, 0)) := by
    rw [← s3]
    exact heap_alloc_new _ _
  have hsz := hb.size
  refine ⟨heapC hb h1, ⟨Nat.zero_le _, heapC hb h2⟩, heapC hb h3, heapC hb h4, by omega, ?_, s4⟩
  have b1 : Below w.heap.size w (w4D w s) := (((((Below.refl _ _).alloc (Nat.le_refl _) _).alloc (by omega) _).alloc (by simp; omega) _).alloc (by simp; omega) _)
  exact b1.trans (hb.mono (by omega))

set_option maxRecDepth 100000 in
set_option maxHeartbeats 1600000 in
theorem decode_short (s : ByteArray) (w : World) (hl : s.size ≤ 65536) : Calls Try.prog 27 #[.string s] w (DecPost s w) := by
  have hs : s.size ≤ 140737488355328 := by omega
  go_enter Try.func27, Try.ntmps27
  go_wp2_with fail
  refine (rNew_any s _).mono ?_
  rintro e w1 ⟨rfl, rfl⟩
  go_wp2_with fail
  refine (texts27_any _ _).mono ?_
  rintro e wA ⟨rp, cp, rfl, hrp, hrp2, HC, hb⟩
  have hrp' : w.heap.size + 4 ≤ rp := by first | (simp at hrp; omega) | omega
  have hst := dec_start (w := w) (wA := wA) (s := s) hb
  obtain ⟨gR, hgR⟩ : ∃ g, w.heap.size = g := ⟨_, rfl⟩
  obtain ⟨gr, hgr⟩ : ∃ g, w.heap.size + 1 = g := ⟨_, rfl⟩
  obtain ⟨gb, hgb⟩ : ∃ g, w.heap.size + 1 + 1 = g := ⟨_, rfl⟩
  obtain ⟨gT, hgT⟩ : ∃ g, w.heap.size + 1 + 1 + 1 = g := ⟨_, rfl⟩
  rw [hgT] at HC hst ⊢
  rw [hgb] at hst ⊢
  rw [hgr] at hst ⊢
  have hord : gR < gr ∧ gr < gb ∧ gb < gT ∧ gT < rp := by omega
  have HB0 : Hid (Below w.heap.size w wA) := Lib.hid hst.2.2.2.2.2.1
  have HgR := Lib.hid hgR
  rw [hgR] at hst
  obtain ⟨o1, o2, o3, o4⟩ := hord
  obtain ⟨hT1, hR0, hB0, hT0, hsz, _, _⟩ := hst
  have HZ : Hid (IsTb wA gR (fun _ => noB) 0 nilV nilV nilV nilV nilV nilV) := Lib.hid hT1
  have HR0 := Lib.hid hR0
  have HBx := Lib.hid hB0
  have HT0 : Hid (IsTb wA gT (upTo (rdS s.data.toList (some 0)) 0) 0 nilV nilV nilV nilV nilV nilV) := Lib.hid hT0
  clear hT1 hR0 hB0 hT0 hb hrp hrp' hgr hgb hgT
  rw [hgR]
  clear hgR
  go_wp2
  go_loopg [16] 27 (fun gk v wr => ∃ (j : Nat), v = .int .i64 j ∧ j + gk = 27 ∧ Hid (IsTb wr gT (upTo (rdS s.data.toList (some 0)) j) 0 nilV nilV nilV nilV nilV nilV) ∧ Hid (IsRd wr gr s (stS s.data.toList (some 0) j)) ∧ Hid (Kept wA wr (fun k => k = gr ∨ k = gT)))
  case atStart => exact ⟨0, rfl, by omega, HT0, HR0, Lib.hid (Kept.refl _ _)⟩
  case round =>
    obtain ⟨j, rfl, hj, HT, HR, HK⟩ := hrel
    by_cases hjl : j < 27
    · have hc0 := (kept_cell HK.out hrp2 (fun e => e.elim (fun e => by omega) (fun e => by omega)) (o := j)).trans (HC.out j hjl)
      have hb0 : wr.cell? ⟨gb, 0, none⟩ = some (.pointer (some ⟨gr, 0, none⟩)) := cell_of (HK.out.heap HBx.out (fun e => e.elim (fun e => by omega) (fun e => by omega))) rfl
      go_wp2_with fail
      refine (rText_any gr s _ _ HR.out hs).mono ?_
      rintro e w2 ⟨rfl, hR2, hK2⟩
      have hT2 : IsTb w2 gT (upTo (rdS s.data.toList (some 0)) j) 0 nilV nilV nilV nilV nilV nilV := hK2.heap HT.out (by omega)
      obtain ⟨hcx, hfx⟩ := hT2.at (pl j) _ (tbC_pl _ _ _ _ _ _ _ _ j hjl)
      have HT2 := Lib.hid hT2
      have HR2 := Lib.hid hR2
      have HK2 := Lib.hid hK2
      clear hT2 hR2 hK2 hc0 hb0
      go_wp2
      go_roundg (gk - 1)
      case measure => omega
      case rel => exact ⟨j + 1, rfl, by omega, Lib.hid (by
          have h := heap_set_same HT2.out (pl j) (.string (rdS s.data.toList (some 0) j))
          rw [tbC_set _ _ _ _ _ _ _ _ j hjl, upTo_succ] at h
          exact h), Lib.hid (HR2.out.kept ((Kept.refl _ (· = gT)).setCell (p := ⟨gT, pl j, none⟩) (fun _ => rfl) _) (by omega)),
          Lib.hid ((HK.out.trans HK2.out (fun _ _ h => Or.inl h)).setCell (p := ⟨gT, pl j, none⟩) (fun _ => Or.inr rfl) _)⟩
    · obtain rfl : j = 27 := by omega
      clear hj hjl
      have HT' : Hid (IsTb wr gT (rdS s.data.toList (some 0)) 0 nilV nilV nilV nilV nilV nilV) := HT
      have hsA : gT < wA.heap.size := by omega
      obtain ⟨F, hF⟩ : ∃ F, rdS s.data.toList (some 0) = F := ⟨_, rfl⟩
      obtain ⟨st0, hst0⟩ : ∃ x, stS s.data.toList (some 0) 27 = x := ⟨_, rfl⟩
      have HF := Lib.hid hF
      have HS0 := Lib.hid hst0
      rw [hF] at HT'
      rw [hst0] at HR
      clear HT hF hst0
      have hb0 : wr.cell? ⟨gb, 0, none⟩ = some (.pointer (some ⟨gr, 0, none⟩)) := cell_of (HK.out.heap HBx.out (fun e => e.elim (fun e => by omega) (fun e => by omega))) rfl
      go_wp2_with fail
      refine (rNum_any gr s _ _ HR.out hs).mono ?_
      rintro e w2 ⟨rfl, hR2, hK2⟩
      obtain ⟨G, hG⟩ : ∃ G, Rd.num s.data.toList st0 = G := ⟨_, rfl⟩
      have HG := Lib.hid hG
      rw [hG] at hR2 ⊢
      clear hG
      have hT2 : IsTb w2 gT F 0 nilV nilV nilV nilV nilV nilV := hK2.heap HT'.out (by omega)
      obtain ⟨hcx, hfx⟩ := hT2.at 16 _ rfl
      go_upto_region 11 with fail
      obtain ⟨W1, hW1⟩ : ∃ W, w2.setCell ⟨gT, 16, none⟩ (.int .i64 G.1) = W := ⟨_, rfl⟩
      have HT1 : Hid (IsTb W1 gT F G.1 nilV nilV nilV nilV nilV nilV) := by rw [← hW1]; exact Lib.hid (heap_set_same hT2 16 _)
      have HR1 : Hid (IsRd W1.drew gr s G.2) := by rw [← hW1]; exact Lib.hid (hR2.kept ((Kept.refl w2 (· = gT)).setCell (p := ⟨gT, 16, none⟩) (fun _ => rfl) _).drew (by omega))
      have HK1 : Hid (Kept wA W1.drew (fun k => k = gr ∨ k = gT)) := by rw [← hW1]; exact Lib.hid (((HK.out.trans hK2 (fun _ _ h => Or.inl h)).setCell (p := ⟨gT, 16, none⟩) (fun _ => Or.inr rfl) _).drew)
      rw [hW1]
      clear hW1 hcx hfx hT2 hR2 hK2 hb0 HK HR HT'
      have hS1 : W1.drew.cell? ⟨gb, 0, none⟩ = some (.pointer (some ⟨gr, 0, none⟩)) := cell_of (W := W1.drew) (HK1.out.heap HBx.out (fun e => e.elim (fun e => by omega) (fun e => by omega))) rfl
      have hgr1 : gr < W1.drew.heap.size := Nat.lt_of_lt_of_le (by omega) HK1.out.size
      have hgbr : gb ≠ gr := by omega
      have hTb : ¬ gT = gb := by omega
      obtain ⟨A1, hA1⟩ : ∃ x, x = rdRws s.data.toList G.2 := ⟨_, rfl⟩
      have cR0 : ∀ W, IsRd W gr s G.2 → gr < W.heap.size → Calls Try.prog 39 #[.pointer (some ⟨gr, 0, none⟩)] W (ListPost Rws gr s A1 W) := fun W h h2 => by rw [hA1]; exact readRows_any gr s _ W h hs h2
      have CR0 := Lib.hid cR0
      have HA1 := Lib.hid hA1
      clear cR0 hA1
      obtain ⟨A2, hA2⟩ : ∃ x, x = rdRws s.data.toList A1.2 := ⟨_, rfl⟩
      have cR1 : ∀ W, IsRd W gr s A1.2 → gr < W.heap.size → Calls Try.prog 39 #[.pointer (some ⟨gr, 0, none⟩)] W (ListPost Rws gr s A2 W) := fun W h h2 => by rw [hA2]; exact readRows_any gr s _ W h hs h2
      have CR1 := Lib.hid cR1
      have HA2 := Lib.hid hA2
      clear cR1 hA2
      obtain ⟨A3, hA3⟩ : ∃ x, x = rdRws s.data.toList A2.2 := ⟨_, rfl⟩
      have cR2 : ∀ W, IsRd W gr s A2.2 → gr < W.heap.size → Calls Try.prog 39 #[.pointer (some ⟨gr, 0, none⟩)] W (ListPost Rws gr s A3 W) := fun W h h2 => by rw [hA3]; exact readRows_any gr s _ W h hs h2
      have CR2 := Lib.hid cR2
      have HA3 := Lib.hid hA3
      clear cR2 hA3
      have hTr : ¬ gT = gr := by omega
      go_region_held3 (fun w' => w'.cell? ⟨gb, 0, none⟩ = some (.pointer (some ⟨gr, 0, none⟩)))
        (first | with_reducible assumption | go_keep)
        (first
          | (go_at_call 39; ((with_reducible refine (CR0.out _ HR1.out hgr1).mono ?_); rintro e wa1 ⟨tv1, rfl, hTa1, HRa1, hKx⟩; have HKa1 := Lib.hid hKx.out; clear hKx; have hgs1 : gr < wa1.heap.size := Nat.lt_of_lt_of_le hgr1 HKa1.out.size; have hSa1 := (kept_cell HKa1.out (lt_of_cell hS1) hgbr (o := 0)).trans hS1; obtain ⟨ta1, tc1, rfl⟩ := hTa1.out.len))
          | (go_at_call 39; ((with_reducible refine (CR1.out _ HRa1.out hgs1).mono ?_); rintro e wa2 ⟨tv2, rfl, hTa2, HRa2, hKx⟩; have HKa2 := Lib.hid (HKa1.out.trans hKx.out (fun _ _ h => h)); have HKb2 := Lib.hid hKx.out; clear hKx; have hgs2 : gr < wa2.heap.size := Nat.lt_of_lt_of_le hgr1 HKa2.out.size; have hSa2 := (kept_cell HKa2.out (lt_of_cell hS1) hgbr (o := 0)).trans hS1; obtain ⟨ta2, tc2, rfl⟩ := hTa2.out.len))
          | (go_at_call 39; ((with_reducible refine (CR2.out _ HRa2.out hgs2).mono ?_); rintro e wa3 ⟨tv3, rfl, hTa3, HRa3, hKx⟩; have HKa3 := Lib.hid (HKa2.out.trans hKx.out (fun _ _ h => h)); have HKb3 := Lib.hid hKx.out; clear hKx; have hgs3 : gr < wa3.heap.size := Nat.lt_of_lt_of_le hgr1 HKa3.out.size; have hSa3 := (kept_cell HKa3.out (lt_of_cell hS1) hgbr (o := 0)).trans hS1; obtain ⟨ta3, tc3, rfl⟩ := hTa3.out.len; have HTa3 : Hid (IsTb wa3 gT F G.1 nilV nilV nilV nilV nilV nilV) := Lib.hid (HKa3.out.heap (w := W1.drew) HT1.out hTr); obtain ⟨q22, f22⟩ := HTa3.out.at 22 _ rfl; obtain ⟨q23, f23⟩ := HTa3.out.at 23 _ rfl; obtain ⟨q24, f24⟩ := HTa3.out.at 24 _ rfl)))
      go_upto_region 12 with fail
      obtain ⟨W2, hW2⟩ : ∃ W, ((wa3.setCell ⟨gT, 22, none⟩ (.slice ta1 A1.1.length tc1)).setCell ⟨gT, 23, none⟩ (.slice ta2 A2.1.length tc2)).setCell ⟨gT, 24, none⟩ (.slice ta3 A3.1.length tc3) = W := ⟨_, rfl⟩
      have HKS2 : Hid (Kept wa3 W2 (· = gT)) := by rw [← hW2]; exact Lib.hid (setCells_kept [(.slice ta1 A1.1.length tc1), (.slice ta2 A2.1.length tc2), (.slice ta3 A3.1.length tc3)] 22 wa3 gT)
      have HT2 : Hid (IsTb W2 gT F G.1 (.slice ta1 A1.1.length tc1) (.slice ta2 A2.1.length tc2) (.slice ta3 A3.1.length tc3) nilV nilV nilV) := by
        rw [← hW2]
        have h1 : ((wa3.setCell ⟨gT, 22, none⟩ (.slice ta1 A1.1.length tc1))).heap[gT]? = some (.cells (tbC F G.1 (.slice ta1 A1.1.length tc1) nilV nilV nilV nilV nilV) 55 (0, 0)) := (heap_set_same HTa3.out 22 _).trans rfl
        have h2 : ((wa3.setCell ⟨gT, 22, none⟩ (.slice ta1 A1.1.length tc1)).setCell ⟨gT, 23, none⟩ (.slice ta2 A2.1.length tc2)).heap[gT]? = some (.cells (tbC F G.1 (.slice ta1 A1.1.length tc1) (.slice ta2 A2.1.length tc2) nilV nilV nilV nilV) 55 (0, 0)) := (heap_set_same h1 23 _).trans rfl
        exact Lib.hid ((heap_set_same h2 24 _).trans rfl)
      rw [hW2]
      have HR2 : Hid (IsRd W2 gr s A3.2) := Lib.hid (HRa3.out.kept HKS2.out (by omega))
      have HK2 : Hid (Kept wA W2 (fun k => k = gr ∨ k = gT)) := Lib.hid ((HK1.out.trans HKa3.out (fun _ _ h => Or.inl h)).trans HKS2.out (fun _ _ h => Or.inr h))
      have hzA : wA.heap.size ≤ W1.drew.heap.size := HK1.out.size
      have hz1 : W1.drew.heap.size ≤ wa1.heap.size := HKa1.out.size
      have hz2 : wa1.heap.size ≤ wa2.heap.size := HKb2.out.size
      have HV1 : Hid (Rws (fun b => wA.heap.size ≤ b) W2 (.slice ta1 A1.1.length tc1) A1.1) := Lib.hid ((((hTa1.out.same (Same.of_kept HKb2.out (fun b hb e => by omega))).same (Same.of_kept HKb3.out (fun b hb e => by omega))).same (Same.of_kept HKS2.out (fun b hb e => by omega))).mono (fun b _ h => by omega))
      have HV2 : Hid (Rws (fun b => wA.heap.size ≤ b) W2 (.slice ta2 A2.1.length tc2) A2.1) := Lib.hid (((hTa2.out.same (Same.of_kept HKb3.out (fun b hb e => by omega))).same (Same.of_kept HKS2.out (fun b hb e => by omega))).mono (fun b _ h => by omega))
      have HV3 : Hid (Rws (fun b => wA.heap.size ≤ b) W2 (.slice ta3 A3.1.length tc3) A3.1) := Lib.hid ((hTa3.out.same (Same.of_kept HKS2.out (fun b hb e => by omega))).mono (fun b _ h => by omega))
      clear hW2 HKS2 q22 q23 q24 f22 f23 f24 hSa1 hSa2 hSa3 HKa1 HKa2 HKa3 HKb2 HKb3 hTa1 hTa2 hTa3 HRa1 HRa2 HRa3 HTa3 hS1 HK1 HR1 HT1 hgr1 hgs1 hgs2 hgs3 hzA hz1 hz2 CR0 CR1 CR2
      have hb0 : W2.cell? ⟨gb, 0, none⟩ = some (.pointer (some ⟨gr, 0, none⟩)) := cell_of (HK2.out.heap HBx.out (fun e => e.elim (fun e => by omega) (fun e => by omega))) rfl
      have hgw : gr < W2.heap.size := Nat.lt_of_lt_of_le (by omega) HK2.out.size
      go_wp2_with fail
      refine (listCu_any gr gb s _ _ HR2.out hs (HK2.out.heap HBx.out (fun e => e.elim (fun e => by omega) (fun e => by omega))) hgbr hgw).mono ?_
      rintro e wb ⟨tv, rfl, hTv, hRv, hKv⟩
      obtain ⟨B1, hB1⟩ : ∃ x, rdCus s.data.toList A3.2 = x := ⟨_, rfl⟩
      have HB1 := Lib.hid hB1
      rw [hB1] at hTv hRv
      clear hB1
      obtain ⟨tq0, td0, rfl⟩ := hTv.out.len
      have hTb2 : IsTb wb gT F G.1 (.slice ta1 A1.1.length tc1) (.slice ta2 A2.1.length tc2) (.slice ta3 A3.1.length tc3) nilV nilV nilV := hKv.out.heap HT2.out hTr
      obtain ⟨hcx, hfx⟩ := hTb2.at 25 _ rfl
      go_upto_region 13 with fail
      obtain ⟨W3, hWb⟩ : ∃ W, wb.setCell ⟨gT, 25, none⟩ (.slice tq0 B1.1.length td0) = W := ⟨_, rfl⟩
      have HKS : Hid (Kept wb W3 (· = gT)) := by rw [← hWb]; exact Lib.hid ((Kept.refl wb (· = gT)).setCell (p := ⟨gT, 25, none⟩) (fun _ => rfl) _)
      have HT3 : Hid (IsTb W3 gT F G.1 (.slice ta1 A1.1.length tc1) (.slice ta2 A2.1.length tc2) (.slice ta3 A3.1.length tc3) (.slice tq0 B1.1.length td0) nilV nilV) := by rw [← hWb]; exact Lib.hid ((heap_set_same hTb2 25 _).trans rfl)
      have HR3 : Hid (IsRd W3 gr s B1.2) := Lib.hid (hRv.out.kept HKS.out (by omega))
      have HKw : Hid (Kept W2 W3 (fun k => k = gr ∨ k = gT)) := Lib.hid ((hKv.out.mono (fun _ _ h => Or.inl h)).trans HKS.out (fun _ _ h => Or.inr h))
      have HK3 : Hid (Kept wA W3 (fun k => k = gr ∨ k = gT)) := Lib.hid (HK2.out.trans HKw.out (fun _ _ h => h))
      have hzA : wA.heap.size ≤ W2.heap.size := HK2.out.size
      have HX1 : Hid (Rws (fun b => wA.heap.size ≤ b) W3 (.slice ta1 A1.1.length tc1) A1.1) := Lib.hid (HV1.out.same (Same.of_kept HKw.out (fun b hb e => by omega)))
      have HX2 : Hid (Rws (fun b => wA.heap.size ≤ b) W3 (.slice ta2 A2.1.length tc2) A2.1) := Lib.hid (HV2.out.same (Same.of_kept HKw.out (fun b hb e => by omega)))
      have HX3 : Hid (Rws (fun b => wA.heap.size ≤ b) W3 (.slice ta3 A3.1.length tc3) A3.1) := Lib.hid (HV3.out.same (Same.of_kept HKw.out (fun b hb e => by omega)))
      have HX4 : Hid (Cus (fun b => wA.heap.size ≤ b) W3 (.slice tq0 B1.1.length td0) B1.1) := Lib.hid ((hTv.out.same (Same.of_kept HKS.out (fun b hb e => by omega))).mono (fun b _ h => by omega))
      rw [hWb]
      clear hWb HKS HKw hzA hTv hRv hKv hTb2 hcx hfx hb0 hgw HR2 HT2 HK2 HV1 HV2 HV3
      have HV1 := HX1
      have HV2 := HX2
      have HV3 := HX3
      have HV4 := HX4
      clear HX1 HX2 HX3 HX4
      have hb0 : W3.cell? ⟨gb, 0, none⟩ = some (.pointer (some ⟨gr, 0, none⟩)) := cell_of (HK3.out.heap HBx.out (fun e => e.elim (fun e => by omega) (fun e => by omega))) rfl
      have hgw : gr < W3.heap.size := Nat.lt_of_lt_of_le (by omega) HK3.out.size
      go_wp2_with fail
      refine (listUn_any gr gb s _ _ HR3.out hs (HK3.out.heap HBx.out (fun e => e.elim (fun e => by omega) (fun e => by omega))) hgbr hgw).mono ?_
      rintro e wb ⟨tv, rfl, hTv, hRv, hKv⟩
      obtain ⟨B2, hB2⟩ : ∃ x, rdUns s.data.toList B1.2 = x := ⟨_, rfl⟩
      have HB2 := Lib.hid hB2
      rw [hB2] at hTv hRv
      clear hB2
      obtain ⟨tq1, td1, rfl⟩ := hTv.out.len
      have hTb2 : IsTb wb gT F G.1 (.slice ta1 A1.1.length tc1) (.slice ta2 A2.1.length tc2) (.slice ta3 A3.1.length tc3) (.slice tq0 B1.1.length td0) nilV nilV := hKv.out.heap HT3.out hTr
      obtain ⟨hcx, hfx⟩ := hTb2.at 26 _ rfl
      go_upto_region 14 with fail
      obtain ⟨W4, hWb⟩ : ∃ W, wb.setCell ⟨gT, 26, none⟩ (.slice tq1 B2.1.length td1) = W := ⟨_, rfl⟩
      have HKS : Hid (Kept wb W4 (· = gT)) := by rw [← hWb]; exact Lib.hid ((Kept.refl wb (· = gT)).setCell (p := ⟨gT, 26, none⟩) (fun _ => rfl) _)
      have HT4 : Hid (IsTb W4 gT F G.1 (.slice ta1 A1.1.length tc1) (.slice ta2 A2.1.length tc2) (.slice ta3 A3.1.length tc3) (.slice tq0 B1.1.length td0) (.slice tq1 B2.1.length td1) nilV) := by rw [← hWb]; exact Lib.hid ((heap_set_same hTb2 26 _).trans rfl)
      have HR4 : Hid (IsRd W4 gr s B2.2) := Lib.hid (hRv.out.kept HKS.out (by omega))
      have HKw : Hid (Kept W3 W4 (fun k => k = gr ∨ k = gT)) := Lib.hid ((hKv.out.mono (fun _ _ h => Or.inl h)).trans HKS.out (fun _ _ h => Or.inr h))
      have HK4 : Hid (Kept wA W4 (fun k => k = gr ∨ k = gT)) := Lib.hid (HK3.out.trans HKw.out (fun _ _ h => h))
      have hzA : wA.heap.size ≤ W3.heap.size := HK3.out.size
      have HX1 : Hid (Rws (fun b => wA.heap.size ≤ b) W4 (.slice ta1 A1.1.length tc1) A1.1) := Lib.hid (HV1.out.same (Same.of_kept HKw.out (fun b hb e => by omega)))
      have HX2 : Hid (Rws (fun b => wA.heap.size ≤ b) W4 (.slice ta2 A2.1.length tc2) A2.1) := Lib.hid (HV2.out.same (Same.of_kept HKw.out (fun b hb e => by omega)))
      have HX3 : Hid (Rws (fun b => wA.heap.size ≤ b) W4 (.slice ta3 A3.1.length tc3) A3.1) := Lib.hid (HV3.out.same (Same.of_kept HKw.out (fun b hb e => by omega)))
      have HX4 : Hid (Cus (fun b => wA.heap.size ≤ b) W4 (.slice tq0 B1.1.length td0) B1.1) := Lib.hid (HV4.out.same (Same.of_kept HKw.out (fun b hb e => by omega)))
      have HX5 : Hid (Uns (fun b => wA.heap.size ≤ b) W4 (.slice tq1 B2.1.length td1) B2.1) := Lib.hid ((hTv.out.same (Same.of_kept HKS.out (fun b hb e => by omega))).mono (fun b _ h => by omega))
      rw [hWb]
      clear hWb HKS HKw hzA hTv hRv hKv hTb2 hcx hfx hb0 hgw HR3 HT3 HK3 HV1 HV2 HV3 HV4
      have HV1 := HX1
      have HV2 := HX2
      have HV3 := HX3
      have HV4 := HX4
      have HV5 := HX5
      clear HX1 HX2 HX3 HX4 HX5
      have hb0 : W4.cell? ⟨gb, 0, none⟩ = some (.pointer (some ⟨gr, 0, none⟩)) := cell_of (HK4.out.heap HBx.out (fun e => e.elim (fun e => by omega) (fun e => by omega))) rfl
      have hgw : gr < W4.heap.size := Nat.lt_of_lt_of_le (by omega) HK4.out.size
      go_wp2_with fail
      refine (readTexts_any gr s _ _ HR4.out hs hgw).mono ?_
      rintro e wb ⟨tv, rfl, hTv, hRv, hKv⟩
      obtain ⟨B3, hB3⟩ : ∃ x, rdTxs s.data.toList B2.2 = x := ⟨_, rfl⟩
      have HB3 := Lib.hid hB3
      rw [hB3] at hTv hRv
      clear hB3
      obtain ⟨tq2, td2, rfl⟩ := hTv.out.len
      have hTb2 : IsTb wb gT F G.1 (.slice ta1 A1.1.length tc1) (.slice ta2 A2.1.length tc2) (.slice ta3 A3.1.length tc3) (.slice tq0 B1.1.length td0) (.slice tq1 B2.1.length td1) nilV := hKv.out.heap HT4.out hTr
      obtain ⟨hcx, hfx⟩ := hTb2.at 27 _ rfl
      go_upto_region 15 with fail
      obtain ⟨W5, hWb⟩ : ∃ W, wb.setCell ⟨gT, 27, none⟩ (.slice tq2 B3.1.length td2) = W := ⟨_, rfl⟩
      have HKS : Hid (Kept wb W5 (· = gT)) := by rw [← hWb]; exact Lib.hid ((Kept.refl wb (· = gT)).setCell (p := ⟨gT, 27, none⟩) (fun _ => rfl) _)
      have HT5 : Hid (IsTb W5 gT F G.1 (.slice ta1 A1.1.length tc1) (.slice ta2 A2.1.length tc2) (.slice ta3 A3.1.length tc3) (.slice tq0 B1.1.length td0) (.slice tq1 B2.1.length td1) (.slice tq2 B3.1.length td2)) := by rw [← hWb]; exact Lib.hid ((heap_set_same hTb2 27 _).trans rfl)
      have HR5 : Hid (IsRd W5 gr s B3.2) := Lib.hid (hRv.out.kept HKS.out (by omega))
      have HKw : Hid (Kept W4 W5 (fun k => k = gr ∨ k = gT)) := Lib.hid ((hKv.out.mono (fun _ _ h => Or.inl h)).trans HKS.out (fun _ _ h => Or.inr h))
      have HK5 : Hid (Kept wA W5 (fun k => k = gr ∨ k = gT)) := Lib.hid (HK4.out.trans HKw.out (fun _ _ h => h))
      have hzA : wA.heap.size ≤ W4.heap.size := HK4.out.size
      have HX1 : Hid (Rws (fun b => wA.heap.size ≤ b) W5 (.slice ta1 A1.1.length tc1) A1.1) := Lib.hid (HV1.out.same (Same.of_kept HKw.out (fun b hb e => by omega)))
      have HX2 : Hid (Rws (fun b => wA.heap.size ≤ b) W5 (.slice ta2 A2.1.length tc2) A2.1) := Lib.hid (HV2.out.same (Same.of_kept HKw.out (fun b hb e => by omega)))
      have HX3 : Hid (Rws (fun b => wA.heap.size ≤ b) W5 (.slice ta3 A3.1.length tc3) A3.1) := Lib.hid (HV3.out.same (Same.of_kept HKw.out (fun b hb e => by omega)))
      have HX4 : Hid (Cus (fun b => wA.heap.size ≤ b) W5 (.slice tq0 B1.1.length td0) B1.1) := Lib.hid (HV4.out.same (Same.of_kept HKw.out (fun b hb e => by omega)))
      have HX5 : Hid (Uns (fun b => wA.heap.size ≤ b) W5 (.slice tq1 B2.1.length td1) B2.1) := Lib.hid (HV5.out.same (Same.of_kept HKw.out (fun b hb e => by omega)))
      have HX6 : Hid (Txs (fun b => wA.heap.size ≤ b) W5 (.slice tq2 B3.1.length td2) B3.1) := Lib.hid ((hTv.out.same (Same.of_kept HKS.out (fun b hb e => by omega))).mono (fun b _ h => by omega))
      rw [hWb]
      clear hWb HKS HKw hzA hTv hRv hKv hTb2 hcx hfx hb0 hgw HR4 HT4 HK4 HV1 HV2 HV3 HV4 HV5
      have HV1 := HX1
      have HV2 := HX2
      have HV3 := HX3
      have HV4 := HX4
      have HV5 := HX5
      have HV6 := HX6
      clear HX1 HX2 HX3 HX4 HX5 HX6
      have hb0 : W5.cell? ⟨gb, 0, none⟩ = some (.pointer (some ⟨gr, 0, none⟩)) := cell_of (HK5.out.heap HBx.out (fun e => e.elim (fun e => by omega) (fun e => by omega))) rfl
      go_wp2_with fail
      refine (rDone_any gr s _ _ HR5.out).mono ?_
      rintro e wf ⟨rfl, hRf, hKf⟩
      have HTf : Hid (IsTb wf gT F G.1 (.slice ta1 A1.1.length tc1) (.slice ta2 A2.1.length tc2) (.slice ta3 A3.1.length tc3) (.slice tq0 B1.1.length td0) (.slice tq1 B2.1.length td1) (.slice tq2 B3.1.length td2)) := Lib.hid (hKf.heap HT5.out id)
      have HZf : Hid (IsTb wf gR (fun _ => noB) 0 nilV nilV nilV nilV nilV nilV) := Lib.hid (hKf.heap (HK5.out.heap HZ.out (fun e => e.elim (fun e => by omega) (fun e => by omega))) id)
      have HKf := Lib.hid (HK5.out.trans hKf (fun _ _ h => h.elim))
      have HBf : Hid (Below w.heap.size w wf) := Lib.hid (HB0.out.trans (HKf.out.below (Nat.le_trans (by have := HgR.out; omega) (Nat.le_refl _)) (fun k hk e => e.elim (fun e => by have := HgR.out; omega) (fun e => by have := HgR.out; omega))))
      have HW1 := Lib.hid (HV1.out.same (Same.of_kept hKf (fun _ _ h => h)))
      have HW2 := Lib.hid (HV2.out.same (Same.of_kept hKf (fun _ _ h => h)))
      have HW3 := Lib.hid (HV3.out.same (Same.of_kept hKf (fun _ _ h => h)))
      have HW4 := Lib.hid (HV4.out.same (Same.of_kept hKf (fun _ _ h => h)))
      have HW5 := Lib.hid (HV5.out.same (Same.of_kept hKf (fun _ _ h => h)))
      have HW6 := Lib.hid (HV6.out.same (Same.of_kept hKf (fun _ _ h => h)))
      have HRES : Hid (rdTb s.data.toList (some 0) = (⟨F, G.1, A1.1, A2.1, A3.1, B1.1, B2.1, B3.1⟩, B3.2)) := Lib.hid (by rw [← HF.out, ← HB3.out, ← HB2.out, ← HB1.out, HA3.out, HA2.out, HA1.out, ← HG.out, ← HS0.out]; rfl)
      clear hRf hKf HV1 HV2 HV3 HV4 HV5 HV6 HK5 HT5 HR5 hb0
      by_cases hd : B3.2 = some s.size
      · rw [show decide (B3.2 = some s.size) = true by simp [hd]]
        have HD := Lib.hid hd
        clear hd
        go_upto_region 17 with fail
        refine wp_region_list ?_
        refine wpList_load_mid rfl 55 _ rfl gT 0 rfl (tbC F G.1 (.slice ta1 A1.1.length tc1) (.slice ta2 A2.1.length tc2) (.slice ta3 A3.1.length tc3) (.slice tq0 B1.1.length td0) (.slice tq1 B2.1.length td1) (.slice tq2 B3.1.length td2)).toList _ HTf.out.range Try.underlying55 rfl size55 ?_
        refine wpList_store_mid rfl 55 _ _ rfl gR 0 (tbC F G.1 (.slice ta1 A1.1.length tc1) (.slice ta2 A2.1.length tc2) (.slice ta3 A3.1.length tc3) (.slice tq0 B1.1.length td0) (.slice tq1 B2.1.length td1) (.slice tq2 B3.1.length td2)) rfl rfl HZf.out.there size55 (tbC_one _ _ _ _ _ _ _ _ _ _ _ _ _ _ _ _ _ _ _ _) ?_
        have HP : Hid (IsTb (wf.setCells gR 0 (tbC F G.1 (.slice ta1 A1.1.length tc1) (.slice ta2 A2.1.length tc2) (.slice ta3 A3.1.length tc3) (.slice tq0 B1.1.length td0) (.slice tq1 B2.1.length td1) (.slice tq2 B3.1.length td2)).toList) gR F G.1 (.slice ta1 A1.1.length tc1) (.slice ta2 A2.1.length tc2) (.slice ta3 A3.1.length tc3) (.slice tq0 B1.1.length td0) (.slice tq1 B2.1.length td1) (.slice tq2 B3.1.length td2)) := Lib.hid (HZf.out.put _ rfl)
        have HKP := Lib.hid (setCells_kept (tbC F G.1 (.slice ta1 A1.1.length tc1) (.slice ta2 A2.1.length tc2) (.slice ta3 A3.1.length tc3) (.slice tq0 B1.1.length td0) (.slice tq1 B2.1.length td1) (.slice tq2 B3.1.length td2)).toList 0 wf gR)
        generalize wf.setCells gR 0 (tbC F G.1 (.slice ta1 A1.1.length tc1) (.slice ta2 A2.1.length tc2) (.slice ta3 A3.1.length tc3) (.slice tq0 B1.1.length td0) (.slice tq1 B2.1.length td1) (.slice tq2 B3.1.length td2)).toList = wg at *
        go_wp2
        have hsf : wA.heap.size ≤ wf.heap.size := HKf.out.size
        have hgw := HgR.out
        refine bodyPost_ret (res27 HP.out rfl rfl) rfl ⟨⟨F, G.1, A1.1, A2.1, A3.1, B1.1, B2.1, B3.1⟩, _, _, _, _, _, _, 0, rfl, ⟨?_, ?_, ?_, ?_, ?_, ?_⟩, ?_, .inr (.inl ⟨hl, ?_, ?_, rfl⟩)⟩
        · exact (HW1.out.same (Same.of_kept HKP.out (fun b hb e => by omega))).mono (fun b _ h => by omega)
        · exact (HW2.out.same (Same.of_kept HKP.out (fun b hb e => by omega))).mono (fun b _ h => by omega)
        · exact (HW3.out.same (Same.of_kept HKP.out (fun b hb e => by omega))).mono (fun b _ h => by omega)
        · exact (HW4.out.same (Same.of_kept HKP.out (fun b hb e => by omega))).mono (fun b _ h => by omega)
        · exact (HW5.out.same (Same.of_kept HKP.out (fun b hb e => by omega))).mono (fun b _ h => by omega)
        · exact (HW6.out.same (Same.of_kept HKP.out (fun b hb e => by omega))).mono (fun b _ h => by omega)
        · exact HBf.out.trans (HKP.out.below HBf.out.size (fun k hk e => by omega))
        · rw [HRES.out]; exact HD.out
        · rw [HRES.out]
      · rw [show decide (B3.2 = some s.size) = false by simp [hd]]
        have HD := Lib.hid hd
        clear hd
        go_upto_region 16 with fail
        refine wp_region_list ?_
        go_wp2_with (refine wpList_store_mid rfl 55 _ _ rfl gR 0 zTb rfl rfl HZf.out.there size55 zTb_one ?_)
        have HP : IsTb (wf.setCells gR 0 zTb.toList) gR (fun _ => noB) 0 nilV nilV nilV nilV nilV nilV := HZf.out.put zTb rfl
        have hgw := HgR.out
        refine bodyPost_ret (res27 HP rfl rfl) rfl ⟨tb0, nilV, nilV, nilV, nilV, nilV, nilV, 1, rfl, tbS0 _ _, ?_, .inr (.inr ⟨hl, ?_, rfl, rfl⟩)⟩
        · exact HBf.out.trans ((setCells_kept _ _ _ _).below HBf.out.size (fun k hk e => by omega))
        · rw [HRES.out]; exact HD.out

theorem decode_any (s : ByteArray) (w : World) (hs : s.size ≤ 140737488355328) : Calls Try.prog 27 #[.string s] w (DecPost s w) := by
  by_cases h : 65536 < s.size
  · exact decode_long s w h hs
  · exact decode_short s w (by omega)
end Go.Proofs.Ytikkakbemphdhaa
