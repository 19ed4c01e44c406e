/- The walk of GlyphJoins. -/
import Derived.Test.YtajioajigpneoaaDoorPureJ
set_option linter.unusedSimpArgs false
set_option linter.unusedVariables false
namespace Go.Proofs.YtajioajigpneoaaDoor
open Go.RowKit Go.Fl Go.Shelf

theorem arr10 {W : World} {b t : Nat} {G : Nat → ByteArray} (h : W.heap[b]? = some (.cells (arr G) t (0, 0))) :
    W.cell? ⟨b, 0, none⟩ = some (.string (G 0)) ∧ W.cell? ⟨b, 1, none⟩ = some (.string (G 1)) ∧ W.cell? ⟨b, 2, none⟩ = some (.string (G 2)) ∧ W.cell? ⟨b, 3, none⟩ = some (.string (G 3)) ∧ W.cell? ⟨b, 4, none⟩ = some (.string (G 4)) ∧
    W.cell? ⟨b, 5, none⟩ = some (.string (G 5)) ∧ W.cell? ⟨b, 6, none⟩ = some (.string (G 6)) ∧ W.cell? ⟨b, 7, none⟩ = some (.string (G 7)) ∧ W.cell? ⟨b, 8, none⟩ = some (.string (G 8)) ∧ W.cell? ⟨b, 9, none⟩ = some (.string (G 9)) :=
  ⟨(arr_cell h (by decide)).1, (arr_cell h (by decide)).1, (arr_cell h (by decide)).1, (arr_cell h (by decide)).1, (arr_cell h (by decide)).1, (arr_cell h (by decide)).1, (arr_cell h (by decide)).1, (arr_cell h (by decide)).1, (arr_cell h (by decide)).1, (arr_cell h (by decide)).1⟩
theorem arrI10 {W : World} {b t : Nat} {N : Nat → Int} (h : W.heap[b]? = some (.cells (arrI N) t (0, 0))) :
    W.cell? ⟨b, 0, none⟩ = some (.int .i64 (N 0)) ∧ W.cell? ⟨b, 1, none⟩ = some (.int .i64 (N 1)) ∧ W.cell? ⟨b, 2, none⟩ = some (.int .i64 (N 2)) ∧ W.cell? ⟨b, 3, none⟩ = some (.int .i64 (N 3)) ∧ W.cell? ⟨b, 4, none⟩ = some (.int .i64 (N 4)) ∧
    W.cell? ⟨b, 5, none⟩ = some (.int .i64 (N 5)) ∧ W.cell? ⟨b, 6, none⟩ = some (.int .i64 (N 6)) ∧ W.cell? ⟨b, 7, none⟩ = some (.int .i64 (N 7)) ∧ W.cell? ⟨b, 8, none⟩ = some (.int .i64 (N 8)) ∧ W.cell? ⟨b, 9, none⟩ = some (.int .i64 (N 9)) :=
  ⟨arrI_cell h (by decide), arrI_cell h (by decide), arrI_cell h (by decide), arrI_cell h (by decide), arrI_cell h (by decide), arrI_cell h (by decide), arrI_cell h (by decide), arrI_cell h (by decide), arrI_cell h (by decide), arrI_cell h (by decide)⟩

theorem signs_len {G : Nat → ByteArray} (hG : ∀ i, (G i).size ≤ 4) : ∀ l : List UInt8, (signsOf G l).length ≤ 4 * l.length
  | [] => by simp [signsOf]
  | b :: l => by
    have ih := signs_len hG l
    have h := hG (b.toNat - 48)
    have e : (G (b.toNat - 48)).data.toList.length = (G (b.toNat - 48)).size := Array.length_toList
    unfold signsOf at *
    rw [List.flatMap_cons, List.length_append, List.length_cons]
    omega
theorem signs_le {G : Nat → ByteArray} (hG : ∀ i, (G i).size ≤ 4) (l : List UInt8) (h : l.length ≤ 120) : (signsOf G l).length ≤ 1000 := by
  have := signs_len hG l
  omega

set_option maxRecDepth 100000 in
set_option maxHeartbeats 3000000 in
theorem joins_law (N : Nat → Int) (a1 a2 : Option Addr) (l1 l2 : List UInt8) (c1 c2 : Nat) (w : World) (hB1 : Bs w a1 l1) (hB2 : Bs w a2 l2) (hl1 : l1.length ≤ 9223372036854775807) (hl2 : l2.length ≤ 9223372036854775807) (hT : Tabs w) :
    Calls Tryd.prog 7 #[.agg (arrI N), .slice a1 l1.length c1, .slice a2 l2.length c2] w fun e w' => e = .returned (.bool true) ∧ Below w.heap.size w w' := by
  have HT := Lib.hid hT
  have HBa := Lib.hid hB1
  have HBb := Lib.hid hB2
  have HN0 := Lib.hid (heap_alloc_new w (.cells (arrI N) 30))
  have HW0 : Hid (Below w.heap.size w (w.alloc (.cells (arrI N) 30))) := Lib.hid ((Below.refl _ _).alloc (Nat.le_refl _) _)
  clear hT hB1 hB2
  unfold arrI at HN0 HW0 ⊢
  go_enter Tryd.func7, Tryd.ntmps7
  go_wp2_with fail
  refine (head_any _ (HT.out.below HW0.out)).mono ?_
  rintro e w1 ⟨rfl, hb1⟩
  have HB1 := Lib.hid (bt HW0.out hb1)
  have HN1x : Hid (w1.heap[w.heap.size]? = some (.cells (arrI N) 30 (0, 0))) := Lib.hid ((hb1.block _ (lt_of_heap HN0.out)).trans HN0.out)
  clear hb1 HN0
  by_cases hz1 : l1.length ≤ 60
  · by_cases hz2 : l2.length ≤ 60
    · obtain ⟨n0, n1, n2, n3, n4, n5, n6, n7, n8, n9⟩ := arrI10 HN1x.out
      go_wp2_with fail
      refine (set_any N w1).mono ?_
      rintro e w2 ⟨Q, hQ, rfl, hb2⟩
      have HB2 := Lib.hid (bt HB1.out hb2)
      have hGs0 : ∀ i, (signB (Q i)).size ≤ 4 := fun i => by
        show (signL (Q i)).toArray.size ≤ 4
        rw [List.size_toArray]
        exact (sign_len (Q i)).2.1
      obtain ⟨G, hG⟩ : ∃ G : Nat → ByteArray, (fun i => signB (Q i)) = G := ⟨_, rfl⟩
      have hGs : ∀ i, (G i).size ≤ 4 := by rw [← hG]; exact hGs0
      rw [hG]
      clear hb2 hQ hGs0 hG n0 n1 n2 n3 n4 n5 n6 n7 n8 n9
      have HG3a := Lib.hid (heap_alloc_new w2 (.cells (arr G) 33))
      unfold arr
      go_wp2_with fail
      obtain ⟨B, hB⟩ : ∃ B, w2.heap.size = B := ⟨_, rfl⟩
      have hg3 := HG3a.out
      unfold arr at hg3
      have hb3 : Below w.heap.size w (w2.alloc (.cells #[.string (G 0), .string (G 1), .string (G 2), .string (G 3), .string (G 4), .string (G 5), .string (G 6), .string (G 7), .string (G 8), .string (G 9)] 33)) := HB2.out.alloc HB2.out.size _
      generalize w2.alloc (.cells #[.string (G 0), .string (G 1), .string (G 2), .string (G 3), .string (G 4), .string (G 5), .string (G 6), .string (G 7), .string (G 8), .string (G 9)] 33) = w3 at hg3 hb3 ⊢
      rw [hB] at hg3 ⊢
      have HG3 : Hid (w3.heap[B]? = some (.cells (arr G) 33 (0, 0))) := Lib.hid hg3
      have HB3 := Lib.hid hb3
      clear hg3 hb3 hB HG3a
      refine (digits_any a1 l1 c1 w3 (HBa.out.below HB3.out) (by omega)).mono ?_
      obtain ⟨S1, hS1⟩ : ∃ S : ByteArray, ⟨(digB l1).toArray⟩ = S := ⟨_, rfl⟩
      rw [hS1]
      have HS1 : Hid (S1.data.toList = digB l1) := Lib.hid (by rw [← hS1])
      have hS1s60 : S1.data.toList.length ≤ 120 := by rw [HS1.out]; unfold digB; rw [List.length_map]; omega
      have hS1s : S1.size ≤ 1000 := by rw [Array.length_toList] at hS1s60; have e : S1.data.size = S1.size := rfl; omega
      have HN1 : Hid (isNum S1.data.toList = true) := Lib.hid (by rw [HS1.out]; exact digB_num l1)
      clear hS1
      rintro e w4 ⟨rfl, hb4⟩
      have HB4 := Lib.hid (bt HB3.out hb4)
      have HG4 := Lib.hid ((hb4.block B (lt_of_heap HG3.out)).trans HG3.out)
      clear hb4
      go_wp2_with fail
      refine (digits_any a2 l2 c2 w4 (HBb.out.below HB4.out) (by omega)).mono ?_
      obtain ⟨S2, hS2⟩ : ∃ S : ByteArray, ⟨(digB l2).toArray⟩ = S := ⟨_, rfl⟩
      rw [hS2]
      have HS2 : Hid (S2.data.toList = digB l2) := Lib.hid (by rw [← hS2])
      have hS2s60 : S2.data.toList.length ≤ 120 := by rw [HS2.out]; unfold digB; rw [List.length_map]; omega
      have hS2s : S2.size ≤ 1000 := by rw [Array.length_toList] at hS2s60; have e : S2.data.size = S2.size := rfl; omega
      have HN2 : Hid (isNum S2.data.toList = true) := Lib.hid (by rw [HS2.out]; exact digB_num l2)
      have HL : Hid (S1.size ≤ 60 ∧ S2.size ≤ 60) := Lib.hid (by
        rw [size_of_list HS1.out, size_of_list HS2.out]; unfold digB; rw [List.length_map, List.length_map]; exact ⟨hz1, hz2⟩)
      clear hS2
      rintro e w5 ⟨rfl, hb5⟩
      have HB5 := Lib.hid (bt HB4.out hb5)
      have HG5 := Lib.hid ((hb5.block B (lt_of_heap HG4.out)).trans HG4.out)
      clear hb5
      go_wp2
      refine kBegin (fun w' => w'.heap[B]? = some (.cells (arr G) 33 (0, 0))) [5, 6, 7] (by kernel_rfl) ?_
      change wpAnyK _ _ _ _ _ _ _ _ _ w5.drew
      have hS : w5.drew.heap[B]? = some (.cells (arr G) 33 (0, 0)) := HG5.out
      refine kLoad 0 29 [2, 5, 6, 7] (v := .agg (arr G)) rfl rfl (by kernel_rfl) (by kernel_rfl) (by kernel_rfl) (by kernel_rfl) (fun _ _ _ h => h) (by kernel_rfl) ?h0 hS ?r0
      case h0 => (intro w hSw; (try dsimp only at hSw); obtain ⟨c0, c1, c2, c3, c4, c5, c6, c7, c8, c9⟩ := arr10 hSw; unfold arr; go_simp <;> with_reducible rfl)
      simp only [List.setIfInBounds_toArray, List.set_cons_zero, List.set_cons_succ]
      refine kPure 1 30 (v := ?v1) rfl rfl (by kernel_rfl) (by kernel_rfl) (by kernel_rfl) (fun _ _ _ h => h) (by kernel_rfl) ?h1 ?r1
      case h1 => (intro w; go_simp <;> with_reducible rfl)
      simp only [List.setIfInBounds_toArray, List.set_cons_zero, List.set_cons_succ]
      refine kLoad 3 32 [5, 6, 7] (v := .agg (arr G)) rfl rfl (by kernel_rfl) (by kernel_rfl) (by kernel_rfl) (by kernel_rfl) (fun _ _ _ h => h) (by kernel_rfl) ?h3 hS ?r3
      case h3 => (intro w hSw; (try dsimp only at hSw); obtain ⟨c0, c1, c2, c3, c4, c5, c6, c7, c8, c9⟩ := arr10 hSw; unfold arr; go_simp <;> with_reducible rfl)
      simp only [List.setIfInBounds_toArray, List.set_cons_zero, List.set_cons_succ]
      refine kPure 4 33 (v := ?v4) rfl rfl (by kernel_rfl) (by kernel_rfl) (by kernel_rfl) (fun _ _ _ h => h) (by kernel_rfl) ?h4 ?r4
      case h4 => (intro w; go_simp <;> with_reducible rfl)
      simp only [List.setIfInBounds_toArray, List.set_cons_zero, List.set_cons_succ]
      refine kAll (rs := [2]) (by kernel_rfl) (by simp) (kCons rfl (by kernel_rfl) (fun K hK => ?s2) kNil)
      case s2 =>
        go_simp
        refine (gwrite_any G S1 w5.drew hS1s (fun i _ => Nat.le_trans (hGs i) (by decide))).mono ?_
        rw [write_num HN1.out]
        obtain ⟨Y1, hY1⟩ : ∃ Y : ByteArray, ⟨(signsOf G S1.data.toList).toArray⟩ = Y := ⟨_, rfl⟩
        rw [hY1]
        have HY1 : Hid (Y1.data.toList = signsOf G S1.data.toList) := Lib.hid (by rw [← hY1])
        have hY1s : Y1.size ≤ 1000 := by rw [size_of_list HY1.out]; exact signs_le hGs _ hS1s60
        clear hY1
        rintro e w6 ⟨rfl, hb6⟩
        have HB6 := Lib.hid (bt HB5.out.drew hb6)
        have HG6 : Hid (w6.heap[B]? = some (.cells (arr G) 33 (0, 0))) := Lib.hid ((hb6.block B (lt_of_heap HG5.out)).trans HG5.out)
        clear hb6
        go_simp
        refine hK.out _ _ (fun _ _ => HG6.out) ?_
        clear hK
        refine kAll (rs := [5]) (by kernel_rfl) (by simp) (kCons rfl (by kernel_rfl) (fun K hK => ?s5) kNil)
        case s5 =>
          go_simp
          refine (gwrite_any G S2 w6 hS2s (fun i _ => Nat.le_trans (hGs i) (by decide))).mono ?_
          rw [write_num HN2.out]
          obtain ⟨Y2, hY2⟩ : ∃ Y : ByteArray, ⟨(signsOf G S2.data.toList).toArray⟩ = Y := ⟨_, rfl⟩
          rw [hY2]
          have HY2 : Hid (Y2.data.toList = signsOf G S2.data.toList) := Lib.hid (by rw [← hY2])
          have hY2s : Y2.size ≤ 1000 := by rw [size_of_list HY2.out]; exact signs_le hGs _ hS2s60
          clear hY2
          rintro e w7 ⟨rfl, hb7⟩
          have HB7 := Lib.hid (bt HB6.out hb7)
          have HG7 := Lib.hid ((hb7.block B (lt_of_heap HG6.out)).trans HG6.out)
          clear hb7
          go_simp
          refine hK.out _ _ (fun h => absurd h (by decide)) ?_
          clear hK
          have hsum : ¬ 9223372036854775807 < Y1.size + Y2.size := by omega
          refine kPure 6 35 (v := ?v6) rfl rfl (by kernel_rfl) (by kernel_rfl) (by kernel_rfl) (fun _ _ _ h => h) (by kernel_rfl) ?h6 ?r6
          case h6 => (intro w; go_simp <;> with_reducible rfl)
          simp only [List.setIfInBounds_toArray, List.set_cons_zero, List.set_cons_succ]
          refine kPure 7 10 (v := ?v7) rfl rfl (by kernel_rfl) (by kernel_rfl) (by kernel_rfl) (fun _ _ _ h => h) (by kernel_rfl) ?h7 ?r7
          case h7 => (intro w; go_simp <;> with_reducible rfl)
          simp only [List.setIfInBounds_toArray, List.set_cons_zero, List.set_cons_succ]
          refine kDone (by kernel_rfl) ?_ _
          obtain ⟨Y, hY⟩ : ∃ Y : ByteArray, Y1 ++ Y2 = Y := ⟨_, rfl⟩
          have HY : Hid (Y.data.toList = signsOf G (S1.data.toList ++ S2.data.toList)) := Lib.hid (by rw [← hY, app_list, HY1.out, HY2.out, signs_app])
          have hYs : Y.size ≤ 2000 := by rw [← hY, ByteArray.size_append]; omega
          rw [hY]
          obtain ⟨S, hS⟩ : ∃ S : ByteArray, S1 ++ S2 = S := ⟨_, rfl⟩
          have HS : Hid (S.data.toList = S1.data.toList ++ S2.data.toList) := Lib.hid (by rw [← hS, app_list])
          have hSs : S.size ≤ 120 := by rw [← hS, ByteArray.size_append]; have := HL.out; omega
          have HSn : Hid (isNum S.data.toList = true) := Lib.hid (by rw [HS.out]; exact isNum_app HN1.out HN2.out)
          have HYS : Hid (Y = ⟨(signsOf G S.data.toList).toArray⟩) := Lib.hid (by rw [HS.out, ← HY.out])
          clear hY hS1s60 hS2s60 hY1s hY2s hsum
          obtain ⟨c0, c1, c2, c3, c4, c5, c6, c7, c8, c9⟩ := arr10 HG7.out
          go_wp2_with fail
          refine (gwrite_any G S w7 (by omega) (fun i _ => Nat.le_trans (hGs i) (by decide))).mono ?_
          rw [write_num HSn.out, ← HYS.out]
          rintro e w8 ⟨rfl, hb8⟩
          have HB8 := Lib.hid (bt HB7.out hb8)
          have HG8 := Lib.hid ((hb8.block B (lt_of_heap HG7.out)).trans HG7.out)
          clear hb8 c0 c1 c2 c3 c4 c5 c6 c7 c8 c9
          obtain ⟨c0, c1, c2, c3, c4, c5, c6, c7, c8, c9⟩ := arr10 HG8.out
          go_wp2_with fail
          refine (gread_any G Y w8 (by omega) (fun i _ => Nat.le_trans (hGs i) (by decide))).mono ?_
          obtain ⟨R1, hR1⟩ : ∃ R, readRes G Y.data.toList = R := ⟨_, rfl⟩
          obtain ⟨D, hD⟩ : ∃ D : ByteArray, ⟨(digs R1.1).toArray⟩ = D := ⟨_, rfl⟩
          obtain ⟨e2, he2⟩ : ∃ n, R1.2 = n := ⟨_, rfl⟩
          rw [hR1, hD, he2]
          have HR1 := Lib.hid hR1
          have HD := Lib.hid hD
          have He2 := Lib.hid he2
          clear hR1 hD he2
          rintro e w9 ⟨rfl, hb9⟩
          have HB9 := Lib.hid (bt HB8.out hb9)
          have HG9 := Lib.hid ((hb9.block B (lt_of_heap HG8.out)).trans HG8.out)
          clear hb9 c0 c1 c2 c3 c4 c5 c6 c7 c8 c9
          obtain ⟨c0, c1, c2, c3, c4, c5, c6, c7, c8, c9⟩ := arr10 HG9.out
          go_wp2_with fail
          refine (gvalid_any G w9 (fun i _ => Nat.le_trans (hGs i) (by decide)) (HT.out.below HB9.out)).mono ?_
          rintro e w10 ⟨r, rfl, hr, hb10⟩
          have HB10 := Lib.hid (bt HB9.out hb10)
          clear hb10
          cases r with
          | false =>
            clear hr
            go_wp2_with fail
            go_ret
            exact ⟨rfl, HB10.out⟩
          | true =>
            have hV := hr.1 rfl
            have hres : readRes G Y.data.toList = (S.data.toList.map (fun b => b.toNat - 48), (signsOf G S.data.toList).length) := by
              have h := read_back hV (one_empty (G := G)) HSn.out (signs_ge hV _ HSn.out)
              rw [List.append_nil] at h
              rw [HYS.out]
              exact h
            obtain rfl : D = S := by
              rw [← HD.out, ← HR1.out, hres]
              dsimp only
              rw [digs_back HSn.out]
            obtain rfl : e2 = Y.size := by
              rw [← He2.out, ← HR1.out, hres]
              dsimp only
              rw [size_of_list (by rw [HYS.out] : Y.data.toList = signsOf G D.data.toList)]
            clear hr hV hres
            go_wp2_with fail
            go_ret
            exact ⟨rfl, HB10.out⟩
          
    · go_wp2_with fail
      go_ret
      exact ⟨rfl, HB1.out⟩
  · go_wp2_with fail
    go_ret
    exact ⟨rfl, HB1.out⟩
end Go.Proofs.YtajioajigpneoaaDoor
