/- The walk of GlyphWrites. -/
import Derived.Test.YtajioajigpneoaaDoorJoins
set_option linter.unusedSimpArgs false
set_option linter.unusedVariables false
namespace Go.Proofs.YtajioajigpneoaaDoor
open Go.RowKit Go.Fl Go.Shelf

theorem write_no {G : Nat → ByteArray} : writeRes G [49, 120] = [] := by unfold writeRes; rw [if_neg (by decide)]
theorem write_nil {G : Nat → ByteArray} : writeRes G [] = [] := by unfold writeRes; rw [if_pos (by decide)]; rfl

/-- a sign that is some digit's. -/
theorem one_tail {G : Nat → ByteArray} (hV : VG G) {T : ByteArray} (hT : oneB T = true) : (oneRes G T.data.toList = (-1, 0)) ∨ ∃ d : Nat, d < 10 ∧ oneRes G T.data.toList = ((d : Int), (G d).size) ∧ G d = T := by
  unfold oneRes
  rcases oneFrom_ok G T.data.toList 10 0 rfl with ⟨h1, h2, _⟩ | ⟨d, hd, h2, h3, h4, _⟩
  · exact .inl (Prod.ext h1 h2)
  · refine .inr ⟨d, hd, h2, ?_⟩
    obtain ⟨q1, q2⟩ := one_sign (hV d hd).1
    obtain ⟨p1, p2⟩ := one_sign hT
    have h5 := (pre_len h4).2
    unfold Lib.hasPrefix at h4
    rw [List.isPrefixOf_iff_prefix] at h4
    obtain ⟨t', ht'⟩ := h4
    have e2 := lead_app q2 q1 t'
    rw [ht', p2] at e2
    rw [← e2, List.take_length] at h5
    exact (ByteArray.ext (Array.ext' h5)).symm

set_option maxRecDepth 100000 in
set_option maxHeartbeats 3000000 in
theorem writes_law (N : Nat → Int) (a1 : Option Addr) (l1 : List UInt8) (c1 : Nat) (bh : Int) (w : World) (hB1 : Bs w a1 l1) (hl1 : l1.length ≤ 9223372036854775807) (hT : Tabs w) :
    Calls Tryd.prog 5 #[.agg (arrI N), .slice a1 l1.length c1, .int .i64 bh] w fun e w' => e = .returned (.bool true) ∧ Below w.heap.size w w' := by
  have HT := Lib.hid hT
  have HBa := Lib.hid hB1
  have HN0 := Lib.hid (heap_alloc_new w (.cells (arrI N) 30))
  have HW0 : Hid (Below w.heap.size w (w.alloc (.cells (arrI N) 30))) := Lib.hid ((Below.refl _ _).alloc (Nat.le_refl _) _)
  clear hT hB1
  unfold arrI at HN0 HW0 ⊢
  go_enter Tryd.func5, Tryd.ntmps5
  go_wp2_with fail
  refine (head_any _ (HT.out.below HW0.out)).mono ?_
  rintro e w1 ⟨rfl, hb1⟩
  have HB1 := Lib.hid (bt HW0.out hb1)
  have HN1x : Hid (w1.heap[w.heap.size]? = some (.cells (arrI N) 30 (0, 0))) := Lib.hid ((hb1.block _ (lt_of_heap HN0.out)).trans HN0.out)
  clear hb1 HN0
  by_cases hz1 : l1.length ≤ 60
  · obtain ⟨n0, n1, n2, n3, n4, n5, n6, n7, n8, n9⟩ := arrI10 HN1x.out
    go_wp2_with fail
    refine (set_any N w1).mono ?_
    rintro e w2 ⟨Q, hQ, rfl, hb2⟩
    have HB2 := Lib.hid (bt HB1.out hb2)
    have hGs0 : ∀ i, (signB (Q i)).size ≤ 4 := fun i => by
      show (signL (Q i)).toArray.size ≤ 4
      rw [List.size_toArray]
      exact (sign_len (Q i)).2.1
    obtain ⟨G, hG⟩ : ∃ G : Nat → ByteArray, (fun i => signB (Q i)) = G := ⟨_, rfl⟩
    have hGs : ∀ i, (G i).size ≤ 4 := by rw [← hG]; exact hGs0
    rw [hG]
    clear hb2 hQ hGs0 hG n0 n1 n2 n3 n4 n5 n6 n7 n8 n9
    have HG3a := Lib.hid (heap_alloc_new w2 (.cells (arr G) 33))
    unfold arr
    go_wp2_with fail
    obtain ⟨B, hB⟩ : ∃ B, w2.heap.size = B := ⟨_, rfl⟩
    have hg3 := HG3a.out
    unfold arr at hg3
    have hb3 : Below w.heap.size w (w2.alloc (.cells #[.string (G 0), .string (G 1), .string (G 2), .string (G 3), .string (G 4), .string (G 5), .string (G 6), .string (G 7), .string (G 8), .string (G 9)] 33)) := HB2.out.alloc HB2.out.size _
    generalize w2.alloc (.cells #[.string (G 0), .string (G 1), .string (G 2), .string (G 3), .string (G 4), .string (G 5), .string (G 6), .string (G 7), .string (G 8), .string (G 9)] 33) = w3 at hg3 hb3 ⊢
    rw [hB] at hg3 ⊢
    have HG3 : Hid (w3.heap[B]? = some (.cells (arr G) 33 (0, 0))) := Lib.hid hg3
    have HB3 := Lib.hid hb3
    clear hg3 hb3 hB HG3a
    refine (digits_any a1 l1 c1 w3 (HBa.out.below HB3.out) (by omega)).mono ?_
    obtain ⟨S1, hS1⟩ : ∃ S : ByteArray, ⟨(digB l1).toArray⟩ = S := ⟨_, rfl⟩
    rw [hS1]
    have HS1 : Hid (S1.data.toList = digB l1) := Lib.hid (by rw [← hS1])
    have hS1s60 : S1.data.toList.length ≤ 120 := by rw [HS1.out]; unfold digB; rw [List.length_map]; omega
    have hS1s : S1.size ≤ 1000 := by rw [Array.length_toList] at hS1s60; have e : S1.data.size = S1.size := rfl; omega
    have HN1 : Hid (isNum S1.data.toList = true) := Lib.hid (by rw [HS1.out]; exact digB_num l1)
    clear hS1
    rintro e w4 ⟨rfl, hb4⟩
    have HB4 := Lib.hid (bt HB3.out hb4)
    have HG4 := Lib.hid ((hb4.block B (lt_of_heap HG3.out)).trans HG3.out)
    clear hb4
    obtain ⟨c0, k1, c2, c3, c4, c5, c6, c7, c8, c9⟩ := arr10 HG4.out
    go_wp2_with fail
    refine (gwrite_any G S1 w4 hS1s (fun i _ => Nat.le_trans (hGs i) (by decide))).mono ?_
    rw [write_num HN1.out]
    obtain ⟨Y1, hY1⟩ : ∃ Y : ByteArray, ⟨(signsOf G S1.data.toList).toArray⟩ = Y := ⟨_, rfl⟩
    rw [hY1]
    have HY1 : Hid (Y1.data.toList = signsOf G S1.data.toList) := Lib.hid (by rw [← hY1])
    have hY1s : Y1.size ≤ 1000 := by rw [size_of_list HY1.out]; exact signs_le hGs _ hS1s60
    clear hY1
    rintro e w5 ⟨rfl, hb5⟩
    have HB5 := Lib.hid (bt HB4.out hb5)
    have HG5 := Lib.hid ((hb5.block B (lt_of_heap HG4.out)).trans HG4.out)
    clear hb5 c0 k1 c2 c3 c4 c5 c6 c7 c8 c9
    go_wp2
    go_loopg [10, 11] S1.size (fun gk u v wr => ∃ (i : Nat) (Z : ByteArray), u = .string Z ∧ v = .int .i64 i ∧ Hid (i + gk = S1.size) ∧ i ≤ S1.size ∧ Z.size ≤ 4 * i ∧ Hid (Z.data.toList = signsOf G (S1.data.toList.take i)) ∧ w5 = wr)
    case atStart => exact ⟨0, ByteArray.empty, rfl, rfl, Lib.hid (by omega), by omega, by decide, Lib.hid rfl, rfl⟩
    case round =>
      obtain ⟨i, Z, rfl, rfl, hig, hil, hZs, hZ, rfl⟩ := hrel
      by_cases hi : i < S1.size
      · obtain ⟨d, hd, hde⟩ := isNum_at HN1.out hi
        have hcd := (arr_cell HG5.out hd).1
        have hGd := hGs d
        have hst : Hid (signsOf G (S1.data.toList.take (i + 1)) = Z.data.toList ++ (G d).data.toList) := Lib.hid (by
          have h' : i < S1.data.toList.length := by rw [Array.length_toList]; exact hi
          rw [List.take_succ_eq_append_getElem h', signs_snoc, ← hZ.out]
          have e : S1.data.toList[i].toNat - 48 = d := by
            have : S1.data.toList[i].toNat = 48 + d := hde
            omega
          rw [e])
        generalize G d = g at hcd hGd hst
        go_wp2
        go_roundg (gk - 1)
        case measure => have := hig.out; omega
        case rel =>
          exact ⟨i + 1, Z ++ g, rfl, rfl, Lib.hid (by have := hig.out; omega), by omega, by rw [ByteArray.size_append]; omega, Lib.hid (by rw [app_list]; exact hst.out.symm), rfl⟩
      · obtain rfl : i = S1.size := by omega
        obtain rfl : Z = Y1 := by
          refine ByteArray.ext (Array.ext' ?_)
          rw [hZ.out, HY1.out, List.take_of_length_le (by rw [Array.length_toList]; exact Nat.le_refl _)]
        clear hi hil hZs
        obtain ⟨c0, k1, c2, c3, c4, c5, c6, c7, c8, c9⟩ := arr10 HG5.out
        go_wp2_with fail
        refine (gwrite_any G ⟨#[49, 120]⟩ w5 (by decide) (fun i _ => Nat.le_trans (hGs i) (by decide))).mono ?_
        rw [write_no]
        rintro e w6 ⟨rfl, hb6⟩
        have HB6 := Lib.hid (bt HB5.out hb6)
        have HG6 := Lib.hid ((hb6.block B (lt_of_heap HG5.out)).trans HG5.out)
        clear hb6 c0 k1 c2 c3 c4 c5 c6 c7 c8 c9
        obtain ⟨c0, k1, c2, c3, c4, c5, c6, c7, c8, c9⟩ := arr10 HG6.out
        go_wp2_with fail
        refine (gwrite_any G ⟨#[]⟩ w6 (by decide) (fun i _ => Nat.le_trans (hGs i) (by decide))).mono ?_
        rw [write_nil]
        rintro e w7 ⟨rfl, hb7⟩
        have HB7 := Lib.hid (bt HB6.out hb7)
        have HG7 := Lib.hid ((hb7.block B (lt_of_heap HG6.out)).trans HG6.out)
        clear hb7 c0 k1 c2 c3 c4 c5 c6 c7 c8 c9
        obtain ⟨c0, k1, c2, c3, c4, c5, c6, c7, c8, c9⟩ := arr10 HG7.out
        go_wp2_with fail
        refine (gvalid_any G w7 (fun i _ => Nat.le_trans (hGs i) (by decide)) (HT.out.below HB7.out)).mono ?_
        rintro e w8 ⟨r, rfl, hr, hb8⟩
        have HB8 := Lib.hid (bt HB7.out hb8)
        have HG8 := Lib.hid ((hb8.block B (lt_of_heap HG7.out)).trans HG7.out)
        clear hb8 c0 k1 c2 c3 c4 c5 c6 c7 c8 c9
        cases r with
        | false =>
          clear hr
          go_wp2_with fail
          go_ret
          exact ⟨rfl, HB8.out⟩
        | true =>
          have HV := Lib.hid (hr.1 rfl)
          clear hr
          go_wp2_with fail
          obtain ⟨p, hp, C⟩ := point_any bh w8
          refine C.mono ?_
          rintro e w9 ⟨rfl, rfl⟩
          have Hp := Lib.hid hp
          clear hp C
          go_wp2_with fail
          refine (sign_any p w8 Hp.out).mono ?_
          obtain ⟨T, hTt⟩ : ∃ T : ByteArray, ⟨(signL p).toArray⟩ = T := ⟨_, rfl⟩
          rw [hTt]
          have HTl : Hid (T.data.toList = signL p) := Lib.hid (by rw [← hTt])
          have hTs : T.size ≤ 4 := by rw [size_of_list HTl.out]; exact (sign_len p).2.1
          have HT1 : Hid (oneB T = true) := Lib.hid (by
            obtain ⟨g1, g2⟩ := sign_one Hp.out HTl.out
            unfold oneB
            rw [g1, g2]; rfl)
          clear hTt
          rintro e w9 ⟨rfl, hb9⟩
          have HB9 := Lib.hid (bt HB8.out hb9)
          have HG9 := Lib.hid ((hb9.block B (lt_of_heap HG8.out)).trans HG8.out)
          clear hb9
          obtain ⟨c0, k1, c2, c3, c4, c5, c6, c7, c8, c9⟩ := arr10 HG9.out
          go_wp2_with fail
          refine (gone_any G T w9 (fun i _ => Nat.le_trans (hGs i) (by decide))).mono ?_
          rcases one_tail HV.out HT1.out with h1 | ⟨d, hd, h1, h2⟩
          · rw [h1]
            have H1 := Lib.hid h1
            clear h1
            rintro e w10 ⟨rfl, hb10⟩
            have HB10 := Lib.hid (bt HB9.out hb10)
            have HG10 := Lib.hid ((hb10.block B (lt_of_heap HG9.out)).trans HG9.out)
            clear hb10 c0 k1 c2 c3 c4 c5 c6 c7 c8 c9
            obtain ⟨c0, k1, c2, c3, c4, c5, c6, c7, c8, c9⟩ := arr10 HG10.out
            go_wp2_with fail
            obtain ⟨U, hU⟩ : ∃ U : ByteArray, Z ++ T = U := ⟨_, rfl⟩
            have hUl : U.data.toList = signsOf G S1.data.toList ++ T.data.toList := by rw [← hU, app_list, HY1.out]
            have hUs : U.size ≤ 2000 := by rw [← hU, ByteArray.size_append]; omega
            rw [hU]
            refine (gread_any G U w10 (by omega) (fun i _ => Nat.le_trans (hGs i) (by decide))).mono ?_
            rw [hUl, read_back HV.out (by rw [H1.out]; decide) HN1.out (signs_ge HV.out _ HN1.out)]
            dsimp only
            rw [digs_back HN1.out, ← size_of_list HY1.out]
            rintro e w11 ⟨rfl, hb11⟩
            have HB11 := Lib.hid (bt HB10.out hb11)
            have HG11 := Lib.hid ((hb11.block B (lt_of_heap HG10.out)).trans HG10.out)
            clear hb11 c0 k1 c2 c3 c4 c5 c6 c7 c8 c9 hUl hU hUs
            obtain ⟨c0, k1, c2, c3, c4, c5, c6, c7, c8, c9⟩ := arr10 HG11.out
            rw [show (⟨S1.data.toList.toArray⟩ : ByteArray) = S1 from rfl]
            go_wp2_with fail
            refine (gread_any G Z w11 (by omega) (fun i _ => Nat.le_trans (hGs i) (by decide))).mono ?_
            have hb := read_back HV.out (one_empty (G := G)) HN1.out (signs_ge HV.out _ HN1.out)
            rw [List.append_nil, ← HY1.out] at hb
            rw [hb]
            dsimp only
            rw [digs_back HN1.out, Array.length_toList]
            rintro e w12 ⟨rfl, hb12⟩
            have HB12 := Lib.hid (bt HB11.out hb12)
            clear hb12 c0 k1 c2 c3 c4 c5 c6 c7 c8 c9 hb
            rw [show (⟨S1.data.toList.toArray⟩ : ByteArray) = S1 from rfl, show Z.data.size = Z.size from rfl]
            go_wp2_with fail
            go_ret
            exact ⟨rfl, HB12.out⟩
          · rw [h1]
            rintro e w10 ⟨rfl, hb10⟩
            have HB10 := Lib.hid (bt HB9.out hb10)
            have HG10 := Lib.hid ((hb10.block B (lt_of_heap HG9.out)).trans HG9.out)
            clear hb10 c0 k1 c2 c3 c4 c5 c6 c7 c8 c9
            have hcd := (arr_cell HG10.out hd).1
            rw [h2] at hcd
            dsimp only
            rw [h2]
            clear h1 h2
            go_wp2_with fail
            go_ret
            exact ⟨rfl, HB10.out⟩
  · go_wp2_with fail
    go_ret
    exact ⟨rfl, HB1.out⟩
end Go.Proofs.YtajioajigpneoaaDoor
