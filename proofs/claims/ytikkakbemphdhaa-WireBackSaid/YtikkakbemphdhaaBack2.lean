/- The walk of WireBack. -/
import Derived.Test.YtikkakbemphdhaaBack1b
import Derived.Deep.LoopGhost
import Derived.Deep.RegionWith
import Derived.Test.YtikkakbemphdhaaLib3
namespace Go.Proofs.Ytikkakbemphdhaa
open Go.RowKit Go.Fl

set_option maxRecDepth 100000 in
set_option maxHeartbeats 8000000 in
theorem back_any (a : Option Addr) (xs : List Itm) (cap : Nat) (cut : Int) (w : World) (hl : xs.length ≤ 9223372036854775807) (hI : Items w a xs) (hz : ∀ x ∈ xs, x.s.size ≤ 9223372036854775807) (hn : ∀ x ∈ xs, x.n < 9223372036854775808) :
    Calls Try.prog 3 #[.slice a xs.length cap, .int .i64 cut] w fun e w' => e = .returned (.bool true) ∧ Below w.heap.size w w' := by
  go_enter Try.func3, Try.ntmps3
  go_wp2_with fail
  refine (head_any w).mono ?_
  rintro e w1 ⟨rfl, hb⟩
  go_wp2_with fail
  have hI1 : Items w1 a xs := by
    intro i h
    obtain ⟨b, off, ha, hbb, h0, h1, h2⟩ := hI i h
    exact ⟨b, off, ha, Nat.lt_of_lt_of_le hbb hb.size, (hb.cell (p := ⟨b, _, none⟩) hbb).trans h0, (hb.cell (p := ⟨b, _, none⟩) hbb).trans h1, (hb.cell (p := ⟨b, _, none⟩) hbb).trans h2⟩
  refine (few_any a xs cap _ hl hI1 hz).mono ?_
  rintro e w2 ⟨f, rfl, hf, hb2⟩
  have HI := Lib.hid hI
  have hb12 := hb.trans (hb2.mono hb.size)
  clear hI hI1
  cases f with
  | false =>
    go_wp2
    go_ret
    exact ⟨rfl, hb12⟩
  | true =>
    obtain ⟨hl20, hz3⟩ := hf rfl
    have hok : Hid (∀ x ∈ xs, x.ok) := Lib.hid fun x hx => ⟨hn x hx, hz3 x hx⟩
    have HT := Lib.hid (encAll_len xs hok.out)
    clear hf hz hn hz3 hl
    have HW0 := Lib.hid (isW_new w2)
    go_wp2_with fail
    go_loopg [6, 26] xs.length (fun gk u v wr => ∃ (j : Nat) (r : Option Nat) (S : ByteArray), u = .string S ∧ v = .int .i64 j ∧ j + gk = xs.length ∧ S.size ≤ 7000 ∧ Hid (S.data.toList = encAll (xs.take j)) ∧
      IsW wr w2.heap.size w2.heap.size r (encAll (xs.take j)) ∧ Below w2.heap.size w2 wr)
    case atStart => exact ⟨0, none, ⟨#[]⟩, rfl, rfl, by omega, by decide, Lib.hid rfl, HW0.out, (Below.refl _ _).alloc (Nat.le_refl _) _⟩
    case round =>
      obtain ⟨j, r, S, rfl, rfl, hj, hS7, hS, hW, hbr⟩ := hrel
      by_cases hjl : j < xs.length
      · obtain ⟨b, off, rfl, hbb, hc0, hc1, hc2⟩ := HI.out j hjl
        have hbb2 : b < w2.heap.size := Nat.lt_of_lt_of_le hbb hb12.size
        have hw0 := ((hb12.trans (hbr.mono hb12.size)).cell (p := ⟨b, off + j * 3, none⟩) hbb).trans hc0
        have hw1 := ((hb12.trans (hbr.mono hb12.size)).cell (p := ⟨b, off + j * 3 + 1, none⟩) hbb).trans hc1
        have hw2 := ((hb12.trans (hbr.mono hb12.size)).cell (p := ⟨b, off + j * 3 + 2, none⟩) hbb).trans hc2
        have hxok := hok.out xs[j] (List.getElem_mem _)
        have hx1 := hxok.1
        have hx2 := hxok.2
        have HE := Lib.hid (encAll_take xs j hjl)
        have HEl : Hid ((encAll (xs.take j)).length ≤ 309 * xs.length) := Lib.hid (by
          have h1 := encAll_len (xs.take j) (fun x hx => hok.out x (List.mem_of_mem_take hx))
          have h2 : (xs.take j).length ≤ xs.length := by rw [List.length_take]; omega
          omega)
        have HW := Lib.hid hW
        clear hc0 hc1 hc2 hW hxok
        obtain ⟨xt, xn, xS, hxe⟩ : ∃ xt xn xS, xs[j] = Itm.mk xt xn xS := ⟨_, _, _, rfl⟩
        rw [hxe] at hw0 hw1 hw2 hx1 hx2 HE
        simp only at hw0 hw1 hw2 hx1 hx2
        clear hxe
        have HWa := Lib.hid (HW.out.kept ((Kept.refl wr (fun _ => False)).alloc (.cells #[.bool xt, .int .i64 xn, .string xS] 30)) id (fun _ _ h => h))
        cases xt with
        | true =>
          go_wp2_with fail
          refine (wText_any w2.heap.size w2.heap.size r _ _ _ HWa.out (by have := hbr.size; simp; omega) (by have := HEl.out; omega)).mono ?_
          rintro e w3 ⟨rfl, r3, hW3, hK3⟩
          have hbox := box_kept hK3 HW.out.lt.1 HW.out.lt.2
          obtain ⟨_, _, hx3⟩ := box3 hbox
          have HK3 := Lib.hid hK3
          have HW3 := Lib.hid hW3
          have hsz3 : wr.heap.size + 1 ≤ w3.heap.size := by simpa using hK3.size
          have Hz : Hid (∀ w4, Below w3.drew.heap.size w3.drew w4 → w4.cell? ⟨wr.heap.size, 2, none⟩ = some (.string xS)) := Lib.hid fun w4 hb4 =>
            (hb4.cell (p := ⟨wr.heap.size, 2, none⟩) (show wr.heap.size < w3.heap.size by omega)).trans hx3
          clear hK3 hW3 hbox
          obtain ⟨y, hy, hyb, hys⟩ : ∃ y : ByteArray, (⟨(numB ((xS.size : Nat) : Int).toNat).toArray⟩ : ByteArray) = y ∧ Hid (y.data.toList = numB xS.size) ∧ y.size ≤ 9 := ⟨_, rfl, Lib.hid rfl, numB_len9 _ (by omega)⟩
          have hnum : Hid (∀ W : World, Calls Try.prog 12 #[.int .i64 (xS.size : Nat)] W fun e w' => e = .returned (.string y) ∧ Below W.heap.size W w') := Lib.hid (by
            intro W
            have h := lNum_any (xS.size : Nat) (by omega) W
            unfold NumLaw at h
            rw [hy] at h
            exact h)
          clear hy
          have HC : Hid ((S ++ y ++ xS).data.toList = encAll (xs.take (j + 1))) := Lib.hid (by
            rw [HE.out, ← hS.out]
            simp [Itm.enc, textB, ByteArray.data_append, hyb.out])
          have HEl2 : (encAll (xs.take (j + 1))).length ≤ 6180 := by
            have h1 := encAll_len (xs.take (j + 1)) (fun x hx => hok.out x (List.mem_of_mem_take hx))
            have h2 : (xs.take (j + 1)).length ≤ xs.length := by rw [List.length_take]; omega
            omega
          have HW4 : Hid (∀ w4, Below w3.drew.heap.size w3.drew w4 → IsW w4 w2.heap.size w2.heap.size r3 (encAll (xs.take (j + 1))) ∧ Below w2.heap.size w2 w4) := Lib.hid fun w4 hb4 => by
            have hk : Kept w3 w4 (fun _ => False) := (Kept.refl w3 (fun _ => False)).drew.trans (Kept.of_below hb4) (fun _ _ h => h)
            refine ⟨?_, ?_⟩
            · rw [HE.out]
              exact HW3.out.kept hk id (fun _ _ h => h)
            · exact ((hbr.alloc hbr.size _).trans (HK3.out.below HWa.out (by have := hbr.size; simp; omega))).trans (hk.below (by have := hbr.size; omega) (fun _ _ h => h))
          go_wp2_with fail
          go_region_with (go_at_call 12; refine (hnum.out _).mono ?_; rintro e w4 ⟨rfl, hb4⟩; have hz4 : w4.cell? ⟨wr.heap.size, 2, none⟩ = some (.string xS) := Hz.out _ hb4)
          all_goals
            go_wp2
            go_roundg (gk - 1)
            case measure => omega
            case rel => exact ⟨j + 1, r3, S ++ y ++ xS, rfl, rfl, by omega, by rw [size_of HC.out]; omega, HC, (HW4.out _ hb4).1, (HW4.out _ hb4).2⟩
        | false =>
          go_wp2_with fail
          refine (wNum_any w2.heap.size w2.heap.size r _ _ _ (by omega) HWa.out (by have := hbr.size; simp; omega) (by have := HEl.out; omega)).mono ?_
          rintro e w3 ⟨rfl, r3, hW3, hK3⟩
          have hbox := box_kept hK3 HW.out.lt.1 HW.out.lt.2
          obtain ⟨_, hx3, _⟩ := box3 hbox
          have HK3 := Lib.hid hK3
          have HW3 := Lib.hid hW3
          clear hK3 hW3 hbox
          go_wp2_with fail
          refine (lNum_any _ (by omega) _).mono ?_
          rintro e w4 ⟨rfl, hb4⟩
          obtain ⟨y, hy, hyb, hys⟩ : ∃ y : ByteArray, (⟨(numB xn.toNat).toArray⟩ : ByteArray) = y ∧ Hid (y.data.toList = numB xn.toNat) ∧ y.size ≤ 9 := ⟨_, rfl, Lib.hid rfl, numB_len9 _ (by omega)⟩
          rw [hy]
          clear hy
          have HC : Hid ((S ++ y).data.toList = encAll (xs.take (j + 1))) := Lib.hid (by
            rw [HE.out, ← hS.out]
            simp [Itm.enc, ByteArray.data_append, hyb.out])
          have HEl2 : (encAll (xs.take (j + 1))).length ≤ 6180 := by
            have h1 := encAll_len (xs.take (j + 1)) (fun x hx => hok.out x (List.mem_of_mem_take hx))
            have h2 : (xs.take (j + 1)).length ≤ xs.length := by rw [List.length_take]; omega
            omega
          have HW4 : Hid (IsW w4 w2.heap.size w2.heap.size r3 (encAll (xs.take (j + 1))) ∧ Below w2.heap.size w2 w4) := Lib.hid (by
            have hk : Kept w3 w4 (fun _ => False) := Kept.of_below hb4
            refine ⟨?_, ?_⟩
            · rw [HE.out]
              exact HW3.out.kept hk id (fun _ _ h => h)
            · exact ((hbr.alloc hbr.size _).trans (HK3.out.below HWa.out (by have := hbr.size; simp; omega))).trans (hk.below (by have := hbr.size; have := HK3.out.size; simp at this; omega) (fun _ _ h => h)))
          go_wp2
          go_roundg (gk - 1)
          case measure => omega
          case rel => exact ⟨j + 1, r3, S ++ y, rfl, rfl, by omega, by rw [size_of HC.out]; omega, HC, HW4.out.1, HW4.out.2⟩
      · obtain rfl : j = xs.length := by omega
        rw [List.take_length] at hW hS
        have HW := Lib.hid hW
        clear hW
        go_wp2_with fail
        refine (wString_any w2.heap.size w2.heap.size r _ _ HW.out).mono ?_
        rintro e w3 ⟨rfl, rfl⟩
        rw [show (ByteArray.mk (encAll xs).toArray) = S from by rw [← hS.out]]
        go_wp2_with fail
        have hSl : Hid (S.size = (encAll xs).length) := Lib.hid (size_of hS.out)
        have hg2 : w2.heap.size + 1 ≤ wr.heap.size := HW.out.lt.1
        refine (rNew_any S _).mono ?_
        rintro e w3 ⟨rfl, rfl⟩
        have HR0 := Lib.hid (isRd_new S wr)
        have HB0 := Lib.hid (hbr.alloc hbr.size (.cells #[.string S, .int .i64 (0 : Nat), .bool false] 70))
        obtain ⟨g2, hg2e⟩ : ∃ g2, wr.heap.size = g2 := ⟨_, rfl⟩
        rw [hg2e] at HR0 hg2 ⊢
        have hg2w := Lib.hid hg2e
        clear hg2e hj
        go_wp2_with fail
        go_loopg [64] xs.length (fun gk v wx => ∃ (j : Nat), v = .int .i64 j ∧ j + gk = xs.length ∧ g2 < wx.heap.size ∧ IsRd wx g2 S (some (encAll (xs.take j)).length) ∧ Below w2.heap.size w2 wx)
        case atStart => exact ⟨0, rfl, by omega, by have := hg2w.out; simp; omega, HR0.out, HB0.out⟩
        case round =>
          obtain ⟨j, rfl, hj, hgx, hR, hbx⟩ := hrel
          by_cases hjl : j < xs.length
          · as_aux_lemma =>
            obtain ⟨b, off, rfl, hbb, hc0, hc1, hc2⟩ := HI.out j hjl
            have hw0 := ((hb12.trans (hbx.mono hb12.size)).cell (p := ⟨b, off + j * 3, none⟩) hbb).trans hc0
            have hw1 := ((hb12.trans (hbx.mono hb12.size)).cell (p := ⟨b, off + j * 3 + 1, none⟩) hbb).trans hc1
            have hw2 := ((hb12.trans (hbx.mono hb12.size)).cell (p := ⟨b, off + j * 3 + 2, none⟩) hbb).trans hc2
            have hxok := hok.out xs[j] (List.getElem_mem _)
            have hx1 := hxok.1
            have hx2 := hxok.2
            have HE := Lib.hid (encAll_take xs j hjl)
            obtain ⟨p, hp, hpl⟩ : ∃ p, Hid (p = encAll (xs.take j)) ∧ (encAll (xs.take j)).length = p.length := ⟨_, Lib.hid rfl, rfl⟩
            obtain ⟨q, hq⟩ : ∃ q, Hid (encAll xs = p ++ (xs[j].enc ++ q)) := ⟨encAll (xs.drop (j + 1)), Lib.hid (by
              have h1 : encAll xs = encAll (xs.take j) ++ encAll (xs.drop j) := by rw [← encAll_append, List.take_append_drop]
              rw [h1, List.drop_eq_getElem_cons hjl, encAll_cons, hp.out])⟩
            have hpos := Lib.hid (enc_pos xs[j])
            rw [hpl] at hR
            obtain ⟨xt, xn, xS, hxe⟩ : ∃ xt xn xS, xs[j] = Itm.mk xt xn xS := ⟨_, _, _, rfl⟩
            rw [hxe] at hw0 hw1 hw2 hx1 hx2 HE hq hpos hxok
            simp only at hw0 hw1 hw2 hx1 hx2
            have hnd : decide (some p.length = some S.size) = false := by
              rw [hSl.out, hq.out]
              have := hpos.out
              simp only [List.length_append, decide_eq_false_iff_not, Option.some.injEq]
              omega
            have Hnd := Lib.hid hnd
            have HRa := Lib.hid (hR.kept ((Kept.refl wr (fun _ => False)).alloc (.cells #[.bool xt, .int .i64 xn, .string xS] 30)) id)
            have hboxa := heap_alloc_new wr (.cells #[.bool xt, .int .i64 xn, .string xS] 30)
            have Hboxa := Lib.hid hboxa
            have hE2 : Hid ((encAll (xs.take (j + 1))).length = p.length + (Itm.mk xt xn xS).enc.length) := Lib.hid (by rw [HE.out, List.length_append, hp.out])
            clear hc0 hc1 hc2 hR hxe hpl hnd hboxa
            go_wp2_with fail
            refine (rDone_any g2 S _ _ HRa.out).mono ?_
            rintro e w4 ⟨rfl, hR4, hK4⟩
            rw [Hnd.out]
            obtain ⟨hx0, hx3, hx4⟩ := box3 (hK4.heap Hboxa.out id)
            have Hz : Hid (∀ w5, Kept w4.drew w5 (· = g2) → w5.cell? ⟨wr.heap.size, 0, none⟩ = some (.bool xt) ∧ w5.cell? ⟨wr.heap.size, 1, none⟩ = some (.int .i64 xn) ∧ w5.cell? ⟨wr.heap.size, 2, none⟩ = some (.string xS)) :=
              Lib.hid fun w5 h => box3 (h.heap (hK4.heap Hboxa.out id : w4.drew.heap[wr.heap.size]? = _) (fun e => by omega))
            have HB4 : Hid (∀ w5, Kept w4.drew w5 (· = g2) → g2 < w5.heap.size ∧ Below w2.heap.size w2 w5) := Lib.hid fun w5 h => by
              have s4 := hK4.size
              have s5 := h.size
              simp at s4 s5
              refine ⟨by omega, ?_⟩
              have k := hK4.below (B := w2.heap.size) (by simp; omega) (fun _ _ h => h)
              exact ((hbx.alloc hbx.size _).trans k).trans (Below.trans (Below.refl _ _).drew (keptR_below h (show w2.heap.size ≤ w4.heap.size by omega) (by omega)))
            have HR4 := Lib.hid hR4
            clear hR4 hK4
            cases xt with
            | true =>
              have hT : Hid (∀ W, IsRd W g2 S (some p.length) → Calls Try.prog 17 #[.pointer (some ⟨g2, 0, none⟩)] W fun e w' => e = .returned (.string xS) ∧ IsRd w' g2 S (some (encAll (xs.take (j + 1))).length) ∧ Kept W w' (· = g2)) := Lib.hid fun W h => by
                have h1 := rText_any g2 S _ W h (by rw [hSl.out]; have := HT.out; omega)
                have h2 : Rd.text S.data.toList (some p.length) = (xS.data.toList, some (encAll (xs.take (j + 1))).length) := by
                  rw [hS.out, hq.out, hE2.out]
                  exact text_back p q xS (by omega)
                rw [h2] at h1
                exact h1
              go_wp2_with fail
              refine wp_region_held_drew (S := fun w' => w'.cell? ⟨wr.heap.size, 0, none⟩ = some (.bool true) ∧ w'.cell? ⟨wr.heap.size, 1, none⟩ = some (.int .i64 xn) ∧ w'.cell? ⟨wr.heap.size, 2, none⟩ = some (.string xS)) (by kernel_rfl) ?_ (fun hHeld => ?_)
              · exact Hz.out _ (Kept.refl _ _)
              refine heldTake 0 70 (v := ?vqtrue0) rfl rfl (by kernel_rfl) (by kernel_rfl) (by kernel_rfl) (fun _ _ _ h => h) (by kernel_rfl) ?hqtrue0 hHeld ?rqtrue0
              case hqtrue0 => (intro w hSw; (try dsimp only at hSw); obtain ⟨hs0, hs1, hs2⟩ := hSw; go_simp <;> with_reducible rfl)
              simp only [List.setIfInBounds_toArray, List.set_cons_zero, List.set_cons_succ]
              refine heldTake 1 71 (v := ?vqtrue1) rfl rfl (by kernel_rfl) (by kernel_rfl) (by kernel_rfl) (fun _ _ _ h => h) (by kernel_rfl) ?hqtrue1 hHeld ?rqtrue1
              case hqtrue1 => (intro w hSw; (try dsimp only at hSw); obtain ⟨hs0, hs1, hs2⟩ := hSw; go_simp <;> with_reducible rfl)
              simp only [List.setIfInBounds_toArray, List.set_cons_zero, List.set_cons_succ]
              refine heldTake 2 72 (v := ?vqtrue2) rfl rfl (by kernel_rfl) (by kernel_rfl) (by kernel_rfl) (fun _ _ _ h => h) (by kernel_rfl) ?hqtrue2 hHeld ?rqtrue2
              case hqtrue2 => (intro w hSw; (try dsimp only at hSw); obtain ⟨hs0, hs1, hs2⟩ := hSw; go_simp <;> with_reducible rfl)
              simp only [List.setIfInBounds_toArray, List.set_cons_zero, List.set_cons_succ]
              refine heldTake 3 73 (v := ?vqtrue3) rfl rfl (by kernel_rfl) (by kernel_rfl) (by kernel_rfl) (fun _ _ _ h => h) (by kernel_rfl) ?hqtrue3 hHeld ?rqtrue3
              case hqtrue3 => (intro w hSw; (try dsimp only at hSw); obtain ⟨hs0, hs1, hs2⟩ := hSw; go_simp <;> with_reducible rfl)
              simp only [List.setIfInBounds_toArray, List.set_cons_zero, List.set_cons_succ]
              refine heldTake 5 75 (v := ?vqtrue5) rfl rfl (by kernel_rfl) (by kernel_rfl) (by kernel_rfl) (fun _ _ _ h => h) (by kernel_rfl) ?hqtrue5 hHeld ?rqtrue5
              case hqtrue5 => (intro w hSw; (try dsimp only at hSw); obtain ⟨hs0, hs1, hs2⟩ := hSw; go_simp <;> with_reducible rfl)
              simp only [List.setIfInBounds_toArray, List.set_cons_zero, List.set_cons_succ]
              refine heldTake 6 76 (v := ?vqtrue6) rfl rfl (by kernel_rfl) (by kernel_rfl) (by kernel_rfl) (fun _ _ _ h => h) (by kernel_rfl) ?hqtrue6 hHeld ?rqtrue6
              case hqtrue6 => (intro w hSw; (try dsimp only at hSw); obtain ⟨hs0, hs1, hs2⟩ := hSw; go_simp <;> with_reducible rfl)
              simp only [List.setIfInBounds_toArray, List.set_cons_zero, List.set_cons_succ]
              refine wpAnyH_ready (rs := [4]) (by kernel_rfl) (by simp) ?_
              refine AllReadyH.cons rfl (fun K hK => ?cqtrue4) AllReadyH.nil
              go_simp
              go_wp2_with fail
              refine (hT.out _ (HR4.out.kept (Kept.refl w4 (fun _ => False)).drew id)).mono ?_
              rintro e w5 ⟨rfl, hR5, hK5⟩
              refine hK.out _ _ (Hz.out _ hK5) (fun hHeld => ?_)
              clear hK K
              refine heldTake 7 77 (v := ?vqtrue7) rfl rfl (by kernel_rfl) (by kernel_rfl) (by kernel_rfl) (fun _ _ _ h => h) (by kernel_rfl) ?hqtrue7 hHeld ?rqtrue7
              case hqtrue7 => (intro w hSw; (try dsimp only at hSw); obtain ⟨hs0, hs1, hs2⟩ := hSw; go_simp <;> with_reducible rfl)
              simp only [List.setIfInBounds_toArray, List.set_cons_zero, List.set_cons_succ]
              refine heldTake 8 78 (v := ?vqtrue8) rfl rfl (by kernel_rfl) (by kernel_rfl) (by kernel_rfl) (fun _ _ _ h => h) (by kernel_rfl) ?hqtrue8 hHeld ?rqtrue8
              case hqtrue8 => (intro w hSw; (try dsimp only at hSw); obtain ⟨hs0, hs1, hs2⟩ := hSw; go_simp <;> with_reducible rfl)
              simp only [List.setIfInBounds_toArray, List.set_cons_zero, List.set_cons_succ]
              refine heldTake 9 79 (v := ?vqtrue9) rfl rfl (by kernel_rfl) (by kernel_rfl) (by kernel_rfl) (fun _ _ _ h => h) (by kernel_rfl) ?hqtrue9 hHeld ?rqtrue9
              case hqtrue9 => (intro w hSw; (try dsimp only at hSw); obtain ⟨hs0, hs1, hs2⟩ := hSw; go_simp <;> with_reducible rfl)
              simp only [List.setIfInBounds_toArray, List.set_cons_zero, List.set_cons_succ]
              refine heldTake 10 80 (v := ?vqtrue10) rfl rfl (by kernel_rfl) (by kernel_rfl) (by kernel_rfl) (fun _ _ _ h => h) (by kernel_rfl) ?hqtrue10 hHeld ?rqtrue10
              case hqtrue10 => (intro w hSw; (try dsimp only at hSw); obtain ⟨hs0, hs1, hs2⟩ := hSw; go_simp <;> with_reducible rfl)
              simp only [List.setIfInBounds_toArray, List.set_cons_zero, List.set_cons_succ]
              refine heldTake 11 81 (v := ?vqtrue11) rfl rfl (by kernel_rfl) (by kernel_rfl) (by kernel_rfl) (fun _ _ _ h => h) (by kernel_rfl) ?hqtrue11 hHeld ?rqtrue11
              case hqtrue11 => (intro w hSw; (try dsimp only at hSw); obtain ⟨hs0, hs1, hs2⟩ := hSw; go_simp <;> with_reducible rfl)
              simp only [List.setIfInBounds_toArray, List.set_cons_zero, List.set_cons_succ]
              refine heldTake 12 82 (v := ?vqtrue12) rfl rfl (by kernel_rfl) (by kernel_rfl) (by kernel_rfl) (fun _ _ _ h => h) (by kernel_rfl) ?hqtrue12 hHeld ?rqtrue12
              case hqtrue12 => (intro w hSw; (try dsimp only at hSw); obtain ⟨hs0, hs1, hs2⟩ := hSw; go_simp <;> with_reducible rfl)
              simp only [List.setIfInBounds_toArray, List.set_cons_zero, List.set_cons_succ]
              refine heldTake 13 83 (v := ?vqtrue13) rfl rfl (by kernel_rfl) (by kernel_rfl) (by kernel_rfl) (fun _ _ _ h => h) (by kernel_rfl) ?hqtrue13 hHeld ?rqtrue13
              case hqtrue13 => (intro w hSw; (try dsimp only at hSw); obtain ⟨hs0, hs1, hs2⟩ := hSw; go_simp <;> with_reducible rfl)
              simp only [List.setIfInBounds_toArray, List.set_cons_zero, List.set_cons_succ]
              refine heldSkip 14 84 rfl rfl (by kernel_rfl) (by kernel_rfl) (by kernel_rfl) (fun _ _ _ h => h) (by kernel_rfl) hHeld ?_
              simp only [List.setIfInBounds_toArray, List.set_cons_zero, List.set_cons_succ]
              refine heldSkip 15 85 rfl rfl (by kernel_rfl) (by kernel_rfl) (by kernel_rfl) (fun _ _ _ h => h) (by kernel_rfl) hHeld ?_
              simp only [List.setIfInBounds_toArray, List.set_cons_zero, List.set_cons_succ]
              refine heldSkip 16 86 rfl rfl (by kernel_rfl) (by kernel_rfl) (by kernel_rfl) (fun _ _ _ h => h) (by kernel_rfl) hHeld ?_
              simp only [List.setIfInBounds_toArray, List.set_cons_zero, List.set_cons_succ]
              refine heldSkip 17 87 rfl rfl (by kernel_rfl) (by kernel_rfl) (by kernel_rfl) (fun _ _ _ h => h) (by kernel_rfl) hHeld ?_
              simp only [List.setIfInBounds_toArray, List.set_cons_zero, List.set_cons_succ]
              refine heldSkip 18 88 rfl rfl (by kernel_rfl) (by kernel_rfl) (by kernel_rfl) (fun _ _ _ h => h) (by kernel_rfl) hHeld ?_
              simp only [List.setIfInBounds_toArray, List.set_cons_zero, List.set_cons_succ]
              refine heldSkip 19 89 rfl rfl (by kernel_rfl) (by kernel_rfl) (by kernel_rfl) (fun _ _ _ h => h) (by kernel_rfl) hHeld ?_
              simp only [List.setIfInBounds_toArray, List.set_cons_zero, List.set_cons_succ]
              refine heldTake 20 90 (v := ?vqtrue20) rfl rfl (by kernel_rfl) (by kernel_rfl) (by kernel_rfl) (fun _ _ _ h => h) (by kernel_rfl) ?hqtrue20 hHeld ?rqtrue20
              case hqtrue20 => (intro w hSw; (try dsimp only at hSw); obtain ⟨hs0, hs1, hs2⟩ := hSw; go_simp <;> with_reducible rfl)
              simp only [List.setIfInBounds_toArray, List.set_cons_zero, List.set_cons_succ]
              refine heldTake 21 91 (v := ?vqtrue21) rfl rfl (by kernel_rfl) (by kernel_rfl) (by kernel_rfl) (fun _ _ _ h => h) (by kernel_rfl) ?hqtrue21 hHeld ?rqtrue21
              case hqtrue21 => (intro w hSw; (try dsimp only at hSw); obtain ⟨hs0, hs1, hs2⟩ := hSw; go_simp <;> with_reducible rfl)
              simp only [List.setIfInBounds_toArray, List.set_cons_zero, List.set_cons_succ]
              refine wpAnyH_done (by kernel_rfl) ?_ _
              all_goals
                go_wp2
                go_roundg (gk - 1)
                case measure => omega
                case rel => exact ⟨j + 1, rfl, by omega, (HB4.out _ hK5).1, hR5, (HB4.out _ hK5).2⟩
            | false =>
              obtain ⟨N, hN, hN0⟩ : ∃ N : Nat, xn.toNat = N ∧ (0 ≤ xn ∧ xn = N ∨ xn < 0 ∧ N = 0) := ⟨_, rfl, by omega⟩
              have hT : Hid (∀ W, IsRd W g2 S (some p.length) → Calls Try.prog 18 #[.pointer (some ⟨g2, 0, none⟩)] W fun e w' => e = .returned (.int .i64 N) ∧ IsRd w' g2 S (some (encAll (xs.take (j + 1))).length) ∧ Kept W w' (· = g2)) := Lib.hid fun W h => by
                have h1 := rNum_any g2 S _ W h (by rw [hSl.out]; have := HT.out; omega)
                unfold NumPost at h1
                have h2 : Rd.num S.data.toList (some p.length) = (N, some (encAll (xs.take (j + 1))).length) := by
                  rw [hS.out, hq.out, hE2.out, ← hN]
                  exact num_back p q xn.toNat (by omega)
                rw [h2] at h1
                exact h1
              clear hN hx1
              rcases hN0 with ⟨h0, hxN⟩ | ⟨h0, hxN⟩
              · have hne : ((N : Int) != xn) = false := by rw [bne_eq_false_iff_eq]; omega
                clear hxN
                go_wp2_with fail
                refine wp_region_held_drew (S := fun w' => w'.cell? ⟨wr.heap.size, 0, none⟩ = some (.bool false) ∧ w'.cell? ⟨wr.heap.size, 1, none⟩ = some (.int .i64 xn) ∧ w'.cell? ⟨wr.heap.size, 2, none⟩ = some (.string xS)) (by kernel_rfl) ?_ (fun hHeld => ?_)
                · exact Hz.out _ (Kept.refl _ _)
                refine heldTake 0 70 (v := ?vqfp0) rfl rfl (by kernel_rfl) (by kernel_rfl) (by kernel_rfl) (fun _ _ _ h => h) (by kernel_rfl) ?hqfp0 hHeld ?rqfp0
                case hqfp0 => (intro w hSw; (try dsimp only at hSw); obtain ⟨hs0, hs1, hs2⟩ := hSw; go_simp <;> with_reducible rfl)
                simp only [List.setIfInBounds_toArray, List.set_cons_zero, List.set_cons_succ]
                refine heldTake 1 71 (v := ?vqfp1) rfl rfl (by kernel_rfl) (by kernel_rfl) (by kernel_rfl) (fun _ _ _ h => h) (by kernel_rfl) ?hqfp1 hHeld ?rqfp1
                case hqfp1 => (intro w hSw; (try dsimp only at hSw); obtain ⟨hs0, hs1, hs2⟩ := hSw; go_simp <;> with_reducible rfl)
                simp only [List.setIfInBounds_toArray, List.set_cons_zero, List.set_cons_succ]
                refine heldTake 2 72 (v := ?vqfp2) rfl rfl (by kernel_rfl) (by kernel_rfl) (by kernel_rfl) (fun _ _ _ h => h) (by kernel_rfl) ?hqfp2 hHeld ?rqfp2
                case hqfp2 => (intro w hSw; (try dsimp only at hSw); obtain ⟨hs0, hs1, hs2⟩ := hSw; go_simp <;> with_reducible rfl)
                simp only [List.setIfInBounds_toArray, List.set_cons_zero, List.set_cons_succ]
                refine heldSkip 3 73 rfl rfl (by kernel_rfl) (by kernel_rfl) (by kernel_rfl) (fun _ _ _ h => h) (by kernel_rfl) hHeld ?_
                simp only [List.setIfInBounds_toArray, List.set_cons_zero, List.set_cons_succ]
                refine heldSkip 4 74 rfl rfl (by kernel_rfl) (by kernel_rfl) (by kernel_rfl) (fun _ _ _ h => h) (by kernel_rfl) hHeld ?_
                simp only [List.setIfInBounds_toArray, List.set_cons_zero, List.set_cons_succ]
                refine heldSkip 5 75 rfl rfl (by kernel_rfl) (by kernel_rfl) (by kernel_rfl) (fun _ _ _ h => h) (by kernel_rfl) hHeld ?_
                simp only [List.setIfInBounds_toArray, List.set_cons_zero, List.set_cons_succ]
                refine heldSkip 6 76 rfl rfl (by kernel_rfl) (by kernel_rfl) (by kernel_rfl) (fun _ _ _ h => h) (by kernel_rfl) hHeld ?_
                simp only [List.setIfInBounds_toArray, List.set_cons_zero, List.set_cons_succ]
                refine heldSkip 7 77 rfl rfl (by kernel_rfl) (by kernel_rfl) (by kernel_rfl) (fun _ _ _ h => h) (by kernel_rfl) hHeld ?_
                simp only [List.setIfInBounds_toArray, List.set_cons_zero, List.set_cons_succ]
                refine heldTake 8 78 (v := ?vqfp8) rfl rfl (by kernel_rfl) (by kernel_rfl) (by kernel_rfl) (fun _ _ _ h => h) (by kernel_rfl) ?hqfp8 hHeld ?rqfp8
                case hqfp8 => (intro w hSw; (try dsimp only at hSw); obtain ⟨hs0, hs1, hs2⟩ := hSw; go_simp <;> with_reducible rfl)
                simp only [List.setIfInBounds_toArray, List.set_cons_zero, List.set_cons_succ]
                refine heldTake 9 79 (v := ?vqfp9) rfl rfl (by kernel_rfl) (by kernel_rfl) (by kernel_rfl) (fun _ _ _ h => h) (by kernel_rfl) ?hqfp9 hHeld ?rqfp9
                case hqfp9 => (intro w hSw; (try dsimp only at hSw); obtain ⟨hs0, hs1, hs2⟩ := hSw; go_simp <;> with_reducible rfl)
                simp only [List.setIfInBounds_toArray, List.set_cons_zero, List.set_cons_succ]
                refine heldTake 10 80 (v := ?vqfp10) rfl rfl (by kernel_rfl) (by kernel_rfl) (by kernel_rfl) (fun _ _ _ h => h) (by kernel_rfl) ?hqfp10 hHeld ?rqfp10
                case hqfp10 => (intro w hSw; (try dsimp only at hSw); obtain ⟨hs0, hs1, hs2⟩ := hSw; go_simp <;> with_reducible rfl)
                simp only [List.setIfInBounds_toArray, List.set_cons_zero, List.set_cons_succ]
                refine heldTake 11 81 (v := ?vqfp11) rfl rfl (by kernel_rfl) (by kernel_rfl) (by kernel_rfl) (fun _ _ _ h => h) (by kernel_rfl) ?hqfp11 hHeld ?rqfp11
                case hqfp11 => (intro w hSw; (try dsimp only at hSw); obtain ⟨hs0, hs1, hs2⟩ := hSw; go_simp <;> with_reducible rfl)
                simp only [List.setIfInBounds_toArray, List.set_cons_zero, List.set_cons_succ]
                refine heldTake 12 82 (v := ?vqfp12) rfl rfl (by kernel_rfl) (by kernel_rfl) (by kernel_rfl) (fun _ _ _ h => h) (by kernel_rfl) ?hqfp12 hHeld ?rqfp12
                case hqfp12 => (intro w hSw; (try dsimp only at hSw); obtain ⟨hs0, hs1, hs2⟩ := hSw; go_simp <;> with_reducible rfl)
                simp only [List.setIfInBounds_toArray, List.set_cons_zero, List.set_cons_succ]
                refine heldTake 13 83 (v := ?vqfp13) rfl rfl (by kernel_rfl) (by kernel_rfl) (by kernel_rfl) (fun _ _ _ h => h) (by kernel_rfl) ?hqfp13 hHeld ?rqfp13
                case hqfp13 => (intro w hSw; (try dsimp only at hSw); obtain ⟨hs0, hs1, hs2⟩ := hSw; go_simp <;> with_reducible rfl)
                simp only [List.setIfInBounds_toArray, List.set_cons_zero, List.set_cons_succ]
                refine heldTake 14 84 (v := ?vqfp14) rfl rfl (by kernel_rfl) (by kernel_rfl) (by kernel_rfl) (fun _ _ _ h => h) (by kernel_rfl) ?hqfp14 hHeld ?rqfp14
                case hqfp14 => (intro w hSw; (try dsimp only at hSw); obtain ⟨hs0, hs1, hs2⟩ := hSw; go_simp <;> with_reducible rfl)
                simp only [List.setIfInBounds_toArray, List.set_cons_zero, List.set_cons_succ]
                refine heldTake 16 86 (v := ?vqfp16) rfl rfl (by kernel_rfl) (by kernel_rfl) (by kernel_rfl) (fun _ _ _ h => h) (by kernel_rfl) ?hqfp16 hHeld ?rqfp16
                case hqfp16 => (intro w hSw; (try dsimp only at hSw); obtain ⟨hs0, hs1, hs2⟩ := hSw; go_simp <;> with_reducible rfl)
                simp only [List.setIfInBounds_toArray, List.set_cons_zero, List.set_cons_succ]
                refine heldTake 17 87 (v := ?vqfp17) rfl rfl (by kernel_rfl) (by kernel_rfl) (by kernel_rfl) (fun _ _ _ h => h) (by kernel_rfl) ?hqfp17 hHeld ?rqfp17
                case hqfp17 => (intro w hSw; (try dsimp only at hSw); obtain ⟨hs0, hs1, hs2⟩ := hSw; go_simp <;> with_reducible rfl)
                simp only [List.setIfInBounds_toArray, List.set_cons_zero, List.set_cons_succ]
                refine heldTake 18 88 (v := ?vqfp18) rfl rfl (by kernel_rfl) (by kernel_rfl) (by kernel_rfl) (fun _ _ _ h => h) (by kernel_rfl) ?hqfp18 hHeld ?rqfp18
                case hqfp18 => (intro w hSw; (try dsimp only at hSw); obtain ⟨hs0, hs1, hs2⟩ := hSw; go_simp <;> with_reducible rfl)
                simp only [List.setIfInBounds_toArray, List.set_cons_zero, List.set_cons_succ]
                refine wpAnyH_ready (rs := [15]) (by kernel_rfl) (by simp) ?_
                refine AllReadyH.cons rfl (fun K hK => ?cqfp15) AllReadyH.nil
                go_simp
                go_wp2_with fail
                refine (hT.out _ (HR4.out.kept (Kept.refl w4 (fun _ => False)).drew id)).mono ?_
                rintro e w5 ⟨rfl, hR5, hK5⟩
                refine hK.out _ _ (Hz.out _ hK5) (fun hHeld => ?_)
                clear hK K
                refine heldTake 19 89 (v := ?vqfp19) rfl rfl (by kernel_rfl) (by kernel_rfl) (by kernel_rfl) (fun _ _ _ h => h) (by kernel_rfl) ?hqfp19 hHeld ?rqfp19
                case hqfp19 => (intro w hSw; (try dsimp only at hSw); obtain ⟨hs0, hs1, hs2⟩ := hSw; go_simp <;> with_reducible rfl)
                simp only [List.setIfInBounds_toArray, List.set_cons_zero, List.set_cons_succ]
                refine heldTake 20 90 (v := ?vqfp20) rfl rfl (by kernel_rfl) (by kernel_rfl) (by kernel_rfl) (fun _ _ _ h => h) (by kernel_rfl) ?hqfp20 hHeld ?rqfp20
                case hqfp20 => (intro w hSw; (try dsimp only at hSw); obtain ⟨hs0, hs1, hs2⟩ := hSw; go_simp <;> with_reducible rfl)
                simp only [List.setIfInBounds_toArray, List.set_cons_zero, List.set_cons_succ]
                refine heldTake 21 91 (v := ?vqfp21) rfl rfl (by kernel_rfl) (by kernel_rfl) (by kernel_rfl) (fun _ _ _ h => h) (by kernel_rfl) ?hqfp21 hHeld ?rqfp21
                case hqfp21 => (intro w hSw; (try dsimp only at hSw); obtain ⟨hs0, hs1, hs2⟩ := hSw; go_simp <;> with_reducible rfl)
                simp only [List.setIfInBounds_toArray, List.set_cons_zero, List.set_cons_succ]
                refine wpAnyH_done (by kernel_rfl) ?_ _
                all_goals
                  go_wp2
                  go_roundg (gk - 1)
                  case measure => omega
                  case rel => exact ⟨j + 1, rfl, by omega, (HB4.out _ hK5).1, hR5, (HB4.out _ hK5).2⟩
              · have hne : ((N : Int) != 0) = false := by rw [bne_eq_false_iff_eq]; omega
                clear hxN
                go_wp2_with fail
                refine wp_region_held_drew (S := fun w' => w'.cell? ⟨wr.heap.size, 0, none⟩ = some (.bool false) ∧ w'.cell? ⟨wr.heap.size, 1, none⟩ = some (.int .i64 xn) ∧ w'.cell? ⟨wr.heap.size, 2, none⟩ = some (.string xS)) (by kernel_rfl) ?_ (fun hHeld => ?_)
                · exact Hz.out _ (Kept.refl _ _)
                refine heldTake 0 70 (v := ?vqfn0) rfl rfl (by kernel_rfl) (by kernel_rfl) (by kernel_rfl) (fun _ _ _ h => h) (by kernel_rfl) ?hqfn0 hHeld ?rqfn0
                case hqfn0 => (intro w hSw; (try dsimp only at hSw); obtain ⟨hs0, hs1, hs2⟩ := hSw; go_simp <;> with_reducible rfl)
                simp only [List.setIfInBounds_toArray, List.set_cons_zero, List.set_cons_succ]
                refine heldTake 1 71 (v := ?vqfn1) rfl rfl (by kernel_rfl) (by kernel_rfl) (by kernel_rfl) (fun _ _ _ h => h) (by kernel_rfl) ?hqfn1 hHeld ?rqfn1
                case hqfn1 => (intro w hSw; (try dsimp only at hSw); obtain ⟨hs0, hs1, hs2⟩ := hSw; go_simp <;> with_reducible rfl)
                simp only [List.setIfInBounds_toArray, List.set_cons_zero, List.set_cons_succ]
                refine heldTake 2 72 (v := ?vqfn2) rfl rfl (by kernel_rfl) (by kernel_rfl) (by kernel_rfl) (fun _ _ _ h => h) (by kernel_rfl) ?hqfn2 hHeld ?rqfn2
                case hqfn2 => (intro w hSw; (try dsimp only at hSw); obtain ⟨hs0, hs1, hs2⟩ := hSw; go_simp <;> with_reducible rfl)
                simp only [List.setIfInBounds_toArray, List.set_cons_zero, List.set_cons_succ]
                refine heldSkip 3 73 rfl rfl (by kernel_rfl) (by kernel_rfl) (by kernel_rfl) (fun _ _ _ h => h) (by kernel_rfl) hHeld ?_
                simp only [List.setIfInBounds_toArray, List.set_cons_zero, List.set_cons_succ]
                refine heldSkip 4 74 rfl rfl (by kernel_rfl) (by kernel_rfl) (by kernel_rfl) (fun _ _ _ h => h) (by kernel_rfl) hHeld ?_
                simp only [List.setIfInBounds_toArray, List.set_cons_zero, List.set_cons_succ]
                refine heldSkip 5 75 rfl rfl (by kernel_rfl) (by kernel_rfl) (by kernel_rfl) (fun _ _ _ h => h) (by kernel_rfl) hHeld ?_
                simp only [List.setIfInBounds_toArray, List.set_cons_zero, List.set_cons_succ]
                refine heldSkip 6 76 rfl rfl (by kernel_rfl) (by kernel_rfl) (by kernel_rfl) (fun _ _ _ h => h) (by kernel_rfl) hHeld ?_
                simp only [List.setIfInBounds_toArray, List.set_cons_zero, List.set_cons_succ]
                refine heldSkip 7 77 rfl rfl (by kernel_rfl) (by kernel_rfl) (by kernel_rfl) (fun _ _ _ h => h) (by kernel_rfl) hHeld ?_
                simp only [List.setIfInBounds_toArray, List.set_cons_zero, List.set_cons_succ]
                refine heldTake 8 78 (v := ?vqfn8) rfl rfl (by kernel_rfl) (by kernel_rfl) (by kernel_rfl) (fun _ _ _ h => h) (by kernel_rfl) ?hqfn8 hHeld ?rqfn8
                case hqfn8 => (intro w hSw; (try dsimp only at hSw); obtain ⟨hs0, hs1, hs2⟩ := hSw; go_simp <;> with_reducible rfl)
                simp only [List.setIfInBounds_toArray, List.set_cons_zero, List.set_cons_succ]
                refine heldTake 9 79 (v := ?vqfn9) rfl rfl (by kernel_rfl) (by kernel_rfl) (by kernel_rfl) (fun _ _ _ h => h) (by kernel_rfl) ?hqfn9 hHeld ?rqfn9
                case hqfn9 => (intro w hSw; (try dsimp only at hSw); obtain ⟨hs0, hs1, hs2⟩ := hSw; go_simp <;> with_reducible rfl)
                simp only [List.setIfInBounds_toArray, List.set_cons_zero, List.set_cons_succ]
                refine heldTake 10 80 (v := ?vqfn10) rfl rfl (by kernel_rfl) (by kernel_rfl) (by kernel_rfl) (fun _ _ _ h => h) (by kernel_rfl) ?hqfn10 hHeld ?rqfn10
                case hqfn10 => (intro w hSw; (try dsimp only at hSw); obtain ⟨hs0, hs1, hs2⟩ := hSw; go_simp <;> with_reducible rfl)
                simp only [List.setIfInBounds_toArray, List.set_cons_zero, List.set_cons_succ]
                refine heldTake 11 81 (v := ?vqfn11) rfl rfl (by kernel_rfl) (by kernel_rfl) (by kernel_rfl) (fun _ _ _ h => h) (by kernel_rfl) ?hqfn11 hHeld ?rqfn11
                case hqfn11 => (intro w hSw; (try dsimp only at hSw); obtain ⟨hs0, hs1, hs2⟩ := hSw; go_simp <;> with_reducible rfl)
                simp only [List.setIfInBounds_toArray, List.set_cons_zero, List.set_cons_succ]
                refine heldTake 12 82 (v := ?vqfn12) rfl rfl (by kernel_rfl) (by kernel_rfl) (by kernel_rfl) (fun _ _ _ h => h) (by kernel_rfl) ?hqfn12 hHeld ?rqfn12
                case hqfn12 => (intro w hSw; (try dsimp only at hSw); obtain ⟨hs0, hs1, hs2⟩ := hSw; go_simp <;> with_reducible rfl)
                simp only [List.setIfInBounds_toArray, List.set_cons_zero, List.set_cons_succ]
                refine heldTake 13 83 (v := ?vqfn13) rfl rfl (by kernel_rfl) (by kernel_rfl) (by kernel_rfl) (fun _ _ _ h => h) (by kernel_rfl) ?hqfn13 hHeld ?rqfn13
                case hqfn13 => (intro w hSw; (try dsimp only at hSw); obtain ⟨hs0, hs1, hs2⟩ := hSw; go_simp <;> with_reducible rfl)
                simp only [List.setIfInBounds_toArray, List.set_cons_zero, List.set_cons_succ]
                refine heldTake 14 84 (v := ?vqfn14) rfl rfl (by kernel_rfl) (by kernel_rfl) (by kernel_rfl) (fun _ _ _ h => h) (by kernel_rfl) ?hqfn14 hHeld ?rqfn14
                case hqfn14 => (intro w hSw; (try dsimp only at hSw); obtain ⟨hs0, hs1, hs2⟩ := hSw; go_simp <;> with_reducible rfl)
                simp only [List.setIfInBounds_toArray, List.set_cons_zero, List.set_cons_succ]
                refine heldTake 16 86 (v := ?vqfn16) rfl rfl (by kernel_rfl) (by kernel_rfl) (by kernel_rfl) (fun _ _ _ h => h) (by kernel_rfl) ?hqfn16 hHeld ?rqfn16
                case hqfn16 => (intro w hSw; (try dsimp only at hSw); obtain ⟨hs0, hs1, hs2⟩ := hSw; go_simp <;> with_reducible rfl)
                simp only [List.setIfInBounds_toArray, List.set_cons_zero, List.set_cons_succ]
                refine heldTake 17 87 (v := ?vqfn17) rfl rfl (by kernel_rfl) (by kernel_rfl) (by kernel_rfl) (fun _ _ _ h => h) (by kernel_rfl) ?hqfn17 hHeld ?rqfn17
                case hqfn17 => (intro w hSw; (try dsimp only at hSw); obtain ⟨hs0, hs1, hs2⟩ := hSw; go_simp <;> with_reducible rfl)
                simp only [List.setIfInBounds_toArray, List.set_cons_zero, List.set_cons_succ]
                refine heldTake 18 88 (v := ?vqfn18) rfl rfl (by kernel_rfl) (by kernel_rfl) (by kernel_rfl) (fun _ _ _ h => h) (by kernel_rfl) ?hqfn18 hHeld ?rqfn18
                case hqfn18 => (intro w hSw; (try dsimp only at hSw); obtain ⟨hs0, hs1, hs2⟩ := hSw; go_simp <;> with_reducible rfl)
                simp only [List.setIfInBounds_toArray, List.set_cons_zero, List.set_cons_succ]
                refine wpAnyH_ready (rs := [15]) (by kernel_rfl) (by simp) ?_
                refine AllReadyH.cons rfl (fun K hK => ?cqfn15) AllReadyH.nil
                go_simp
                go_wp2_with fail
                refine (hT.out _ (HR4.out.kept (Kept.refl w4 (fun _ => False)).drew id)).mono ?_
                rintro e w5 ⟨rfl, hR5, hK5⟩
                refine hK.out _ _ (Hz.out _ hK5) (fun hHeld => ?_)
                clear hK K
                refine heldTake 19 89 (v := ?vqfn19) rfl rfl (by kernel_rfl) (by kernel_rfl) (by kernel_rfl) (fun _ _ _ h => h) (by kernel_rfl) ?hqfn19 hHeld ?rqfn19
                case hqfn19 => (intro w hSw; (try dsimp only at hSw); obtain ⟨hs0, hs1, hs2⟩ := hSw; go_simp <;> with_reducible rfl)
                simp only [List.setIfInBounds_toArray, List.set_cons_zero, List.set_cons_succ]
                refine heldTake 20 90 (v := ?vqfn20) rfl rfl (by kernel_rfl) (by kernel_rfl) (by kernel_rfl) (fun _ _ _ h => h) (by kernel_rfl) ?hqfn20 hHeld ?rqfn20
                case hqfn20 => (intro w hSw; (try dsimp only at hSw); obtain ⟨hs0, hs1, hs2⟩ := hSw; go_simp <;> with_reducible rfl)
                simp only [List.setIfInBounds_toArray, List.set_cons_zero, List.set_cons_succ]
                refine heldTake 21 91 (v := ?vqfn21) rfl rfl (by kernel_rfl) (by kernel_rfl) (by kernel_rfl) (fun _ _ _ h => h) (by kernel_rfl) ?hqfn21 hHeld ?rqfn21
                case hqfn21 => (intro w hSw; (try dsimp only at hSw); obtain ⟨hs0, hs1, hs2⟩ := hSw; go_simp <;> with_reducible rfl)
                simp only [List.setIfInBounds_toArray, List.set_cons_zero, List.set_cons_succ]
                refine wpAnyH_done (by kernel_rfl) ?_ _
                all_goals
                  go_wp2
                  go_roundg (gk - 1)
                  case measure => omega
                  case rel => exact ⟨j + 1, rfl, by omega, (HB4.out _ hK5).1, hR5, (HB4.out _ hK5).2⟩
          · obtain rfl : j = xs.length := by omega
            rw [List.take_length, ← hSl.out] at hR
            have HR := Lib.hid hR
            clear hR
            go_wp2_with fail
            refine (rDone_any g2 S _ _ HR.out).mono ?_
            rintro e w4 ⟨rfl, hR4, hK4⟩
            rw [show decide (some S.size = some S.size) = true by simp]
            have HR4 := Lib.hid hR4
            have hb4 := hbx.trans (hK4.below (B := w2.heap.size) hbx.size (fun _ _ h => h))
            clear hR4 hK4
            go_wp2_with fail
            refine (rOK_any g2 S _ _ HR4.out).mono ?_
            rintro e w5 ⟨rfl, rfl⟩
            rw [show (some S.size).isSome = true by rfl]
            by_cases hS0 : S.size = 0
            · have h1 : ((S.size : Int) == 0) = true := by simp [hS0]
              clear hS0
              go_wp2_with fail
              refine (rDone_any g2 S _ _ HR4.out).mono ?_
              rintro e w6 ⟨rfl, hR6, hK6⟩
              rw [show decide (some S.size = some S.size) = true by simp]
              have hb6 := hb4.trans (hK6.below (B := w2.heap.size) hb4.size (fun _ _ h => h))
              clear hR6 hK6
              go_wp2
              go_ret
              exact ⟨rfl, hb12.trans (hb6.mono hb12.size)⟩
            · have h1 : ((S.size : Int) == 0) = false := by rw [beq_eq_false_iff_ne]; omega
              have hSp : 0 < S.size := by omega
              obtain ⟨c, hq, hc⟩ := and65535 cut
              obtain ⟨k, hk, hkS⟩ : ∃ k : Nat, ((c : Int) % (S.size : Int)) = (k : Int) ∧ k < S.size := ⟨c % S.size, by rw [Int.natCast_emod], Nat.mod_lt _ hSp⟩
              clear hS0
              obtain ⟨T, hT, hTl, hTz⟩ : ∃ T : ByteArray, S.extract 0 k = T ∧ Hid (T.data.toList = (encAll xs).take k) ∧ T.size ≤ 7000 := by
                refine ⟨_, rfl, Lib.hid ?_, ?_⟩
                · rw [ByteArray.data_extract, Array.toList_extract, List.extract_eq_take_drop, List.drop_zero, Nat.sub_zero, hS.out]
                · rw [ByteArray.size_extract]; omega
              have hkl : Hid (k < (encAll xs).length) := Lib.hid (by rw [← hSl.out]; exact hkS)
              go_wp2_with fail
              refine (rNew_any T _).mono ?_
              rintro e w6 ⟨rfl, rfl⟩
              have HRn := Lib.hid (isRd_new T w4)
              have hw24 : w2.heap.size ≤ w4.heap.size := hb4.size
              have HBn := Lib.hid (hb4.alloc hb4.size (.cells #[.string T, .int .i64 (0 : Nat), .bool false] 70))
              obtain ⟨g3, hg3e⟩ : ∃ g3, w4.heap.size = g3 := ⟨_, rfl⟩
              rw [hg3e] at HRn hw24 ⊢
              have Hg3 := Lib.hid hg3e
              clear hg3e hj
              go_wp2_with fail
              go_loopg [119] xs.length (fun gk v wr => ∃ (j : Nat) (st : Option Nat), v = .int .i64 j ∧ j + gk = xs.length ∧ g3 < wr.heap.size ∧ IsRd wr g3 T st ∧ Hid (st = none ∨ (st = some (encAll (xs.take j)).length ∧ (encAll (xs.take j)).length ≤ k)) ∧ Below w2.heap.size w2 wr)
              case atStart => exact ⟨0, some 0, rfl, by omega, by have := Hg3.out; simp; omega, HRn.out, Lib.hid (.inr ⟨rfl, Nat.zero_le _⟩), HBn.out⟩
              case round =>
                obtain ⟨j, st, rfl, hj, hgx, hR, hst, hbx⟩ := hrel
                by_cases hjl : j < xs.length
                · as_aux_lemma =>
                  obtain ⟨b, off, rfl, hbb, hc0, hc1, hc2⟩ := HI.out j hjl
                  have hw0 := ((hb12.trans (hbx.mono hb12.size)).cell (p := ⟨b, off + j * 3, none⟩) hbb).trans hc0
                  have hw1 := ((hb12.trans (hbx.mono hb12.size)).cell (p := ⟨b, off + j * 3 + 1, none⟩) hbb).trans hc1
                  have hw2 := ((hb12.trans (hbx.mono hb12.size)).cell (p := ⟨b, off + j * 3 + 2, none⟩) hbb).trans hc2
                  have hcs := cut_step (xs.take j) (xs.drop (j + 1)) xs[j] k (hok.out xs[j] (List.getElem_mem _)) st hst.out
                  have hsplit : xs.take j ++ xs[j] :: xs.drop (j + 1) = xs := by rw [← List.drop_eq_getElem_cons hjl, List.take_append_drop]
                  have hsplit2 : xs.take j ++ [xs[j]] = xs.take (j + 1) := by rw [List.take_succ_eq_append_getElem hjl]
                  rw [hsplit, hsplit2, ← hTl.out] at hcs
                  obtain ⟨xt, xn, xS, hxe⟩ : ∃ xt xn xS, xs[j] = Itm.mk xt xn xS := ⟨_, _, _, rfl⟩
                  rw [hxe] at hw0 hw1 hw2 hcs
                  simp only at hw0 hw1 hw2
                  have Hcs := Lib.hid hcs
                  have HRa := Lib.hid (hR.kept ((Kept.refl wr (fun _ => False)).alloc (.cells #[.bool xt, .int .i64 xn, .string xS] 30)) id)
                  have HB4 : Hid (∀ w5, Kept (wr.alloc (.cells #[.bool xt, .int .i64 xn, .string xS] 30)) w5 (· = g3) → g3 < w5.heap.size ∧ Below w2.heap.size w2 w5) := Lib.hid fun w5 h => by
                    have s5 := h.size
                    have s6 := hbx.size
                    simp at s5
                    exact ⟨by omega, (hbx.alloc hbx.size _).trans (keptR_below h (by simp; omega) (by omega))⟩
                  clear hc0 hc1 hc2 hR hxe hsplit hsplit2 hcs hst
                  cases xt with
                  | true =>
                    go_wp2_with fail
                    refine (rText_any g3 T _ _ HRa.out (by omega)).mono ?_
                    rintro e w5 ⟨rfl, hR5, hK5⟩
                    have HR5 := Lib.hid hR5
                    clear hR5
                    go_wp2
                    go_roundg (gk - 1)
                    case measure => omega
                    case rel => exact ⟨j + 1, _, rfl, by omega, (HB4.out _ hK5).1, HR5.out, Lib.hid Hcs.out, (HB4.out _ hK5).2⟩
                  | false =>
                    go_wp2_with fail
                    refine (rNum_any g3 T _ _ HRa.out (by omega)).mono ?_
                    rintro e w5 ⟨rfl, hR5, hK5⟩
                    have HR5 := Lib.hid hR5
                    clear hR5
                    go_wp2
                    go_roundg (gk - 1)
                    case measure => omega
                    case rel => exact ⟨j + 1, _, rfl, by omega, (HB4.out _ hK5).1, HR5.out, Lib.hid Hcs.out, (HB4.out _ hK5).2⟩
                · as_aux_lemma =>
                  obtain rfl : j = xs.length := by omega
                  obtain rfl : st = none := by
                    have h := hst.out
                    rw [List.take_length] at h
                    have h2 := hkl.out
                    rcases h with h | ⟨h, h3⟩
                    · exact h
                    · omega
                  have HR := Lib.hid hR
                  clear hR hst
                  go_wp2_with fail
                  refine (rOK_any g3 T none _ HR.out).mono ?_
                  rintro e w5 ⟨rfl, rfl⟩
                  rw [show (none : Option Nat).isSome = false by rfl]
                  go_wp2_with fail
                  refine (rDone_any g3 T none _ HR.out).mono ?_
                  rintro e w6 ⟨rfl, hR6, hK6⟩
                  rw [show decide (none = some T.size) = false by rfl]
                  have HR6 := Lib.hid hR6
                  have hb6 := hbx.trans (hK6.below (B := w2.heap.size) hbx.size (fun _ _ h => h))
                  clear hR6 hK6
                  go_wp2_with fail
                  refine (rNum_any g3 T none _ HR6.out (by omega)).mono ?_
                  rintro e w7 ⟨rfl, hR7, hK7⟩
                  have HR7 := Lib.hid hR7
                  have hb7 := hb6.trans (keptR_below hK7 hb6.size hw24)
                  clear hR7 hK7
                  rw [show (Rd.num T.data.toList none).1 = 0 by rfl]
                  go_wp2_with fail
                  refine (rText_any g3 T none _ HR7.out (by omega)).mono ?_
                  rintro e w8 ⟨rfl, hR8, hK8⟩
                  have hb8 := hb7.trans (keptR_below hK8 hb7.size hw24)
                  clear hR8 hK8
                  rw [show (ByteArray.mk (Rd.text T.data.toList none).1.toArray) = ⟨#[]⟩ by rfl]
                  go_wp2
                  go_ret
                  exact ⟨rfl, hb12.trans (hb8.mono hb12.size)⟩
end Go.Proofs.Ytikkakbemphdhaa
