/- The walk of Brace.Fill. -/
import Derived.Test.YtikkakbemphdhaaDoorStr
import Derived.Test.YtikkakbemphdhaaDoorHeld
import Derived.Lib.OwnKind
import Derived.Laws.MakeOwn
import Derived.OneCell
set_option linter.unusedSimpArgs false
set_option linter.unusedVariables false
namespace Go.Proofs.YtikkakbemphdhaaDoor
open Go.RowKit Go.Fl Go.Shelf

theorem IsB.apart {W : World} {base b g t : Nat} {r : Option Nat} {l : List UInt8} {cs : Array Value} {fr : Nat × Nat} (h : IsB W base b r l) (hg : W.heap[g]? = some (.cells cs t fr)) (ht : t ≠ 5) (hgb : g ≠ b) : ¬ (g = b ∨ some g = r) := by
  obtain ⟨hbg, p, v, hb, hp, hv, hown, hnil⟩ := h
  intro h
  rcases h with h | h
  · exact hgb h
  · obtain ⟨c, fz, hc⟩ := Go.Lib.ownsRow_kind hown g (hv.trans h.symm)
    rw [hg] at hc
    injection hc with hc
    injection hc with _ hc _
    exact ht hc
theorem IsB.drew {W : World} {base b : Nat} {r : Option Nat} {l : List UInt8} (h : IsB W base b r l) : IsB W.drew base b r l := h

theorem made_zeros (n : Nat) : madeCells (Value.int .i64 0).cells (n * 1) = (intsV (List.replicate n 0)).toArray := by
  unfold madeCells
  refine Array.ext' ?_
  rw [Nat.mul_one]
  simp only [Array.toList_map, Array.toList_range]
  refine List.ext_getElem (by simp [intsV]) fun j h1 h2 => ?_
  simp [intsV, Value.cells, Nat.mod_one]
theorem make_zeros (n : Nat) (hn : n ≤ 1000000) (W : World) : (Instr.makeSlice 24 (.int .i64 (n : Int)) (.int .i64 (n : Int))).run Tryd.prog W = .ok (.slice (some ⟨W.heap.size, 0, none⟩) n n) (W.alloc (.cells (intsV (List.replicate n 0)).toArray 3)) := by
  obtain ⟨i0, hi, hz0, hz1, hz2⟩ := info_parts Tryd.info3
  have h := run_make (P := Tryd.prog) W 24 3 i0 (.int .i64 0) Tryd.underlying24 hi hz0 .i64 .i64 n n (by omega) (Int.le_refl _) (by rw [hz2]; omega) (by omega)
  rw [hz1, Int.toNat_natCast, made_zeros] at h
  exact h

theorem ints_cell {W : World} {g j : Nat} {l : List Nat} (h : W.heap[g]? = some (.cells (intsV l).toArray 3 (0, 0))) (hj : j < l.length) : W.cell? ⟨g, j, none⟩ = some (.int .i64 (l[j] : Nat)) ∧ W.frozen? ⟨g, j, none⟩ = false := by
  refine ⟨?_, ?_⟩
  · simp [World.cell?, h, intsV, hj]
  · simp [World.frozen?, h]
theorem ints_set {W : World} {g : Nat} {l : List Nat} (h : W.heap[g]? = some (.cells (intsV l).toArray 3 (0, 0))) (j x : Nat) : (W.setCell ⟨g, j, none⟩ (.int .i64 x)).heap[g]? = some (.cells (intsV (l.set j x)).toArray 3 (0, 0)) := by
  rw [heap_set_same h, List.setIfInBounds_toArray, intsV_set]
theorem IsB.setAt {W : World} {base b g t : Nat} {r : Option Nat} {l : List UInt8} {cs : Array Value} {fr : Nat × Nat} (h : IsB W base b r l) (hg : W.heap[g]? = some (.cells cs t fr)) (ht : t ≠ 5) (hgb : g ≠ b) (j : Nat) (u : Value) : IsB (W.setCell ⟨g, j, none⟩ u) base b r l := by
  have hap := h.apart hg ht hgb
  obtain ⟨hb, p, v, hbb, hp, hv, hown, hnil⟩ := h
  exact ⟨hb, p, v, (Below.heap_setCell _ _ _ _ (fun e => hgb e.symm)).trans hbb, hp, hv, ownsRow_setCell_other hown (fun e => hap (.inr (e.symm.trans hv))) u, hnil⟩

theorem IsB.alloc {W : World} {base b : Nat} {r : Option Nat} {l : List UInt8} (h : IsB W base b r l) (o : Obj) : IsB (W.alloc o) base b r l := by
  obtain ⟨hb, p, v, hbb, hp, hv, hown, hnil⟩ := h
  exact ⟨hb, p, v, (Below.heap_alloc _ _ _ (lt_of_heap hbb)).trans hbb, hp, hv, hown.alloc o, hnil⟩

def FillPost (list ts : List (List UInt8)) (ps : List Nat) (w : World) (e : Ending) (w' : World) : Prop :=
  ∃ a, e = .returned (.tuple #[strV (Br.fill list ts ps [] (List.replicate list.length 0)).1, .slice a list.length list.length]) ∧ Nats w' a (Br.fill list ts ps [] (List.replicate list.length 0)).2 ∧ Below w.heap.size w w'

set_option maxRecDepth 100000 in
set_option maxHeartbeats 2000000 in
theorem fill_any (ta pa la : Option Addr) (tc pc lc : Nat) (list ts : List (List UInt8)) (ps : List Nat) (w : World) (ht : Strs w ta ts) (hp : Nats w pa ps) (hl : Strs w la list)
    (hsz : (Br.fill list ts ps [] (List.replicate list.length 0)).1.length ≤ 1000000) (htl : ts.length ≤ 1000000) (hpl : ps.length ≤ 1000000) (hll : list.length ≤ 1000000) :
    Calls Tryd.prog 12 #[.agg #[.slice ta ts.length tc, .slice pa ps.length pc], .slice la list.length lc] w (FillPost list ts ps w) := by
  have HT := Lib.hid ht
  have HP := Lib.hid hp
  have HLi := Lib.hid hl
  obtain ⟨n, hn⟩ : ∃ n, list.length = n := ⟨_, rfl⟩
  have hmk := make_zeros n (by omega)
  obtain ⟨F, hF⟩ : ∃ F, Br.fill list ts ps [] (List.replicate list.length 0) = F := ⟨_, rfl⟩
  have HF := Lib.hid hF
  have Hsz := Lib.hid hsz
  rw [hn] at hll ⊢
  have Hn := Lib.hid hn
  clear ht hp hl hsz hF hn
  go_enter Tryd.func12, Tryd.ntmps12
  go_wp2
  go_loopg [8, 9, 16] ts.length (fun gk a b v wr => ∃ (i : Nat) (acc : List UInt8) (at_ : List Nat) (r : Option Nat), v = .int .i64 i ∧ Hid (i + gk = ts.length) ∧ i ≤ ts.length ∧ Hid (Br.fill list (ts.drop i) (ps.drop i) acc at_ = F) ∧ Hid (IsB wr (w.heap.size + 1) (w.heap.size + 1) r acc) ∧
      Hid (wr.heap[w.heap.size]? = some (.cells #[.slice ta ts.length tc, .slice pa ps.length pc] 29 (0, 0))) ∧ Hid (wr.heap[w.heap.size + 1 + 1]? = some (.cells (intsV at_).toArray 3 (0, 0))) ∧ Hid (at_.length = n) ∧ Hid (Below w.heap.size w wr))
  case atStart =>
    refine ⟨0, [], List.replicate n 0, none, rfl, Lib.hid (by omega), by omega, Lib.hid (by rw [← Hn.out]; exact HF.out), Lib.hid ?_, Lib.hid ?_, Lib.hid ?_, Lib.hid (by simp), Lib.hid ?_⟩
    · have h := (isB_new (w.alloc (.cells #[.slice ta ts.length tc, .slice pa ps.length pc] 29)))
      simp only [World.alloc, Array.size_push] at h
      exact h.alloc _
    · rw [Below.heap_alloc _ _ _ (by simp; omega), Below.heap_alloc _ _ _ (by simp)]; exact heap_alloc_new w _
    · have h := heap_alloc_new ((w.alloc (.cells #[.slice ta ts.length tc, .slice pa ps.length pc] 29)).alloc (.cells #[.pointer none, .slice none 0 0] 43)) (.cells (intsV (List.replicate n 0)).toArray 3)
      simpa using h
    · exact (((Below.refl _ _).alloc (Nat.le_refl _) _).alloc (by simp) _).alloc (by simp; omega) _
  case round =>
    obtain ⟨i, acc, at_, r, rfl, hig, hil, hd, hB, hbx, hat, hal, hbr⟩ := hrel
    by_cases hi : i < ts.length
    · obtain ⟨tb, tf, rfl, htlt, htc⟩ := HT.out i hi
      have ht2 : wr.cell? ⟨tb, tf + i, none⟩ = some (strV ts[i]) := (hbr.out.cell (p := ⟨tb, tf + i, none⟩) htlt).trans htc
      obtain ⟨hb0, hb1, hb2, hb3⟩ := two2 hbx.out
      unfold strV at ht2
      have hlen : acc.length + ts[i].length ≤ 1000000 := by
        have h := Br.fill_len2 (list := list) (ts := ts) (ps := ps) (acc := acc) (at_ := at_) hi
        rw [hd.out] at h
        have h3 := Hsz.out
        rw [HF.out] at h3
        omega
      clear htc
      by_cases hip : i < ps.length
      · obtain ⟨pb, pf, rfl, hplt, hpc⟩ := HP.out i hip
        go_wp2_with fail
        refine (bWrite_any (w.heap.size + 1) (w.heap.size + 1) r acc ⟨ts[i].toArray⟩ wr hB.out hB.out.ge.1 (by show acc.length + ts[i].toArray.size ≤ _; simp; omega)).mono ?_
        rintro e w1 ⟨rfl, r1, hB1, hK1, hN1⟩
        have HB1 := Lib.hid hB1
        have hbk := hB.out.keeps hK1
        have Hbx1 := Lib.hid ((hbk.block w.heap.size (by omega)).trans hbx.out)
        have Hat1 := Lib.hid (hK1.heap hat.out (hB.out.apart hat.out (by decide) (by omega)))
        have Hbr1 := Lib.hid (hbr.out.trans (hbk.mono (by omega)))
        have hp2 : w1.cell? ⟨pb, pf + i, none⟩ = some (.int .i64 (ps[i] : Nat)) := (Hbr1.out.cell (p := ⟨pb, pf + i, none⟩) hplt).trans hpc
        obtain ⟨hb0, hb1, hb2, hb3⟩ := two2 Hbx1.out
        have Hpc := Lib.hid hpc
        clear hB1 hK1 hbk hpc
        obtain ⟨pk, hpe⟩ : ∃ pk, ps[i] = pk := ⟨_, rfl⟩
        rw [hpe] at hp2
        by_cases hpn : pk < list.length
        · have H : Hid (Br.fill list (ts.drop i) (ps.drop i) acc at_ = Br.fill list (ts.drop (i + 1)) (ps.drop (i + 1)) (acc ++ ts[i] ++ list[pk]) (at_.set pk (acc ++ ts[i]).length)) := Lib.hid (by
            rw [Br.fill_step_in hi hip (by rw [hpe]; exact hpn)]
            simp only [hpe])
          obtain ⟨lb, lf, rfl, hllt, hlcell⟩ := HLi.out pk hpn
          have Hlc := Lib.hid hlcell
          have hpn2 : pk < n := by have := Hn.out; omega
          have Hpe := Lib.hid hpe
          clear hlcell hpe
          go_wp2_with fail
          refine kBegin (fun w' => w' = w1.drew) [8] (by kernel_rfl) ?_
          change wpAnyK _ _ _ _ _ _ _ _ _ w1.drew
          refine kPure 0 38 (v := ?v0) rfl rfl (by kernel_rfl) (by kernel_rfl) (by kernel_rfl) (fun _ _ _ h => h) (by kernel_rfl) ?h0 ?r0
          case h0 => (intro w; go_simp <;> with_reducible rfl)
          simp only [List.setIfInBounds_toArray, List.set_cons_zero, List.set_cons_succ]
          refine kPure 1 39 (v := ?v1) rfl rfl (by kernel_rfl) (by kernel_rfl) (by kernel_rfl) (fun _ _ _ h => h) (by kernel_rfl) ?h1 ?r1
          case h1 => (intro w; go_simp <;> with_reducible rfl)
          simp only [List.setIfInBounds_toArray, List.set_cons_zero, List.set_cons_succ]
          refine kLoad 2 40 [8, 4, 5, 7] (v := ?v2) rfl rfl (by kernel_rfl) (by kernel_rfl) (by kernel_rfl) (by kernel_rfl) (fun _ _ _ h => h) (by kernel_rfl) ?h2 rfl ?r2
          case h2 => (intro w hSw; (try dsimp only at hSw); subst hSw; go_simp <;> with_reducible rfl)
          simp only [List.setIfInBounds_toArray, List.set_cons_zero, List.set_cons_succ]
          refine kPure 3 41 (v := ?v3) rfl rfl (by kernel_rfl) (by kernel_rfl) (by kernel_rfl) (fun _ _ _ h => h) (by kernel_rfl) ?h3 ?r3
          case h3 => (intro w; go_simp <;> with_reducible rfl)
          simp only [List.setIfInBounds_toArray, List.set_cons_zero, List.set_cons_succ]
          refine kPure 4 42 (v := ?v4) rfl rfl (by kernel_rfl) (by kernel_rfl) (by kernel_rfl) (fun _ _ _ h => h) (by kernel_rfl) ?h4 ?r4
          case h4 => (intro w; go_simp <;> with_reducible rfl)
          simp only [List.setIfInBounds_toArray, List.set_cons_zero, List.set_cons_succ]
          refine kLoad 5 43 [8, 7] (v := ?v5) rfl rfl (by kernel_rfl) (by kernel_rfl) (by kernel_rfl) (by kernel_rfl) (fun _ _ _ h => h) (by kernel_rfl) ?h5 rfl ?r5
          case h5 => (intro w hSw; (try dsimp only at hSw); subst hSw; go_simp <;> with_reducible rfl)
          simp only [List.setIfInBounds_toArray, List.set_cons_zero, List.set_cons_succ]
          refine kAll (rs := [6]) (by kernel_rfl) (by simp) (kCons rfl (by kernel_rfl) (fun K hK => ?s6) kNil)
          case s6 =>
            go_simp
            refine (bLen_any (w.heap.size + 1) (w.heap.size + 1) r1 (acc ++ ts[i]) w1.drew (HB1.out.drew)).mono ?_
            rintro e w2 ⟨rfl, rfl⟩
            go_simp
            refine hK.out _ _ (fun _ h => h) ?_
            clear hK
            refine kPure 7 45 (v := ?v7) rfl rfl (by kernel_rfl) (by kernel_rfl) (by kernel_rfl) (fun _ _ _ h => h) (by kernel_rfl) ?h7 ?r7
            case h7 => (intro w; go_simp <;> with_reducible rfl)
            simp only [List.setIfInBounds_toArray, List.set_cons_zero, List.set_cons_succ]
            refine kAll (rs := [8]) (by kernel_rfl) (by simp) (kCons rfl (by kernel_rfl) (fun K hK => ?s8) kNil)
            case s8 =>
              obtain ⟨ac, af⟩ := ints_cell (j := pk) Hat1.out (by have := hal.out; omega)
              go_simp
              refine hK.out _ _ (fun h => absurd h (by decide)) ?_
              clear hK
              refine kDone (by kernel_rfl) ?_ _
              clear ac af
              obtain ⟨w2, hw2, HB2, HS, HBx, HBr⟩ : ∃ w2, (w1.setCell ⟨w.heap.size + 1 + 1, pk, none⟩ (.int .i64 ((acc.length : Int) + (ts[i].length : Int)))).drew = w2 ∧ Hid (IsB w2 (w.heap.size + 1) (w.heap.size + 1) r1 (acc ++ ts[i])) ∧ Hid (w2.heap[w.heap.size + 1 + 1]? = some (.cells (intsV (at_.set pk (acc ++ ts[i]).length)).toArray 3 (0, 0))) ∧ Hid (w2.heap[w.heap.size]? = some (.cells #[.slice (some ⟨tb, tf, none⟩) ts.length tc, .slice (some ⟨pb, pf, none⟩) ps.length pc] 29 (0, 0))) ∧ Hid (Below w.heap.size w w2) := by
                refine ⟨_, rfl, ?_⟩
                rw [show (acc.length : Int) + (ts[i].length : Int) = (((acc ++ ts[i]).length : Nat) : Int) by rw [List.length_append]; omega]
                exact ⟨Lib.hid (HB1.out.setAt Hat1.out (by decide) (by omega) pk (.int .i64 (acc ++ ts[i]).length)).drew, Lib.hid (ints_set Hat1.out pk (acc ++ ts[i]).length), Lib.hid ((Below.heap_setCell w1 ⟨w.heap.size + 1 + 1, pk, none⟩ (.int .i64 (acc ++ ts[i]).length) w.heap.size (by simp; omega)).trans Hbx1.out), Lib.hid (Hbr1.out.setCell (p := ⟨w.heap.size + 1 + 1, pk, none⟩) (by simp; omega) (.int .i64 (acc ++ ts[i]).length)).drew⟩
              rw [hw2]
              clear hw2
              have hp3 : w2.cell? ⟨pb, pf + i, none⟩ = some (.int .i64 (pk : Nat)) := by
                have h := (HBr.out.cell (p := ⟨pb, pf + i, none⟩) hplt).trans Hpc.out
                rw [Hpe.out] at h; exact h
              have hl3 : w2.cell? ⟨lb, lf + pk, none⟩ = some (.string ⟨list[pk].toArray⟩) := (HBr.out.cell (p := ⟨lb, lf + pk, none⟩) hllt).trans Hlc.out
              clear hb0 hb1 hb2 hb3 hp2
              obtain ⟨hb0, hb1, hb2, hb3⟩ := two2 HBx.out
              have hlen3 : acc.length + ts[i].length + list[pk].length ≤ 1000000 := by
                have h := Br.fill_len (list := list) (ts.drop (i + 1)) (ps.drop (i + 1)) (acc ++ ts[i] ++ list[pk]) (at_.set pk (acc ++ ts[i]).length)
                have h2 := hd.out
                rw [H.out] at h2
                rw [h2] at h
                have h3 := Hsz.out
                rw [HF.out] at h3
                rw [List.length_append, List.length_append] at h
                omega
              go_wp2_with fail
              refine (bWrite_any (w.heap.size + 1) (w.heap.size + 1) r1 (acc ++ ts[i]) ⟨list[pk].toArray⟩ w2 HB2.out HB2.out.ge.1 (by rw [List.length_append]; show _ + list[pk].toArray.size ≤ _; simp; omega)).mono ?_
              rintro e w3 ⟨rfl, r3, hB3, hK3, hN3⟩
              have HB3 := Lib.hid hB3
              have HK3 := Lib.hid hK3
              have hbk3 := Lib.hid (HB2.out.keeps hK3)
              clear hB3 hK3
              go_wp2_with fail
              go_roundg (gk - 1)
              case measure => have := hig.out; omega
              case rel =>
                refine ⟨i + 1, acc ++ ts[i] ++ list[pk], at_.set pk (acc ++ ts[i]).length, r3, rfl, Lib.hid (by have := hig.out; omega), by omega, Lib.hid (by rw [← H.out]; exact hd.out), HB3, Lib.hid ((hbk3.out.block w.heap.size (by omega)).trans HBx.out), Lib.hid (HK3.out.heap HS.out (HB2.out.apart HS.out (by decide) (by omega))), Lib.hid (by rw [List.length_set]; exact hal.out), Lib.hid (HBr.out.trans (hbk3.out.mono (by omega)))⟩
        · have H : Hid (Br.fill list (ts.drop i) (ps.drop i) acc at_ = Br.fill list (ts.drop (i + 1)) (ps.drop (i + 1)) (acc ++ ts[i]) at_) := Lib.hid (by
            rw [Br.fill_step_out hi hip (by rw [hpe]; omega)])
          have hpn2 : ¬ pk < n := by have := Hn.out; omega
          have Hpe := Lib.hid hpe
          clear hpe hpn
          go_wp2_with fail
          go_roundg (gk - 1)
          case measure => have := hig.out; omega
          case rel =>
            exact ⟨i + 1, acc ++ ts[i], at_, r1, rfl, Lib.hid (by have := hig.out; omega), by omega, Lib.hid (by rw [← H.out]; exact hd.out), HB1, Hbx1, Hat1, hal, Hbr1⟩
      · have H : Hid (Br.fill list (ts.drop i) (ps.drop i) acc at_ = Br.fill list (ts.drop (i + 1)) (ps.drop (i + 1)) (acc ++ ts[i]) at_) := Lib.hid (by
          rw [Br.fill_step_n hi (by omega)])
        go_wp2_with fail
        refine (bWrite_any (w.heap.size + 1) (w.heap.size + 1) r acc ⟨ts[i].toArray⟩ wr hB.out hB.out.ge.1 (by show acc.length + ts[i].toArray.size ≤ _; simp; omega)).mono ?_
        rintro e w1 ⟨rfl, r1, hB1, hK1, hN1⟩
        have HB1 := Lib.hid hB1
        have hbk := hB.out.keeps hK1
        have Hbx1 := Lib.hid ((hbk.block w.heap.size (by omega)).trans hbx.out)
        have Hat1 := Lib.hid (hK1.heap hat.out (hB.out.apart hat.out (by decide) (by omega)))
        have Hbr1 := Lib.hid (hbr.out.trans (hbk.mono (by omega)))
        obtain ⟨hb0, hb1, hb2, hb3⟩ := two2 Hbx1.out
        clear hB1 hK1 hbk
        go_wp2_with fail
        go_roundg (gk - 1)
        case measure => have := hig.out; omega
        case rel =>
          exact ⟨i + 1, acc ++ ts[i], at_, r1, rfl, Lib.hid (by have := hig.out; omega), by omega, Lib.hid (by rw [← H.out]; exact hd.out), HB1, Hbx1, Hat1, hal, Hbr1⟩
    · obtain rfl : i = ts.length := by omega
      have hd2 : Hid ((acc, at_) = F) := Lib.hid (by rw [← hd.out, List.drop_length, Br.fill])
      go_wp2_with fail
      refine (bString_any (w.heap.size + 1) (w.heap.size + 1) r acc wr hB.out).mono ?_
      rintro e w1 ⟨rfl, hK1⟩
      have hK2 : Kept wr w1 (fun k => k = w.heap.size + 1 ∨ some k = r) := hK1.mono (fun k _ h => .inr h)
      have Hat1 := Lib.hid (hK2.heap hat.out (hB.out.apart hat.out (by decide) (by omega)))
      have Hbr1 := Lib.hid (hbr.out.trans ((hB.out.keeps hK2).mono (by omega)))
      clear hK1 hK2
      go_wp2_with fail
      refine bodyPost_ret (v := .tuple #[.string ⟨acc.toArray⟩, .slice (some ⟨w.heap.size + 1 + 1, 0, none⟩) n n]) (by simp [results, Tryd.results12, go_sem]) rfl ?_
      have hF2 := HF.out
      rw [← hd2.out] at hF2
      unfold FillPost
      rw [hF2, Hn.out]
      refine ⟨_, rfl, fun j hj => ⟨_, 0, rfl, lt_of_heap Hat1.out, ?_⟩, Hbr1.out⟩
      have h := (ints_cell (j := j) Hat1.out hj).1
      rw [Nat.zero_add]
      exact h
end Go.Proofs.YtikkakbemphdhaaDoor
