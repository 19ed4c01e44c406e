/- The walk of TableReads. -/
import Derived.Test.YtikkakbemphdhaaTg3
set_option linter.unusedSimpArgs false
set_option linter.unusedVariables false
namespace Go.Proofs.Ytikkakbemphdhaa
open Go.RowKit Go.Fl

/-- a whole struct is loaded by a guarded operation that is wanted. -/
theorem wpList_load_guard {P : Program} {ops : Array Oper} {rest : List Oper} {op : Oper} {a : Act} {w : World} {Q : Exit → Act → World → Prop} (hw : Region.wanted op (yielded ops a.tmps) = true) (ty : TypeId) (x : Operand) (ho : op.op = .load ty x)
    (b o : Nat) (hx : a.eval x = .pointer (some ⟨b, o, none⟩)) (cs : List Value) (d : TypeDesc) (hc : w.rangeAt b o cs)
    (hu : P.underlying ty = some d) (hd : d.isRow = true) (hi : (P.info? ty).map (·.size) = some cs.length)
    (h : wpList P ops Q rest (a.put op.dst (.agg cs.toArray)) w) : wpList P ops Q (op :: rest) a w :=
  wpList_step fun K hK => by simp only [hw, if_true]; exact wp_load_mid ty x ho b o hx cs d hc hu hd hi (hK _ _ h)

set_option maxRecDepth 100000 in
set_option maxHeartbeats 1600000 in
theorem treads_any (s : ByteArray) (w : World) (hs : s.size ≤ 9223372036854775807) : Calls Try.prog 7 #[.string s] w fun e w' => e = .returned (.bool true) ∧ Below w.heap.size w w' := by
  go_enter Try.func7, Try.ntmps7
  go_wp2_with fail
  refine (thead_any _).mono ?_
  rintro e w1 ⟨rfl, hb1⟩
  have HB1 := Lib.hid hb1
  clear hb1
  by_cases hlong : 3000 < s.size
  · go_wp2
    go_ret
    exact ⟨rfl, HB1.out⟩
  go_wp2_with fail
  refine (decode_any s _ (by omega)).mono ?_
  rintro e w2 ⟨t, v1, v2, v3, v4, v5, v6, c, rfl, hTb, hb2, hcase⟩
  have HTb := Lib.hid hTb
  have HB2 := Lib.hid (HB1.out.trans (hb2.mono HB1.out.size))
  obtain ⟨a1, c1, rfl⟩ := hTb.short.len
  obtain ⟨a2, c2, rfl⟩ := hTb.long.len
  obtain ⟨a3, c3, rfl⟩ := hTb.mshort.len
  obtain ⟨a4, c4, rfl⟩ := hTb.curs.len
  obtain ⟨a5, c5, rfl⟩ := hTb.units.len
  obtain ⟨a6, c6, rfl⟩ := hTb.munit.len
  have HCASE : Hid ((c = 0 ∧ t.fit ∧ eTb t = s.data.toList) ∨ (c = 1 ∧ t = tb0)) := by
    refine Lib.hid ?_
    rcases hcase with h | h | h
    · omega
    · obtain ⟨h1, h2, h3, h4⟩ := h
      obtain ⟨q1, q2, q3⟩ := dec_fit h1 h2
      rw [h3]
      exact .inl ⟨h4, q1, q3⟩
    · exact .inr ⟨h.2.2.2, h.2.2.1⟩
  have HZ : Hid (IsTb (w2.alloc (.cells zTb 55)) w2.heap.size (fun _ => noB) 0 nilV nilV nilV nilV nilV nilV) := Lib.hid (heap_alloc_new w2 _)
  clear hTb hb2 hcase
  unfold tbV
  go_upto_region 6 with ((with_reducible show wpList _ _ _ (Oper.mk none (Op.store 55 _ _) _ _ _ _ :: _) _ _); refine wpList_store_mid rfl 55 _ _ rfl w2.heap.size 0 (tbC t.s t.grp (.slice a1 t.short.length c1) (.slice a2 t.long.length c2) (.slice a3 t.mshort.length c3) (.slice a4 t.curs.length c4) (.slice a5 t.units.length c5) (.slice a6 t.munit.length c6)) rfl rfl HZ.out.there size55 (tbC_one _ _ _ _ _ _ _ _ _ _ _ _ _ _ _ _ _ _ _ _) ?_)
  have HKS := Lib.hid (put_kept w2 (tbC t.s t.grp (.slice a1 t.short.length c1) (.slice a2 t.long.length c2) (.slice a3 t.mshort.length c3) (.slice a4 t.curs.length c4) (.slice a5 t.units.length c5) (.slice a6 t.munit.length c6)))
  have HP := Lib.hid (HZ.out.put (tbC t.s t.grp (.slice a1 t.short.length c1) (.slice a2 t.long.length c2) (.slice a3 t.mshort.length c3) (.slice a4 t.curs.length c4) (.slice a5 t.units.length c5) (.slice a6 t.munit.length c6)) rfl)
  have hlt2 : w.heap.size ≤ w2.heap.size := HB2.out.size
  obtain ⟨gt, hgt⟩ : ∃ g, w2.heap.size = g := ⟨_, rfl⟩
  have HBS := Lib.hid (HB2.out.trans (HKS.out.below HB2.out.size (fun k hk e => by omega)))
  have HTS := Lib.hid ((HTb.out.mono (P' := fun b => b < w2.heap.size) (fun b hb _ => hb)).same (Same.of_kept HKS.out (fun b hb e => by omega)))
  refine wp_name (fun W => IsTb W w2.heap.size t.s t.grp (.slice a1 t.short.length c1) (.slice a2 t.long.length c2) (.slice a3 t.mshort.length c3) (.slice a4 t.curs.length c4) (.slice a5 t.units.length c5) (.slice a6 t.munit.length c6) ∧ TbS (fun b => b < w2.heap.size) W t (.slice a1 t.short.length c1) (.slice a2 t.long.length c2) (.slice a3 t.mshort.length c3) (.slice a4 t.curs.length c4) (.slice a5 t.units.length c5) (.slice a6 t.munit.length c6) ∧ Below w.heap.size w W) ⟨HP.out, HTS.out, HBS.out⟩ (fun W1 hW1 => ?_)
  rw [hgt] at hW1 ⊢
  have HW1 := Lib.hid hW1
  have hgW : gt < W1.heap.size := lt_of_heap hW1.1
  have HR : Hid (W1.rangeAt gt 0 (tbC t.s t.grp (.slice a1 t.short.length c1) (.slice a2 t.long.length c2) (.slice a3 t.mshort.length c3) (.slice a4 t.curs.length c4) (.slice a5 t.units.length c5) (.slice a6 t.munit.length c6)).toList) := Lib.hid hW1.1.range
  clear HKS HP HBS HTS HZ HTb HB2 hgt hlt2 hW1
  rcases HCASE.out with ⟨rfl, hfit, henc⟩ | ⟨rfl, ht0⟩
  · have HF := Lib.hid hfit
    have HEn := Lib.hid henc
    clear hfit henc HCASE
    go_upto_region 8 with fail
    go_wp2_with ((with_reducible show wpList _ _ _ (Oper.mk (some _) (Op.load 55 _) _ _ _ _ :: _) _ _); refine wpList_load_mid rfl 55 _ rfl gt 0 rfl (tbC t.s t.grp (.slice a1 t.short.length c1) (.slice a2 t.long.length c2) (.slice a3 t.mshort.length c3) (.slice a4 t.curs.length c4) (.slice a5 t.units.length c5) (.slice a6 t.munit.length c6)).toList _ HR.out Try.underlying55 rfl size55 ?_)
    refine (encode_any (fun b => b < gt) t (.slice a1 t.short.length c1) (.slice a2 t.long.length c2) (.slice a3 t.mshort.length c3) (.slice a4 t.curs.length c4) (.slice a5 t.units.length c5) (.slice a6 t.munit.length c6) _ HW1.out.2.1 (fun b hb => by omega) HF.out (by rw [HEn.out, toList_size]; omega)).mono ?_
    rintro e w5 ⟨S, rfl, hS, hSz, hb5⟩
    have HE : (S.toList == s.toList) = true := by
      rw [beq_iff_eq, Lib.toList_data, Lib.toList_data, hS.out, HEn.out]
    have HB5 := Lib.hid (HW1.out.2.2.trans (hb5.mono HW1.out.2.2.size))
    clear hb5
    go_wp2
    go_ret
    exact ⟨rfl, HB5.out⟩
  · have HF : Hid t.fit := by rw [ht0]; exact Lib.hid tb0_fit
    have HE : Hid (TbEq t tb0) := by rw [ht0]; exact Lib.hid (tbEq_refl _)
    clear ht0 HCASE
    go_upto_region 7 with fail
    go_wp2_with ((with_reducible show wpList _ _ _ (Oper.mk (some _) (Op.load 55 _) _ _ _ _ :: _) _ _); refine wpList_load_guard (by kernel_rfl) 55 _ rfl gt 0 rfl (tbC t.s t.grp (.slice a1 t.short.length c1) (.slice a2 t.long.length c2) (.slice a3 t.mshort.length c3) (.slice a4 t.curs.length c4) (.slice a5 t.units.length c5) (.slice a6 t.munit.length c6)).toList _ HR.out Try.underlying55 rfl size55 ?_)
    refine (same_any (fun b => b < gt) t tb0 (.slice a1 t.short.length c1) (.slice a2 t.long.length c2) (.slice a3 t.mshort.length c3) (.slice a4 t.curs.length c4) (.slice a5 t.units.length c5) (.slice a6 t.munit.length c6) nilV nilV nilV nilV nilV nilV _ HW1.out.2.1 (tbS0 _ _) HF.out tb0_fit).mono ?_
    rintro e w5 ⟨b5, rfl, hbe, hb5⟩
    obtain rfl : b5 = true := hbe.out.2 HE.out
    have HB5 := Lib.hid (HW1.out.2.2.trans (hb5.mono HW1.out.2.2.size))
    clear hbe hb5
    go_wp2
    go_ret
    exact ⟨rfl, HB5.out⟩
end Go.Proofs.Ytikkakbemphdhaa
