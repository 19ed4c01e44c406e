/- The walk of TableBack. -/
import Derived.Test.YtikkakbemphdhaaTh1
import Derived.Test.YtikkakbemphdhaaTk0
set_option linter.unusedSimpArgs false
set_option linter.unusedVariables false
namespace Go.Proofs.Ytikkakbemphdhaa
open Go.RowKit Go.Fl

theorem and20 (k : Int) : ∃ c : Nat, bits .and .i64 k 1048575 = (c : Int) ∧ c < 1048576 := by
  have h : (BitVec.ofInt 64 k &&& BitVec.ofInt 64 ((1048575 : Nat) : Int)).toNat < 1048576 := by
    rw [BitVec.toNat_and, ofInt_i64' 1048575 (by omega)]
    exact Nat.lt_of_le_of_lt Nat.and_le_right (by omega)
  refine ⟨(BitVec.ofInt 64 k &&& BitVec.ofInt 64 ((1048575 : Nat) : Int)).toNat, ?_, h⟩
  show IntKind.i64.wrap ((BitVec.ofInt 64 k &&& BitVec.ofInt 64 ((1048575 : Nat) : Int)).toNat : Int) = _
  rw [IntKind.wrap_i64]
  omega

/-- what TableBack knows of a decoded table: it is the same as t, or it is none. -/
structure Laid (S : ByteArray) (t : Tb) : Prop where
  str : S.data.toList = eTb t
  good : t.good
theorem Laid.size {S : ByteArray} {t : Tb} (h : Laid S t) : S.size = (eTb t).length := by rw [← toList_size, h.str]
theorem Laid.read {S : ByteArray} {t : Tb} (h : Laid S t) : (rdTb S.data.toList (some 0)).2 = some S.size ∧ TbEq (rdTb S.data.toList (some 0)).1 t := by
  have h2 := tb_back t [] h.good
  rw [List.append_nil] at h2
  rw [h.size, h.str]
  exact h2
theorem Laid.cut {S T : ByteArray} {t : Tb} (h : Laid S t) {k : Nat} (hk : k < S.size) (hT : T.data.toList = S.data.toList.take k) : T.size = k ∧ ¬ (rdTb T.data.toList (some 0)).2 = some T.size := by
  have hz : T.size = k := by rw [← toList_size, hT, List.length_take, toList_size]; omega
  refine ⟨hz, ?_⟩
  rw [hz, hT, h.str]
  exact tb_cut t k h.good (by rw [← h.size]; exact hk)
theorem Laid.more {S T : ByteArray} {t : Tb} (h : Laid S t) (hT : T.data.toList = S.data.toList ++ [0]) : T.size = S.size + 1 ∧ ¬ (rdTb T.data.toList (some 0)).2 = some T.size := by
  have hz : T.size = S.size + 1 := by rw [← toList_size, hT, List.length_append, toList_size]; rfl
  refine ⟨hz, ?_⟩
  rw [hz, hT, h.str, (tb_back t [0] h.good).1, ← h.size]
  intro e
  injection e with e
  omega
theorem tbEq_symm {t u : Tb} (h : TbEq t u) : TbEq u t := ⟨fun i hi => (h.s i hi).symm, h.grp.symm, h.short.symm, h.long.symm, h.mshort.symm, h.curs.symm, h.units.symm, h.munit.symm⟩

set_option maxRecDepth 100000 in
set_option maxHeartbeats 4000000 in
theorem tback_any (t : Tb) (v1 v2 v3 v4 v5 v6 : Value) (cut : Int) (w : World) (hI : TbS (fun b => b < w.heap.size) w t v1 v2 v3 v4 v5 v6) (hf : t.fit) :
    Calls Try.prog 6 #[tbV t.s t.grp v1 v2 v3 v4 v5 v6, .int .i64 cut] w fun e w' => e = .returned (.bool true) ∧ Below w.heap.size w w' := by
  have HI := Lib.hid hI
  have HF := Lib.hid hf
  obtain ⟨a1, c1, rfl⟩ := hI.short.len
  obtain ⟨a2, c2, rfl⟩ := hI.long.len
  obtain ⟨a3, c3, rfl⟩ := hI.mshort.len
  obtain ⟨a4, c4, rfl⟩ := hI.curs.len
  obtain ⟨a5, c5, rfl⟩ := hI.units.len
  obtain ⟨a6, c6, rfl⟩ := hI.munit.len
  clear hI hf
  unfold tbV
  go_enter Try.func6, Try.ntmps6
  go_wp2_with fail
  refine (thead_any _).mono ?_
  rintro e w1 ⟨rfl, hb1⟩
  have HT1 : Hid (IsTb w1 w.heap.size t.s t.grp (.slice a1 t.short.length c1) (.slice a2 t.long.length c2) (.slice a3 t.mshort.length c3) (.slice a4 t.curs.length c4) (.slice a5 t.units.length c5) (.slice a6 t.munit.length c6)) := Lib.hid (heapC hb1 (heap_alloc_new w _))
  have HB1 : Hid (Below w.heap.size w w1) := Lib.hid (((Below.refl _ _).alloc (Nat.le_refl _) _).trans (hb1.mono (by simp)))
  clear hb1
  go_wp2_with ((with_reducible show wpList _ _ _ (Oper.mk (some _) (Op.load 55 _) _ _ _ _ :: _) _ _); refine wpList_load_mid rfl 55 _ rfl w.heap.size 0 rfl (tbC t.s t.grp (.slice a1 t.short.length c1) (.slice a2 t.long.length c2) (.slice a3 t.mshort.length c3) (.slice a4 t.curs.length c4) (.slice a5 t.units.length c5) (.slice a6 t.munit.length c6)).toList _ HT1.out.range Try.underlying55 rfl size55 ?_)
  refine (plain_any (fun b => b < w.heap.size) t (.slice a1 t.short.length c1) (.slice a2 t.long.length c2) (.slice a3 t.mshort.length c3) (.slice a4 t.curs.length c4) (.slice a5 t.units.length c5) (.slice a6 t.munit.length c6) _ (HI.out.same (Same.below HB1.out)) HF.out).mono ?_
  rintro e w2 ⟨ok, rfl, hok, hb2⟩
  have HT2 : Hid (IsTb w2 w.heap.size t.s t.grp (.slice a1 t.short.length c1) (.slice a2 t.long.length c2) (.slice a3 t.mshort.length c3) (.slice a4 t.curs.length c4) (.slice a5 t.units.length c5) (.slice a6 t.munit.length c6)) := Lib.hid (heapC hb2 HT1.out)
  have HB2 := Lib.hid (HB1.out.trans (hb2.mono HB1.out.size))
  clear hb2 HT1
  cases ok with
  | false =>
    go_wp2
    go_ret
    exact ⟨rfl, HB2.out⟩
  | true =>
    obtain ⟨hgood, hlen⟩ := ok_tb (hok rfl) HF.out
    have HGood := Lib.hid hgood
    have HLen := Lib.hid hlen
    clear hok hgood hlen
    go_wp2_with ((with_reducible show wpList _ _ _ (Oper.mk (some _) (Op.load 55 _) _ _ _ _ :: _) _ _); refine wpList_load_mid rfl 55 _ rfl w.heap.size 0 rfl (tbC t.s t.grp (.slice a1 t.short.length c1) (.slice a2 t.long.length c2) (.slice a3 t.mshort.length c3) (.slice a4 t.curs.length c4) (.slice a5 t.units.length c5) (.slice a6 t.munit.length c6)).toList _ HT2.out.range Try.underlying55 rfl size55 ?_)
    refine (encode_any (fun b => b < w.heap.size) t (.slice a1 t.short.length c1) (.slice a2 t.long.length c2) (.slice a3 t.mshort.length c3) (.slice a4 t.curs.length c4) (.slice a5 t.units.length c5) (.slice a6 t.munit.length c6) _ (HI.out.same (Same.below HB2.out)) (fun b hb => Nat.lt_of_lt_of_le hb HB2.out.size) HF.out (by have := HLen.out; omega)).mono ?_
    rintro e w3 ⟨S, rfl, hS, hSz, hb3⟩
    have HL := Laid.mk hS.out HGood.out
    have hSs : S.size ≤ 2000000 := by rw [HL.size]; exact HLen.out
    have hS0 : 0 < S.size := by rw [HL.size]; exact eTb_pos t
    have HT3 : Hid (IsTb w3 w.heap.size t.s t.grp (.slice a1 t.short.length c1) (.slice a2 t.long.length c2) (.slice a3 t.mshort.length c3) (.slice a4 t.curs.length c4) (.slice a5 t.units.length c5) (.slice a6 t.munit.length c6)) := Lib.hid (heapC hb3 HT2.out)
    have HB3 := Lib.hid (HB2.out.trans (hb3.mono HB2.out.size))
    clear hb3 HT2 hSz
    go_wp2_with ((with_reducible show wpList _ _ _ (Oper.mk (some _) (Op.load 55 _) _ _ _ _ :: _) _ _); refine wpList_load_mid rfl 55 _ rfl w.heap.size 0 rfl (tbC t.s t.grp (.slice a1 t.short.length c1) (.slice a2 t.long.length c2) (.slice a3 t.mshort.length c3) (.slice a4 t.curs.length c4) (.slice a5 t.units.length c5) (.slice a6 t.munit.length c6)).toList _ HT3.out.range Try.underlying55 rfl size55 ?_)
    refine (bytes_any (fun b => b < w.heap.size) t (.slice a1 t.short.length c1) (.slice a2 t.long.length c2) (.slice a3 t.mshort.length c3) (.slice a4 t.curs.length c4) (.slice a5 t.units.length c5) (.slice a6 t.munit.length c6) _ (HI.out.same (Same.below HB3.out)) HF.out (by have := HLen.out; omega)).mono ?_
    rintro e w4 ⟨S2, rfl, hS2, hSz2, hb4⟩
    have hne : (S.toList == S2.toList) = true := by rw [beq_iff_eq, Lib.toList_data, Lib.toList_data, hS.out, hS2.out]
    have hne2 : (S.toList != S2.toList) = false := by rw [bne, hne]; rfl
    have HT4 : Hid (IsTb w4 w.heap.size t.s t.grp (.slice a1 t.short.length c1) (.slice a2 t.long.length c2) (.slice a3 t.mshort.length c3) (.slice a4 t.curs.length c4) (.slice a5 t.units.length c5) (.slice a6 t.munit.length c6)) := Lib.hid (heapC hb4 HT3.out)
    have HB4 := Lib.hid (HB3.out.trans (hb4.mono HB3.out.size))
    clear hb4 HT3 hS2 hSz2 hS
    go_wp2_with fail
    refine (decode_any S _ (by omega)).mono ?_
    rintro e wd1 ⟨u1, y1, y2, y3, y4, y5, y6, e1, rfl, hTb, hbx, hcase⟩
    have HBd1 := Lib.hid (HB4.out.trans (hbx.mono HB4.out.size))
    have HU10 := Lib.hid hTb
    obtain ⟨x11, z11, rfl⟩ := hTb.short.len
    obtain ⟨x12, z12, rfl⟩ := hTb.long.len
    obtain ⟨x13, z13, rfl⟩ := hTb.mshort.len
    obtain ⟨x14, z14, rfl⟩ := hTb.curs.len
    obtain ⟨x15, z15, rfl⟩ := hTb.units.len
    obtain ⟨x16, z16, rfl⟩ := hTb.munit.len
    have HC1 : Hid ((65536 < S.size ∧ u1 = tb0 ∧ e1 = 4) ∨ (S.size ≤ 65536 ∧ TbEq u1 t ∧ u1.fit ∧ e1 = 0)) := by
      refine Lib.hid ?_
      rcases hcase with h | h | h
      · exact .inl h
      · exact .inr ⟨h.1, by rw [h.2.2.1]; exact HL.read.2, by rw [h.2.2.1]; exact (dec_fit h.1 h.2.1).1, h.2.2.2⟩
      · exact absurd HL.read.1 h.2.1
    have HT4d1 : Hid (IsTb wd1 w.heap.size t.s t.grp (.slice a1 t.short.length c1) (.slice a2 t.long.length c2) (.slice a3 t.mshort.length c3) (.slice a4 t.curs.length c4) (.slice a5 t.units.length c5) (.slice a6 t.munit.length c6)) := Lib.hid (heapC hbx HT4.out)
    have HZ1 : Hid (IsTb (wd1.alloc (.cells zTb 55)) wd1.heap.size (fun _ => noB) 0 nilV nilV nilV nilV nilV nilV) := Lib.hid (heap_alloc_new wd1 _)
    clear hTb hcase hbx
    unfold tbV
    go_upto_region 9 with ((with_reducible show wpList _ _ _ (Oper.mk none (Op.store 55 _ _) _ _ _ _ :: _) _ _); refine wpList_store_mid rfl 55 _ _ rfl wd1.heap.size 0 (tbC u1.s u1.grp (.slice x11 u1.short.length z11) (.slice x12 u1.long.length z12) (.slice x13 u1.mshort.length z13) (.slice x14 u1.curs.length z14) (.slice x15 u1.units.length z15) (.slice x16 u1.munit.length z16)) rfl rfl HZ1.out.there size55 (tbC_one _ _ _ _ _ _ _ _ _ _ _ _ _ _ _ _ _ _ _ _) ?_)
    have HKS1 := Lib.hid (put_kept wd1 (tbC u1.s u1.grp (.slice x11 u1.short.length z11) (.slice x12 u1.long.length z12) (.slice x13 u1.mshort.length z13) (.slice x14 u1.curs.length z14) (.slice x15 u1.units.length z15) (.slice x16 u1.munit.length z16)))
    have HP1 := Lib.hid (HZ1.out.put (tbC u1.s u1.grp (.slice x11 u1.short.length z11) (.slice x12 u1.long.length z12) (.slice x13 u1.mshort.length z13) (.slice x14 u1.curs.length z14) (.slice x15 u1.units.length z15) (.slice x16 u1.munit.length z16)) rfl)
    obtain ⟨g1, hg1⟩ : ∃ g, wd1.heap.size = g := ⟨_, rfl⟩
    have HTS1 := Lib.hid ((HU10.out.mono (P' := fun b => b < wd1.heap.size) (fun b hb _ => hb)).same (Same.of_kept HKS1.out (fun b hb e => by omega)))
    refine wp_name (fun W => IsTb W w.heap.size t.s t.grp (.slice a1 t.short.length c1) (.slice a2 t.long.length c2) (.slice a3 t.mshort.length c3) (.slice a4 t.curs.length c4) (.slice a5 t.units.length c5) (.slice a6 t.munit.length c6) ∧ IsTb W wd1.heap.size u1.s u1.grp (.slice x11 u1.short.length z11) (.slice x12 u1.long.length z12) (.slice x13 u1.mshort.length z13) (.slice x14 u1.curs.length z14) (.slice x15 u1.units.length z15) (.slice x16 u1.munit.length z16) ∧ TbS (fun b => b < wd1.heap.size) W u1 (.slice x11 u1.short.length z11) (.slice x12 u1.long.length z12) (.slice x13 u1.mshort.length z13) (.slice x14 u1.curs.length z14) (.slice x15 u1.units.length z15) (.slice x16 u1.munit.length z16) ∧ Below w.heap.size w W) ⟨HKS1.out.heap HT4d1.out (fun e => by have := lt_of_heap HT4d1.out; omega), HP1.out, HTS1.out, HBd1.out.trans (HKS1.out.below HBd1.out.size (fun k hk e => by have := HBd1.out.size; omega))⟩ (fun W1 hW => ?_)
    rw [hg1] at hW ⊢
    obtain ⟨q0, qu, qs, qb⟩ := hW
    have HT4n1 := Lib.hid q0
    have HTu1 := Lib.hid qu
    have HSu1 := Lib.hid qs
    have HBW1 := Lib.hid qb
    clear q0 qu qs qb HKS1 HP1 HZ1 HTS1 HU10 HBd1 hg1 HT4d1  
    rcases HC1.out with ⟨h65, hu, rfl⟩ | ⟨h65, hu, hfu, rfl⟩
    · have HE : Hid (TbEq u1 tb0) := by rw [hu]; exact Lib.hid (tbEq_refl _)
      have HFu : Hid u1.fit := by rw [hu]; exact Lib.hid tb0_fit
      clear hu HC1
      go_wp2_with ((with_reducible show wpList _ _ _ (Oper.mk (some _) (Op.load 55 _) _ _ _ _ :: _) _ _); refine wpList_load_guard (by kernel_rfl) 55 _ rfl g1 0 rfl (tbC u1.s u1.grp (.slice x11 u1.short.length z11) (.slice x12 u1.long.length z12) (.slice x13 u1.mshort.length z13) (.slice x14 u1.curs.length z14) (.slice x15 u1.units.length z15) (.slice x16 u1.munit.length z16)).toList _ HTu1.out.range Try.underlying55 rfl size55 ?_)
      refine (same_any (fun b => b < g1) u1 tb0 (.slice x11 u1.short.length z11) (.slice x12 u1.long.length z12) (.slice x13 u1.mshort.length z13) (.slice x14 u1.curs.length z14) (.slice x15 u1.units.length z15) (.slice x16 u1.munit.length z16) nilV nilV nilV nilV nilV nilV _ HSu1.out (tbS0 _ _) HFu.out tb0_fit).mono ?_
      rintro e w5 ⟨b5, rfl, hbe, hb5⟩
      obtain rfl : b5 = true := hbe.out.2 HE.out
      have HB5 := Lib.hid (HBW1.out.trans (hb5.mono HBW1.out.size))
      clear hbe hb5
      go_wp2
      go_ret
      exact ⟨rfl, HB5.out⟩
    · have HE := Lib.hid hu
      have HFu := Lib.hid hfu
      have h65' : ¬ 65536 < S.size := by omega
      clear hu hfu HC1
      obtain ⟨c0, hq, hc0⟩ := and20 cut
      obtain ⟨k, hk, hkS⟩ : ∃ k : Nat, ((c0 : Int) % (S.size : Int)) = (k : Int) ∧ k < S.size := ⟨c0 % S.size, by rw [Int.natCast_emod], Nat.mod_lt _ hS0⟩
      obtain ⟨T, hT, hTl, hTz⟩ : ∃ T : ByteArray, S.extract 0 k = T ∧ Hid (T.data.toList = S.data.toList.take k) ∧ T.size ≤ 65536 := by
        refine ⟨_, rfl, Lib.hid ?_, ?_⟩
        · rw [ByteArray.data_extract, Array.toList_extract, List.extract_eq_take_drop, List.drop_zero, Nat.sub_zero]
        · rw [ByteArray.size_extract]; omega
      have HCut := Lib.hid (HL.cut hkS hTl.out)
      go_wp2_with fail
      refine (decode_any T _ (by omega)).mono ?_
      rintro e wd2 ⟨u2, y1, y2, y3, y4, y5, y6, e2, rfl, hTb, hbx, hcase⟩
      have HBd2 := Lib.hid (HBW1.out.trans (hbx.mono HBW1.out.size))
      have HU20 := Lib.hid hTb
      obtain ⟨x21, z21, rfl⟩ := hTb.short.len
      obtain ⟨x22, z22, rfl⟩ := hTb.long.len
      obtain ⟨x23, z23, rfl⟩ := hTb.mshort.len
      obtain ⟨x24, z24, rfl⟩ := hTb.curs.len
      obtain ⟨x25, z25, rfl⟩ := hTb.units.len
      obtain ⟨x26, z26, rfl⟩ := hTb.munit.len
      have HC2 : Hid (u2 = tb0 ∧ e2 = 1) := by
        refine Lib.hid ?_
        rcases hcase with h | h | h
        · omega
        · exact absurd h.2.1 HCut.out.2
        · exact ⟨h.2.2.1, h.2.2.2⟩
      have HT4n1d2 : Hid (IsTb wd2 w.heap.size t.s t.grp (.slice a1 t.short.length c1) (.slice a2 t.long.length c2) (.slice a3 t.mshort.length c3) (.slice a4 t.curs.length c4) (.slice a5 t.units.length c5) (.slice a6 t.munit.length c6)) := Lib.hid (heapC hbx HT4n1.out)
      have HTu1d2 : Hid (IsTb wd2 g1 u1.s u1.grp (.slice x11 u1.short.length z11) (.slice x12 u1.long.length z12) (.slice x13 u1.mshort.length z13) (.slice x14 u1.curs.length z14) (.slice x15 u1.units.length z15) (.slice x16 u1.munit.length z16)) := Lib.hid (heapC hbx HTu1.out)
      have HSu1d2 := Lib.hid (HSu1.out.same (Same.below hbx))
      have HZ2 : Hid (IsTb (wd2.alloc (.cells zTb 55)) wd2.heap.size (fun _ => noB) 0 nilV nilV nilV nilV nilV nilV) := Lib.hid (heap_alloc_new wd2 _)
      clear hTb hcase hbx
      unfold tbV
      go_upto_region 12 with ((with_reducible show wpList _ _ _ (Oper.mk none (Op.store 55 _ _) _ _ _ _ :: _) _ _); refine wpList_store_mid rfl 55 _ _ rfl wd2.heap.size 0 (tbC u2.s u2.grp (.slice x21 u2.short.length z21) (.slice x22 u2.long.length z22) (.slice x23 u2.mshort.length z23) (.slice x24 u2.curs.length z24) (.slice x25 u2.units.length z25) (.slice x26 u2.munit.length z26)) rfl rfl HZ2.out.there size55 (tbC_one _ _ _ _ _ _ _ _ _ _ _ _ _ _ _ _ _ _ _ _) ?_)
      have HKS2 := Lib.hid (put_kept wd2 (tbC u2.s u2.grp (.slice x21 u2.short.length z21) (.slice x22 u2.long.length z22) (.slice x23 u2.mshort.length z23) (.slice x24 u2.curs.length z24) (.slice x25 u2.units.length z25) (.slice x26 u2.munit.length z26)))
      have HP2 := Lib.hid (HZ2.out.put (tbC u2.s u2.grp (.slice x21 u2.short.length z21) (.slice x22 u2.long.length z22) (.slice x23 u2.mshort.length z23) (.slice x24 u2.curs.length z24) (.slice x25 u2.units.length z25) (.slice x26 u2.munit.length z26)) rfl)
      obtain ⟨g2, hg2⟩ : ∃ g, wd2.heap.size = g := ⟨_, rfl⟩
      have HTS2 := Lib.hid ((HU20.out.mono (P' := fun b => b < wd2.heap.size) (fun b hb _ => hb)).same (Same.of_kept HKS2.out (fun b hb e => by omega)))
      refine wp_name (fun W => IsTb W w.heap.size t.s t.grp (.slice a1 t.short.length c1) (.slice a2 t.long.length c2) (.slice a3 t.mshort.length c3) (.slice a4 t.curs.length c4) (.slice a5 t.units.length c5) (.slice a6 t.munit.length c6) ∧ IsTb W g1 u1.s u1.grp (.slice x11 u1.short.length z11) (.slice x12 u1.long.length z12) (.slice x13 u1.mshort.length z13) (.slice x14 u1.curs.length z14) (.slice x15 u1.units.length z15) (.slice x16 u1.munit.length z16) ∧ TbS (fun b => b < g1) W u1 (.slice x11 u1.short.length z11) (.slice x12 u1.long.length z12) (.slice x13 u1.mshort.length z13) (.slice x14 u1.curs.length z14) (.slice x15 u1.units.length z15) (.slice x16 u1.munit.length z16) ∧ IsTb W wd2.heap.size u2.s u2.grp (.slice x21 u2.short.length z21) (.slice x22 u2.long.length z22) (.slice x23 u2.mshort.length z23) (.slice x24 u2.curs.length z24) (.slice x25 u2.units.length z25) (.slice x26 u2.munit.length z26) ∧ TbS (fun b => b < wd2.heap.size) W u2 (.slice x21 u2.short.length z21) (.slice x22 u2.long.length z22) (.slice x23 u2.mshort.length z23) (.slice x24 u2.curs.length z24) (.slice x25 u2.units.length z25) (.slice x26 u2.munit.length z26) ∧ Below w.heap.size w W) ⟨HKS2.out.heap HT4n1d2.out (fun e => by have := lt_of_heap HT4n1d2.out; omega), HKS2.out.heap HTu1d2.out (fun e => by have := lt_of_heap HTu1d2.out; omega), HSu1d2.out.same (Same.of_kept HKS2.out (fun b hb e => by have := lt_of_heap HTu1d2.out; omega)), HP2.out, HTS2.out, HBd2.out.trans (HKS2.out.below HBd2.out.size (fun k hk e => by have := HBd2.out.size; omega))⟩ (fun W2 hW => ?_)
      rw [hg2] at hW ⊢
      obtain ⟨q0, q1, r1, qu, qs, qb⟩ := hW
      have HT4n1n2 := Lib.hid q0
      have HTu1n2 := Lib.hid q1
      have HSu1n2 := Lib.hid r1
      have HTu2 := Lib.hid qu
      have HSu2 := Lib.hid qs
      have HBW2 := Lib.hid qb
      clear q0 q1 qu qs qb HKS2 HP2 HZ2 HTS2 HU20 HBd2 hg2 HT4n1d2 HTu1d2 HSu1d2 r1
      obtain ⟨hu2, rfl⟩ := HC2.out
      have HE2 : Hid (TbEq u2 tb0) := by rw [hu2]; exact Lib.hid (tbEq_refl _)
      have HF2 : Hid u2.fit := by rw [hu2]; exact Lib.hid tb0_fit
      clear hu2 HC2
      obtain ⟨R, hR, hRl, hRz⟩ : ∃ R : ByteArray, S ++ ⟨#[0]⟩ = R ∧ Hid (R.data.toList = S.data.toList ++ [0]) ∧ R.size ≤ 65537 := ⟨_, rfl, Lib.hid (by rw [ByteArray.data_append, Array.toList_append]), by rw [ByteArray.size_append]; show S.size + 1 ≤ _; omega⟩
      have HMore := Lib.hid (HL.more hRl.out)
      go_wp2_with fail
      refine (decode_any R _ (by omega)).mono ?_
      rintro e wd3 ⟨u3, y1, y2, y3, y4, y5, y6, e3, rfl, hTb, hbx, hcase⟩
      have HBd3 := Lib.hid (HBW2.out.trans (hbx.mono HBW2.out.size))
      have HU30 := Lib.hid hTb
      obtain ⟨x31, z31, rfl⟩ := hTb.short.len
      obtain ⟨x32, z32, rfl⟩ := hTb.long.len
      obtain ⟨x33, z33, rfl⟩ := hTb.mshort.len
      obtain ⟨x34, z34, rfl⟩ := hTb.curs.len
      obtain ⟨x35, z35, rfl⟩ := hTb.units.len
      obtain ⟨x36, z36, rfl⟩ := hTb.munit.len
      have HC3 : Hid (u3 = tb0 ∧ (e3 = 1 ∨ e3 = 4)) := by
        refine Lib.hid ?_
        rcases hcase with h | h | h
        · exact ⟨h.2.1, .inr h.2.2⟩
        · exact absurd h.2.1 HMore.out.2
        · exact ⟨h.2.2.1, .inl h.2.2.2⟩
      have HT4n1n2d3 : Hid (IsTb wd3 w.heap.size t.s t.grp (.slice a1 t.short.length c1) (.slice a2 t.long.length c2) (.slice a3 t.mshort.length c3) (.slice a4 t.curs.length c4) (.slice a5 t.units.length c5) (.slice a6 t.munit.length c6)) := Lib.hid (heapC hbx HT4n1n2.out)
      have HTu1n2d3 : Hid (IsTb wd3 g1 u1.s u1.grp (.slice x11 u1.short.length z11) (.slice x12 u1.long.length z12) (.slice x13 u1.mshort.length z13) (.slice x14 u1.curs.length z14) (.slice x15 u1.units.length z15) (.slice x16 u1.munit.length z16)) := Lib.hid (heapC hbx HTu1n2.out)
      have HSu1n2d3 := Lib.hid (HSu1n2.out.same (Same.below hbx))
      have HTu2d3 : Hid (IsTb wd3 g2 u2.s u2.grp (.slice x21 u2.short.length z21) (.slice x22 u2.long.length z22) (.slice x23 u2.mshort.length z23) (.slice x24 u2.curs.length z24) (.slice x25 u2.units.length z25) (.slice x26 u2.munit.length z26)) := Lib.hid (heapC hbx HTu2.out)
      have HSu2d3 := Lib.hid (HSu2.out.same (Same.below hbx))
      have HZ3 : Hid (IsTb (wd3.alloc (.cells zTb 55)) wd3.heap.size (fun _ => noB) 0 nilV nilV nilV nilV nilV nilV) := Lib.hid (heap_alloc_new wd3 _)
      clear hTb hcase hbx
      unfold tbV
      go_upto_region 13 with ((with_reducible show wpList _ _ _ (Oper.mk none (Op.store 55 _ _) _ _ _ _ :: _) _ _); refine wpList_store_mid rfl 55 _ _ rfl wd3.heap.size 0 (tbC u3.s u3.grp (.slice x31 u3.short.length z31) (.slice x32 u3.long.length z32) (.slice x33 u3.mshort.length z33) (.slice x34 u3.curs.length z34) (.slice x35 u3.units.length z35) (.slice x36 u3.munit.length z36)) rfl rfl HZ3.out.there size55 (tbC_one _ _ _ _ _ _ _ _ _ _ _ _ _ _ _ _ _ _ _ _) ?_)
      have HKS3 := Lib.hid (put_kept wd3 (tbC u3.s u3.grp (.slice x31 u3.short.length z31) (.slice x32 u3.long.length z32) (.slice x33 u3.mshort.length z33) (.slice x34 u3.curs.length z34) (.slice x35 u3.units.length z35) (.slice x36 u3.munit.length z36)))
      have HP3 := Lib.hid (HZ3.out.put (tbC u3.s u3.grp (.slice x31 u3.short.length z31) (.slice x32 u3.long.length z32) (.slice x33 u3.mshort.length z33) (.slice x34 u3.curs.length z34) (.slice x35 u3.units.length z35) (.slice x36 u3.munit.length z36)) rfl)
      obtain ⟨g3, hg3⟩ : ∃ g, wd3.heap.size = g := ⟨_, rfl⟩
      have HTS3 := Lib.hid ((HU30.out.mono (P' := fun b => b < wd3.heap.size) (fun b hb _ => hb)).same (Same.of_kept HKS3.out (fun b hb e => by omega)))
      refine wp_name (fun W => IsTb W w.heap.size t.s t.grp (.slice a1 t.short.length c1) (.slice a2 t.long.length c2) (.slice a3 t.mshort.length c3) (.slice a4 t.curs.length c4) (.slice a5 t.units.length c5) (.slice a6 t.munit.length c6) ∧ IsTb W g1 u1.s u1.grp (.slice x11 u1.short.length z11) (.slice x12 u1.long.length z12) (.slice x13 u1.mshort.length z13) (.slice x14 u1.curs.length z14) (.slice x15 u1.units.length z15) (.slice x16 u1.munit.length z16) ∧ IsTb W g2 u2.s u2.grp (.slice x21 u2.short.length z21) (.slice x22 u2.long.length z22) (.slice x23 u2.mshort.length z23) (.slice x24 u2.curs.length z24) (.slice x25 u2.units.length z25) (.slice x26 u2.munit.length z26) ∧ TbS (fun b => b < g1) W u1 (.slice x11 u1.short.length z11) (.slice x12 u1.long.length z12) (.slice x13 u1.mshort.length z13) (.slice x14 u1.curs.length z14) (.slice x15 u1.units.length z15) (.slice x16 u1.munit.length z16) ∧ TbS (fun b => b < g2) W u2 (.slice x21 u2.short.length z21) (.slice x22 u2.long.length z22) (.slice x23 u2.mshort.length z23) (.slice x24 u2.curs.length z24) (.slice x25 u2.units.length z25) (.slice x26 u2.munit.length z26) ∧ IsTb W wd3.heap.size u3.s u3.grp (.slice x31 u3.short.length z31) (.slice x32 u3.long.length z32) (.slice x33 u3.mshort.length z33) (.slice x34 u3.curs.length z34) (.slice x35 u3.units.length z35) (.slice x36 u3.munit.length z36) ∧ TbS (fun b => b < wd3.heap.size) W u3 (.slice x31 u3.short.length z31) (.slice x32 u3.long.length z32) (.slice x33 u3.mshort.length z33) (.slice x34 u3.curs.length z34) (.slice x35 u3.units.length z35) (.slice x36 u3.munit.length z36) ∧ Below w.heap.size w W) ⟨HKS3.out.heap HT4n1n2d3.out (fun e => by have := lt_of_heap HT4n1n2d3.out; omega), HKS3.out.heap HTu1n2d3.out (fun e => by have := lt_of_heap HTu1n2d3.out; omega), HKS3.out.heap HTu2d3.out (fun e => by have := lt_of_heap HTu2d3.out; omega), HSu1n2d3.out.same (Same.of_kept HKS3.out (fun b hb e => by have := lt_of_heap HTu1n2d3.out; omega)), HSu2d3.out.same (Same.of_kept HKS3.out (fun b hb e => by have := lt_of_heap HTu2d3.out; omega)), HP3.out, HTS3.out, HBd3.out.trans (HKS3.out.below HBd3.out.size (fun k hk e => by have := HBd3.out.size; omega))⟩ (fun W3 hW => ?_)
      rw [hg3] at hW ⊢
      obtain ⟨q0, q1, q2, r1, r2, qu, qs, qb⟩ := hW
      have HT4n1n2n3 := Lib.hid q0
      have HTu1n2n3 := Lib.hid q1
      have HSu1n2n3 := Lib.hid r1
      have HTu2n3 := Lib.hid q2
      have HSu2n3 := Lib.hid r2
      have HTu3 := Lib.hid qu
      have HSu3 := Lib.hid qs
      have HBW3 := Lib.hid qb
      clear q0 q1 q2 qu qs qb HKS3 HP3 HZ3 HTS3 HU30 HBd3 hg3 HT4n1n2d3 HTu1n2d3 HTu2d3 HSu1n2d3 HSu2d3 r1 r2
      obtain ⟨hu3, he3⟩ := HC3.out
      have HE3 : Hid (TbEq u3 tb0) := by rw [hu3]; exact Lib.hid (tbEq_refl _)
      have HF3 : Hid u3.fit := by rw [hu3]; exact Lib.hid tb0_fit
      clear hu3 HC3
      rcases he3 with rfl | rfl
      all_goals
        have HPx0 := Lib.hid (HI.out.same (Same.below HBW3.out))
        go_wp2_with (first | (((with_reducible show wpList _ _ _ (Oper.mk (some _) (Op.load 55 _) _ _ _ _ :: _) _ _); refine wpList_load_guard (by kernel_rfl) 55 _ rfl w.heap.size 0 rfl (tbC t.s t.grp (.slice a1 t.short.length c1) (.slice a2 t.long.length c2) (.slice a3 t.mshort.length c3) (.slice a4 t.curs.length c4) (.slice a5 t.units.length c5) (.slice a6 t.munit.length c6)).toList _ HT4n1n2n3.out.range Try.underlying55 rfl size55 ?_)) | (((with_reducible show wpList _ _ _ (Oper.mk (some _) (Op.load 55 _) _ _ _ _ :: _) _ _); refine wpList_load_guard (by kernel_rfl) 55 _ rfl g1 0 rfl (tbC u1.s u1.grp (.slice x11 u1.short.length z11) (.slice x12 u1.long.length z12) (.slice x13 u1.mshort.length z13) (.slice x14 u1.curs.length z14) (.slice x15 u1.units.length z15) (.slice x16 u1.munit.length z16)).toList _ HTu1n2n3.out.range Try.underlying55 rfl size55 ?_)) | (((with_reducible show wpList _ _ _ (Oper.mk (some _) (Op.load 55 _) _ _ _ _ :: _) _ _); refine wpList_load_guard (by kernel_rfl) 55 _ rfl g2 0 rfl (tbC u2.s u2.grp (.slice x21 u2.short.length z21) (.slice x22 u2.long.length z22) (.slice x23 u2.mshort.length z23) (.slice x24 u2.curs.length z24) (.slice x25 u2.units.length z25) (.slice x26 u2.munit.length z26)).toList _ HTu2n3.out.range Try.underlying55 rfl size55 ?_)) | (((with_reducible show wpList _ _ _ (Oper.mk (some _) (Op.load 55 _) _ _ _ _ :: _) _ _); refine wpList_load_guard (by kernel_rfl) 55 _ rfl g3 0 rfl (tbC u3.s u3.grp (.slice x31 u3.short.length z31) (.slice x32 u3.long.length z32) (.slice x33 u3.mshort.length z33) (.slice x34 u3.curs.length z34) (.slice x35 u3.units.length z35) (.slice x36 u3.munit.length z36)).toList _ HTu3.out.range Try.underlying55 rfl size55 ?_)))
        refine (same_any (fun b => b < W3.heap.size) u1 t (.slice x11 u1.short.length z11) (.slice x12 u1.long.length z12) (.slice x13 u1.mshort.length z13) (.slice x14 u1.curs.length z14) (.slice x15 u1.units.length z15) (.slice x16 u1.munit.length z16) (.slice a1 t.short.length c1) (.slice a2 t.long.length c2) (.slice a3 t.mshort.length c3) (.slice a4 t.curs.length c4) (.slice a5 t.units.length c5) (.slice a6 t.munit.length c6) _ (HSu1n2n3.out.mono (fun b hb _ => hb)) (HPx0.out.mono (fun b hb _ => hb)) HFu.out HF.out).mono ?_
        rintro e wf0 ⟨bf0, rfl, hbe, hbf⟩
        obtain rfl : bf0 = true := hbe.out.2 HE.out
        have HBf0 := Lib.hid (HBW3.out.trans (hbf.mono HBW3.out.size))
        have K00 : Hid (IsTb wf0 w.heap.size t.s t.grp (.slice a1 t.short.length c1) (.slice a2 t.long.length c2) (.slice a3 t.mshort.length c3) (.slice a4 t.curs.length c4) (.slice a5 t.units.length c5) (.slice a6 t.munit.length c6)) := Lib.hid (heapC hbf HT4n1n2n3.out)
        have K01 : Hid (IsTb wf0 g1 u1.s u1.grp (.slice x11 u1.short.length z11) (.slice x12 u1.long.length z12) (.slice x13 u1.mshort.length z13) (.slice x14 u1.curs.length z14) (.slice x15 u1.units.length z15) (.slice x16 u1.munit.length z16)) := Lib.hid (heapC hbf HTu1n2n3.out)
        have K02 : Hid (IsTb wf0 g2 u2.s u2.grp (.slice x21 u2.short.length z21) (.slice x22 u2.long.length z22) (.slice x23 u2.mshort.length z23) (.slice x24 u2.curs.length z24) (.slice x25 u2.units.length z25) (.slice x26 u2.munit.length z26)) := Lib.hid (heapC hbf HTu2n3.out)
        have K03 : Hid (IsTb wf0 g3 u3.s u3.grp (.slice x31 u3.short.length z31) (.slice x32 u3.long.length z32) (.slice x33 u3.mshort.length z33) (.slice x34 u3.curs.length z34) (.slice x35 u3.units.length z35) (.slice x36 u3.munit.length z36)) := Lib.hid (heapC hbf HTu3.out)
        have M0u1 := Lib.hid (HSu1n2n3.out.same (Same.below hbf))
        have M0u2 := Lib.hid (HSu2n3.out.same (Same.below hbf))
        have M0u3 := Lib.hid (HSu3.out.same (Same.below hbf))
        clear hbe hbf HT4n1n2n3 HTu1n2n3 HTu2n3 HTu3 HSu1n2n3 HSu2n3 HSu3
        have HPx1 := Lib.hid (HI.out.same (Same.below HBf0.out))
        go_wp2_with (first | (((with_reducible show wpList _ _ _ (Oper.mk (some _) (Op.load 55 _) _ _ _ _ :: _) _ _); refine wpList_load_guard (by kernel_rfl) 55 _ rfl w.heap.size 0 rfl (tbC t.s t.grp (.slice a1 t.short.length c1) (.slice a2 t.long.length c2) (.slice a3 t.mshort.length c3) (.slice a4 t.curs.length c4) (.slice a5 t.units.length c5) (.slice a6 t.munit.length c6)).toList _ K00.out.range Try.underlying55 rfl size55 ?_)) | (((with_reducible show wpList _ _ _ (Oper.mk (some _) (Op.load 55 _) _ _ _ _ :: _) _ _); refine wpList_load_guard (by kernel_rfl) 55 _ rfl g1 0 rfl (tbC u1.s u1.grp (.slice x11 u1.short.length z11) (.slice x12 u1.long.length z12) (.slice x13 u1.mshort.length z13) (.slice x14 u1.curs.length z14) (.slice x15 u1.units.length z15) (.slice x16 u1.munit.length z16)).toList _ K01.out.range Try.underlying55 rfl size55 ?_)) | (((with_reducible show wpList _ _ _ (Oper.mk (some _) (Op.load 55 _) _ _ _ _ :: _) _ _); refine wpList_load_guard (by kernel_rfl) 55 _ rfl g2 0 rfl (tbC u2.s u2.grp (.slice x21 u2.short.length z21) (.slice x22 u2.long.length z22) (.slice x23 u2.mshort.length z23) (.slice x24 u2.curs.length z24) (.slice x25 u2.units.length z25) (.slice x26 u2.munit.length z26)).toList _ K02.out.range Try.underlying55 rfl size55 ?_)) | (((with_reducible show wpList _ _ _ (Oper.mk (some _) (Op.load 55 _) _ _ _ _ :: _) _ _); refine wpList_load_guard (by kernel_rfl) 55 _ rfl g3 0 rfl (tbC u3.s u3.grp (.slice x31 u3.short.length z31) (.slice x32 u3.long.length z32) (.slice x33 u3.mshort.length z33) (.slice x34 u3.curs.length z34) (.slice x35 u3.units.length z35) (.slice x36 u3.munit.length z36)).toList _ K03.out.range Try.underlying55 rfl size55 ?_)))
        refine (same_any (fun b => b < wf0.heap.size) t u1 (.slice a1 t.short.length c1) (.slice a2 t.long.length c2) (.slice a3 t.mshort.length c3) (.slice a4 t.curs.length c4) (.slice a5 t.units.length c5) (.slice a6 t.munit.length c6) (.slice x11 u1.short.length z11) (.slice x12 u1.long.length z12) (.slice x13 u1.mshort.length z13) (.slice x14 u1.curs.length z14) (.slice x15 u1.units.length z15) (.slice x16 u1.munit.length z16) _ (HPx1.out.mono (fun b hb _ => hb)) (M0u1.out.mono (fun b hb _ => hb)) HF.out HFu.out).mono ?_
        rintro e wf1 ⟨bf1, rfl, hbe, hbf⟩
        obtain rfl : bf1 = true := hbe.out.2 (tbEq_symm HE.out)
        have HBf1 := Lib.hid (HBf0.out.trans (hbf.mono HBf0.out.size))
        have K10 : Hid (IsTb wf1 w.heap.size t.s t.grp (.slice a1 t.short.length c1) (.slice a2 t.long.length c2) (.slice a3 t.mshort.length c3) (.slice a4 t.curs.length c4) (.slice a5 t.units.length c5) (.slice a6 t.munit.length c6)) := Lib.hid (heapC hbf K00.out)
        have K11 : Hid (IsTb wf1 g1 u1.s u1.grp (.slice x11 u1.short.length z11) (.slice x12 u1.long.length z12) (.slice x13 u1.mshort.length z13) (.slice x14 u1.curs.length z14) (.slice x15 u1.units.length z15) (.slice x16 u1.munit.length z16)) := Lib.hid (heapC hbf K01.out)
        have K12 : Hid (IsTb wf1 g2 u2.s u2.grp (.slice x21 u2.short.length z21) (.slice x22 u2.long.length z22) (.slice x23 u2.mshort.length z23) (.slice x24 u2.curs.length z24) (.slice x25 u2.units.length z25) (.slice x26 u2.munit.length z26)) := Lib.hid (heapC hbf K02.out)
        have K13 : Hid (IsTb wf1 g3 u3.s u3.grp (.slice x31 u3.short.length z31) (.slice x32 u3.long.length z32) (.slice x33 u3.mshort.length z33) (.slice x34 u3.curs.length z34) (.slice x35 u3.units.length z35) (.slice x36 u3.munit.length z36)) := Lib.hid (heapC hbf K03.out)
        have M1u1 := Lib.hid (M0u1.out.same (Same.below hbf))
        have M1u2 := Lib.hid (M0u2.out.same (Same.below hbf))
        have M1u3 := Lib.hid (M0u3.out.same (Same.below hbf))
        clear hbe hbf K00 K01 K02 K03 M0u1 M0u2 M0u3
        have HPx2 := Lib.hid (HI.out.same (Same.below HBf1.out))
        go_wp2_with (first | (((with_reducible show wpList _ _ _ (Oper.mk (some _) (Op.load 55 _) _ _ _ _ :: _) _ _); refine wpList_load_guard (by kernel_rfl) 55 _ rfl w.heap.size 0 rfl (tbC t.s t.grp (.slice a1 t.short.length c1) (.slice a2 t.long.length c2) (.slice a3 t.mshort.length c3) (.slice a4 t.curs.length c4) (.slice a5 t.units.length c5) (.slice a6 t.munit.length c6)).toList _ K10.out.range Try.underlying55 rfl size55 ?_)) | (((with_reducible show wpList _ _ _ (Oper.mk (some _) (Op.load 55 _) _ _ _ _ :: _) _ _); refine wpList_load_guard (by kernel_rfl) 55 _ rfl g1 0 rfl (tbC u1.s u1.grp (.slice x11 u1.short.length z11) (.slice x12 u1.long.length z12) (.slice x13 u1.mshort.length z13) (.slice x14 u1.curs.length z14) (.slice x15 u1.units.length z15) (.slice x16 u1.munit.length z16)).toList _ K11.out.range Try.underlying55 rfl size55 ?_)) | (((with_reducible show wpList _ _ _ (Oper.mk (some _) (Op.load 55 _) _ _ _ _ :: _) _ _); refine wpList_load_guard (by kernel_rfl) 55 _ rfl g2 0 rfl (tbC u2.s u2.grp (.slice x21 u2.short.length z21) (.slice x22 u2.long.length z22) (.slice x23 u2.mshort.length z23) (.slice x24 u2.curs.length z24) (.slice x25 u2.units.length z25) (.slice x26 u2.munit.length z26)).toList _ K12.out.range Try.underlying55 rfl size55 ?_)) | (((with_reducible show wpList _ _ _ (Oper.mk (some _) (Op.load 55 _) _ _ _ _ :: _) _ _); refine wpList_load_guard (by kernel_rfl) 55 _ rfl g3 0 rfl (tbC u3.s u3.grp (.slice x31 u3.short.length z31) (.slice x32 u3.long.length z32) (.slice x33 u3.mshort.length z33) (.slice x34 u3.curs.length z34) (.slice x35 u3.units.length z35) (.slice x36 u3.munit.length z36)).toList _ K13.out.range Try.underlying55 rfl size55 ?_)))
        refine (same_any (fun b => b < wf1.heap.size) u2 tb0 (.slice x21 u2.short.length z21) (.slice x22 u2.long.length z22) (.slice x23 u2.mshort.length z23) (.slice x24 u2.curs.length z24) (.slice x25 u2.units.length z25) (.slice x26 u2.munit.length z26) nilV nilV nilV nilV nilV nilV _ (M1u2.out.mono (fun b hb _ => hb)) (tbS0 _ _) HF2.out tb0_fit).mono ?_
        rintro e wf2 ⟨bf2, rfl, hbe, hbf⟩
        obtain rfl : bf2 = true := hbe.out.2 HE2.out
        have HBf2 := Lib.hid (HBf1.out.trans (hbf.mono HBf1.out.size))
        have K20 : Hid (IsTb wf2 w.heap.size t.s t.grp (.slice a1 t.short.length c1) (.slice a2 t.long.length c2) (.slice a3 t.mshort.length c3) (.slice a4 t.curs.length c4) (.slice a5 t.units.length c5) (.slice a6 t.munit.length c6)) := Lib.hid (heapC hbf K10.out)
        have K21 : Hid (IsTb wf2 g1 u1.s u1.grp (.slice x11 u1.short.length z11) (.slice x12 u1.long.length z12) (.slice x13 u1.mshort.length z13) (.slice x14 u1.curs.length z14) (.slice x15 u1.units.length z15) (.slice x16 u1.munit.length z16)) := Lib.hid (heapC hbf K11.out)
        have K22 : Hid (IsTb wf2 g2 u2.s u2.grp (.slice x21 u2.short.length z21) (.slice x22 u2.long.length z22) (.slice x23 u2.mshort.length z23) (.slice x24 u2.curs.length z24) (.slice x25 u2.units.length z25) (.slice x26 u2.munit.length z26)) := Lib.hid (heapC hbf K12.out)
        have K23 : Hid (IsTb wf2 g3 u3.s u3.grp (.slice x31 u3.short.length z31) (.slice x32 u3.long.length z32) (.slice x33 u3.mshort.length z33) (.slice x34 u3.curs.length z34) (.slice x35 u3.units.length z35) (.slice x36 u3.munit.length z36)) := Lib.hid (heapC hbf K13.out)
        have M2u1 := Lib.hid (M1u1.out.same (Same.below hbf))
        have M2u2 := Lib.hid (M1u2.out.same (Same.below hbf))
        have M2u3 := Lib.hid (M1u3.out.same (Same.below hbf))
        clear hbe hbf K10 K11 K12 K13 M1u1 M1u2 M1u3
        have HPx3 := Lib.hid (HI.out.same (Same.below HBf2.out))
        go_wp2_with (first | (((with_reducible show wpList _ _ _ (Oper.mk (some _) (Op.load 55 _) _ _ _ _ :: _) _ _); refine wpList_load_guard (by kernel_rfl) 55 _ rfl w.heap.size 0 rfl (tbC t.s t.grp (.slice a1 t.short.length c1) (.slice a2 t.long.length c2) (.slice a3 t.mshort.length c3) (.slice a4 t.curs.length c4) (.slice a5 t.units.length c5) (.slice a6 t.munit.length c6)).toList _ K20.out.range Try.underlying55 rfl size55 ?_)) | (((with_reducible show wpList _ _ _ (Oper.mk (some _) (Op.load 55 _) _ _ _ _ :: _) _ _); refine wpList_load_guard (by kernel_rfl) 55 _ rfl g1 0 rfl (tbC u1.s u1.grp (.slice x11 u1.short.length z11) (.slice x12 u1.long.length z12) (.slice x13 u1.mshort.length z13) (.slice x14 u1.curs.length z14) (.slice x15 u1.units.length z15) (.slice x16 u1.munit.length z16)).toList _ K21.out.range Try.underlying55 rfl size55 ?_)) | (((with_reducible show wpList _ _ _ (Oper.mk (some _) (Op.load 55 _) _ _ _ _ :: _) _ _); refine wpList_load_guard (by kernel_rfl) 55 _ rfl g2 0 rfl (tbC u2.s u2.grp (.slice x21 u2.short.length z21) (.slice x22 u2.long.length z22) (.slice x23 u2.mshort.length z23) (.slice x24 u2.curs.length z24) (.slice x25 u2.units.length z25) (.slice x26 u2.munit.length z26)).toList _ K22.out.range Try.underlying55 rfl size55 ?_)) | (((with_reducible show wpList _ _ _ (Oper.mk (some _) (Op.load 55 _) _ _ _ _ :: _) _ _); refine wpList_load_guard (by kernel_rfl) 55 _ rfl g3 0 rfl (tbC u3.s u3.grp (.slice x31 u3.short.length z31) (.slice x32 u3.long.length z32) (.slice x33 u3.mshort.length z33) (.slice x34 u3.curs.length z34) (.slice x35 u3.units.length z35) (.slice x36 u3.munit.length z36)).toList _ K23.out.range Try.underlying55 rfl size55 ?_)))
        refine (same_any (fun b => b < wf2.heap.size) u3 tb0 (.slice x31 u3.short.length z31) (.slice x32 u3.long.length z32) (.slice x33 u3.mshort.length z33) (.slice x34 u3.curs.length z34) (.slice x35 u3.units.length z35) (.slice x36 u3.munit.length z36) nilV nilV nilV nilV nilV nilV _ (M2u3.out.mono (fun b hb _ => hb)) (tbS0 _ _) HF3.out tb0_fit).mono ?_
        rintro e wf3 ⟨bf3, rfl, hbe, hbf⟩
        obtain rfl : bf3 = true := hbe.out.2 HE3.out
        have HBf3 := Lib.hid (HBf2.out.trans (hbf.mono HBf2.out.size))
        have K30 : Hid (IsTb wf3 w.heap.size t.s t.grp (.slice a1 t.short.length c1) (.slice a2 t.long.length c2) (.slice a3 t.mshort.length c3) (.slice a4 t.curs.length c4) (.slice a5 t.units.length c5) (.slice a6 t.munit.length c6)) := Lib.hid (heapC hbf K20.out)
        have K31 : Hid (IsTb wf3 g1 u1.s u1.grp (.slice x11 u1.short.length z11) (.slice x12 u1.long.length z12) (.slice x13 u1.mshort.length z13) (.slice x14 u1.curs.length z14) (.slice x15 u1.units.length z15) (.slice x16 u1.munit.length z16)) := Lib.hid (heapC hbf K21.out)
        have K32 : Hid (IsTb wf3 g2 u2.s u2.grp (.slice x21 u2.short.length z21) (.slice x22 u2.long.length z22) (.slice x23 u2.mshort.length z23) (.slice x24 u2.curs.length z24) (.slice x25 u2.units.length z25) (.slice x26 u2.munit.length z26)) := Lib.hid (heapC hbf K22.out)
        have K33 : Hid (IsTb wf3 g3 u3.s u3.grp (.slice x31 u3.short.length z31) (.slice x32 u3.long.length z32) (.slice x33 u3.mshort.length z33) (.slice x34 u3.curs.length z34) (.slice x35 u3.units.length z35) (.slice x36 u3.munit.length z36)) := Lib.hid (heapC hbf K23.out)
        have M3u1 := Lib.hid (M2u1.out.same (Same.below hbf))
        have M3u2 := Lib.hid (M2u2.out.same (Same.below hbf))
        have M3u3 := Lib.hid (M2u3.out.same (Same.below hbf))
        clear hbe hbf K20 K21 K22 K23 M2u1 M2u2 M2u3
        go_wp2
        go_ret
        exact ⟨rfl, HBf3.out⟩
end Go.Proofs.Ytikkakbemphdhaa
