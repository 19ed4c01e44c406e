/- The document's example of layer 15. -/
import Derived.Test.YtikkakbemphdhaaTg2
import Derived.Test.YtikkakbemphdhaaTf2
import Derived.Test.YtikkakbemphdhaaTb1
set_option linter.unusedSimpArgs false
set_option linter.unusedVariables false
namespace Go.Proofs.Ytikkakbemphdhaa
open Go.RowKit Go.Fl

theorem numB0 : numB 0 = [0] := by rw [numB, if_pos (by omega)]; rfl
theorem textB0 : textB noB = [0] := by
  unfold textB
  rw [show noB.size = 0 from rfl, numB0]
  rfl
theorem eSs0 (n : Nat) : eSs (fun _ => noB) n = List.replicate n 0 := by
  induction n with
  | zero => rfl
  | succ n ih => rw [eSs_succ, ih, textB0, List.replicate_succ']
theorem eTb0 : eTb tb0 = List.replicate 34 0 := by
  unfold eTb tb0 eAll
  simp only [eSs0, List.length_nil, List.flatMap_nil, List.append_nil, numB0, show (0 : Int).toNat = 0 from rfl]
  decide
theorem tb0_good : tb0.good := ⟨fun i _ => by show (0 : Nat) < _; omega, ⟨by unfold goodI; exact ⟨by decide, by decide⟩, ⟨by decide, by simp [Tb.rest, tb0]⟩, ⟨by decide, by simp [Tb.rest, tb0]⟩, ⟨by decide, by simp [Tb.rest, tb0]⟩, ⟨by decide, by simp [Tb.rest, tb0]⟩, ⟨by decide, by simp [Tb.rest, tb0]⟩, ⟨by decide, by simp [Tb.rest, tb0]⟩⟩⟩
theorem tb0_fit : tb0.fit := ⟨fun i => by show (0 : Nat) ≤ _; omega, by show (0 : Int) ≤ _; omega, ⟨by simp [tb0], by simp [tb0]⟩, ⟨by simp [tb0], by simp [tb0]⟩, ⟨by simp [tb0], by simp [tb0]⟩, ⟨by simp [tb0], by simp [tb0]⟩, ⟨by simp [tb0], by simp [tb0]⟩, ⟨by simp [tb0], by simp [tb0]⟩⟩
/-- what was read fits. -/
theorem good_txs {xs : List Tx} (h : goodL Tx.good xs) : Fits Tx.fit xs := ⟨by have := h.1; omega, fun x hx => ⟨by have := (h.2 x hx).2; unfold goodB at this; omega, by have := (h.2 x hx).1.2; omega⟩⟩
theorem good_rws {xs : List Rw} (h : goodL Rw.good xs) : Fits Rw.fit xs := ⟨by have := h.1; omega, fun x hx => ⟨by have := (h.2 x hx).1.2; omega, good_txs (h.2 x hx).2⟩⟩
theorem good_uns {xs : List Un} (h : goodL Un.good xs) : Fits Un.fit xs := ⟨by have := h.1; omega, fun x hx => ⟨by have := (h.2 x hx).1; unfold goodB at this; omega, good_txs (h.2 x hx).2⟩⟩

theorem good_cus {xs : List Cu} (h : goodL Cu.good xs) (hl : ∀ c ∈ xs, (eCu c).length ≤ 140737488355328) : Fits Cu.fit xs := ⟨by have := h.1; omega, fun x hx => by
  obtain ⟨h1, h2, h3, h4, h5, h6, h7, h8⟩ := h.2 x hx
  have q := hl x hx
  have q0 := size_le_textB x.code
  have q1 := size_le_textB x.sym
  have q2 := size_le_textB x.nar
  unfold eCu at q
  simp only [List.length_append] at q
  exact ⟨by omega, by omega, by omega, good_txs h4, by have := h5.2; omega, by have := h6.2; omega, by have := h7.2; omega, by have := h8.2; omega⟩⟩
theorem good_fit {t : Tb} (h : t.good) (hl : (eTb t).length ≤ 140737488355328) (hs : ∀ i, (t.s i).size ≤ 9223372036854775807) : t.fit :=
  ⟨hs, by have := h.rest.1.2; have h2 : t.rest.1 = t.grp := rfl; omega, good_rws h.rest.2.1, good_rws h.rest.2.2.1, good_rws h.rest.2.2.2.1, good_cus h.rest.2.2.2.2.1 (lens_of t _ hl).cu, good_uns h.rest.2.2.2.2.2.1, good_txs h.rest.2.2.2.2.2.2⟩
theorem rdS_size (l : List UInt8) (st : Option Nat) (i : Nat) : (rdS l st i).size ≤ l.length := by
  unfold rdS
  generalize stS l st i = x
  show (mkB (Rd.text l x).1).data.size ≤ _
  rw [← Array.length_toList]
  show (Rd.text l x).1.length ≤ _
  unfold Rd.text
  split
  · split
    · simp only [List.length_take, List.length_drop]; omega
    · simp
  · simp
/-- what Decode gave fits. -/
theorem dec_fit {s : ByteArray} (hs : s.size ≤ 65536) (h : (rdTb s.data.toList (some 0)).2 = some s.size) : (rdTb s.data.toList (some 0)).1.fit ∧ (rdTb s.data.toList (some 0)).1.good ∧ eTb (rdTb s.data.toList (some 0)).1 = s.data.toList := by
  obtain ⟨hg, q, hl, hb⟩ := tb_canon _ _ h
  have hz := toList_size s
  have hq : q = [] := by
    have := congrArg List.length hl
    rw [List.length_append] at this
    exact List.eq_nil_of_length_eq_zero (by omega)
  rw [hq, List.append_nil] at hl
  refine ⟨good_fit hg (by rw [← hl]; omega) (fun i => ?_), hg, hl.symm⟩
  rw [(rdTb_eq _ _).2.2]
  have := rdS_size s.data.toList (some 0) i
  omega
theorem put_kept (w : World) (ds : Array Value) : Kept w ((w.alloc (.cells zTb 55)).setCells w.heap.size 0 ds.toList) (· = w.heap.size) :=
  ((Kept.refl w (· = w.heap.size)).alloc (.cells zTb 55)).trans (setCells_kept ds.toList 0 (w.alloc (.cells zTb 55)) w.heap.size) (fun _ _ h => h)
theorem keepR {W1 W W' : World} {g : Nat} {s : Nat → ByteArray} {grp : Int} {v1 v2 v3 v4 v5 v6 : Value} (hT : IsTb W1 g s grp v1 v2 v3 v4 v5 v6) (h : W.rangeAt g 0 (tbC s grp v1 v2 v3 v4 v5 v6).toList ∧ Below W1.heap.size W1 W) (hb : Below W.heap.size W W') :
    W'.rangeAt g 0 (tbC s grp v1 v2 v3 v4 v5 v6).toList ∧ Below W1.heap.size W1 W' :=
  ⟨IsTb.range (heapC (h.2.trans (hb.mono h.2.size)) hT), h.2.trans (hb.mono h.2.size)⟩
theorem tbEq_refl (t : Tb) : TbEq t t := ⟨fun _ _ => rfl, rfl, rfl, rfl, rfl, rfl, rfl, rfl⟩
structure Read0 (S : ByteArray) : Prop where
  size : S.size = 34
  st : (rdTb S.data.toList (some 0)).2 = some S.size
  eq : TbEq (rdTb S.data.toList (some 0)).1 tb0
/-- Table{}'s bytes, read. -/
theorem read0 {S : ByteArray} (h : S.data.toList = eTb tb0) : Read0 S := by
  have hs : S.size = 34 := by
    have := toList_size S
    rw [h, eTb0] at this
    simpa using this.symm
  have h2 := tb_back tb0 [] tb0_good
  rw [List.append_nil] at h2
  exact ⟨hs, by rw [h, hs, h2.1, eTb0]; rfl, by rw [h]; exact h2.2⟩

set_option maxRecDepth 100000 in
set_option maxHeartbeats 1600000 in
theorem thead_any (w : World) : Calls Try.prog 23 #[] w fun e w' => e = .returned (.bool true) ∧ Below w.heap.size w w' := by
  have hlen : (eTb tb0).length ≤ 140737488355300 := by rw [eTb0]; simp
  go_enter Try.func23, Try.ntmps23
  go_wp2_with fail
  refine (encode_any (fun b => b < w.heap.size) tb0 nilV nilV nilV nilV nilV nilV _ (tbS0 _ _) (fun b h => h) tb0_fit hlen).mono ?_
  rintro e w1 ⟨S, rfl, hS, hSz, hb1⟩
  have HR0 := read0 hS.out
  have HB1 := Lib.hid hb1
  have hS34' : S.size ≤ 34 := by have := HR0.size; omega
  clear hb1 hSz hlen
  go_wp2
  go_loopg [2, 3] 34 (fun gk u v wr => ∃ (j : Nat) (T : ByteArray), u = .string T ∧ v = .int .i64 j ∧ j + gk = 34 ∧ T.size ≤ j ∧ Hid (T.data.toList = List.replicate j 0) ∧ Hid (wr = w1))
  case atStart => exact ⟨0, ⟨#[]⟩, rfl, rfl, by omega, by decide, Lib.hid rfl, Lib.hid rfl⟩
  case round =>
    obtain ⟨j, T, rfl, rfl, hj, hTs, hT, hwr⟩ := hrel
    by_cases hjl : j < 34
    · go_wp2
      go_roundg (gk - 1)
      case measure => omega
      case rel => exact ⟨j + 1, _, rfl, rfl, by omega, by rw [ByteArray.size_append]; show T.size + 1 ≤ _; omega, Lib.hid (by rw [ByteArray.data_append, Array.toList_append, hT.out, List.replicate_succ']), hwr⟩
    · obtain rfl : j = 34 := by omega
      have hw := hwr.out
      subst hw
      have HE : Hid (S.toList = T.toList) := Lib.hid (by rw [Lib.toList_data, Lib.toList_data, hS.out, hT.out, eTb0])
      go_wp2_with fail
      refine (decode_any S _ (by omega)).mono ?_
      rintro e w2 ⟨t, v1, v2, v3, v4, v5, v6, c, rfl, hTb, hb2, hcase⟩
      obtain ⟨ht, rfl⟩ : t = (rdTb S.data.toList (some 0)).1 ∧ c = 0 := by
        rcases hcase with h | h | h
        · omega
        · exact ⟨h.2.2.1, h.2.2.2⟩
        · exact absurd HR0.st h.2.1
      have HTe : Hid (TbEq t tb0) := by rw [ht]; exact Lib.hid HR0.eq
      have HFT : Hid t.fit := by rw [ht]; exact Lib.hid (dec_fit (by omega) HR0.st).1
      have HTb := Lib.hid hTb
      have HB2 := Lib.hid (HB1.out.trans (hb2.mono HB1.out.size))
      obtain ⟨a1, c1, rfl⟩ := hTb.short.len
      obtain ⟨a2, c2, rfl⟩ := hTb.long.len
      obtain ⟨a3, c3, rfl⟩ := hTb.mshort.len
      obtain ⟨a4, c4, rfl⟩ := hTb.curs.len
      obtain ⟨a5, c5, rfl⟩ := hTb.units.len
      obtain ⟨a6, c6, rfl⟩ := hTb.munit.len
      clear hTb hb2 hcase ht
      have HZ : Hid (IsTb (w2.alloc (.cells zTb 55)) w2.heap.size (fun _ => noB) 0 nilV nilV nilV nilV nilV nilV) := Lib.hid (heap_alloc_new w2 _)
      unfold tbV
      go_upto_region 8 with ((with_reducible show wpList _ _ _ (Oper.mk none (Op.store 55 _ _) _ _ _ _ :: _) _ _); refine wpList_store_mid rfl 55 _ _ rfl w2.heap.size 0 (tbC t.s t.grp (.slice a1 t.short.length c1) (.slice a2 t.long.length c2) (.slice a3 t.mshort.length c3) (.slice a4 t.curs.length c4) (.slice a5 t.units.length c5) (.slice a6 t.munit.length c6)) rfl rfl HZ.out.there size55 (tbC_one _ _ _ _ _ _ _ _ _ _ _ _ _ _ _ _ _ _ _ _) ?_)
      have HKS := Lib.hid (put_kept w2 (tbC t.s t.grp (.slice a1 t.short.length c1) (.slice a2 t.long.length c2) (.slice a3 t.mshort.length c3) (.slice a4 t.curs.length c4) (.slice a5 t.units.length c5) (.slice a6 t.munit.length c6)))
      have HP := Lib.hid (HZ.out.put (tbC t.s t.grp (.slice a1 t.short.length c1) (.slice a2 t.long.length c2) (.slice a3 t.mshort.length c3) (.slice a4 t.curs.length c4) (.slice a5 t.units.length c5) (.slice a6 t.munit.length c6)) rfl)
      have hlt2 : w.heap.size ≤ w2.heap.size := HB2.out.size
      obtain ⟨gt, hgt⟩ : ∃ g, w2.heap.size = g := ⟨_, rfl⟩
      have HBS := Lib.hid (HB2.out.trans (HKS.out.below HB2.out.size (fun k hk e => by omega)))
      have HTS := Lib.hid ((HTb.out.mono (P' := fun b => b < w2.heap.size) (fun b hb _ => hb)).same (Same.of_kept HKS.out (fun b hb e => by omega)))
      refine wp_name (fun W => IsTb W w2.heap.size t.s t.grp (.slice a1 t.short.length c1) (.slice a2 t.long.length c2) (.slice a3 t.mshort.length c3) (.slice a4 t.curs.length c4) (.slice a5 t.units.length c5) (.slice a6 t.munit.length c6) ∧ TbS (fun b => b < w2.heap.size) W t (.slice a1 t.short.length c1) (.slice a2 t.long.length c2) (.slice a3 t.mshort.length c3) (.slice a4 t.curs.length c4) (.slice a5 t.units.length c5) (.slice a6 t.munit.length c6) ∧ Below w.heap.size w W) ⟨HP.out, HTS.out, HBS.out⟩ (fun W1 hW1 => ?_)
      rw [hgt] at hW1 ⊢
      have HW1 := Lib.hid hW1
      have hgW : gt < W1.heap.size := lt_of_heap hW1.1
      clear HKS HP HBS HTS HZ HTb HB2 hgt hlt2 hW1
      have hT0 : t.s 0 = noB := HTe.out.s 0 (by omega)
      have HT0 := Lib.hid hT0
      have hBe : (S.toList == T.toList) = true := by simp [HE.out]
      clear hT0
      have HS0 : W1.drew.rangeAt gt 0 (tbC t.s t.grp (.slice a1 t.short.length c1) (.slice a2 t.long.length c2) (.slice a3 t.mshort.length c3) (.slice a4 t.curs.length c4) (.slice a5 t.units.length c5) (.slice a6 t.munit.length c6)).toList := IsTb.range (W := W1.drew) HW1.out.1
      have hcode : ((0 : Int) == 0) = true := rfl
      refine wp_region_held_drew (S := (fun w' => w'.rangeAt gt 0 (tbC t.s t.grp (.slice a1 t.short.length c1) (.slice a2 t.long.length c2) (.slice a3 t.mshort.length c3) (.slice a4 t.curs.length c4) (.slice a5 t.units.length c5) (.slice a6 t.munit.length c6)).toList)) (by kernel_rfl) HS0 (fun hHeld => ?_)
      refine heldTake 0 19 (v := ?vy1) rfl rfl (by kernel_rfl) (by kernel_rfl) (by kernel_rfl) (fun _ _ _ h => h) (by kernel_rfl) ?hy1 hHeld ?ry1
      case hy1 => (intro w hSw; clear hSw; go_simp <;> with_reducible rfl)
      simp only [List.setIfInBounds_toArray, List.set_cons_zero, List.set_cons_succ]
      refine heldTake 1 20 (v := ?vy2) rfl rfl (by kernel_rfl) (by kernel_rfl) (by kernel_rfl) (fun _ _ _ h => h) (by kernel_rfl) ?hy2 hHeld ?ry2
      case hy2 => (intro w hSw; clear hSw; go_simp <;> with_reducible rfl)
      simp only [List.setIfInBounds_toArray, List.set_cons_zero, List.set_cons_succ]
      refine heldTake 2 21 (v := ?vy3) rfl rfl (by kernel_rfl) (by kernel_rfl) (by kernel_rfl) (fun _ _ _ h => h) (by kernel_rfl) ?hy3 hHeld ?ry3
      case hy3 => (intro w hSw; clear hSw; go_simp <;> with_reducible rfl)
      simp only [List.setIfInBounds_toArray, List.set_cons_zero, List.set_cons_succ]
      refine heldTake 3 22 (v := ?vy4) rfl rfl (by kernel_rfl) (by kernel_rfl) (by kernel_rfl) (fun _ _ _ h => h) (by kernel_rfl) ?hy4 hHeld ?ry4
      case hy4 => (intro w hSw; clear hSw; go_simp <;> with_reducible rfl)
      simp only [List.setIfInBounds_toArray, List.set_cons_zero, List.set_cons_succ]
      refine heldTake 4 23 (v := ?vy5) rfl rfl (by kernel_rfl) (by kernel_rfl) (by kernel_rfl) (fun _ _ _ h => h) (by kernel_rfl) ?hy5 hHeld ?ry5
      case hy5 => (intro w hSw; clear hSw; go_simp <;> with_reducible rfl)
      simp only [List.setIfInBounds_toArray, List.set_cons_zero, List.set_cons_succ]
      refine heldTake 5 24 (v := ?vy6) rfl rfl (by kernel_rfl) (by kernel_rfl) (by kernel_rfl) (fun _ _ _ h => h) (by kernel_rfl) ?hy6 hHeld ?ry6
      case hy6 => (intro w hSw; clear hSw; go_simp <;> with_reducible rfl)
      simp only [List.setIfInBounds_toArray, List.set_cons_zero, List.set_cons_succ]
      refine heldTake 6 25 (v := ?vy7) rfl rfl (by kernel_rfl) (by kernel_rfl) (by kernel_rfl) (fun _ _ _ h => h) (by kernel_rfl) ?hy7 hHeld ?ry7
      case hy7 => (intro w hSw; clear hSw; go_simp <;> with_reducible rfl)
      simp only [List.setIfInBounds_toArray, List.set_cons_zero, List.set_cons_succ]
      refine heldTake 7 26 (v := ?vy8) rfl rfl (by kernel_rfl) (by kernel_rfl) (by kernel_rfl) (fun _ _ _ h => h) (by kernel_rfl) ?hy8 hHeld ?ry8
      case hy8 => (intro w hSw; clear hSw; go_simp <;> with_reducible rfl)
      simp only [List.setIfInBounds_toArray, List.set_cons_zero, List.set_cons_succ]
      refine wpAnyH_take (i := 8) rfl (by kernel_rfl) (by kernel_rfl) (by kernel_rfl) (fun _ _ _ h => h) (yieldsIf_load_mid (by kernel_rfl) 55 _ rfl gt 0 rfl (tbC t.s t.grp (.slice a1 t.short.length c1) (.slice a2 t.long.length c2) (.slice a3 t.mshort.length c3) (.slice a4 t.curs.length c4) (.slice a5 t.units.length c5) (.slice a6 t.munit.length c6)).toList _ (fun _ h => h) Try.underlying55 rfl size55) hHeld ?_
      simp only [Act.put, List.setIfInBounds_toArray, List.set_cons_zero, List.set_cons_succ, Array.toArray_toList]
      refine heldTake 9 28 (v := ?vy9) rfl rfl (by kernel_rfl) (by kernel_rfl) (by kernel_rfl) (fun _ _ _ h => h) (by kernel_rfl) ?hy9 hHeld ?ry9
      case hy9 => (intro w hSw; clear hSw; go_simp <;> with_reducible rfl)
      simp only [List.setIfInBounds_toArray, List.set_cons_zero, List.set_cons_succ]
      refine wpAnyH_ready (rs := [10]) (by kernel_rfl) (by simp) ?_
      refine AllReadyH.cons rfl (fun K hK => ?cq10) AllReadyH.nil
      go_simp
      refine (same_any (fun b => b < gt) t tb0 (.slice a1 t.short.length c1) (.slice a2 t.long.length c2) (.slice a3 t.mshort.length c3) (.slice a4 t.curs.length c4) (.slice a5 t.units.length c5) (.slice a6 t.munit.length c6) nilV nilV nilV nilV nilV nilV _ (HW1.out.2.1.same (Same.below (Below.refl _ _).drew)) (tbS0 _ _) HFT.out tb0_fit).mono ?_
      rintro e w4 ⟨b4, rfl, hbe4, hb4⟩
      obtain rfl : b4 = true := hbe4.out.2 HTe.out
      have HB4 := Lib.hid (((Below.refl W1.heap.size W1).drew).trans hb4)
      clear hbe4 hb4
      refine hK.out _ _ (IsTb.range (heapC HB4.out HW1.out.1)) (fun hHeld => ?_)
      clear hK K
      (try simp only [Act.put, List.setIfInBounds_toArray, List.set_cons_zero, List.set_cons_succ])
      refine heldTake 11 30 (v := ?vy11) rfl rfl (by kernel_rfl) (by kernel_rfl) (by kernel_rfl) (fun _ _ _ h => h) (by kernel_rfl) ?hy11 hHeld ?ry11
      case hy11 => (intro w hSw; clear hSw; go_simp <;> with_reducible rfl)
      simp only [List.setIfInBounds_toArray, List.set_cons_zero, List.set_cons_succ]
      refine heldTake 12 31 (v := ?vy12) rfl rfl (by kernel_rfl) (by kernel_rfl) (by kernel_rfl) (fun _ _ _ h => h) (by kernel_rfl) ?hy12 hHeld ?ry12
      case hy12 => (intro w hSw; clear hSw; go_simp <;> with_reducible rfl)
      simp only [List.setIfInBounds_toArray, List.set_cons_zero, List.set_cons_succ]
      refine wpAnyH_take (i := 13) rfl (by kernel_rfl) (by kernel_rfl) (by kernel_rfl) (fun _ _ _ h => h) (yieldsIf_load_mid (by kernel_rfl) 55 _ rfl gt 0 rfl (tbC t.s t.grp (.slice a1 t.short.length c1) (.slice a2 t.long.length c2) (.slice a3 t.mshort.length c3) (.slice a4 t.curs.length c4) (.slice a5 t.units.length c5) (.slice a6 t.munit.length c6)).toList _ (fun _ h => h) Try.underlying55 rfl size55) hHeld ?_
      simp only [Act.put, List.setIfInBounds_toArray, List.set_cons_zero, List.set_cons_succ, Array.toArray_toList]
      refine wpAnyH_ready (rs := [14]) (by kernel_rfl) (by simp) ?_
      refine AllReadyH.cons rfl (fun K hK => ?cq13) AllReadyH.nil
      go_simp
      refine (base0 _).mono ?_
      rintro e w5 ⟨s5, g5, u1, u2, u3, u4, u5', u6, rfl, hne5, hb5⟩
      have HB5 := Lib.hid (HB4.out.trans (hb5.mono HB4.out.size))
      clear hb5
      refine hK.out _ _ (IsTb.range (heapC HB5.out HW1.out.1)) (fun hHeld => ?_)
      clear hK K
      (try simp only [Act.put, List.setIfInBounds_toArray, List.set_cons_zero, List.set_cons_succ])
      refine wpAnyH_ready (rs := [15]) (by kernel_rfl) (by simp) ?_
      refine AllReadyH.cons rfl (fun K hK => ?cq14) AllReadyH.nil
      go_simp
      refine (same_early t ⟨s5, g5, [], [], [], [], [], []⟩ (.slice a1 t.short.length c1) (.slice a2 t.long.length c2) (.slice a3 t.mshort.length c3) (.slice a4 t.curs.length c4) (.slice a5 t.units.length c5) (.slice a6 t.munit.length c6) u1 u2 u3 u4 u5' u6 _ (fun h => hne5 ((h 0 (by omega)).symm.trans HT0.out))).mono ?_
      rintro e w6 ⟨b6, rfl, hbe6, hb6⟩
      obtain rfl : b6 = false := by cases b6; rfl; exact (hbe6.out.1 rfl).elim
      have HB6 := Lib.hid (HB5.out.trans (hb6.mono HB5.out.size))
      clear hbe6 hb6
      refine hK.out _ _ (IsTb.range (heapC HB6.out HW1.out.1)) (fun hHeld => ?_)
      clear hK K
      (try simp only [Act.put, List.setIfInBounds_toArray, List.set_cons_zero, List.set_cons_succ])
      refine heldTake 16 35 (v := ?vy15) rfl rfl (by kernel_rfl) (by kernel_rfl) (by kernel_rfl) (fun _ _ _ h => h) (by kernel_rfl) ?hy15 hHeld ?ry15
      case hy15 => (intro w hSw; clear hSw; go_simp <;> with_reducible rfl)
      simp only [List.setIfInBounds_toArray, List.set_cons_zero, List.set_cons_succ]
      refine heldTake 17 36 (v := ?vy16) rfl rfl (by kernel_rfl) (by kernel_rfl) (by kernel_rfl) (fun _ _ _ h => h) (by kernel_rfl) ?hy16 hHeld ?ry16
      case hy16 => (intro w hSw; clear hSw; go_simp <;> with_reducible rfl)
      simp only [List.setIfInBounds_toArray, List.set_cons_zero, List.set_cons_succ]
      refine heldTake 18 0 (v := ?vy17) rfl rfl (by kernel_rfl) (by kernel_rfl) (by kernel_rfl) (fun _ _ _ h => h) (by kernel_rfl) ?hy17 hHeld ?ry17
      case hy17 => (intro w hSw; clear hSw; go_simp <;> with_reducible rfl)
      simp only [List.setIfInBounds_toArray, List.set_cons_zero, List.set_cons_succ]
      refine wpAnyH_done (by kernel_rfl) ?_ _
      go_wp2
      go_ret
      exact ⟨rfl, HW1.out.2.2.trans (HB6.out.mono HW1.out.2.2.size)⟩
end Go.Proofs.Ytikkakbemphdhaa
