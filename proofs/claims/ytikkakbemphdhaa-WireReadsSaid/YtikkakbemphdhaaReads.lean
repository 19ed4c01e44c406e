/- The walk of WireReads. -/
import Derived.Test.YtikkakbemphdhaaLaw3
import Derived.Deep.LoopGhost
import Derived.Deep.DeepCutAuto
import Derived.Deep.CutBlock
namespace Go.Proofs.Ytikkakbemphdhaa
open Go.RowKit Go.Fl

/-- the numbers of a slice, in a world. -/
def Ints (W : World) (a : Option Addr) (ks : List Int) : Prop :=
  ∀ i, i < ks.length → ∃ b off, a = some ⟨b, off, none⟩ ∧ b < W.heap.size ∧ W.cell? ⟨b, off + i, none⟩ = some (.int .i64 (ks.getD i 0))

theorem and3 (k : Int) : ∃ c : Nat, bits .and .i64 k 3 = (c : Int) ∧ c < 4 := by
  refine ⟨(BitVec.ofInt 64 k &&& BitVec.ofInt 64 ((3 : Nat) : Int)).toNat, ?_, ?_⟩
  · have h : (BitVec.ofInt 64 k &&& BitVec.ofInt 64 ((3 : Nat) : Int)).toNat < 4 := by
      rw [BitVec.toNat_and, ofInt_i64' 3 (by omega)]
      exact Nat.lt_of_le_of_lt Nat.and_le_right (by omega)
    show IntKind.i64.wrap ((BitVec.ofInt 64 k &&& BitVec.ofInt 64 ((3 : Nat) : Int)).toNat : Int) = _
    rw [IntKind.wrap_i64]
    omega
  · rw [BitVec.toNat_and, ofInt_i64' 3 (by omega)]
    exact Nat.lt_of_le_of_lt Nat.and_le_right (by omega)

set_option maxRecDepth 100000 in
set_option maxHeartbeats 8000000 in
theorem reads_any (s : ByteArray) (a : Option Addr) (ks : List Int) (cap : Nat) (w : World) (hs : s.size ≤ 200) (hk : ks.length ≤ 40) (hI : Ints w a ks) :
    Calls Try.prog 5 #[.string s, .slice a ks.length cap] w fun e w' => e = .returned (.bool true) ∧ Below w.heap.size w w' := by
  go_enter Try.func5, Try.ntmps5
  go_wp2_with fail
  refine (head_any w).mono ?_
  rintro e w1 ⟨rfl, hb⟩
  go_wp2_with fail
  refine (rNew_any s _).mono ?_
  rintro e w2 ⟨rfl, rfl⟩
  have HR0 := Lib.hid (isRd_new s w1)
  go_wp2_with fail
  go_loopg [6, 7, 29] ks.length (fun gk u o v wr => ∃ (at_ j : Nat), u = .int .i64 at_ ∧ o = .bool true ∧ v = .int .i64 j ∧ j + gk = ks.length ∧ at_ ≤ s.size ∧ IsRd wr w1.heap.size s (some at_) ∧ Below w.heap.size w wr)
  case atStart => exact ⟨0, 0, rfl, rfl, rfl, by omega, Nat.zero_le _, HR0.out, hb.trans ((Below.refl _ _).alloc hb.size _)⟩
  case round =>
    obtain ⟨at_, j, rfl, rfl, rfl, hj, hat, hR, hbr⟩ := hrel
    by_cases hjl : j < ks.length
    · obtain ⟨b, off, rfl, hbb, hcell⟩ := hI j hjl
      have hcw : wr.cell? ⟨b, off + j, none⟩ = some (.int .i64 (ks.getD j 0)) := (hbr.cell (p := ⟨b, off + j, none⟩) hbb).trans hcell
      generalize ks.getD j 0 = k at *
      have HI := Lib.hid hI
      clear hcell hI
      have hsz : s.data.toList.length = s.size := by rw [Array.length_toList]; rfl
      obtain ⟨T, hT, hT2, hT3⟩ : ∃ T : ByteArray, s.extract at_ s.size = T ∧ T.data.toList = s.data.toList.drop at_ ∧ T.size ≤ 200 := by
        refine ⟨_, rfl, ?_, ?_⟩
        · rw [ByteArray.data_extract, Array.toList_extract, List.extract_eq_take_drop, List.take_of_length_le (by rw [List.length_drop, hsz]; omega)]
        · rw [ByteArray.size_extract]; omega
      have HT := Lib.hid hT2
      have HR := Lib.hid hR
      have HL := Lib.hid hsz
      clear hT2 hR hsz
      go_wp2_with fail
      refine (number_any T _ (by omega)).mono ?_
      intro e w3 hN
      unfold NumberPost at hN
      rw [HT.out] at hN
      obtain ⟨rfl, rfl⟩ := hN
      obtain ⟨v, m, hvm, hv, hm⟩ : ∃ v m : Nat, Hid (pairOf (Rd.rdNum (s.data.toList.drop at_) 0 0) = (v, m)) ∧ v < 9223372036854775808 ∧ m ≤ 9 := by
        cases hr : Rd.rdNum (s.data.toList.drop at_) 0 0 with
        | none => exact ⟨0, 0, Lib.hid rfl, by omega, by omega⟩
        | some p =>
          obtain ⟨v, m⟩ := p
          refine ⟨v, m, Lib.hid rfl, ?_, (Rd.rdNum_bound _ _ _ _ _ hr).2.2⟩
          have h1 := Rd.rdNum_val _ _ _ _ _ hr (by simp)
          have h2 := (Rd.rdNum_bound _ _ _ _ _ hr).2.2
          exact Nat.lt_of_lt_of_le h1 (Nat.pow_le_pow_right (n := 2) (by omega) (show 7 * m ≤ 63 by omega))
      rw [hvm.out]
      simp only
      obtain ⟨c, hq, hc⟩ := and3 k
      obtain ⟨B0, hB0⟩ : ∃ B0 : Bool, Hid (B0 = (m == 0 && c != 3)) := ⟨_, Lib.hid rfl⟩
      have Hq := Lib.hid hq
      go_upto_region 12 with (fail)
      go_cut [46] (fun u wx => u = .bool B0 ∧ wr = wx)
      case first =>
        have hB := hB0.out
        by_cases h1 : m = 0
        · have h2 : ((m : Int) == 0) = true := by simp [h1]
          by_cases h3 : c = 3
          · have h4 : ((c : Int) != 3) = false := by simp [h3]
            have h5 : Hid (B0 = false) := Lib.hid (by simp [hB, h1, h3])
            clear h1 h3 hB
            go_wp2
            go_meet
            exact ⟨by rw [h5.out], rfl⟩
          · have h4 : ((c : Int) != 3) = true := by simp; omega
            have h5 : Hid (B0 = true) := Lib.hid (by simp [hB, h1, h3])
            clear h1 h3 hB
            go_wp2
            go_meet
            exact ⟨by rw [h5.out], rfl⟩
        · have h2 : ((m : Int) == 0) = false := by simpa using h1
          have h5 : Hid (B0 = false) := Lib.hid (by simp [hB, h1])
          clear h1 hB
          go_wp2
          go_meet
          exact ⟨by rw [h5.out], rfl⟩
      case rest =>
        obtain ⟨rfl, rfl⟩ := hcut
        go_upto_if 46 with (fail)
        go_cut [7] (fun u wx => u = .bool (!B0) ∧ wr = wx)
        case first =>
          cases B0
          · go_wp2
            go_meet
            exact ⟨rfl, rfl⟩
          · go_wp2
            go_meet
            exact ⟨rfl, rfl⟩
        case rest =>
          obtain ⟨rfl, rfl⟩ := hcut
          go_upto_block 2 with (fail)
          go_cut [7, 11] (fun u v wx => ∃ (ok : Bool) (sz : Nat), u = .bool ok ∧ v = .int .i64 sz ∧ sz ≤ 1000 ∧ (ok = true → at_ + sz ≤ s.size) ∧ IsRd wx w1.heap.size s (if ok then some (at_ + sz) else none) ∧ Below w.heap.size w wx)
          case first =>
           as_aux_lemma =>
            have hB := hB0.out
            clear hB0
            have hnum : Rd.num s.data.toList (some at_) = if m = 0 then (0, none) else (v, some (at_ + m)) := by
              have h := hvm.out
              cases hr : Rd.rdNum (s.data.toList.drop at_) 0 0 with
              | none =>
                rw [hr] at h
                injection h with h1 h2
                rw [num_none hr, if_pos h2.symm]
              | some p =>
                obtain ⟨v', m'⟩ := p
                rw [hr] at h
                injection h with h1 h2
                subst h1 h2
                have := (Rd.rdNum_bound _ _ _ _ _ hr).1
                rw [num_some hr, if_neg (by omega)]
            have hsum : at_ + m ≤ s.size := by
              have := Rd.num_at s.data.toList (some at_) (fun a h => by injection h with h; rw [HL.out]; omega)
              by_cases h0 : m = 0
              · omega
              · have h2 := this (at_ + m) (by rw [hnum, if_neg h0])
                rw [HL.out] at h2
                exact h2
            have hmv : m = 0 → v = 0 := by
              intro h0
              have h := hvm.out
              cases hr : Rd.rdNum (s.data.toList.drop at_) 0 0 with
              | none => rw [hr] at h; injection h with h1 h2; exact h1.symm
              | some p =>
                obtain ⟨v', m'⟩ := p
                rw [hr] at h
                injection h with h1 h2
                have := (Rd.rdNum_bound _ _ _ _ _ hr).1
                omega
            have Hn := Lib.hid hnum
            clear hnum
            obtain rfl | rfl | rfl | rfl : c = 0 ∨ c = 1 ∨ c = 2 ∨ c = 3 := by omega
            · by_cases h0 : m = 0
              · subst h0
                obtain rfl := hmv rfl
                obtain rfl : B0 = true := by rw [hB]; rfl
                clear hB hmv
                go_wp2_with fail
                refine (rNum_any w1.heap.size s (some at_) _ HR.out (by omega)).mono ?_
                rintro e w4 ⟨rfl, hR4, hK4⟩
                rw [Hn.out] at hR4 ⊢
                have HR4 := Lib.hid hR4
                clear hR4
                go_wp2
                go_meet
                exact ⟨false, 0, rfl, rfl, by omega, by simp, HR4.out, hbr.trans (keptR_below hK4 hbr.size hb.size)⟩
              · obtain rfl : B0 = false := by rw [hB]; simp [h0]
                clear hB hmv
                go_wp2_with fail
                refine (rNum_any w1.heap.size s (some at_) _ HR.out (by omega)).mono ?_
                rintro e w4 ⟨rfl, hR4, hK4⟩
                rw [Hn.out, if_neg h0] at hR4 ⊢
                have HR4 := Lib.hid hR4
                clear hR4
                go_wp2
                go_meet
                exact ⟨true, m, rfl, rfl, by omega, by omega, HR4.out, hbr.trans (keptR_below hK4 hbr.size hb.size)⟩
            · by_cases h0 : m = 0
              · subst h0
                obtain rfl := hmv rfl
                obtain rfl : B0 = true := by rw [hB]; rfl
                clear hB hmv
                have Ht : Hid (Rd.text s.data.toList (some at_) = ([], none)) := Lib.hid (by unfold Rd.text; rw [Hn.out]; rfl)
                go_wp2_with fail
                refine (rText_any w1.heap.size s (some at_) _ HR.out (by omega)).mono ?_
                rintro e w4 ⟨rfl, hR4, hK4⟩
                rw [Ht.out] at hR4 ⊢
                have HR4 := Lib.hid hR4
                clear hR4
                go_wp2
                go_meet
                exact ⟨false, 0, rfl, rfl, by omega, by simp, HR4.out, hbr.trans (keptR_below hK4 hbr.size hb.size)⟩
              · obtain rfl : B0 = false := by rw [hB]; simp [h0]
                clear hB hmv
                by_cases h1 : at_ + m + v ≤ s.size
                · obtain ⟨U, hU, hU2⟩ : ∃ U : ByteArray, s.extract (at_ + m) (at_ + m + v) = U ∧ (⟨((s.data.toList.drop (at_ + m)).take v).toArray⟩ : ByteArray) = U := ⟨_, rfl, (extract_list _ _ _).symm⟩
                  have Ht : Hid (Rd.text s.data.toList (some at_) = ((s.data.toList.drop (at_ + m)).take v, some (at_ + m + v))) := Lib.hid (by unfold Rd.text; rw [Hn.out, if_neg h0]; simp only; rw [HL.out, if_pos h1])
                  have HU := Lib.hid hU2
                  clear hU2
                  go_wp2_with fail
                  refine (rText_any w1.heap.size s (some at_) _ HR.out (by omega)).mono ?_
                  rintro e w4 ⟨rfl, hR4, hK4⟩
                  rw [Ht.out] at hR4 ⊢
                  simp only
                  rw [HU.out]
                  have HR4 := Lib.hid hR4
                  clear hR4
                  go_wp2
                  go_meet
                  exact ⟨true, m + v, rfl, rfl, by omega, by omega, by rw [← Nat.add_assoc]; exact HR4.out, hbr.trans (keptR_below hK4 hbr.size hb.size)⟩
                · have Ht : Hid (Rd.text s.data.toList (some at_) = ([], none)) := Lib.hid (by unfold Rd.text; rw [Hn.out, if_neg h0]; simp only; rw [HL.out, if_neg h1])
                  go_wp2_with fail
                  refine (rText_any w1.heap.size s (some at_) _ HR.out (by omega)).mono ?_
                  rintro e w4 ⟨rfl, hR4, hK4⟩
                  rw [Ht.out] at hR4 ⊢
                  have HR4 := Lib.hid hR4
                  clear hR4
                  go_wp2
                  go_meet
                  exact ⟨false, m, rfl, rfl, by omega, by simp, HR4.out, hbr.trans (keptR_below hK4 hbr.size hb.size)⟩
            · by_cases h0 : m = 0
              · subst h0
                obtain rfl := hmv rfl
                obtain rfl : B0 = true := by rw [hB]; rfl
                clear hB hmv
                have Ht : Hid (Rd.count s.data.toList (some at_) (k / 4) = (0, none)) := Lib.hid (by unfold Rd.count; rw [Hn.out]; simp)
                go_wp2_with fail
                refine (rCount_any w1.heap.size s (some at_) _ _ HR.out (by omega)).mono ?_
                rintro e w4 ⟨rfl, hR4, hK4⟩
                rw [Ht.out] at hR4 ⊢
                have HR4 := Lib.hid hR4
                clear hR4
                go_wp2
                go_meet
                exact ⟨false, 0, rfl, rfl, by omega, by simp, HR4.out, hbr.trans (keptR_below hK4 hbr.size hb.size)⟩
              · obtain rfl : B0 = false := by rw [hB]; simp [h0]
                clear hB hmv
                by_cases h1 : (v : Int) ≤ k / 4
                · have Ht : Hid (Rd.count s.data.toList (some at_) (k / 4) = (v, some (at_ + m))) := Lib.hid (by unfold Rd.count; rw [Hn.out, if_neg h0, if_pos h1])
                  go_wp2_with fail
                  refine (rCount_any w1.heap.size s (some at_) _ _ HR.out (by omega)).mono ?_
                  rintro e w4 ⟨rfl, hR4, hK4⟩
                  rw [Ht.out] at hR4 ⊢
                  have HR4 := Lib.hid hR4
                  clear hR4
                  go_wp2
                  go_meet
                  exact ⟨true, m, rfl, rfl, by omega, by omega, HR4.out, hbr.trans (keptR_below hK4 hbr.size hb.size)⟩
                · have Ht : Hid (Rd.count s.data.toList (some at_) (k / 4) = (0, none)) := Lib.hid (by unfold Rd.count; rw [Hn.out, if_neg h0, if_neg h1])
                  go_wp2_with fail
                  refine (rCount_any w1.heap.size s (some at_) _ _ HR.out (by omega)).mono ?_
                  rintro e w4 ⟨rfl, hR4, hK4⟩
                  rw [Ht.out] at hR4 ⊢
                  have HR4 := Lib.hid hR4
                  clear hR4
                  go_wp2
                  go_meet
                  exact ⟨false, m, rfl, rfl, by omega, by simp, HR4.out, hbr.trans (keptR_below hK4 hbr.size hb.size)⟩
            · obtain rfl : B0 = false := by rw [hB]; simp
              clear hB hmv
              by_cases h1 : (bits .and .i64 k 32 == 32) = true
              · go_wp2_with fail
                refine (rFail_any w1.heap.size s (some at_) _ HR.out).mono ?_
                rintro e w4 ⟨rfl, hR4, hK4⟩
                have HR4 := Lib.hid hR4
                clear hR4
                go_wp2
                go_meet
                exact ⟨false, 0, rfl, rfl, by omega, by simp, HR4.out, hbr.trans (keptR_below hK4 hbr.size hb.size)⟩
              · have h2 : (bits .and .i64 k 32 == 32) = false := by simpa using h1
                clear h1
                go_wp2
                go_meet
                exact ⟨true, 0, rfl, rfl, by omega, by omega, HR.out, hbr⟩
          case rest =>
           as_aux_lemma =>
            obtain ⟨ok, sz, rfl, rfl, hsz, hok, hR, hbx⟩ := hcut
            cases ok with
            | false =>
              simp only [Bool.false_eq_true, if_false] at hR
              have HRx := Lib.hid hR
              clear hR hok
              go_wp2_with fail
              refine (rOK_any w1.heap.size s none _ HRx.out).mono ?_
              rintro e w4 ⟨rfl, rfl⟩
              rw [show (none : Option Nat).isSome = false by rfl]
              go_wp2_with fail
              refine (rDone_any w1.heap.size s none _ HRx.out).mono ?_
              rintro e w5 ⟨rfl, hR5, hK5⟩
              rw [show decide (none = some s.size) = false by rfl]
              have HR5 := Lib.hid hR5
              clear hR5
              go_wp2_with fail
              refine (rOK_any w1.heap.size s none _ HR5.out).mono ?_
              rintro e w6 ⟨rfl, rfl⟩
              rw [show (none : Option Nat).isSome = false by rfl]
              go_wp2_with fail
              refine (rDone_any w1.heap.size s none _ HR5.out).mono ?_
              rintro e w7 ⟨rfl, hR7, hK7⟩
              rw [show decide (none = some s.size) = false by rfl]
              have HR7 := Lib.hid hR7
              clear hR7
              go_wp2_with fail
              refine (rNum_any w1.heap.size s none _ HR7.out (by omega)).mono ?_
              rintro e w8 ⟨rfl, hR8, hK8⟩
              have HR8 := Lib.hid hR8
              clear hR8
              rw [show (Rd.num s.data.toList none).1 = 0 by rfl]
              go_wp2_with fail
              refine (rText_any w1.heap.size s none _ HR8.out (by omega)).mono ?_
              rintro e w9 ⟨rfl, hR9, hK9⟩
              have HR9 := Lib.hid hR9
              clear hR9
              rw [show (ByteArray.mk (Rd.text s.data.toList none).1.toArray) = ⟨#[]⟩ by rfl]
              go_wp2_with fail
              refine (rCount_any w1.heap.size s none 9 _ HR9.out (by omega)).mono ?_
              rintro e w10 ⟨rfl, hR10, hK10⟩
              rw [show (Rd.count s.data.toList none 9).1 = 0 by rfl]
              go_wp2
              go_ret
              have b5 := hK5.below (B := w.heap.size) hbx.size (fun _ _ h => h)
              have b7 := hK7.below (B := w.heap.size) (hbx.trans b5).size (fun _ _ h => h)
              have b8 := keptR_below hK8 ((hbx.trans b5).trans b7).size hb.size
              have b9 := keptR_below hK9 (((hbx.trans b5).trans b7).trans b8).size hb.size
              have b10 := keptR_below hK10 ((((hbx.trans b5).trans b7).trans b8).trans b9).size hb.size
              exact ⟨rfl, ((((hbx.trans b5).trans b7).trans b8).trans b9).trans b10⟩
            | true =>
              simp only [if_true] at hR
              have HRx := Lib.hid hR
              have hok' := hok rfl
              clear hR hok
              by_cases h1 : at_ + sz = s.size
              · have hb1 : (((at_ : Int) + sz) != (s.size : Int)) = false := by rw [bne_eq_false_iff_eq]; omega
                have Hd : Hid (decide (some (at_ + sz) = some s.size) = true) := Lib.hid (by simp [h1])
                clear h1
                go_wp2_with fail
                refine (rOK_any w1.heap.size s (some (at_ + sz)) _ HRx.out).mono ?_
                rintro e w4 ⟨rfl, rfl⟩
                rw [show (some (at_ + sz)).isSome = true by rfl]
                go_wp2_with fail
                refine (rDone_any w1.heap.size s (some (at_ + sz)) _ HRx.out).mono ?_
                rintro e w5 ⟨rfl, hR5, hK5⟩
                rw [Hd.out]
                have HR5 := Lib.hid hR5
                clear hR5
                go_wp2
                go_roundg (gk - 1)
                case measure => omega
                case rel => exact ⟨at_ + sz, j + 1, rfl, rfl, rfl, by omega, by omega, HR5.out, hbx.trans (hK5.below (B := w.heap.size) hbx.size (fun _ _ h => h))⟩
              · have Hd : Hid (decide (some (at_ + sz) = some s.size) = false) := Lib.hid (by simp [h1])
                clear h1
                go_wp2_with fail
                refine (rOK_any w1.heap.size s (some (at_ + sz)) _ HRx.out).mono ?_
                rintro e w4 ⟨rfl, rfl⟩
                rw [show (some (at_ + sz)).isSome = true by rfl]
                go_wp2_with fail
                refine (rDone_any w1.heap.size s (some (at_ + sz)) _ HRx.out).mono ?_
                rintro e w5 ⟨rfl, hR5, hK5⟩
                rw [Hd.out]
                have HR5 := Lib.hid hR5
                clear hR5
                go_wp2
                go_roundg (gk - 1)
                case measure => omega
                case rel => exact ⟨at_ + sz, j + 1, rfl, rfl, rfl, by omega, by omega, HR5.out, hbx.trans (hK5.below (B := w.heap.size) hbx.size (fun _ _ h => h))⟩
    · have hR0' := Lib.hid hR
      clear hR
      have hgk : j = ks.length := by omega
      go_wp2_with fail
      refine (rDone_any w1.heap.size s (some at_) _ hR0'.out).mono ?_
      rintro e w5 ⟨rfl, hR5, hK5⟩
      have HR5 := Lib.hid hR5
      clear hR5
      by_cases h1 : at_ = s.size
      · have hb1 : ((at_ : Int) == (s.size : Int)) = true := by rw [beq_iff_eq]; omega
        rw [show decide (some at_ = some s.size) = true by simp [h1]]
        clear h1
        go_wp2
        go_ret
        exact ⟨rfl, hbr.trans (hK5.below (B := w.heap.size) hbr.size (fun _ _ h => h))⟩
      · have hb1 : ((at_ : Int) == (s.size : Int)) = false := by rw [beq_eq_false_iff_ne]; omega
        rw [show decide (some at_ = some s.size) = false by simp [h1]]
        clear h1
        go_wp2
        go_ret
        exact ⟨rfl, hbr.trans (hK5.below (B := w.heap.size) hbr.size (fun _ _ h => h))⟩
end Go.Proofs.Ytikkakbemphdhaa
