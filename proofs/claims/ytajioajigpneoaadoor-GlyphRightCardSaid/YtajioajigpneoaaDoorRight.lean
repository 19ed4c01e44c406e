/- The walk of GlyphRight. -/
import Derived.Test.YtajioajigpneoaaDoorPureG
set_option linter.unusedSimpArgs false
set_option linter.unusedVariables false
namespace Go.Proofs.YtajioajigpneoaaDoor
open Go.RowKit Go.Fl Go.Shelf

theorem last_fact (s : ByteArray) (h : valid s = true) : okP (Lib.decodeLastL (⟨#[97]⟩ ++ s : ByteArray).data.toList) = true := by
  have e : (⟨#[97]⟩ ++ s : ByteArray).data.toList = [97] ++ s.data.toList := by rw [ByteArray.data_append, Array.toList_append]
  rw [e]
  by_cases h0 : s.data.toList = []
  · rw [h0]; decide +kernel
  · exact last_ok _ _ [97] (Nat.le_refl _) h0 h

theorem last_size (s : ByteArray) (h : s.size ≤ 100) : (⟨#[97]⟩ ++ s : ByteArray).size ≤ 9223372036854775807 := by
  rw [ByteArray.size_append]
  have : (⟨#[97]⟩ : ByteArray).size = 1 := rfl
  omega

set_option maxRecDepth 100000 in
set_option maxHeartbeats 3000000 in
theorem right_law (s : ByteArray) (w : World) (hs : s.size ≤ 9223372036854775807) (hT : Tabs w) : Calls Tryd.prog 3 #[.string s] w fun e w' => e = .returned (.bool true) ∧ Below w.heap.size w w' := by
  have HT := Lib.hid hT
  clear hT
  go_enter Tryd.func3, Tryd.ntmps3
  go_wp2_with fail
  refine (head_any w HT.out).mono ?_
  rintro e w1 ⟨rfl, hb1⟩
  have HB1 := Lib.hid hb1
  clear hb1
  by_cases hsz : s.size ≤ 100
  · go_wp2
    go_loopg [3, 4, 5] s.size (fun gk u v x wr => ∃ (sg p : Nat), u = .int .i64 sg ∧ v = .int .i64 p ∧ Hid (p + gk = s.size) ∧ p ≤ s.size ∧ sg ≤ p ∧ Hid (scanS s.size s.data.toList = ((scanS gk (s.data.toList.drop p)).1 + sg, (scanS gk (s.data.toList.drop p)).2)) ∧ Hid (Below w.heap.size w wr))
    case atStart => exact ⟨0, 0, rfl, rfl, Lib.hid (by omega), by omega, by omega, Lib.hid rfl, HB1⟩
    case round =>
      obtain ⟨sg, p, rfl, rfl, hpg, hps, hsp, hsc, hbr⟩ := hrel
      by_cases hp : p < s.size
      · have C := fun W => Lib.hid (lead_any (s.extract p s.size) W (by rw [ByteArray.size_extract]; omega))
        rw [ext_drop] at C
        obtain ⟨n, hn⟩ : ∃ n, leadL (s.data.toList.drop p) = n := ⟨_, rfl⟩
        rw [hn] at C
        have hlen : (s.data.toList.drop p).length = s.size - p := by rw [List.length_drop, Array.length_toList]; rfl
        have h0 : s.data.toList.drop p ≠ [] := fun e => by rw [e] at hlen; simp at hlen; omega
        obtain ⟨gk, rfl⟩ : ∃ k, gk = k + 1 := ⟨gk - 1, by have := hpg.out; omega⟩
        have hst := hsc.out
        rw [scanS, if_neg h0] at hst
        by_cases hn0 : n = 0
        · subst hn0
          rw [if_pos hn] at hst
          have HV : Hid (valid s = false) := Lib.hid (by unfold valid; rw [← scanS_valid s.size s.data.toList (by rw [Array.length_toList]; exact Nat.le_refl _), hst])
          have hpn : ((p : Int) == (s.size : Int)) = false := by rw [beq_eq_false_iff_ne]; omega
          clear hst h0 hlen hn hsc
          go_wp2_with fail
          refine (C wr).out.mono ?_
          rintro e w2 ⟨rfl, rfl⟩
          go_wp2_with fail
          refine (first_any s wr (HT.out.below hbr.out)).mono ?_
          rw [first_ok]
          rintro e w3 ⟨rfl, hb3⟩
          generalize ptP (Lib.decodeGo s) = fp
          have HB3 := Lib.hid (bt hbr.out hb3)
          clear hb3
          go_wp2_with fail
          obtain ⟨X, hX⟩ : ∃ X, (⟨#[97]⟩ ++ s : ByteArray) = X := ⟨_, rfl⟩
          rw [hX]
          have hXs : X.size ≤ 9223372036854775807 := by rw [← hX]; exact last_size s hsz
          have HLO : Hid (valid s = true → okP (Lib.decodeLastL X.data.toList) = true) := Lib.hid (by rw [← hX]; exact last_fact s)
          clear hX
          refine (last_any X w3 hXs (HT.out.below HB3.out)).mono ?_
          rintro e w4 ⟨rfl, hb4⟩
          generalize ptP (Lib.decodeLastL X.data.toList) = lp
          generalize okP (Lib.decodeLastL X.data.toList) = L at HLO ⊢
          clear hXs
          have HB4 := Lib.hid (bt HB3.out hb4)
          clear hb4
          go_wp2_with fail
          refine (right_any s w4 (by omega) (HT.out.below HB4.out)).mono ?_
          rw [HV.out]
          rintro e w5 ⟨rfl, hb5⟩
          have HB5 := Lib.hid (bt HB4.out hb5)
          clear hb5
          cases L with
          | true =>
            go_wp2_with fail
            refine (one_any s w5 (by omega) (HT.out.below HB5.out)).mono ?_
            rw [HV.out, Bool.false_and]
            rintro e w6 ⟨rfl, hb6⟩
            have HB6 := Lib.hid (bt HB5.out hb6)
            clear hb6
            by_cases hz : 0 < leadL s.data.toList
            · rw [decide_eq_true hz]
              have Hz := Lib.hid hz
              clear hz
              go_wp2_with fail
              refine (lead_any s w6 (by omega)).mono ?_
              rintro e w7 ⟨rfl, rfl⟩
              have hz := Hz.out
              generalize leadL s.data.toList = n0 at hz
              have hz2 : (0 : Int) < (n0 : Int) := by omega
              clear hz Hz
              go_wp2_with fail
              go_ret
              exact ⟨rfl, HB6.out⟩
            · rw [decide_eq_false hz]
              have Hz : Hid (leadL s.data.toList = 0) := Lib.hid (by omega)
              clear hz
              go_wp2_with fail
              refine (lead_any s w6 (by omega)).mono ?_
              rw [Hz.out]
              rintro e w7 ⟨rfl, rfl⟩
              go_wp2_with fail
              go_ret
              exact ⟨rfl, HB6.out⟩
          | false =>
            go_wp2_with fail
            refine (one_any s w5 (by omega) (HT.out.below HB5.out)).mono ?_
            rw [HV.out, Bool.false_and]
            rintro e w6 ⟨rfl, hb6⟩
            have HB6 := Lib.hid (bt HB5.out hb6)
            clear hb6
            by_cases hz : 0 < leadL s.data.toList
            · rw [decide_eq_true hz]
              have Hz := Lib.hid hz
              clear hz
              go_wp2_with fail
              refine (lead_any s w6 (by omega)).mono ?_
              rintro e w7 ⟨rfl, rfl⟩
              have hz := Hz.out
              generalize leadL s.data.toList = n0 at hz
              have hz2 : (0 : Int) < (n0 : Int) := by omega
              clear hz Hz
              go_wp2_with fail
              go_ret
              exact ⟨rfl, HB6.out⟩
            · rw [decide_eq_false hz]
              have Hz : Hid (leadL s.data.toList = 0) := Lib.hid (by omega)
              clear hz
              go_wp2_with fail
              refine (lead_any s w6 (by omega)).mono ?_
              rw [Hz.out]
              rintro e w7 ⟨rfl, rfl⟩
              go_wp2_with fail
              go_ret
              exact ⟨rfl, HB6.out⟩
        · have hf := lead_facts (l := s.data.toList.drop p) (by omega)
          rw [hlen, hn] at hf
          have hf1 := hf.1
          rw [hn, if_neg hn0, List.drop_drop] at hst
          have hsc2 : Hid (scanS s.size s.data.toList = ((scanS (gk + 1 - n) (s.data.toList.drop (p + n))).1 + (sg + 1), (scanS (gk + 1 - n) (s.data.toList.drop (p + n))).2)) := Lib.hid (by
            rw [hst]
            have h1 := hpg.out
            rw [scanS_fuel gk (gk + 1 - n) (s.data.toList.drop (p + n)) (by rw [List.length_drop, Array.length_toList]; show s.size - _ ≤ _; omega) (by rw [List.length_drop, Array.length_toList]; show s.size - _ ≤ _; omega)]
            exact Prod.ext (by dsimp only; omega) rfl)
          have hn1 : ((n : Int) == 0) = false := by rw [beq_eq_false_iff_ne]; omega
          clear hst h0 hlen hn hsc hf
          go_wp2_with fail
          refine (C wr).out.mono ?_
          rintro e w2 ⟨rfl, rfl⟩
          go_wp2_with fail
          go_roundg (gk + 1 - n)
          case measure => omega
          case rel => exact ⟨sg + 1, p + n, rfl, rfl, Lib.hid (by have := hpg.out; omega), by omega, by omega, hsc2, hbr⟩
      · obtain rfl : p = s.size := by omega
        have hsc3 : scanS s.size s.data.toList = (sg, true) := by
          rw [hsc.out, List.drop_of_length_le (by rw [Array.length_toList]; exact Nat.le_refl _)]
          cases gk <;> simp [scanS]
        have hl1 : s.data.toList.length ≤ s.size := by rw [Array.length_toList]; exact Nat.le_refl _
        have HV : Hid (valid s = true) := Lib.hid (by unfold valid; rw [← scanS_valid s.size s.data.toList hl1, hsc3])
        have HC : Hid (Lib.runeCount s = sg) := Lib.hid (by
          have h := scanS_count s s.size 0 (Nat.zero_le _) (by omega) (by rw [List.drop_zero]; exact HV.out)
          rw [List.drop_zero, hsc3] at h
          exact h.symm)
        clear hsc3 hsc hp
        go_wp2_with fail
        refine (first_any s wr (HT.out.below hbr.out)).mono ?_
        rw [first_ok]
        rintro e w3 ⟨rfl, hb3⟩
        generalize ptP (Lib.decodeGo s) = fp
        have HB3 := Lib.hid (bt hbr.out hb3)
        clear hb3
        go_wp2_with fail
        obtain ⟨X, hX⟩ : ∃ X, (⟨#[97]⟩ ++ s : ByteArray) = X := ⟨_, rfl⟩
        rw [hX]
        have hXs : X.size ≤ 9223372036854775807 := by rw [← hX]; exact last_size s hsz
        have HLO : Hid (valid s = true → okP (Lib.decodeLastL X.data.toList) = true) := Lib.hid (by rw [← hX]; exact last_fact s)
        clear hX
        refine (last_any X w3 hXs (HT.out.below HB3.out)).mono ?_
        rintro e w4 ⟨rfl, hb4⟩
        generalize ptP (Lib.decodeLastL X.data.toList) = lp
        generalize okP (Lib.decodeLastL X.data.toList) = L at HLO ⊢
        clear hXs
        have HB4 := Lib.hid (bt HB3.out hb4)
        clear hb4
        obtain rfl : L = true := HLO.out HV.out
        go_wp2_with fail
        refine (right_any s w4 (by omega) (HT.out.below HB4.out)).mono ?_
        rw [HV.out]
        rintro e w5 ⟨rfl, hb5⟩
        have HB5 := Lib.hid (bt HB4.out hb5)
        clear hb5
        by_cases hs1 : sg = 1
        · subst hs1
          go_wp2_with fail
          refine (one_any s w5 (by omega) (HT.out.below HB5.out)).mono ?_
          rw [HV.out, HC.out, decide_eq_true rfl, Bool.and_true]
          rintro e w6 ⟨rfl, hb6⟩
          have HB6 := Lib.hid (bt HB5.out hb6)
          clear hb6
          by_cases hz : 0 < leadL s.data.toList
          · rw [decide_eq_true hz]
            have Hz := Lib.hid hz
            clear hz
            go_wp2_with fail
            refine (lead_any s w6 (by omega)).mono ?_
            rintro e w7 ⟨rfl, rfl⟩
            have hz := Hz.out
            generalize leadL s.data.toList = n0 at hz
            have hz2 : (0 : Int) < (n0 : Int) := by omega
            clear hz Hz
            go_wp2_with fail
            go_ret
            exact ⟨rfl, HB6.out⟩
          · rw [decide_eq_false hz]
            have Hz : Hid (leadL s.data.toList = 0) := Lib.hid (by omega)
            clear hz
            go_wp2_with fail
            refine (lead_any s w6 (by omega)).mono ?_
            rw [Hz.out]
            rintro e w7 ⟨rfl, rfl⟩
            go_wp2_with fail
            go_ret
            exact ⟨rfl, HB6.out⟩
        · have hs2 : ((sg : Int) == 1) = false := by rw [beq_eq_false_iff_ne]; omega
          have hs3 : decide (sg = 1) = false := decide_eq_false hs1
          have Hs3 := Lib.hid hs3
          clear hs1 hs3
          go_wp2_with fail
          refine (one_any s w5 (by omega) (HT.out.below HB5.out)).mono ?_
          rw [HV.out, HC.out, Hs3.out, Bool.and_false]
          rintro e w6 ⟨rfl, hb6⟩
          have HB6 := Lib.hid (bt HB5.out hb6)
          clear hb6
          by_cases hz : 0 < leadL s.data.toList
          · rw [decide_eq_true hz]
            have Hz := Lib.hid hz
            clear hz
            go_wp2_with fail
            refine (lead_any s w6 (by omega)).mono ?_
            rintro e w7 ⟨rfl, rfl⟩
            have hz := Hz.out
            generalize leadL s.data.toList = n0 at hz
            have hz2 : (0 : Int) < (n0 : Int) := by omega
            clear hz Hz
            go_wp2_with fail
            go_ret
            exact ⟨rfl, HB6.out⟩
          · rw [decide_eq_false hz]
            have Hz : Hid (leadL s.data.toList = 0) := Lib.hid (by omega)
            clear hz
            go_wp2_with fail
            refine (lead_any s w6 (by omega)).mono ?_
            rw [Hz.out]
            rintro e w7 ⟨rfl, rfl⟩
            go_wp2_with fail
            go_ret
            exact ⟨rfl, HB6.out⟩
  · go_wp2_with fail
    go_ret
    exact ⟨rfl, HB1.out⟩
end Go.Proofs.YtajioajigpneoaaDoor
