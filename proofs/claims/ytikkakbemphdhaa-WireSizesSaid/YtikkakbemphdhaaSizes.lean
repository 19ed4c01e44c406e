/- The walk of WireSizes. -/
import Derived.Test.YtikkakbemphdhaaLaw2
namespace Go.Proofs.Ytikkakbemphdhaa
open Go.RowKit Go.Fl

/-- how many groups of seven bits a number has: 0 of 0. -/
def groups (k : Nat) : Nat := if k = 0 then 0 else (numB k).length
theorem groups_step (k : Nat) (h : 0 < k) : groups k = 1 + groups (k / 128) := by
  unfold groups
  rw [if_neg (by omega), numB]
  by_cases h1 : k < 128
  · rw [if_pos h1, if_pos (by omega)]; rfl
  · rw [if_neg h1, if_neg (by omega)]; simp only [List.length_cons]; omega
theorem size_small (n : Nat) (h : n < 128) : (numB n).length = 1 := by rw [numB, if_pos h]; rfl
theorem size_two (n : Nat) (h : 128 ≤ n) (h2 : n < 16384) : (numB n).length = 2 := by rw [numB, if_neg (by omega), List.length_cons, size_small _ (by omega)]
theorem groups_all (k : Nat) : (numB k).length = 1 + groups (k / 128) := by
  by_cases h : k = 0
  · subst h
    rw [numB, if_pos (by omega)]; rfl
  · rw [← groups_step k (by omega), groups, if_neg h]

set_option maxRecDepth 100000 in
set_option maxHeartbeats 800000 in
theorem sizes_any (n : Int) (s : ByteArray) (w : World) (hn : n ≤ 9223372036854775807) (hs0 : s.size ≤ 9223372036854775807) : Calls Try.prog 4 #[.int .i64 n, .string s] w fun e w' => e = .returned (.bool true) ∧ Below w.heap.size w w' := by
  by_cases hs : 1000 < s.size
  · go_enter Try.func4, Try.ntmps4
    go_wp2_with fail
    refine (head_any w).mono ?_
    rintro e w1 ⟨rfl, hb⟩
    go_wp2
    go_ret
    exact ⟨rfl, hb⟩
  · obtain ⟨N, hN, hN0, hNc⟩ : ∃ N : Nat, n.toNat = N ∧ N < 9223372036854775808 ∧ ((n = N) ∨ (n < 0 ∧ N = 0)) := ⟨n.toNat, rfl, by omega, by omega⟩
    have HN := Lib.hid hN
    clear hN
    have hNz : Hid (n < 0 → N = 0) := Lib.hid (by omega)
    rcases hNc with rfl | ⟨hneg, _⟩
    all_goals
      by_cases hsz : 127 < s.size
      all_goals
        go_enter Try.func4, Try.ntmps4
        go_wp2_with fail
        refine (head_any w).mono ?_
        rintro e w1 ⟨rfl, hb⟩
        go_wp2
        have HI0 := Lib.hid (isW_new w1)
        go_loop [6, 7] (fun u v => ∃ c k : Nat, u = .int .i64 c ∧ v = .int .i64 k ∧ Hid (c + groups k = (numB N).length) ∧ c ≤ 9 ∧ k < 9223372036854775808) (fun _ v => (intOf v).toNat)
        case atStart => exact ⟨1, N / 128, rfl, by first | rfl | (rw [hNz.out hneg]; rfl), Lib.hid (groups_all N).symm, by omega, by omega⟩
        case round =>
          obtain ⟨c, k, rfl, rfl, hg, hc, hk⟩ := hrel
          by_cases h0 : 0 < k
          · have hgs := hg.out
            rw [groups_step k h0] at hgs
            have H9 := numB_len9 N (by omega)
            have hc' : c + 1 ≤ 9 := by omega
            have Hgs := Lib.hid hgs
            clear hgs H9 hg
            go_wp2
            refine ⟨⟨c + 1, k / 128, rfl, rfl, Lib.hid (by have := Hgs.out; omega), hc', by omega⟩, by simp [intOf]; omega⟩
          · have hk0 : k = 0 := by omega
            subst hk0
            obtain rfl : c = (numB N).length := by have := hg.out; simpa [groups] using this
            generalize hL : (numB N).length = L at *
            have HL := Lib.hid hL
            clear hL
            go_wp2_with fail
            refine (wNum_any w1.heap.size w1.heap.size none [] _ _ (by omega) HI0.out (by simp) (by simp)).mono ?_
            rintro e w2 ⟨rfl, r1, hI1, hK1⟩
            rw [List.nil_append, HN.out] at hI1
            have HI1 := Lib.hid hI1
            have HK1 := Lib.hid hK1
            clear hI1 hK1
            go_wp2_with fail
            refine (wString_any w1.heap.size w1.heap.size r1 _ _ HI1.out).mono ?_
            rintro e w3 ⟨rfl, rfl⟩
            obtain ⟨T, hT, hTz⟩ : ∃ T : ByteArray, ⟨(numB N).toArray⟩ = T ∧ (T.size : Int) = L := ⟨_, rfl, by rw [← HL.out]; rfl⟩
            rw [hT]
            clear hT
            go_wp2_with fail
            refine (wText_any w1.heap.size w1.heap.size r1 _ _ _ HI1.out (by have := HK1.out.size; simp at this; omega) (by rw [HL.out]; omega)).mono ?_
            rintro e w3 ⟨rfl, r2, hI2, hK2⟩
            have HI2 := Lib.hid hI2
            have HK2 := Lib.hid hK2
            clear hI2 hK2
            go_wp2_with fail
            refine (wString_any w1.heap.size w1.heap.size r2 _ _ HI2.out).mono ?_
            rintro e w4 ⟨rfl, rfl⟩
            obtain ⟨U, hU, hUz⟩ : ∃ U : ByteArray, ⟨(numB N ++ textB s).toArray⟩ = U ∧ ((U.size : Int) = L + 1 + s.size ∧ s.size ≤ 127 ∨ (U.size : Int) = L + 2 + s.size ∧ 127 < s.size) := by
              refine ⟨_, rfl, ?_⟩
              have e1 : (ByteArray.mk (numB N ++ textB s).toArray).size = (numB N).length + (numB s.size).length + s.size := by
                show (numB N ++ textB s).toArray.size = _
                rw [List.size_toArray, List.length_append, textB, List.length_append, Array.length_toList]
                show _ + (_ + s.size) = _
                omega
              rw [e1, HL.out]
              by_cases h : s.size ≤ 127
              · rw [size_small s.size (by omega)]; left; omega
              · rw [size_two s.size (by omega) (by omega)]; right; omega
            rw [hU]
            clear hU
            have hUz' : (U.size : Int) = (L : Int) + (if 127 < s.size then 2 else 1) + s.size := by split <;> omega
            clear hUz
            first | rw [if_pos hsz] at hUz' | rw [if_neg hsz] at hUz'
            go_wp2
            go_ret
            exact ⟨rfl, hb.trans ((((Below.refl _ _).alloc (Nat.le_refl _) _).trans ((HK1.out.trans HK2.out).below (isW_new w1) (by simp))).mono hb.size)⟩
end Go.Proofs.Ytikkakbemphdhaa
