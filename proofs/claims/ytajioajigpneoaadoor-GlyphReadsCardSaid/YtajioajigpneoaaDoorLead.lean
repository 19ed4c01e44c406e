/- lead: how many bytes the sign at a text's beginning has. -/
import Derived.Test.YtajioajigpneoaaDoorHead
import Derived.Deep.DeepCutAuto
import Derived.Deep.CutBlock
set_option linter.unusedSimpArgs false
set_option linter.unusedVariables false
namespace Go.Proofs.YtajioajigpneoaaDoor
open Go.RowKit Go.Fl Go.Shelf Go.Lib

def bAt (l : List UInt8) (i : Nat) : Nat := (l.getD i 0).toNat
def leadL (l : List UInt8) : Nat :=
  if l = [] then 0 else if bAt l 0 < 128 then 1
  else (checkN l.length (bAt l 1) (bAt l 2) (bAt l 3) (firstT (bAt l 0) % 8) (accLo (firstT (bAt l 0) / 16)) (accHi (firstT (bAt l 0) / 16))).getD 0

theorem check_of {n b1 b2 b3 sz lo hi : Nat} (hsz : sz = 2 ∨ sz = 3 ∨ sz = 4) :
    (checkN n b1 b2 b3 sz lo hi).getD 0 = if sz ≤ n ∧ lo ≤ b1 ∧ b1 ≤ hi ∧ (3 ≤ sz → 128 ≤ b2 ∧ b2 ≤ 191) ∧ (4 ≤ sz → 128 ≤ b3 ∧ b3 ≤ 191) then sz else 0 := by
  unfold checkN
  rcases hsz with rfl | rfl | rfl
  · simp only [if_true]
    split <;> split <;> first | rfl | (exfalso; omega)
  · rw [if_neg (by decide), if_pos rfl]
    split <;> split <;> first | rfl | (exfalso; omega)
  · rw [if_neg (by decide), if_neg (by decide), if_pos rfl]
    split <;> split <;> first | rfl | (exfalso; omega)

/-- the classes of a first byte. -/
theorem classes (b : Nat) (h : 128 ≤ b) (h2 : b < 256) :
    ((b < 194 ∨ 244 < b) ∧ firstT b % 8 = 1) ∨ (194 ≤ b ∧ b ≤ 223 ∧ firstT b % 8 = 2 ∧ accLo (firstT b / 16) = 128 ∧ accHi (firstT b / 16) = 191) ∨
    (b = 224 ∧ firstT b % 8 = 3 ∧ accLo (firstT b / 16) = 160 ∧ accHi (firstT b / 16) = 191) ∨ (b = 237 ∧ firstT b % 8 = 3 ∧ accLo (firstT b / 16) = 128 ∧ accHi (firstT b / 16) = 159) ∨
    (224 < b ∧ b ≤ 239 ∧ b ≠ 237 ∧ firstT b % 8 = 3 ∧ accLo (firstT b / 16) = 128 ∧ accHi (firstT b / 16) = 191) ∨
    (b = 240 ∧ firstT b % 8 = 4 ∧ accLo (firstT b / 16) = 144 ∧ accHi (firstT b / 16) = 191) ∨ (b = 244 ∧ firstT b % 8 = 4 ∧ accLo (firstT b / 16) = 128 ∧ accHi (firstT b / 16) = 143) ∨
    (240 < b ∧ b < 244 ∧ firstT b % 8 = 4 ∧ accLo (firstT b / 16) = 128 ∧ accHi (firstT b / 16) = 191) := by
  have key : ∀ b : Fin 256, 128 ≤ b.val → ((b.val < 194 ∨ 244 < b.val) ∧ firstT b.val % 8 = 1) ∨ (194 ≤ b.val ∧ b.val ≤ 223 ∧ firstT b.val % 8 = 2 ∧ accLo (firstT b.val / 16) = 128 ∧ accHi (firstT b.val / 16) = 191) ∨
    (b.val = 224 ∧ firstT b.val % 8 = 3 ∧ accLo (firstT b.val / 16) = 160 ∧ accHi (firstT b.val / 16) = 191) ∨ (b.val = 237 ∧ firstT b.val % 8 = 3 ∧ accLo (firstT b.val / 16) = 128 ∧ accHi (firstT b.val / 16) = 159) ∨
    (224 < b.val ∧ b.val ≤ 239 ∧ b.val ≠ 237 ∧ firstT b.val % 8 = 3 ∧ accLo (firstT b.val / 16) = 128 ∧ accHi (firstT b.val / 16) = 191) ∨
    (b.val = 240 ∧ firstT b.val % 8 = 4 ∧ accLo (firstT b.val / 16) = 144 ∧ accHi (firstT b.val / 16) = 191) ∨ (b.val = 244 ∧ firstT b.val % 8 = 4 ∧ accLo (firstT b.val / 16) = 128 ∧ accHi (firstT b.val / 16) = 143) ∨
    (240 < b.val ∧ b.val < 244 ∧ firstT b.val % 8 = 4 ∧ accLo (firstT b.val / 16) = 128 ∧ accHi (firstT b.val / 16) = 191) := by decide +kernel
  exact key ⟨b, h2⟩ h

theorem bAt_eq {s : ByteArray} {i : Nat} (h : i < s.size) : bAt s.data.toList i = s[i].toNat := by
  unfold bAt
  have h' : i < s.data.toList.length := by rw [Array.length_toList]; exact h
  rw [List.getD_eq_getElem?_getD, List.getElem?_eq_getElem h']
  rfl

theorem lead_bad {l : List UInt8} (h0 : l ≠ []) (h1 : ¬ bAt l 0 < 128) (h : firstT (bAt l 0) % 8 = 1) : leadL l = 0 := by
  unfold leadL
  rw [if_neg h0, if_neg h1, h]
  rfl
theorem lead_of {l : List UInt8} {sz lo hi : Nat} (h0 : l ≠ []) (h1 : ¬ bAt l 0 < 128) (hsz : sz = 2 ∨ sz = 3 ∨ sz = 4) (e1 : firstT (bAt l 0) % 8 = sz) (e2 : accLo (firstT (bAt l 0) / 16) = lo) (e3 : accHi (firstT (bAt l 0) / 16) = hi) :
    leadL l = if sz ≤ l.length ∧ lo ≤ bAt l 1 ∧ bAt l 1 ≤ hi ∧ (3 ≤ sz → 128 ≤ bAt l 2 ∧ bAt l 2 ≤ 191) ∧ (4 ≤ sz → 128 ≤ bAt l 3 ∧ bAt l 3 ≤ 191) then sz else 0 := by
  unfold leadL
  rw [if_neg h0, if_neg h1, e1, e2, e3, check_of hsz]

set_option maxRecDepth 100000 in
set_option maxHeartbeats 4000000 in
theorem lead_any (s : ByteArray) (w : World) (hs : s.size ≤ 1000000) : Calls Tryd.prog 9 #[.string s] w fun e w' => e = .returned (.int .i64 (leadL s.data.toList)) ∧ w = w' := by
  obtain ⟨R, hR⟩ : ∃ R, leadL s.data.toList = R := ⟨_, rfl⟩
  rw [hR]
  have HR := Lib.hid hR
  clear hR
  by_cases h0 : s.size = 0
  · obtain rfl := empty_of h0
    obtain rfl : R = 0 := HR.out.symm
    clear h0
    go_enter Tryd.func9, Tryd.ntmps9
    go_wp2
    go_ret
    exact ⟨rfl, rfl⟩
  · have hne := some_of h0
    have h00 : 0 < s.size := by omega
    have hl : s.data.toList ≠ [] := fun h => h0 (by show s.data.size = 0; rw [← Array.length_toList, h]; rfl)
    have hb0 := bAt_eq h00
    by_cases h1 : s[0].toNat < 128
    · obtain rfl : R = 1 := by rw [← HR.out]; unfold leadL; rw [if_neg hl, if_pos (by rw [hb0]; exact h1)]
      clear hl hb0 HR h0
      go_enter Tryd.func9, Tryd.ntmps9
      go_wp2
      go_ret
      exact ⟨rfl, rfl⟩
    · have hcl := classes s[0].toNat (by omega) s[0].toNat_lt
      have Hl := Lib.hid hl
      have Hb0 := Lib.hid hb0
      have Hcl := Lib.hid hcl
      clear hl hb0 hcl h0
      rcases Hcl.out with ⟨k1, k2⟩ | ⟨k1, k2, e1, e2, e3⟩ | ⟨k1, e1, e2, e3⟩ | ⟨k1, e1, e2, e3⟩ | ⟨k1, k2, k3, e1, e2, e3⟩ | ⟨k1, e1, e2, e3⟩ | ⟨k1, e1, e2, e3⟩ | ⟨k1, k2, e1, e2, e3⟩
      · obtain rfl : R = 0 := by rw [← HR.out, lead_bad Hl.out (by rw [Hb0.out]; exact h1) (by rw [Hb0.out]; exact k2)]
        clear k2 Hcl HR
        rcases k1 with k1 | k1
        · go_enter Tryd.func9, Tryd.ntmps9
          go_wp2
          go_ret
          exact ⟨rfl, rfl⟩
        · go_enter Tryd.func9, Tryd.ntmps9
          go_wp2
          go_ret
          exact ⟨rfl, rfl⟩
      · have hRi := lead_of Hl.out (by rw [Hb0.out]; exact h1) (sz := 2) (lo := 128) (hi := 191) (by decide) (by rw [Hb0.out]; exact e1) (by rw [Hb0.out]; exact e2) (by rw [Hb0.out]; exact e3)
        rw [HR.out, Array.length_toList, show s.data.size = s.size from rfl] at hRi
        have HRi := Lib.hid hRi
        clear hRi e1 e2 e3
        go_enter Tryd.func9, Tryd.ntmps9
        go_upto_region 25 with (fail)
        by_cases c1 : s.size < 2
        · obtain rfl : R = 0 := by rw [HRi.out, if_neg (fun h => by have := h.1; omega)]
          go_wp2
          go_ret
          exact ⟨rfl, rfl⟩
        · have hs1 : 1 < s.size := by omega
          have Hb1 := Lib.hid (bAt_eq hs1)
          by_cases c2 : s[1].toNat < 128
          · obtain rfl : R = 0 := by rw [HRi.out, if_neg (fun h => by have h2 := h.2.1; rw [Hb1.out] at h2; omega)]
            go_wp2
            go_ret
            exact ⟨rfl, rfl⟩
          · by_cases c3 : 191 < s[1].toNat
            · obtain rfl : R = 0 := by rw [HRi.out, if_neg (fun h => by have h2 := h.2.2.1; rw [Hb1.out] at h2; omega)]
              go_wp2
              go_ret
              exact ⟨rfl, rfl⟩
            · go_wp2
              go_loopg [7] (2 - 2) (fun gk v wr => ∃ i : Nat, v = .int .i64 i ∧ Hid (i + gk = 2) ∧ 2 ≤ i ∧ Hid (∀ j, 2 ≤ j → j < i → 128 ≤ bAt s.data.toList j ∧ bAt s.data.toList j ≤ 191) ∧ w = wr)
              case atStart => exact ⟨2, rfl, Lib.hid (by decide), by decide, Lib.hid (fun j h1 h2 => by omega), rfl⟩
              case round =>
                obtain ⟨i, rfl, hig, hi2, hal, rfl⟩ := hrel
                by_cases hi : i < 2
                · exact absurd hi (by omega)
                · obtain rfl : i = 2 := by have := hig.out; omega
                  obtain rfl : R = 2 := by
                    rw [HRi.out, if_pos ⟨by omega, by rw [Hb1.out]; omega, by rw [Hb1.out]; omega, fun h => hal.out 2 (by omega) (by omega), fun h => hal.out 3 (by omega) (by omega)⟩]
                  go_wp2
                  go_ret
                  exact ⟨rfl, rfl⟩
      · have hRi := lead_of Hl.out (by rw [Hb0.out]; exact h1) (sz := 3) (lo := 160) (hi := 191) (by decide) (by rw [Hb0.out]; exact e1) (by rw [Hb0.out]; exact e2) (by rw [Hb0.out]; exact e3)
        rw [HR.out, Array.length_toList, show s.data.size = s.size from rfl] at hRi
        have HRi := Lib.hid hRi
        clear hRi e1 e2 e3
        go_enter Tryd.func9, Tryd.ntmps9
        go_upto_region 25 with (fail)
        by_cases c1 : s.size < 3
        · obtain rfl : R = 0 := by rw [HRi.out, if_neg (fun h => by have := h.1; omega)]
          go_wp2
          go_ret
          exact ⟨rfl, rfl⟩
        · have hs1 : 1 < s.size := by omega
          have Hb1 := Lib.hid (bAt_eq hs1)
          by_cases c2 : s[1].toNat < 160
          · obtain rfl : R = 0 := by rw [HRi.out, if_neg (fun h => by have h2 := h.2.1; rw [Hb1.out] at h2; omega)]
            go_wp2
            go_ret
            exact ⟨rfl, rfl⟩
          · by_cases c3 : 191 < s[1].toNat
            · obtain rfl : R = 0 := by rw [HRi.out, if_neg (fun h => by have h2 := h.2.2.1; rw [Hb1.out] at h2; omega)]
              go_wp2
              go_ret
              exact ⟨rfl, rfl⟩
            · go_wp2
              go_loopg [7] (3 - 2) (fun gk v wr => ∃ i : Nat, v = .int .i64 i ∧ Hid (i + gk = 3) ∧ 2 ≤ i ∧ Hid (∀ j, 2 ≤ j → j < i → 128 ≤ bAt s.data.toList j ∧ bAt s.data.toList j ≤ 191) ∧ w = wr)
              case atStart => exact ⟨2, rfl, Lib.hid (by decide), by decide, Lib.hid (fun j h1 h2 => by omega), rfl⟩
              case round =>
                obtain ⟨i, rfl, hig, hi2, hal, rfl⟩ := hrel
                by_cases hi : i < 3
                · have his : i < s.size := by omega
                  have Hbi := Lib.hid (bAt_eq his)
                  by_cases d1 : s[i].toNat < 128
                  · obtain rfl : R = 0 := by
                      rw [HRi.out, if_neg (fun h => by
                        have h3 := Hbi.out
                        have h2 := h.2.2.2
                        rcases (show i = 2 ∨ i = 3 by omega) with rfl | rfl
                        · have h4 := h2.1 (by omega); omega
                        · have h4 := h2.2 (by omega); omega)]
                    go_wp2
                    go_ret
                    exact ⟨rfl, rfl⟩
                  · by_cases d2 : 191 < s[i].toNat
                    · obtain rfl : R = 0 := by
                        rw [HRi.out, if_neg (fun h => by
                          have h3 := Hbi.out
                          have h2 := h.2.2.2
                          rcases (show i = 2 ∨ i = 3 by omega) with rfl | rfl
                          · have h4 := h2.1 (by omega); omega
                          · have h4 := h2.2 (by omega); omega)]
                      go_wp2
                      go_ret
                      exact ⟨rfl, rfl⟩
                    · go_wp2
                      go_roundg (gk - 1)
                      case measure => have := hig.out; omega
                      case rel =>
                        refine ⟨i + 1, rfl, Lib.hid (by have := hig.out; omega), by omega, Lib.hid (fun j h2 h3 => ?_), rfl⟩
                        by_cases e : j = i
                        · subst e; rw [Hbi.out]; omega
                        · exact hal.out j h2 (by omega)
                · obtain rfl : i = 3 := by have := hig.out; omega
                  obtain rfl : R = 3 := by
                    rw [HRi.out, if_pos ⟨by omega, by rw [Hb1.out]; omega, by rw [Hb1.out]; omega, fun h => hal.out 2 (by omega) (by omega), fun h => hal.out 3 (by omega) (by omega)⟩]
                  go_wp2
                  go_ret
                  exact ⟨rfl, rfl⟩
      · have hRi := lead_of Hl.out (by rw [Hb0.out]; exact h1) (sz := 3) (lo := 128) (hi := 159) (by decide) (by rw [Hb0.out]; exact e1) (by rw [Hb0.out]; exact e2) (by rw [Hb0.out]; exact e3)
        rw [HR.out, Array.length_toList, show s.data.size = s.size from rfl] at hRi
        have HRi := Lib.hid hRi
        clear hRi e1 e2 e3
        go_enter Tryd.func9, Tryd.ntmps9
        go_upto_region 25 with (fail)
        by_cases c1 : s.size < 3
        · obtain rfl : R = 0 := by rw [HRi.out, if_neg (fun h => by have := h.1; omega)]
          go_wp2
          go_ret
          exact ⟨rfl, rfl⟩
        · have hs1 : 1 < s.size := by omega
          have Hb1 := Lib.hid (bAt_eq hs1)
          by_cases c2 : s[1].toNat < 128
          · obtain rfl : R = 0 := by rw [HRi.out, if_neg (fun h => by have h2 := h.2.1; rw [Hb1.out] at h2; omega)]
            go_wp2
            go_ret
            exact ⟨rfl, rfl⟩
          · by_cases c3 : 159 < s[1].toNat
            · obtain rfl : R = 0 := by rw [HRi.out, if_neg (fun h => by have h2 := h.2.2.1; rw [Hb1.out] at h2; omega)]
              go_wp2
              go_ret
              exact ⟨rfl, rfl⟩
            · go_wp2
              go_loopg [7] (3 - 2) (fun gk v wr => ∃ i : Nat, v = .int .i64 i ∧ Hid (i + gk = 3) ∧ 2 ≤ i ∧ Hid (∀ j, 2 ≤ j → j < i → 128 ≤ bAt s.data.toList j ∧ bAt s.data.toList j ≤ 191) ∧ w = wr)
              case atStart => exact ⟨2, rfl, Lib.hid (by decide), by decide, Lib.hid (fun j h1 h2 => by omega), rfl⟩
              case round =>
                obtain ⟨i, rfl, hig, hi2, hal, rfl⟩ := hrel
                by_cases hi : i < 3
                · have his : i < s.size := by omega
                  have Hbi := Lib.hid (bAt_eq his)
                  by_cases d1 : s[i].toNat < 128
                  · obtain rfl : R = 0 := by
                      rw [HRi.out, if_neg (fun h => by
                        have h3 := Hbi.out
                        have h2 := h.2.2.2
                        rcases (show i = 2 ∨ i = 3 by omega) with rfl | rfl
                        · have h4 := h2.1 (by omega); omega
                        · have h4 := h2.2 (by omega); omega)]
                    go_wp2
                    go_ret
                    exact ⟨rfl, rfl⟩
                  · by_cases d2 : 191 < s[i].toNat
                    · obtain rfl : R = 0 := by
                        rw [HRi.out, if_neg (fun h => by
                          have h3 := Hbi.out
                          have h2 := h.2.2.2
                          rcases (show i = 2 ∨ i = 3 by omega) with rfl | rfl
                          · have h4 := h2.1 (by omega); omega
                          · have h4 := h2.2 (by omega); omega)]
                      go_wp2
                      go_ret
                      exact ⟨rfl, rfl⟩
                    · go_wp2
                      go_roundg (gk - 1)
                      case measure => have := hig.out; omega
                      case rel =>
                        refine ⟨i + 1, rfl, Lib.hid (by have := hig.out; omega), by omega, Lib.hid (fun j h2 h3 => ?_), rfl⟩
                        by_cases e : j = i
                        · subst e; rw [Hbi.out]; omega
                        · exact hal.out j h2 (by omega)
                · obtain rfl : i = 3 := by have := hig.out; omega
                  obtain rfl : R = 3 := by
                    rw [HRi.out, if_pos ⟨by omega, by rw [Hb1.out]; omega, by rw [Hb1.out]; omega, fun h => hal.out 2 (by omega) (by omega), fun h => hal.out 3 (by omega) (by omega)⟩]
                  go_wp2
                  go_ret
                  exact ⟨rfl, rfl⟩
      · have hRi := lead_of Hl.out (by rw [Hb0.out]; exact h1) (sz := 3) (lo := 128) (hi := 191) (by decide) (by rw [Hb0.out]; exact e1) (by rw [Hb0.out]; exact e2) (by rw [Hb0.out]; exact e3)
        rw [HR.out, Array.length_toList, show s.data.size = s.size from rfl] at hRi
        have HRi := Lib.hid hRi
        clear hRi e1 e2 e3
        go_enter Tryd.func9, Tryd.ntmps9
        go_upto_region 25 with (fail)
        by_cases c1 : s.size < 3
        · obtain rfl : R = 0 := by rw [HRi.out, if_neg (fun h => by have := h.1; omega)]
          go_wp2
          go_ret
          exact ⟨rfl, rfl⟩
        · have hs1 : 1 < s.size := by omega
          have Hb1 := Lib.hid (bAt_eq hs1)
          by_cases c2 : s[1].toNat < 128
          · obtain rfl : R = 0 := by rw [HRi.out, if_neg (fun h => by have h2 := h.2.1; rw [Hb1.out] at h2; omega)]
            go_wp2
            go_ret
            exact ⟨rfl, rfl⟩
          · by_cases c3 : 191 < s[1].toNat
            · obtain rfl : R = 0 := by rw [HRi.out, if_neg (fun h => by have h2 := h.2.2.1; rw [Hb1.out] at h2; omega)]
              go_wp2
              go_ret
              exact ⟨rfl, rfl⟩
            · go_wp2
              go_loopg [7] (3 - 2) (fun gk v wr => ∃ i : Nat, v = .int .i64 i ∧ Hid (i + gk = 3) ∧ 2 ≤ i ∧ Hid (∀ j, 2 ≤ j → j < i → 128 ≤ bAt s.data.toList j ∧ bAt s.data.toList j ≤ 191) ∧ w = wr)
              case atStart => exact ⟨2, rfl, Lib.hid (by decide), by decide, Lib.hid (fun j h1 h2 => by omega), rfl⟩
              case round =>
                obtain ⟨i, rfl, hig, hi2, hal, rfl⟩ := hrel
                by_cases hi : i < 3
                · have his : i < s.size := by omega
                  have Hbi := Lib.hid (bAt_eq his)
                  by_cases d1 : s[i].toNat < 128
                  · obtain rfl : R = 0 := by
                      rw [HRi.out, if_neg (fun h => by
                        have h3 := Hbi.out
                        have h2 := h.2.2.2
                        rcases (show i = 2 ∨ i = 3 by omega) with rfl | rfl
                        · have h4 := h2.1 (by omega); omega
                        · have h4 := h2.2 (by omega); omega)]
                    go_wp2
                    go_ret
                    exact ⟨rfl, rfl⟩
                  · by_cases d2 : 191 < s[i].toNat
                    · obtain rfl : R = 0 := by
                        rw [HRi.out, if_neg (fun h => by
                          have h3 := Hbi.out
                          have h2 := h.2.2.2
                          rcases (show i = 2 ∨ i = 3 by omega) with rfl | rfl
                          · have h4 := h2.1 (by omega); omega
                          · have h4 := h2.2 (by omega); omega)]
                      go_wp2
                      go_ret
                      exact ⟨rfl, rfl⟩
                    · go_wp2
                      go_roundg (gk - 1)
                      case measure => have := hig.out; omega
                      case rel =>
                        refine ⟨i + 1, rfl, Lib.hid (by have := hig.out; omega), by omega, Lib.hid (fun j h2 h3 => ?_), rfl⟩
                        by_cases e : j = i
                        · subst e; rw [Hbi.out]; omega
                        · exact hal.out j h2 (by omega)
                · obtain rfl : i = 3 := by have := hig.out; omega
                  obtain rfl : R = 3 := by
                    rw [HRi.out, if_pos ⟨by omega, by rw [Hb1.out]; omega, by rw [Hb1.out]; omega, fun h => hal.out 2 (by omega) (by omega), fun h => hal.out 3 (by omega) (by omega)⟩]
                  go_wp2
                  go_ret
                  exact ⟨rfl, rfl⟩
      · have hRi := lead_of Hl.out (by rw [Hb0.out]; exact h1) (sz := 4) (lo := 144) (hi := 191) (by decide) (by rw [Hb0.out]; exact e1) (by rw [Hb0.out]; exact e2) (by rw [Hb0.out]; exact e3)
        rw [HR.out, Array.length_toList, show s.data.size = s.size from rfl] at hRi
        have HRi := Lib.hid hRi
        clear hRi e1 e2 e3
        go_enter Tryd.func9, Tryd.ntmps9
        go_upto_region 25 with (fail)
        by_cases c1 : s.size < 4
        · obtain rfl : R = 0 := by rw [HRi.out, if_neg (fun h => by have := h.1; omega)]
          go_wp2
          go_ret
          exact ⟨rfl, rfl⟩
        · have hs1 : 1 < s.size := by omega
          have Hb1 := Lib.hid (bAt_eq hs1)
          by_cases c2 : s[1].toNat < 144
          · obtain rfl : R = 0 := by rw [HRi.out, if_neg (fun h => by have h2 := h.2.1; rw [Hb1.out] at h2; omega)]
            go_wp2
            go_ret
            exact ⟨rfl, rfl⟩
          · by_cases c3 : 191 < s[1].toNat
            · obtain rfl : R = 0 := by rw [HRi.out, if_neg (fun h => by have h2 := h.2.2.1; rw [Hb1.out] at h2; omega)]
              go_wp2
              go_ret
              exact ⟨rfl, rfl⟩
            · go_wp2
              go_loopg [7] (4 - 2) (fun gk v wr => ∃ i : Nat, v = .int .i64 i ∧ Hid (i + gk = 4) ∧ 2 ≤ i ∧ Hid (∀ j, 2 ≤ j → j < i → 128 ≤ bAt s.data.toList j ∧ bAt s.data.toList j ≤ 191) ∧ w = wr)
              case atStart => exact ⟨2, rfl, Lib.hid (by decide), by decide, Lib.hid (fun j h1 h2 => by omega), rfl⟩
              case round =>
                obtain ⟨i, rfl, hig, hi2, hal, rfl⟩ := hrel
                by_cases hi : i < 4
                · have his : i < s.size := by omega
                  have Hbi := Lib.hid (bAt_eq his)
                  by_cases d1 : s[i].toNat < 128
                  · obtain rfl : R = 0 := by
                      rw [HRi.out, if_neg (fun h => by
                        have h3 := Hbi.out
                        have h2 := h.2.2.2
                        rcases (show i = 2 ∨ i = 3 by omega) with rfl | rfl
                        · have h4 := h2.1 (by omega); omega
                        · have h4 := h2.2 (by omega); omega)]
                    go_wp2
                    go_ret
                    exact ⟨rfl, rfl⟩
                  · by_cases d2 : 191 < s[i].toNat
                    · obtain rfl : R = 0 := by
                        rw [HRi.out, if_neg (fun h => by
                          have h3 := Hbi.out
                          have h2 := h.2.2.2
                          rcases (show i = 2 ∨ i = 3 by omega) with rfl | rfl
                          · have h4 := h2.1 (by omega); omega
                          · have h4 := h2.2 (by omega); omega)]
                      go_wp2
                      go_ret
                      exact ⟨rfl, rfl⟩
                    · go_wp2
                      go_roundg (gk - 1)
                      case measure => have := hig.out; omega
                      case rel =>
                        refine ⟨i + 1, rfl, Lib.hid (by have := hig.out; omega), by omega, Lib.hid (fun j h2 h3 => ?_), rfl⟩
                        by_cases e : j = i
                        · subst e; rw [Hbi.out]; omega
                        · exact hal.out j h2 (by omega)
                · obtain rfl : i = 4 := by have := hig.out; omega
                  obtain rfl : R = 4 := by
                    rw [HRi.out, if_pos ⟨by omega, by rw [Hb1.out]; omega, by rw [Hb1.out]; omega, fun h => hal.out 2 (by omega) (by omega), fun h => hal.out 3 (by omega) (by omega)⟩]
                  go_wp2
                  go_ret
                  exact ⟨rfl, rfl⟩
      · have hRi := lead_of Hl.out (by rw [Hb0.out]; exact h1) (sz := 4) (lo := 128) (hi := 143) (by decide) (by rw [Hb0.out]; exact e1) (by rw [Hb0.out]; exact e2) (by rw [Hb0.out]; exact e3)
        rw [HR.out, Array.length_toList, show s.data.size = s.size from rfl] at hRi
        have HRi := Lib.hid hRi
        clear hRi e1 e2 e3
        go_enter Tryd.func9, Tryd.ntmps9
        go_upto_region 25 with (fail)
        by_cases c1 : s.size < 4
        · obtain rfl : R = 0 := by rw [HRi.out, if_neg (fun h => by have := h.1; omega)]
          go_wp2
          go_ret
          exact ⟨rfl, rfl⟩
        · have hs1 : 1 < s.size := by omega
          have Hb1 := Lib.hid (bAt_eq hs1)
          by_cases c2 : s[1].toNat < 128
          · obtain rfl : R = 0 := by rw [HRi.out, if_neg (fun h => by have h2 := h.2.1; rw [Hb1.out] at h2; omega)]
            go_wp2
            go_ret
            exact ⟨rfl, rfl⟩
          · by_cases c3 : 143 < s[1].toNat
            · obtain rfl : R = 0 := by rw [HRi.out, if_neg (fun h => by have h2 := h.2.2.1; rw [Hb1.out] at h2; omega)]
              go_wp2
              go_ret
              exact ⟨rfl, rfl⟩
            · go_wp2
              go_loopg [7] (4 - 2) (fun gk v wr => ∃ i : Nat, v = .int .i64 i ∧ Hid (i + gk = 4) ∧ 2 ≤ i ∧ Hid (∀ j, 2 ≤ j → j < i → 128 ≤ bAt s.data.toList j ∧ bAt s.data.toList j ≤ 191) ∧ w = wr)
              case atStart => exact ⟨2, rfl, Lib.hid (by decide), by decide, Lib.hid (fun j h1 h2 => by omega), rfl⟩
              case round =>
                obtain ⟨i, rfl, hig, hi2, hal, rfl⟩ := hrel
                by_cases hi : i < 4
                · have his : i < s.size := by omega
                  have Hbi := Lib.hid (bAt_eq his)
                  by_cases d1 : s[i].toNat < 128
                  · obtain rfl : R = 0 := by
                      rw [HRi.out, if_neg (fun h => by
                        have h3 := Hbi.out
                        have h2 := h.2.2.2
                        rcases (show i = 2 ∨ i = 3 by omega) with rfl | rfl
                        · have h4 := h2.1 (by omega); omega
                        · have h4 := h2.2 (by omega); omega)]
                    go_wp2
                    go_ret
                    exact ⟨rfl, rfl⟩
                  · by_cases d2 : 191 < s[i].toNat
                    · obtain rfl : R = 0 := by
                        rw [HRi.out, if_neg (fun h => by
                          have h3 := Hbi.out
                          have h2 := h.2.2.2
                          rcases (show i = 2 ∨ i = 3 by omega) with rfl | rfl
                          · have h4 := h2.1 (by omega); omega
                          · have h4 := h2.2 (by omega); omega)]
                      go_wp2
                      go_ret
                      exact ⟨rfl, rfl⟩
                    · go_wp2
                      go_roundg (gk - 1)
                      case measure => have := hig.out; omega
                      case rel =>
                        refine ⟨i + 1, rfl, Lib.hid (by have := hig.out; omega), by omega, Lib.hid (fun j h2 h3 => ?_), rfl⟩
                        by_cases e : j = i
                        · subst e; rw [Hbi.out]; omega
                        · exact hal.out j h2 (by omega)
                · obtain rfl : i = 4 := by have := hig.out; omega
                  obtain rfl : R = 4 := by
                    rw [HRi.out, if_pos ⟨by omega, by rw [Hb1.out]; omega, by rw [Hb1.out]; omega, fun h => hal.out 2 (by omega) (by omega), fun h => hal.out 3 (by omega) (by omega)⟩]
                  go_wp2
                  go_ret
                  exact ⟨rfl, rfl⟩
      · have hRi := lead_of Hl.out (by rw [Hb0.out]; exact h1) (sz := 4) (lo := 128) (hi := 191) (by decide) (by rw [Hb0.out]; exact e1) (by rw [Hb0.out]; exact e2) (by rw [Hb0.out]; exact e3)
        rw [HR.out, Array.length_toList, show s.data.size = s.size from rfl] at hRi
        have HRi := Lib.hid hRi
        clear hRi e1 e2 e3
        go_enter Tryd.func9, Tryd.ntmps9
        go_upto_region 25 with (fail)
        by_cases c1 : s.size < 4
        · obtain rfl : R = 0 := by rw [HRi.out, if_neg (fun h => by have := h.1; omega)]
          go_wp2
          go_ret
          exact ⟨rfl, rfl⟩
        · have hs1 : 1 < s.size := by omega
          have Hb1 := Lib.hid (bAt_eq hs1)
          by_cases c2 : s[1].toNat < 128
          · obtain rfl : R = 0 := by rw [HRi.out, if_neg (fun h => by have h2 := h.2.1; rw [Hb1.out] at h2; omega)]
            go_wp2
            go_ret
            exact ⟨rfl, rfl⟩
          · by_cases c3 : 191 < s[1].toNat
            · obtain rfl : R = 0 := by rw [HRi.out, if_neg (fun h => by have h2 := h.2.2.1; rw [Hb1.out] at h2; omega)]
              go_wp2
              go_ret
              exact ⟨rfl, rfl⟩
            · go_wp2
              go_loopg [7] (4 - 2) (fun gk v wr => ∃ i : Nat, v = .int .i64 i ∧ Hid (i + gk = 4) ∧ 2 ≤ i ∧ Hid (∀ j, 2 ≤ j → j < i → 128 ≤ bAt s.data.toList j ∧ bAt s.data.toList j ≤ 191) ∧ w = wr)
              case atStart => exact ⟨2, rfl, Lib.hid (by decide), by decide, Lib.hid (fun j h1 h2 => by omega), rfl⟩
              case round =>
                obtain ⟨i, rfl, hig, hi2, hal, rfl⟩ := hrel
                by_cases hi : i < 4
                · have his : i < s.size := by omega
                  have Hbi := Lib.hid (bAt_eq his)
                  by_cases d1 : s[i].toNat < 128
                  · obtain rfl : R = 0 := by
                      rw [HRi.out, if_neg (fun h => by
                        have h3 := Hbi.out
                        have h2 := h.2.2.2
                        rcases (show i = 2 ∨ i = 3 by omega) with rfl | rfl
                        · have h4 := h2.1 (by omega); omega
                        · have h4 := h2.2 (by omega); omega)]
                    go_wp2
                    go_ret
                    exact ⟨rfl, rfl⟩
                  · by_cases d2 : 191 < s[i].toNat
                    · obtain rfl : R = 0 := by
                        rw [HRi.out, if_neg (fun h => by
                          have h3 := Hbi.out
                          have h2 := h.2.2.2
                          rcases (show i = 2 ∨ i = 3 by omega) with rfl | rfl
                          · have h4 := h2.1 (by omega); omega
                          · have h4 := h2.2 (by omega); omega)]
                      go_wp2
                      go_ret
                      exact ⟨rfl, rfl⟩
                    · go_wp2
                      go_roundg (gk - 1)
                      case measure => have := hig.out; omega
                      case rel =>
                        refine ⟨i + 1, rfl, Lib.hid (by have := hig.out; omega), by omega, Lib.hid (fun j h2 h3 => ?_), rfl⟩
                        by_cases e : j = i
                        · subst e; rw [Hbi.out]; omega
                        · exact hal.out j h2 (by omega)
                · obtain rfl : i = 4 := by have := hig.out; omega
                  obtain rfl : R = 4 := by
                    rw [HRi.out, if_pos ⟨by omega, by rw [Hb1.out]; omega, by rw [Hb1.out]; omega, fun h => hal.out 2 (by omega) (by omega), fun h => hal.out 3 (by omega) (by omega)⟩]
                  go_wp2
                  go_ret
                  exact ⟨rfl, rfl⟩
end Go.Proofs.YtajioajigpneoaaDoor
