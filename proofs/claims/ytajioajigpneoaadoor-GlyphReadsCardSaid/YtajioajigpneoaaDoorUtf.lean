/- Right texts side by side. -/
import Derived.Lib.ValidLaws
set_option linter.unusedSimpArgs false
set_option linter.unusedVariables false
namespace Go.Fl
open Go.Lib

theorem checkN_some {n b1 b2 b3 sz lo hi k : Nat} (h : checkN n b1 b2 b3 sz lo hi = some k) : k = sz ∧ 2 ≤ k ∧ k ≤ n ∧
    ∀ n' b1' b2' b3', k ≤ n' → b1' = b1 → (3 ≤ k → b2' = b2) → (4 ≤ k → b3' = b3) → checkN n' b1' b2' b3' sz lo hi = some k := by
  unfold checkN at h
  by_cases h2 : sz = 2
  · rw [if_pos h2] at h
    split at h
    · cases h
    · rename_i hc
      injection h with h
      subst h h2
      refine ⟨rfl, by omega, by omega, fun n' b1' b2' b3' hn e1 _ _ => ?_⟩
      subst e1
      unfold checkN
      rw [if_pos rfl, if_neg (by omega)]
  · rw [if_neg h2] at h
    by_cases h3 : sz = 3
    · rw [if_pos h3] at h
      split at h
      · cases h
      · rename_i hc
        injection h with h
        subst h h3
        refine ⟨rfl, by omega, by omega, fun n' b1' b2' b3' hn e1 e2 _ => ?_⟩
        have e2' := e2 (by omega)
        subst e1 e2'
        unfold checkN
        rw [if_neg (by omega), if_pos rfl, if_neg (by omega)]
    · rw [if_neg h3] at h
      by_cases h4 : sz = 4
      · rw [if_pos h4] at h
        split at h
        · cases h
        · rename_i hc
          injection h with h
          subst h h4
          refine ⟨rfl, by omega, by omega, fun n' b1' b2' b3' hn e1 e2 e3 => ?_⟩
          have e2' := e2 (by omega)
          have e3' := e3 (by omega)
          subst e1 e2' e3'
          unfold checkN
          rw [if_neg (by omega), if_neg (by omega), if_pos rfl, if_neg (by omega)]
      · rw [if_neg h4] at h; cases h

theorem getD_app {a b : List UInt8} {i : Nat} (h : i < a.length) : (a ++ b).getD i 0 = a.getD i 0 := by
  simp [List.getD_eq_getElem?_getD, List.getElem?_append_left h]

/-- a right text ahead of another: right just if that one is. -/
theorem valid_app : ∀ (m : Nat) (a b : List UInt8), a.length ≤ m → validD a = true → validD (a ++ b) = validD b
  | m, [], b, _, _ => rfl
  | 0, c :: t, b, hm, _ => by simp at hm
  | m + 1, c :: t, b, hm, h => by
    simp only [List.length_cons] at hm
    by_cases hc : c.toNat < 128
    · rw [validD_cons c t hc] at h
      rw [List.cons_append, validD_cons c _ hc]
      exact valid_app m t b (by omega) h
    · have hl := validD_lead (c :: t) (by simp) (by simpa using hc)
      have hr := validD_lead (c :: t ++ b) (by simp) (by simpa using hc)
      have hc0 : (c :: t ++ b).getD 0 0 = (c :: t).getD 0 0 := rfl
      rw [hc0] at hr
      cases hk : checkN (c :: t).length ((c :: t).getD 1 0).toNat ((c :: t).getD 2 0).toNat ((c :: t).getD 3 0).toNat (firstT ((c :: t).getD 0 0).toNat % 8) (accLo (firstT ((c :: t).getD 0 0).toNat / 16)) (accHi (firstT ((c :: t).getD 0 0).toNat / 16)) with
      | none => rw [hk] at hl; rw [hl] at h; cases h
      | some k =>
        rw [hk] at hl
        obtain ⟨h1, h2, h3, h4⟩ := checkN_some hk
        rw [h4 (c :: t ++ b).length _ _ _ (by rw [List.length_append]; omega) (by rw [getD_app (by omega)]) (fun h => by rw [getD_app (by omega)]) (fun h => by rw [getD_app (by omega)])] at hr
        dsimp only at hl hr
        rw [hr, List.drop_append_of_le_length h3]
        exact valid_app m ((c :: t).drop k) b (by rw [List.length_drop]; simp only [List.length_cons]; omega) (by rw [← hl]; exact h)
theorem valid_append {a b : List UInt8} (ha : validD a = true) (hb : validD b = true) : validD (a ++ b) = true := by
  rw [valid_app a.length a b (Nat.le_refl _) ha, hb]
end Go.Fl
