/- Signs by their first bytes: right, how many, the first and the last. -/
import Derived.Test.YtajioajigpneoaaDoorLead
import Derived.Test.YtajioajigpneoaaDoorUtf
import Derived.Lib.SpaceUEq
set_option linter.unusedSimpArgs false
set_option linter.unusedVariables false
namespace Go.Proofs.YtajioajigpneoaaDoor
open Go.RowKit Go.Fl Go.Shelf Go.Lib

theorem bAt_lt (l : List UInt8) (i : Nat) : bAt l i < 256 := UInt8.toNat_lt _

theorem lead_facts {l : List UInt8} (h : 0 < leadL l) : leadL l ≤ l.length ∧ ((leadL l = 1 ∧ bAt l 0 < 128) ∨ (2 ≤ leadL l ∧ leadL l ≤ 4 ∧ 194 ≤ bAt l 0 ∧ ∀ j, 1 ≤ j → j < leadL l → 128 ≤ bAt l j ∧ bAt l j ≤ 191)) := by
  by_cases h0 : l = []
  · unfold leadL at h; rw [if_pos h0] at h; omega
  · have hlen : 0 < l.length := List.length_pos_iff.2 h0
    by_cases h1 : bAt l 0 < 128
    · have e : leadL l = 1 := by unfold leadL; rw [if_neg h0, if_pos h1]
      rw [e]
      exact ⟨hlen, .inl ⟨rfl, h1⟩⟩
    · have key : ∀ sz lo hi, (sz = 2 ∨ sz = 3 ∨ sz = 4) → 194 ≤ bAt l 0 → 128 ≤ lo → hi ≤ 191 → leadL l = (if sz ≤ l.length ∧ lo ≤ bAt l 1 ∧ bAt l 1 ≤ hi ∧ (3 ≤ sz → 128 ≤ bAt l 2 ∧ bAt l 2 ≤ 191) ∧ (4 ≤ sz → 128 ≤ bAt l 3 ∧ bAt l 3 ≤ 191) then sz else 0) →
          leadL l ≤ l.length ∧ ((leadL l = 1 ∧ bAt l 0 < 128) ∨ (2 ≤ leadL l ∧ leadL l ≤ 4 ∧ 194 ≤ bAt l 0 ∧ ∀ j, 1 ≤ j → j < leadL l → 128 ≤ bAt l j ∧ bAt l j ≤ 191)) := by
        intro sz lo hi hsz hb hlo hhi he
        split at he
        · rename_i hc
          rw [he]
          refine ⟨hc.1, .inr ⟨by omega, by omega, hb, fun j h1 h2 => ?_⟩⟩
          rcases (show j = 1 ∨ j = 2 ∨ j = 3 by omega) with rfl | rfl | rfl
          · omega
          · exact hc.2.2.2.1 (by omega)
          · exact hc.2.2.2.2 (by omega)
        · omega
      rcases classes (bAt l 0) (by omega) (bAt_lt l 0) with ⟨k1, k2⟩ | ⟨k1, k2, e1, e2, e3⟩ | ⟨k1, e1, e2, e3⟩ | ⟨k1, e1, e2, e3⟩ | ⟨k1, k2, k3, e1, e2, e3⟩ | ⟨k1, e1, e2, e3⟩ | ⟨k1, e1, e2, e3⟩ | ⟨k1, k2, e1, e2, e3⟩
      · rw [lead_bad h0 h1 k2] at h; omega
      all_goals exact key _ _ _ (by decide) (by omega) (by decide) (by decide) (lead_of h0 h1 (by decide) e1 e2 e3)

/-- a first byte from 128 on: what checkN says. -/
theorem lead_check {l : List UInt8} (h0 : l ≠ []) (h1 : ¬ bAt l 0 < 128) : leadL l = (checkN l.length (bAt l 1) (bAt l 2) (bAt l 3) (firstT (bAt l 0) % 8) (accLo (firstT (bAt l 0) / 16)) (accHi (firstT (bAt l 0) / 16))).getD 0 := by
  unfold leadL; rw [if_neg h0, if_neg h1]

theorem bAt_take {l t : List UInt8} {k j : Nat} (hj : j < k) (hk : k ≤ l.length) : bAt (l.take k ++ t) j = bAt l j := by
  unfold bAt
  simp only [List.getD_eq_getElem?_getD]
  rw [List.getElem?_append_left (by rw [List.length_take]; omega), List.getElem?_take_of_lt hj]

theorem lead_one {l : List UInt8} (h0 : l ≠ []) (h1 : bAt l 0 < 128) : leadL l = 1 := by
  unfold leadL; rw [if_neg h0, if_pos h1]
theorem lead_pre {l : List UInt8} (t : List UInt8) (h : 0 < leadL l) : leadL (l.take (leadL l) ++ t) = leadL l := by
  obtain ⟨hle, hc⟩ := lead_facts h
  have h0 : l ≠ [] := fun e => by subst e; simp at hle; omega
  have h0' : l.take (leadL l) ++ t ≠ [] := fun e => by
    have := congrArg List.length e
    rw [List.length_append, List.length_take] at this
    simp only [List.length_nil] at this
    omega
  have e0 : bAt (l.take (leadL l) ++ t) 0 = bAt l 0 := bAt_take h hle
  rcases hc with ⟨h1, h2⟩ | ⟨h2, h3, h4, h5⟩
  · rw [lead_one h0' (by rw [e0]; exact h2), h1]
  · have h1 : ¬ bAt l 0 < 128 := by omega
    have hk := lead_check h0 h1
    rw [lead_check h0' (by rw [e0]; exact h1), e0]
    cases hq : checkN l.length (bAt l 1) (bAt l 2) (bAt l 3) (firstT (bAt l 0) % 8) (accLo (firstT (bAt l 0) / 16)) (accHi (firstT (bAt l 0) / 16)) with
    | none => rw [hq] at hk; simp at hk; omega
    | some k =>
      rw [hq] at hk
      simp only [Option.getD_some] at hk
      obtain ⟨_, q2, q3, q4⟩ := checkN_some hq
      rw [q4 _ _ _ _ (by rw [List.length_append, List.length_take]; omega) (bAt_take (by omega) hle) (fun h => bAt_take (by omega) hle) (fun h => bAt_take (by omega) hle)]
      exact hk.symm

theorem lead_dec {l : List UInt8} (h0 : l ≠ []) : (leadL l = 0 ∧ decodeL l = (65533, 1)) ∨ (0 < leadL l ∧ (decodeL l).2 = leadL l ∧ okP (decodeL l) = true) := by
  by_cases h1 : bAt l 0 < 128
  · cases l with
    | nil => exact absurd rfl h0
    | cons b t =>
      have e : leadL (b :: t) = 1 := by unfold leadL; rw [if_neg h0, if_pos h1]
      have hb : b.toNat < 128 := h1
      rw [decodeL_ascii b t hb, e]
      refine .inr ⟨by decide, rfl, ?_⟩
      unfold okP
      have : ¬ b.toNat = 65533 := by omega
      simp [this]
  · have hk := lead_check h0 h1
    have hlen : 0 < l.length := List.length_pos_iff.2 h0
    rw [decodeL_N]
    rcases check_decode l.length (bAt l 0) (bAt l 1) (bAt l 2) (bAt l 3) hlen (by omega) (bAt_lt l 0) (bAt_lt l 1) (bAt_lt l 2) (bAt_lt l 3) with ⟨hc, hd⟩ | ⟨k, hk2, hc, hd⟩
    · rw [hc] at hk
      exact .inl ⟨hk, hd⟩
    · rw [hc] at hk
      have hk' : leadL l = k := hk
      refine .inr ⟨by omega, by rw [hk']; exact hd, ?_⟩
      have h2 : ¬ (decodeN l.length (l.getD 0 0).toNat (l.getD 1 0).toNat (l.getD 2 0).toNat (l.getD 3 0).toNat).2 < 2 := by
        have := hd
        unfold bAt at this
        omega
      unfold okP
      rw [decide_eq_false h2, Bool.and_false]
      rfl

theorem valid_lead {l : List UInt8} (h0 : l ≠ []) : validD l = if leadL l = 0 then false else validD (l.drop (leadL l)) := by
  rw [validD_step l h0]
  rcases lead_dec h0 with ⟨h1, h2⟩ | ⟨h1, h2, h3⟩
  · rw [h2, h1]; rfl
  · rw [h2, if_neg (by omega : ¬ leadL l = 0), if_neg]
    rintro ⟨e1, e2⟩
    unfold okP at h3
    rw [e1, h2, e2] at h3
    simp at h3

/-- signs, one behind the other. -/
def scanS : Nat → List UInt8 → Nat × Bool
  | 0, _ => (0, true)
  | n + 1, l => if l = [] then (0, true) else if leadL l = 0 then (0, false) else ((scanS n (l.drop (leadL l))).1 + 1, (scanS n (l.drop (leadL l))).2)
theorem scanS_fuel : ∀ (n m : Nat) (l : List UInt8), l.length ≤ n → l.length ≤ m → scanS n l = scanS m l
  | 0, m, l, h1, h2 => by
    obtain rfl : l = [] := List.eq_nil_of_length_eq_zero (by omega)
    cases m <;> simp [scanS]
  | n + 1, 0, l, h1, h2 => by
    obtain rfl : l = [] := List.eq_nil_of_length_eq_zero (by omega)
    simp [scanS]
  | n + 1, m + 1, l, h1, h2 => by
    rw [scanS, scanS]
    by_cases h0 : l = []
    · rw [if_pos h0, if_pos h0]
    · rw [if_neg h0, if_neg h0]
      by_cases h3 : leadL l = 0
      · rw [if_pos h3, if_pos h3]
      · have := lead_facts (by omega : 0 < leadL l)
        rw [if_neg h3, if_neg h3, scanS_fuel n m (l.drop (leadL l)) (by rw [List.length_drop]; omega) (by rw [List.length_drop]; omega)]
theorem scanS_valid : ∀ (n : Nat) (l : List UInt8), l.length ≤ n → (scanS n l).2 = validD l
  | 0, l, h => by
    obtain rfl : l = [] := List.eq_nil_of_length_eq_zero (by omega)
    rfl
  | n + 1, l, h => by
    rw [scanS]
    by_cases h0 : l = []
    · rw [if_pos h0, h0]; rfl
    · rw [if_neg h0, valid_lead h0]
      by_cases h3 : leadL l = 0
      · rw [if_pos h3, if_pos h3]
      · have := lead_facts (by omega : 0 < leadL l)
        rw [if_neg h3, if_neg h3]
        exact scanS_valid n (l.drop (leadL l)) (by rw [List.length_drop]; omega)
theorem scanS_count (s : ByteArray) : ∀ (n p : Nat), p ≤ s.size → s.size ≤ n + p → validD (s.data.toList.drop p) = true → (scanS n (s.data.toList.drop p)).1 = runeCountFrom s n p
  | 0, p, h1, h2, _ => rfl
  | n + 1, p, h1, h2, hv => by
    have hlen : s.data.toList.length = s.size := Array.length_toList
    rw [scanS, runeCountFrom]
    by_cases h0 : s.data.toList.drop p = []
    · have : ¬ p < s.size := fun hp => by
        have := congrArg List.length h0
        rw [List.length_drop, hlen] at this
        simp at this
        omega
      rw [if_pos h0, if_neg this]
    · have hp : p < s.size := by
        refine Nat.lt_of_not_le fun hp => h0 ?_
        exact List.drop_of_length_le (by omega)
      rw [valid_lead h0] at hv
      by_cases h3 : leadL (s.data.toList.drop p) = 0
      · rw [if_pos h3] at hv; cases hv
      · rw [if_neg h3] at hv
        have hf := lead_facts (by omega : 0 < leadL (s.data.toList.drop p))
        rw [List.length_drop, hlen] at hf
        rw [if_neg h0, if_neg h3, if_pos hp, ← decodeL_drop]
        rcases lead_dec h0 with ⟨q1, _⟩ | ⟨q1, q2, _⟩
        · exact absurd q1 h3
        · rw [q2]
          rw [List.drop_drop] at hv ⊢
          dsimp only
          rw [scanS_count s n (p + leadL (s.data.toList.drop p)) (by omega) (by omega) hv]
          omega

theorem last4 (t : List UInt8) (c0 c1 c2 c3 : UInt8) (h3 : 128 ≤ c3.toNat) (h2 : runeStartB c2 = false) (h1 : runeStartB c1 = false) (h0 : runeStartB c0 = true) (hd : (decodeL [c0, c1, c2, c3]).2 = 4) : decodeLastL (t ++ [c0, c1, c2, c3]) = decodeL [c0, c1, c2, c3] := by
  have g1 := getD_app_end t [c0, c1, c2, c3] 1 (by omega) (by simp)
  have g2 := getD_app_end t [c0, c1, c2, c3] 2 (by omega) (by simp)
  have g3 := getD_app_end t [c0, c1, c2, c3] 3 (by omega) (by simp)
  have g4 := getD_app_end t [c0, c1, c2, c3] 4 (by omega) (by simp)
  have hl : (t ++ [c0, c1, c2, c3]).length = t.length + 4 := by simp
  have hs : lastStart (t ++ [c0, c1, c2, c3]) = (t ++ [c0, c1, c2, c3]).length - 4 := by
    unfold lastStart
    simp only [g2, g3, g4]
    rw [if_neg (by omega)]
    simp only [List.length_cons, List.length_nil, List.getD_cons_succ, List.getD_cons_zero, Nat.reduceAdd, Nat.reduceSub, h1, h0, h2, Bool.false_eq_true, if_false, if_true]
    rw [if_neg (by omega), if_neg (by omega)]
  have hdrop := drop_app_end t [c0, c1, c2, c3]
  unfold decodeLastL
  rw [if_neg (by simp), g1, if_neg (by simp; omega), hs]
  simp only [List.length_cons, List.length_nil] at hdrop
  simp only [hdrop, hd]
  rw [if_pos (by omega)]

theorem start_no (b : UInt8) (h : 128 ≤ b.toNat ∧ b.toNat ≤ 191) : runeStartB b = false := by
  unfold runeStartB
  have : b.toNat / 64 = 2 := by omega
  simp [this]
theorem start_yes (b : UInt8) (h : 194 ≤ b.toNat) : runeStartB b = true := by
  unfold runeStartB
  have : b.toNat / 64 ≠ 2 := by omega
  simp [this]

/-- one sign at the end: it is the last. -/
theorem last_sign (t q : List UInt8) (h : 0 < leadL q) (hq : leadL q = q.length) : decodeLastL (t ++ q) = decodeL q := by
  obtain ⟨_, hc⟩ := lead_facts h
  have hd : (decodeL q).2 = q.length := by
    rcases lead_dec (l := q) (fun e => by subst e; simp at hq; omega) with ⟨q1, _⟩ | ⟨_, q2, _⟩
    · omega
    · rw [q2, hq]
  rcases hc with ⟨h1, h2⟩ | ⟨h2, h3, h4, h5⟩
  · match q, (show q.length = 1 by omega), h2 with
    | [b], _, h2 =>
      rw [decodeLastL_ascii t b h2, decodeL_ascii b [] h2]
  · rcases (show q.length = 2 ∨ q.length = 3 ∨ q.length = 4 by omega) with hl | hl | hl
    · match q, hl, h4, h5, hd, hq with
      | [c0, c1], _, h4, h5, hd, hq =>
        exact last2 t c0 c1 (h5 1 (by omega) (by rw [hq]; simp)).1 (start_yes c0 h4) hd
    · match q, hl, h4, h5, hd, hq with
      | [c0, c1, c2], _, h4, h5, hd, hq =>
        exact last3 t c0 c1 c2 (h5 2 (by omega) (by rw [hq]; simp)).1 (start_no c1 (h5 1 (by omega) (by rw [hq]; simp))) (start_yes c0 h4) hd
    · match q, hl, h4, h5, hd, hq with
      | [c0, c1, c2, c3], _, h4, h5, hd, hq =>
        exact last4 t c0 c1 c2 c3 (h5 3 (by omega) (by rw [hq]; simp)).1 (start_no c2 (h5 2 (by omega) (by rw [hq]; simp))) (start_no c1 (h5 1 (by omega) (by rw [hq]; simp))) (start_yes c0 h4) hd

theorem last_ok : ∀ (n : Nat) (l p : List UInt8), l.length ≤ n → l ≠ [] → validD l = true → okP (decodeLastL (p ++ l)) = true
  | 0, l, p, h, h0, _ => absurd (List.eq_nil_of_length_eq_zero (by omega)) h0
  | n + 1, l, p, h, h0, hv => by
    rw [valid_lead h0] at hv
    by_cases h3 : leadL l = 0
    · rw [if_pos h3] at hv; cases hv
    · rw [if_neg h3] at hv
      have hpos : 0 < leadL l := by omega
      obtain ⟨hle, _⟩ := lead_facts hpos
      by_cases h4 : l.drop (leadL l) = []
      · have hq : leadL l = l.length := by
          have := congrArg List.length h4
          rw [List.length_drop] at this
          simp at this
          omega
        rw [last_sign p l hpos hq]
        rcases lead_dec h0 with ⟨q1, _⟩ | ⟨_, _, q3⟩
        · exact absurd q1 h3
        · exact q3
      · have := last_ok n (l.drop (leadL l)) (p ++ l.take (leadL l)) (by rw [List.length_drop]; omega) h4 hv
        rw [List.append_assoc, List.take_append_drop] at this
        exact this
theorem first_ok (s : ByteArray) : okP (decodeGo s) = decide (0 < leadL s.data.toList) := by
  unfold decodeGo
  by_cases h : s.size = 0
  · rw [if_pos h]
    have : s.data.toList = [] := by
      have := empty_of h
      subst this; rfl
    rw [this]
    rfl
  · rw [if_neg h]
    have h0 : s.data.toList ≠ [] := fun e => h (by show s.data.size = 0; rw [← Array.length_toList, e]; rfl)
    have e : Utf8.decode s 0 = decodeL s.data.toList := by rw [← decodeL_drop]; rfl
    rw [e]
    rcases lead_dec h0 with ⟨q1, q2⟩ | ⟨q1, _, q3⟩
    · rw [q2, q1]; rfl
    · rw [q3]; simp [q1]
end Go.Proofs.YtajioajigpneoaaDoor
