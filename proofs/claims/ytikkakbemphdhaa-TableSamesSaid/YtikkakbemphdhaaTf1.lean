/- The plain law: what was laid is read again, and what is read was laid so. -/
import Derived.Test.YtikkakbemphdhaaTe0
import Derived.Test.YtikkakbemphdhaaBack0
set_option linter.unusedSimpArgs false
set_option linter.unusedVariables false
namespace Go.Proofs.Ytikkakbemphdhaa
open Go.RowKit Go.Fl

theorem numB_big (n : Nat) (h : ¬ n < 128) : numB n = UInt8.ofNat (n % 128 + 128) :: numB (n / 128) := by rw [numB, if_neg h]
theorem rdNum_canon : ∀ (l : List UInt8) (i acc v k : Nat), Rd.rdNum l i acc = some (v, k) → ∃ m q, l = numB m ++ q ∧ v = acc + m * 2 ^ (7 * i) ∧ k = i + (numB m).length ∧ (m = 0 → i = 0)
  | [], i, acc, v, k, h => by simp [Rd.rdNum] at h
  | b :: r, i, acc, v, k, h => by
    rw [Rd.rdNum] at h
    split at h
    · cases h
    · split at h
      · rename_i hb
        split at h
        · cases h
        · rename_i hz
          simp only [Option.some.injEq, Prod.mk.injEq] at h
          obtain ⟨rfl, rfl⟩ := h
          refine ⟨b.toNat, r, ?_, rfl, ?_, fun h => by omega⟩
          · rw [numB, if_pos hb]; simp
          · rw [numB, if_pos hb]; rfl
      · rename_i hb
        obtain ⟨m, q, rfl, hv, hk, hm⟩ := rdNum_canon r (i + 1) _ v k h
        have hm1 : 1 ≤ m := by
          rcases Nat.eq_zero_or_pos m with h0 | h0
          · have := hm h0; omega
          · exact h0
        have hlt := b.toNat_lt
        have e1 : (b.toNat % 128 + 128 * m) / 128 = m := by omega
        have e2 : (b.toNat % 128 + 128 * m) % 128 + 128 = b.toNat := by omega
        refine ⟨b.toNat % 128 + 128 * m, q, ?_, ?_, ?_, fun h => by omega⟩
        · rw [numB_big (b.toNat % 128 + 128 * m) (by omega), e1, e2]; simp
        · rw [hv, show 7 * (i + 1) = 7 + 7 * i by omega, Nat.pow_add, Nat.add_mul, Nat.add_assoc]
          congr 2
          rw [← Nat.mul_assoc, Nat.mul_comm m (2 ^ 7)]
        · rw [hk, numB_big (b.toNat % 128 + 128 * m) (by omega), e1]
          simp only [List.length_cons]; omega

/-- a reader and what lays the same. -/
structure Prs {α : Type} (rd : List UInt8 → Option Nat → α × Option Nat) (enc : α → List UInt8) (good : α → Prop) : Prop where
  none : ∀ l, (rd l none).2 = none
  back : ∀ p q x, good x → rd (p ++ (enc x ++ q)) (some p.length) = (x, some (p.length + (enc x).length))
  canon : ∀ l a b, a ≤ l.length → (rd l (some a)).2 = some b → good (rd l (some a)).1 ∧ ∃ p q, p.length = a ∧ l = p ++ (enc (rd l (some a)).1 ++ q) ∧ b = a + (enc (rd l (some a)).1).length

theorem Prs.le {α : Type} {rd : List UInt8 → Option Nat → α × Option Nat} {enc : α → List UInt8} {good : α → Prop} (h : Prs rd enc good) {l : List UInt8} {a b : Nat} (ha : a ≤ l.length) (hb : (rd l (some a)).2 = some b) : b ≤ l.length := by
  obtain ⟨_, p, q, hp, hl, rfl⟩ := h.canon l a b ha hb
  have := congrArg List.length hl
  simp only [List.length_append] at this
  omega
def goodN (n : Nat) : Prop := n < 9223372036854775808
theorem prs_num : Prs Rd.num numB goodN := by
  refine ⟨fun _ => rfl, fun p q x h => num_back p q x h, fun l a b ha h => ?_⟩
  have h63 := Rd.num_lt l (some a)
  refine ⟨h63, ?_⟩
  unfold Rd.num at h ⊢
  cases h' : Rd.rdNum (l.drop a) 0 0 with
  | none => simp only [h'] at h; cases h
  | some r =>
    obtain ⟨v, k⟩ := r
    simp only [h'] at h ⊢
    injection h with h
    obtain ⟨m, q, hl, hv, hk, _⟩ := rdNum_canon _ _ _ _ _ h'
    have hvm : v = m := by simpa using hv
    subst hvm
    refine ⟨l.take a, q, by simp; omega, ?_, by omega⟩
    rw [← hl, List.take_append_drop]
def textL (l : List UInt8) : List UInt8 := numB l.length ++ l
theorem textL_eq (l : List UInt8) : textB (mkB l) = textL l := rfl
theorem prs_text : Prs Rd.text textL (fun x => x.length < 9223372036854775808) := by
  refine ⟨fun _ => rfl, fun p q x h => ?_, fun l a b ha h => ?_⟩
  · have h1 := text_back p q (mkB x) h
    rw [textL_eq] at h1
    rw [h1]
    rfl
  · unfold Rd.text at h ⊢
    cases h' : Rd.num l (some a) with
    | mk n o =>
      cases o with
      | none => simp only [h'] at h; cases h
      | some c =>
        simp only [h'] at h ⊢
        obtain ⟨hg, p, q, hp, hl, hc⟩ := prs_num.canon l a c ha (by rw [h'])
        rw [h'] at hg hl hc
        simp only at hg hl hc
        have hg' : n < 9223372036854775808 := hg
        split at h
        · rename_i hle
          rw [if_pos hle]
          injection h with h
          subst h
          have hll := congrArg List.length hl
          simp only [List.length_append] at hll
          have hd : l.drop c = q := by
            rw [hl, ← List.append_assoc, show c = (p ++ numB n).length by rw [List.length_append]; omega, List.drop_left]
          simp only
          rw [hd]
          have hql : (q.take n).length = n := by rw [List.length_take]; omega
          refine ⟨by omega, p, q.drop n, hp, ?_, ?_⟩
          · unfold textL
            rw [hql, List.append_assoc, List.take_append_drop]
            exact hl
          · unfold textL
            rw [List.length_append, hql]
            omega
        · cases h

/-- one behind the other. -/
def rdPair {α β : Type} (r1 : List UInt8 → Option Nat → α × Option Nat) (r2 : List UInt8 → Option Nat → β × Option Nat) (l : List UInt8) (st : Option Nat) : (α × β) × Option Nat :=
  (((r1 l st).1, (r2 l (r1 l st).2).1), (r2 l (r1 l st).2).2)
theorem Prs.pair {α β : Type} {r1 : List UInt8 → Option Nat → α × Option Nat} {r2 : List UInt8 → Option Nat → β × Option Nat} {e1 : α → List UInt8} {e2 : β → List UInt8} {g1 : α → Prop} {g2 : β → Prop} (h1 : Prs r1 e1 g1) (h2 : Prs r2 e2 g2) :
    Prs (rdPair r1 r2) (fun z => e1 z.1 ++ e2 z.2) (fun z => g1 z.1 ∧ g2 z.2) := by
  refine ⟨fun l => ?_, fun p q x hx => ?_, fun l a b ha h => ?_⟩
  · unfold rdPair; simp only; rw [h1.none, h2.none]
  · obtain ⟨x, y⟩ := x
    unfold rdPair
    simp only at hx ⊢
    rw [List.append_assoc, h1.back p _ x hx.1]
    have h3 := h2.back (p ++ e1 x) q y hx.2
    rw [List.length_append, List.append_assoc] at h3
    simp only
    rw [h3, List.length_append, Nat.add_assoc]
  · unfold rdPair at h ⊢
    simp only at h ⊢
    cases hc : (r1 l (some a)).2 with
    | none => rw [hc, h2.none] at h; cases h
    | some c =>
      rw [hc] at h
      obtain ⟨hg1, p, q, hp, hl, hcc⟩ := h1.canon l a c ha hc
      obtain ⟨hg2, p2, q2, hp2, hl2, hbb⟩ := h2.canon l c b (h1.le ha hc) h
      refine ⟨⟨hg1, hg2⟩, p, q2, hp, ?_, by rw [List.length_append]; omega⟩
      have e : p2 = p ++ e1 (r1 l (some a)).1 := by
        have h3 : l.take c = p2 := by conv => lhs; rw [hl2]
                                      rw [← hp2, List.take_left]
        have h4 : l.take c = p ++ e1 (r1 l (some a)).1 := by
          conv => lhs; rw [hl]
          rw [← List.append_assoc, show c = (p ++ e1 (r1 l (some a)).1).length by rw [List.length_append]; omega, List.take_left]
        rw [← h3, h4]
      conv => lhs; rw [hl2, e]
      simp only [List.append_assoc]

theorem Prs.map {α γ : Type} {rd : List UInt8 → Option Nat → α × Option Nat} {enc : α → List UInt8} {good : α → Prop} (h : Prs rd enc good) (f : α → γ) (g : γ → α) (hgf : ∀ a, good a → g (f a) = a)
    {rd' : List UInt8 → Option Nat → γ × Option Nat} {enc' : γ → List UInt8} {good' : γ → Prop} (hr : ∀ l st, rd' l st = (f (rd l st).1, (rd l st).2)) (he : ∀ c, enc' c = enc (g c)) (hG : ∀ c, good' c ↔ good (g c) ∧ f (g c) = c) : Prs rd' enc' good' := by
  refine ⟨fun l => by rw [hr]; exact h.none l, fun p q x hx => ?_, fun l a b ha hb => ?_⟩
  · obtain ⟨h1, h2⟩ := (hG x).1 hx
    rw [hr, he, h.back p q _ h1]
    simp only [h2]
  · rw [hr] at hb ⊢
    obtain ⟨hg, p, q, hp, hl, hbb⟩ := h.canon l a b ha hb
    refine ⟨(hG _).2 ⟨by simp only; rw [hgf _ hg]; exact hg, by simp only; rw [hgf _ hg]⟩, p, q, hp, ?_, ?_⟩
    · simp only; rw [he, hgf _ hg]; exact hl
    · simp only; rw [he, hgf _ hg]; exact hbb

theorem list_back {α : Type} {rd : List UInt8 → Option Nat → α × Option Nat} {enc : α → List UInt8} {good : α → Prop} (h : Prs rd enc good) : ∀ (xs : List α) (p q : List UInt8), (∀ x ∈ xs, good x) →
    rdList (rd (p ++ (xs.flatMap enc ++ q))) xs.length (some p.length) = (xs, some (p.length + (xs.flatMap enc).length))
  | [], p, q, _ => rfl
  | x :: xs, p, q, hx => by
    have h1 := h.back p (xs.flatMap enc ++ q) x (hx x (by simp))
    have h2 := list_back h xs (p ++ enc x) q (fun y hy => hx y (by simp [hy]))
    rw [List.flatMap_cons, List.append_assoc, List.length_cons, rdList]
    rw [List.length_append, List.append_assoc] at h2
    rw [h1]
    simp only
    rw [h2, List.length_append, Nat.add_assoc]
theorem list_canon {α : Type} {rd : List UInt8 → Option Nat → α × Option Nat} {enc : α → List UInt8} {good : α → Prop} (h : Prs rd enc good) : ∀ (n : Nat) (l : List UInt8) (a b : Nat), a ≤ l.length → (rdList (rd l) n (some a)).2 = some b →
    (rdList (rd l) n (some a)).1.length = n ∧ (∀ x ∈ (rdList (rd l) n (some a)).1, good x) ∧ ∃ p q, p.length = a ∧ l = p ++ ((rdList (rd l) n (some a)).1.flatMap enc ++ q) ∧ b = a + ((rdList (rd l) n (some a)).1.flatMap enc).length
  | 0, l, a, b, ha, hb => by
    rw [rdList_zero] at hb ⊢
    injection hb with hb
    refine ⟨rfl, by simp, l.take a, l.drop a, by simp; omega, ?_, by simp; omega⟩
    simp
  | n + 1, l, a, b, ha, hb => by
    rw [rdList] at hb ⊢
    simp only at hb ⊢
    cases hc : (rd l (some a)).2 with
    | none => rw [hc, rdList_none] at hb; cases hb
    | some c =>
      rw [hc] at hb
      obtain ⟨hg1, p, q, hp, hl, hcc⟩ := h.canon l a c ha hc
      obtain ⟨hn, hg2, p2, q2, hp2, hl2, hbb⟩ := list_canon h n l c b (h.le ha hc) hb
      refine ⟨by simp [hn], fun x hx => ?_, p, q2, hp, ?_, by rw [List.flatMap_cons, List.length_append]; omega⟩
      · rcases List.mem_cons.1 hx with rfl | hx
        · exact hg1
        · exact hg2 x hx
      · have e : p2 = p ++ enc (rd l (some a)).1 := by
          have h3 : l.take c = p2 := by conv => lhs; rw [hl2]
                                        rw [← hp2, List.take_left]
          have h4 : l.take c = p ++ enc (rd l (some a)).1 := by
            conv => lhs; rw [hl]
            rw [← List.append_assoc, show c = (p ++ enc (rd l (some a)).1).length by rw [List.length_append]; omega, List.take_left]
          rw [← h3, h4]
        conv => lhs; rw [hl2, e]
        rw [List.flatMap_cons]
        simp only [List.append_assoc]
def goodL {α : Type} (good : α → Prop) (xs : List α) : Prop := xs.length ≤ 65536 ∧ ∀ x ∈ xs, good x
theorem Prs.all {α : Type} {rd : List UInt8 → Option Nat → α × Option Nat} {enc : α → List UInt8} {good : α → Prop} (h : Prs rd enc good) : Prs (fun l st => rdAll (rd l) l st) (eAll enc) (goodL good) := by
  refine ⟨fun l => rfl, fun p q xs hx => ?_, fun l a b ha hb => ?_⟩
  · unfold rdAll eAll Rd.count
    have h1 := num_back p (xs.flatMap enc ++ q) xs.length (by have := hx.1; omega)
    rw [List.append_assoc, h1]
    simp only
    rw [if_pos (by have := hx.1; omega)]
    have h2 := list_back h xs (p ++ numB xs.length) q hx.2
    rw [List.length_append, List.append_assoc] at h2
    rw [h2, List.length_append, Nat.add_assoc]
  · unfold rdAll Rd.count at hb ⊢
    by_cases hc : ((Rd.num l (some a)).1 : Int) ≤ 65536
    · rw [if_pos hc] at hb ⊢
      cases hd : (Rd.num l (some a)).2 with
      | none => rw [hd, rdList_none] at hb; cases hb
      | some c =>
        rw [hd] at hb
        obtain ⟨hg1, p, q, hp, hl, hcc⟩ := prs_num.canon l a c ha hd
        obtain ⟨hn, hg2, p2, q2, hp2, hl2, hbb⟩ := list_canon h _ l c b (prs_num.le ha hd) hb
        refine ⟨⟨by rw [hn]; omega, hg2⟩, p, q2, hp, ?_, ?_⟩
        · have e : p2 = p ++ numB (Rd.num l (some a)).1 := by
            have h3 : l.take c = p2 := by conv => lhs; rw [hl2]
                                          rw [← hp2, List.take_left]
            have h4 : l.take c = p ++ numB (Rd.num l (some a)).1 := by
              conv => lhs; rw [hl]
              rw [← List.append_assoc, show c = (p ++ numB (Rd.num l (some a)).1).length by rw [List.length_append]; omega, List.take_left]
            rw [← h3, h4]
          unfold eAll
          rw [hn]
          conv => lhs; rw [hl2, e]
          simp only [List.append_assoc]
        · unfold eAll
          rw [hn, List.length_append]
          omega
    · rw [if_neg hc] at hb
      rw [rdList_none] at hb
      cases hb
end Go.Proofs.Ytikkakbemphdhaa
