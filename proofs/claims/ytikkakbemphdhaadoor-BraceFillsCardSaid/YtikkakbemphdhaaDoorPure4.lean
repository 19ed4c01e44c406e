/- Texts and places, one more at the end; read again; right. -/
import Derived.Test.YtikkakbemphdhaaDoorPure3
import Derived.Test.YtikkakbemphdhaaDoorUtf
set_option linter.unusedSimpArgs false
set_option linter.unusedVariables false
namespace Go.Fl.Br

theorem disp_snoc : ∀ (ts : List (List UInt8)) (ps : List Nat) (t : List UInt8), disp (ts ++ [t]) ps = disp ts ps ++ (t ++ (match ps[ts.length]? with | some p => pl p | none => []))
  | [], [], t => by simp [disp]
  | [], p :: ps, t => by simp [disp]
  | t' :: ts, [], t => by
    have h := disp_snoc ts [] t
    simp only [List.getElem?_nil] at h
    simp only [List.cons_append, disp, h, List.getElem?_nil, List.append_assoc]
  | t' :: ts, p :: ps, t => by
    have h := disp_snoc ts ps t
    simp only [List.cons_append, disp, h, List.length_cons, List.getElem?_cons_succ, List.append_assoc]

def step (list : List (List UInt8)) (t : List UInt8) (q : Option Nat) (x : List UInt8 × List Nat) : List UInt8 × List Nat :=
  match q with
  | some p => if h : p < list.length then (x.1 ++ t ++ list[p], x.2.set p (x.1 ++ t).length) else (x.1 ++ t, x.2)
  | none => (x.1 ++ t, x.2)

theorem fill_snoc {list : List (List UInt8)} : ∀ (ts : List (List UInt8)) (ps : List Nat) (t acc : List UInt8) (at_ : List Nat), fill list (ts ++ [t]) ps acc at_ = step list t ps[ts.length]? (fill list ts ps acc at_)
  | [], [], t, acc, at_ => by simp [fill, step]
  | [], p :: ps, t, acc, at_ => by
    simp only [List.nil_append, fill, List.length_nil, List.getElem?_cons_zero, step]
  | t' :: ts, [], t, acc, at_ => by
    have h := fill_snoc (list := list) ts [] t (acc ++ t') at_
    simp only [List.getElem?_nil] at h
    simp only [List.cons_append, fill, h, List.getElem?_nil]
  | t' :: ts, p :: ps, t, acc, at_ => by
    simp only [List.cons_append, fill, List.length_cons, List.getElem?_cons_succ]
    split
    · exact fill_snoc ts ps t _ _
    · exact fill_snoc ts ps t _ _

theorem fill_at_le {list : List (List UInt8)} : ∀ (ts : List (List UInt8)) (ps : List Nat) (acc : List UInt8) (at_ : List Nat), (∀ x ∈ at_, x ≤ acc.length) → ∀ x ∈ (fill list ts ps acc at_).2, x ≤ (fill list ts ps acc at_).1.length
  | [], ps, acc, at_, h => by simpa [fill] using h
  | t :: ts, [], acc, at_, h => by
    rw [fill]
    exact fill_at_le ts [] _ _ (fun x hx => by rw [List.length_append]; have := h x hx; omega)
  | t :: ts, p :: ps, acc, at_, h => by
    rw [fill]
    split
    · refine fill_at_le ts ps _ _ (fun x hx => ?_)
      rcases List.mem_or_eq_of_mem_set hx with h1 | h1
      · have := h x h1
        simp only [List.length_append]; omega
      · subst h1
        simp only [List.length_append]; omega
    · exact fill_at_le ts ps _ _ (fun x hx => by rw [List.length_append]; have := h x hx; omega)

/-- texts without braces, places in any order: read again. -/
theorem scan_disp (n : Int) : ∀ (ts : List (List UInt8)) (ps : List Nat) (pos : Nat) (ts0 : List (List UInt8)) (ps0 : List Nat), ts.length = ps.length + 1 → (∀ t ∈ ts, ∀ b ∈ t, b.toNat ≠ 123 ∧ b.toNat ≠ 125) →
    (ps0 ++ ps).Nodup → (∀ k ∈ ps, k < 10 ∧ (k : Int) < n) → min n 10 ≤ ((ps0 ++ ps).length : Int) → scan n (disp ts ps) pos [] ts0 ps0 = .ok (ts0 ++ ts) (ps0 ++ ps)
  | [], ps, pos, ts0, ps0, hl, _, _, _, _ => by simp at hl
  | [t], [], pos, ts0, ps0, _, ht, _, _, hm => by
    have h := scan_text n t [] pos [] ts0 ps0 (ht t (by simp))
    simp only [disp]
    rw [h, scan_nil, if_neg (by simp only [List.append_nil] at hm; omega), List.append_nil]
    simp
  | t :: t' :: ts, [], pos, ts0, ps0, hl, _, _, _, _ => by simp at hl
  | [t], p :: ps, pos, ts0, ps0, hl, _, _, _, _ => by simp at hl
  | t :: t' :: ts, p :: ps, pos, ts0, ps0, hl, ht, hn, hk, hm => by
    rw [disp, scan_text n t _ pos [] ts0 ps0 (ht t (by simp)), List.nil_append]
    have hp := hk p (by simp)
    rw [scan_place n p _ _ _ _ _ hp.1 hp.2 (fun hin => by
      rw [List.nodup_append] at hn
      exact hn.2.2 p hin p (by simp) rfl)]
    rw [scan_disp n (t' :: ts) ps _ _ _ (by simp only [List.length_cons] at hl ⊢; omega) (fun x hx => ht x (by simp [List.mem_cons.1 hx])) (by simpa using hn) (fun k h => hk k (by simp [h])) (by simpa using hm)]
    simp

open Go.Lib in
theorem valid_disp : ∀ (ts : List (List UInt8)) (ps : List Nat), (∀ t ∈ ts, validD t = true) → (∀ k ∈ ps, k < 10) → validD (disp ts ps) = true
  | [], ps, _, _ => by simp [disp, validD_nil]
  | t :: ts, [], h, hk => by
    rw [disp]
    exact valid_append (h t (by simp)) (valid_disp ts [] (fun x hx => h x (by simp [hx])) (by simp))
  | t :: ts, p :: ps, h, hk => by
    rw [disp]
    have hp := hk p (by simp)
    refine valid_append (h t (by simp)) ?_
    simp only [pl, List.cons_append, List.nil_append]
    rw [validD_cons _ _ (by decide), validD_cons _ _ (by simp; omega), validD_cons _ _ (by decide)]
    exact valid_disp ts ps (fun x hx => h x (by simp [hx])) (fun k hk' => hk k (by simp [hk']))
end Go.Fl.Br
