/- A text with places as it is written, and filled. -/
import Derived.Test.YtikkakbemphdhaaDoorPure
set_option linter.unusedSimpArgs false
set_option linter.unusedVariables false
namespace Go.Fl.Br

/-- as it is written. -/
def disp : List (List UInt8) → List Nat → List UInt8
  | t :: ts, p :: ps => t ++ (pl p ++ disp ts ps)
  | t :: ts, [] => t ++ disp ts []
  | [], _ => []

/-- filled: the text, and where each stands. -/
def fill (list : List (List UInt8)) : List (List UInt8) → List Nat → List UInt8 → List Nat → List UInt8 × List Nat
  | t :: ts, p :: ps, acc, at_ => if h : p < list.length then fill list ts ps (acc ++ t ++ list[p]) (at_.set p (acc ++ t).length) else fill list ts ps (acc ++ t) at_
  | t :: ts, [], acc, at_ => fill list ts [] (acc ++ t) at_
  | [], _, acc, at_ => (acc, at_)

theorem disp_step_p {ts : List (List UInt8)} {ps : List Nat} {i : Nat} (h : i < ts.length) (hp : i < ps.length) : disp (ts.drop i) (ps.drop i) = ts[i] ++ (pl ps[i] ++ disp (ts.drop (i + 1)) (ps.drop (i + 1))) := by
  rw [List.drop_eq_getElem_cons h, List.drop_eq_getElem_cons hp, disp]
theorem disp_step_n {ts : List (List UInt8)} {ps : List Nat} {i : Nat} (h : i < ts.length) (hp : ps.length ≤ i) : disp (ts.drop i) (ps.drop i) = ts[i] ++ disp (ts.drop (i + 1)) (ps.drop (i + 1)) := by
  rw [List.drop_eq_getElem_cons h, List.drop_of_length_le hp, List.drop_of_length_le (Nat.le_succ_of_le hp), disp]

variable {list : List (List UInt8)}
theorem fill_step_in {ts : List (List UInt8)} {ps : List Nat} {i : Nat} {acc : List UInt8} {at_ : List Nat} (h : i < ts.length) (hp : i < ps.length) (hl : ps[i] < list.length) :
    fill list (ts.drop i) (ps.drop i) acc at_ = fill list (ts.drop (i + 1)) (ps.drop (i + 1)) (acc ++ ts[i] ++ list[ps[i]]) (at_.set ps[i] (acc ++ ts[i]).length) := by
  rw [List.drop_eq_getElem_cons h, List.drop_eq_getElem_cons hp, fill, dif_pos hl]
theorem fill_step_out {ts : List (List UInt8)} {ps : List Nat} {i : Nat} {acc : List UInt8} {at_ : List Nat} (h : i < ts.length) (hp : i < ps.length) (hl : list.length ≤ ps[i]) :
    fill list (ts.drop i) (ps.drop i) acc at_ = fill list (ts.drop (i + 1)) (ps.drop (i + 1)) (acc ++ ts[i]) at_ := by
  rw [List.drop_eq_getElem_cons h, List.drop_eq_getElem_cons hp, fill, dif_neg (by omega)]
theorem fill_step_n {ts : List (List UInt8)} {ps : List Nat} {i : Nat} {acc : List UInt8} {at_ : List Nat} (h : i < ts.length) (hp : ps.length ≤ i) :
    fill list (ts.drop i) (ps.drop i) acc at_ = fill list (ts.drop (i + 1)) (ps.drop (i + 1)) (acc ++ ts[i]) at_ := by
  rw [List.drop_eq_getElem_cons h, List.drop_of_length_le hp, List.drop_of_length_le (Nat.le_succ_of_le hp), fill]

/-- what stands already is no longer than what comes to stand. -/
theorem fill_len : ∀ (ts : List (List UInt8)) (ps : List Nat) (acc : List UInt8) (at_ : List Nat), acc.length ≤ (fill list ts ps acc at_).1.length
  | [], ps, acc, at_ => by rw [fill]; exact Nat.le_refl _
  | t :: ts, [], acc, at_ => by
    rw [fill]
    refine Nat.le_trans ?_ (fill_len ts [] _ _)
    rw [List.length_append]; omega
  | t :: ts, p :: ps, acc, at_ => by
    rw [fill]
    split
    · refine Nat.le_trans ?_ (fill_len ts ps _ _)
      rw [List.length_append, List.length_append]; omega
    · refine Nat.le_trans ?_ (fill_len ts ps _ _)
      rw [List.length_append]; omega
theorem fill_at_len : ∀ (ts : List (List UInt8)) (ps : List Nat) (acc : List UInt8) (at_ : List Nat), (fill list ts ps acc at_).2.length = at_.length
  | [], ps, acc, at_ => by rw [fill]
  | t :: ts, [], acc, at_ => by
    rw [fill]
    exact fill_at_len ts [] _ _
  | t :: ts, p :: ps, acc, at_ => by
    rw [fill]
    split
    · rw [fill_at_len ts ps _ _, List.length_set]
    · exact fill_at_len ts ps _ _
theorem fill_len1 (t : List UInt8) (ts : List (List UInt8)) (ps : List Nat) (acc : List UInt8) (at_ : List Nat) : acc.length + t.length ≤ (fill list (t :: ts) ps acc at_).1.length := by
  cases ps with
  | nil =>
    rw [fill]
    have := fill_len (list := list) ts [] (acc ++ t) at_
    rw [List.length_append] at this
    exact this
  | cons p ps =>
    rw [fill]
    split
    · rename_i h
      generalize at_.set p (acc ++ t).length = A
      have := fill_len (list := list) ts ps (acc ++ t ++ list[p]) A
      rw [List.length_append, List.length_append] at this
      omega
    · have := fill_len (list := list) ts ps (acc ++ t) at_
      rw [List.length_append] at this
      exact this
theorem fill_len2 {ts : List (List UInt8)} {ps : List Nat} {i : Nat} {acc : List UInt8} {at_ : List Nat} (h : i < ts.length) : acc.length + ts[i].length ≤ (fill list (ts.drop i) (ps.drop i) acc at_).1.length := by
  rw [List.drop_eq_getElem_cons h]
  exact fill_len1 _ _ _ _ _
end Go.Fl.Br
