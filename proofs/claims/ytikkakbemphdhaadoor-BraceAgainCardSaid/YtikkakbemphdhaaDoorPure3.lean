/- What is read is what stands there; filled with its own places it is as it was. -/
import Derived.Test.YtikkakbemphdhaaDoorPure2
set_option linter.unusedSimpArgs false
set_option linter.unusedVariables false
namespace Go.Fl.Br

/-- texts, each with a place behind it. -/
def pre : List (List UInt8) → List Nat → List UInt8
  | t :: ts, p :: ps => t ++ (pl p ++ pre ts ps)
  | _, _ => []

theorem pre_snoc : ∀ (ts : List (List UInt8)) (ps : List Nat) (t : List UInt8) (p : Nat), ts.length = ps.length → pre (ts ++ [t]) (ps ++ [p]) = pre ts ps ++ (t ++ pl p)
  | [], [], t, p, _ => by simp [pre]
  | [], p' :: ps, t, p, h => by simp at h
  | t' :: ts, [], t, p, h => by simp at h
  | t' :: ts, p' :: ps, t, p, h => by
    simp only [List.length_cons, Nat.add_right_cancel_iff] at h
    simp only [List.cons_append, pre, pre_snoc ts ps t p h, List.append_assoc]
theorem disp_pre : ∀ (ts : List (List UInt8)) (ps : List Nat) (t : List UInt8), ts.length = ps.length → disp (ts ++ [t]) ps = pre ts ps ++ t
  | [], [], t, _ => by simp [disp, pre]
  | [], p' :: ps, t, h => by simp at h
  | t' :: ts, [], t, h => by simp at h
  | t' :: ts, p' :: ps, t, h => by
    simp only [List.length_cons, Nat.add_right_cancel_iff] at h
    simp only [List.cons_append, disp, pre, disp_pre ts ps t h, List.append_assoc]

/-- places: each once, below ten and below n. -/
def Good (n : Int) (ps : List Nat) : Prop := ps.Nodup ∧ ∀ k ∈ ps, k < 10 ∧ (k : Int) < n

theorem place_some {l r : List UInt8} {k : Nat} (h : place l = some (k, r)) : k < 10 ∧ l = UInt8.ofNat (48 + k) :: 125 :: r := by
  unfold place at h
  split at h
  · rename_i d c r'
    split at h
    · rename_i hd
      injection h with h
      injection h with h1 h2
      subst h1 h2
      have h3 := hd.1
      unfold isDig at h3
      simp only [decide_eq_true_eq] at h3
      refine ⟨by omega, ?_⟩
      rw [show 48 + (d.toNat - 48) = d.toNat by omega, UInt8.ofNat_toNat]
      rw [show c = 125 from UInt8.toNat_inj.1 hd.2]
    · cases h
  · cases h

theorem scan_ok (n : Int) : ∀ (m : Nat) (l : List UInt8) (pos : Nat) (cur : List UInt8) (ts : List (List UInt8)) (ps : List Nat) (ts' : List (List UInt8)) (ps' : List Nat), l.length ≤ m →
    scan n l pos cur ts ps = .ok ts' ps' → ts.length = ps.length → Good n ps →
    disp ts' ps' = pre ts ps ++ (cur ++ l) ∧ ts'.length = ps'.length + 1 ∧ Good n ps' ∧ min n 10 ≤ (ps'.length : Int)
  | m, [], pos, cur, ts, ps, ts', ps', _, h, hl, hg => by
    rw [scan_nil] at h
    split at h
    · cases h
    · rename_i hn
      injection h with h1 h2
      subst h1 h2
      refine ⟨?_, by simp [hl], hg, by omega⟩
      rw [disp_pre ts ps cur hl, List.append_nil]
  | 0, b :: r, pos, cur, ts, ps, ts', ps', hm, h, hl, hg => by simp at hm
  | m + 1, b :: r, pos, cur, ts, ps, ts', ps', hm, h, hl, hg => by
    simp only [List.length_cons] at hm
    by_cases h1 : b.toNat = 125
    · rw [scan_close _ _ _ _ _ _ _ h1] at h; cases h
    · by_cases h2 : b.toNat = 123
      · cases hp : place r with
        | none => rw [scan_open_none _ _ _ _ _ _ _ h2 hp] at h; cases h
        | some x =>
          obtain ⟨k, r'⟩ := x
          by_cases hk : n ≤ (k : Int) ∨ k ∈ ps
          · rw [scan_open_bad _ _ _ _ _ _ _ _ _ h2 hp hk] at h; cases h
          · rw [scan_open_ok _ _ _ _ _ _ _ _ _ h2 hp hk] at h
            obtain ⟨hk10, hr⟩ := place_some hp
            have hlen := place_len hp
            have hg' : Good n (ps ++ [k]) := by
              refine ⟨?_, fun j hj => ?_⟩
              · rw [List.nodup_append]
                exact ⟨hg.1, by simp, fun a ha b hb e => by simp at hb; subst hb; exact hk (.inr (e ▸ ha))⟩
              · rcases List.mem_append.1 hj with h5 | h5
                · exact hg.2 j h5
                · simp at h5; subst h5; exact ⟨hk10, by omega⟩
            obtain ⟨q1, q2⟩ := scan_ok n m r' _ _ _ _ _ _ (by omega) h (by simp [hl]) hg'
            refine ⟨?_, q2⟩
            rw [q1, pre_snoc ts ps cur k hl, hr]
            rw [show b = 123 from UInt8.toNat_inj.1 h2]
            simp [pl]
      · rw [scan_byte _ _ _ _ _ _ _ h1 h2] at h
        obtain ⟨q1, q2⟩ := scan_ok n m r _ _ _ _ _ _ (by omega) h hl hg
        refine ⟨?_, q2⟩
        rw [q1]
        simp

/-- a place once. -/
theorem parse_ok {n : Int} {l : List UInt8} {ts : List (List UInt8)} {ps : List Nat} (h : scan n l 0 [] [] [] = .ok ts ps) :
    disp ts ps = l ∧ ts.length = ps.length + 1 ∧ Good n ps ∧ min n 10 ≤ (ps.length : Int) := by
  have := scan_ok n l.length l 0 [] [] [] ts ps (Nat.le_refl _) h rfl ⟨List.nodup_nil, by simp⟩
  simpa [pre] using this

/-- filled with the places themselves. -/
theorem fill_self {list : List (List UInt8)} : ∀ (ts : List (List UInt8)) (ps : List Nat) (acc : List UInt8) (at_ : List Nat), (∀ k ∈ ps, ∃ h : k < list.length, list[k] = pl k) → (fill list ts ps acc at_).1 = acc ++ disp ts ps
  | [], ps, acc, at_, _ => by simp [fill, disp]
  | t :: ts, [], acc, at_, h => by
    rw [fill, fill_self ts [] _ _ (by simp), disp]
    simp
  | t :: ts, p :: ps, acc, at_, h => by
    obtain ⟨h1, h2⟩ := h p (by simp)
    rw [fill, dif_pos h1, fill_self ts ps _ _ (fun k hk => h k (by simp [hk])), disp, h2]
    simp

/-- what stands already stands at the beginning. -/
theorem fill_pre {list : List (List UInt8)} : ∀ (ts : List (List UInt8)) (ps : List Nat) (acc : List UInt8) (at_ : List Nat), ∃ B, (fill list ts ps acc at_).1 = acc ++ B
  | [], ps, acc, at_ => ⟨[], by simp [fill]⟩
  | t :: ts, [], acc, at_ => by
    obtain ⟨B, h⟩ := fill_pre (list := list) ts [] (acc ++ t) at_
    exact ⟨t ++ B, by rw [fill, h, List.append_assoc]⟩
  | t :: ts, p :: ps, acc, at_ => by
    rw [fill]
    split
    · rename_i hp
      obtain ⟨B, h⟩ := fill_pre (list := list) ts ps (acc ++ t ++ list[p]) (at_.set p (acc ++ t).length)
      exact ⟨t ++ (list[p] ++ B), by rw [h]; simp only [List.append_assoc]⟩
    · obtain ⟨B, h⟩ := fill_pre (list := list) ts ps (acc ++ t) at_
      exact ⟨t ++ B, by rw [h]; simp only [List.append_assoc]⟩

/-- what was told of a place that comes no more stays. -/
theorem fill_keeps {list : List (List UInt8)} : ∀ (ts : List (List UInt8)) (ps : List Nat) (acc : List UInt8) (at_ : List Nat) (k : Nat), k ∉ ps → (fill list ts ps acc at_).2[k]? = at_[k]?
  | [], ps, acc, at_, k, _ => by rw [fill]
  | t :: ts, [], acc, at_, k, h => by
    rw [fill]
    exact fill_keeps ts [] _ _ k (by simp)
  | t :: ts, p :: ps, acc, at_, k, h => by
    have h1 : k ∉ ps := fun hk => h (by simp [hk])
    have h2 : p ≠ k := fun e => h (by simp [e])
    rw [fill]
    split
    · rw [fill_keeps ts ps _ _ k h1, List.getElem?_set_ne h2]
    · exact fill_keeps ts ps _ _ k h1

/-- where a place is told, there it stands. -/
theorem fill_at {list : List (List UInt8)} : ∀ (ts : List (List UInt8)) (ps : List Nat) (acc : List UInt8) (at_ : List Nat) (k : Nat) (hk : k < list.length), at_.length = list.length → ps.Nodup → k ∈ ps → ps.length ≤ ts.length →
    ∃ A B, (fill list ts ps acc at_).1 = A ++ list[k] ++ B ∧ (fill list ts ps acc at_).2[k]? = some A.length
  | [], ps, acc, at_, k, hk, ha, hn, hm, hl => by
    cases ps with
    | nil => cases hm
    | cons p ps => simp at hl
  | t :: ts, [], acc, at_, k, hk, ha, hn, hm, hl => by cases hm
  | t :: ts, p :: ps, acc, at_, k, hk, ha, hn, hm, hl => by
    simp only [List.length_cons, Nat.add_le_add_iff_right] at hl
    rw [List.nodup_cons] at hn
    by_cases hpk : p = k
    · subst hpk
      rw [fill, dif_pos hk, fill_keeps ts ps _ _ p hn.1, List.getElem?_set_self (by omega)]
      obtain ⟨B, hB⟩ := fill_pre ts ps (acc ++ t ++ list[p]) (at_.set p (acc ++ t).length)
      exact ⟨acc ++ t, B, hB, rfl⟩
    · have hm' : k ∈ ps := (List.mem_cons.1 hm).resolve_left (fun e => hpk e.symm)
      rw [fill]
      split
      · exact fill_at ts ps _ _ k hk (by rw [List.length_set]; exact ha) hn.2 hm' hl
      · exact fill_at ts ps _ _ k hk ha hn.2 hm' hl
end Go.Fl.Br
