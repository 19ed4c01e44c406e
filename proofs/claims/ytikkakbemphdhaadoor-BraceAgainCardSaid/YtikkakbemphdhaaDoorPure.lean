/- Texts with places, as plain functions on lists of bytes. -/
set_option linter.unusedSimpArgs false
set_option linter.unusedVariables false
namespace Go.Fl.Br

/-- what a text with places comes to: an error (its number, its byte), or texts and places. -/
inductive Res where
  | err (e at_ : Nat)
  | ok (ts : List (List UInt8)) (ps : List Nat)

def isDig (b : UInt8) : Bool := decide (48 ≤ b.toNat ∧ b.toNat ≤ 57)

/-- behind a brace: a digit and the other brace; the digit, and what is left. -/
def place : List UInt8 → Option (Nat × List UInt8)
  | d :: c :: r => if isDig d = true ∧ c.toNat = 125 then some (d.toNat - 48, r) else none
  | _ => none
theorem place_len {l r : List UInt8} {k : Nat} (h : place l = some (k, r)) : l.length = r.length + 2 := by
  unfold place at h
  split at h
  · split at h
    · injection h with h; injection h with _ h; subst h; rfl
    · cases h
  · cases h

/-- the scan: l is what is left, pos where it begins, cur the text that is begun, ts and ps what was found. -/
def scan (n : Int) (l : List UInt8) (pos : Nat) (cur : List UInt8) (ts : List (List UInt8)) (ps : List Nat) : Res :=
  match l with
  | [] => if (ps.length : Int) < min n 10 then .err 3 pos else .ok (ts ++ [cur]) ps
  | b :: r =>
    if b.toNat = 125 then .err 1 pos
    else if b.toNat = 123 then
      match _hp : place r with
      | some (k, r') => if n ≤ (k : Int) ∨ k ∈ ps then .err 3 pos else scan n r' (pos + 3) [] (ts ++ [cur]) (ps ++ [k])
      | none => .err 1 pos
    else scan n r (pos + 1) (cur ++ [b]) ts ps
termination_by l.length
decreasing_by
  · have := place_len _hp; simp only [List.length_cons]; omega
  · simp

theorem scan_nil (n : Int) (pos : Nat) (cur : List UInt8) (ts : List (List UInt8)) (ps : List Nat) : scan n [] pos cur ts ps = if (ps.length : Int) < min n 10 then .err 3 pos else .ok (ts ++ [cur]) ps := by rw [scan]
theorem scan_close (n : Int) (b : UInt8) (r : List UInt8) (pos : Nat) (cur : List UInt8) (ts : List (List UInt8)) (ps : List Nat) (h : b.toNat = 125) : scan n (b :: r) pos cur ts ps = .err 1 pos := by rw [scan, if_pos h]
theorem scan_byte (n : Int) (b : UInt8) (r : List UInt8) (pos : Nat) (cur : List UInt8) (ts : List (List UInt8)) (ps : List Nat) (h : b.toNat ≠ 125) (h2 : b.toNat ≠ 123) :
    scan n (b :: r) pos cur ts ps = scan n r (pos + 1) (cur ++ [b]) ts ps := by rw [scan, if_neg h, if_neg h2]
theorem scan_open_none (n : Int) (b : UInt8) (r : List UInt8) (pos : Nat) (cur : List UInt8) (ts : List (List UInt8)) (ps : List Nat) (h2 : b.toNat = 123) (hp : place r = none) :
    scan n (b :: r) pos cur ts ps = .err 1 pos := by
  rw [scan, if_neg (by omega), if_pos h2]
  split
  · rename_i h; rw [hp] at h; cases h
  · rfl
theorem scan_open_bad (n : Int) (b : UInt8) (r r' : List UInt8) (k pos : Nat) (cur : List UInt8) (ts : List (List UInt8)) (ps : List Nat) (h2 : b.toNat = 123) (hp : place r = some (k, r')) (hk : n ≤ (k : Int) ∨ k ∈ ps) :
    scan n (b :: r) pos cur ts ps = .err 3 pos := by
  rw [scan, if_neg (by omega), if_pos h2]
  split
  · rename_i h
    rw [hp] at h
    injection h with h
    injection h with h3 h4
    subst h3 h4
    rw [if_pos hk]
  · rename_i h; rw [hp] at h; cases h
theorem scan_open_ok (n : Int) (b : UInt8) (r r' : List UInt8) (k pos : Nat) (cur : List UInt8) (ts : List (List UInt8)) (ps : List Nat) (h2 : b.toNat = 123) (hp : place r = some (k, r')) (hk : ¬ (n ≤ (k : Int) ∨ k ∈ ps)) :
    scan n (b :: r) pos cur ts ps = scan n r' (pos + 3) [] (ts ++ [cur]) (ps ++ [k]) := by
  rw [scan, if_neg (by omega), if_pos h2]
  split
  · rename_i h
    rw [hp] at h
    injection h with h
    injection h with h3 h4
    subst h3 h4
    rw [if_neg hk]
  · rename_i h; rw [hp] at h; cases h

/-- a place as it is written. -/
def pl (k : Nat) : List UInt8 := [123, UInt8.ofNat (48 + k), 125]

/-- a text without braces is read on. -/
theorem scan_text (n : Int) : ∀ (t : List UInt8) (l : List UInt8) (pos : Nat) (cur : List UInt8) (ts : List (List UInt8)) (ps : List Nat),
    (∀ b ∈ t, b.toNat ≠ 123 ∧ b.toNat ≠ 125) → scan n (t ++ l) pos cur ts ps = scan n l (pos + t.length) (cur ++ t) ts ps
  | [], l, pos, cur, ts, ps, _ => by simp
  | b :: t, l, pos, cur, ts, ps, h => by
    have hb := h b (by simp)
    rw [List.cons_append, scan_byte n b _ _ _ _ _ hb.2 hb.1, scan_text n t l _ _ _ _ (fun x hx => h x (by simp [hx]))]
    simp only [List.append_assoc, List.cons_append, List.nil_append, List.length_cons]
    rw [show pos + 1 + t.length = pos + (t.length + 1) by omega]

theorem pl_dig (k : Nat) (hk : k < 10) : isDig (UInt8.ofNat (48 + k)) = true ∧ (UInt8.ofNat (48 + k)).toNat - 48 = k := by
  have : (UInt8.ofNat (48 + k)).toNat = 48 + k := by simp; omega
  unfold isDig
  rw [this]
  exact ⟨by simp; omega, by omega⟩

/-- a place is read. -/
theorem scan_place (n : Int) (k : Nat) (l : List UInt8) (pos : Nat) (cur : List UInt8) (ts : List (List UInt8)) (ps : List Nat) (hk : k < 10) (hn : (k : Int) < n) (hp : k ∉ ps) :
    scan n (pl k ++ l) pos cur ts ps = scan n l (pos + 3) [] (ts ++ [cur]) (ps ++ [k]) := by
  obtain ⟨h1, h2⟩ := pl_dig k hk
  have e2 : (125 : UInt8).toNat = 125 := rfl
  refine scan_open_ok n 123 (UInt8.ofNat (48 + k) :: 125 :: l) l k pos cur ts ps rfl ?_ (fun h => by
    rcases h with h | h
    · omega
    · exact hp h)
  rw [place, if_pos ⟨h1, e2⟩, h2]
end Go.Fl.Br
