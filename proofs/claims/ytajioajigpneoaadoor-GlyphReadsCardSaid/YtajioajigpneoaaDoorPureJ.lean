/- Digits written by their signs are read back. -/
import Derived.Test.YtajioajigpneoaaDoorSet
set_option linter.unusedSimpArgs false
set_option linter.unusedVariables false
namespace Go.Proofs.YtajioajigpneoaaDoor
open Go.RowKit Go.Fl Go.Shelf Go.Lib

theorem dg_nat {x : Nat} (h : x < 10) : (dg x).toNat = 48 + x := by unfold dg; exact byte_of (by omega)
theorem digB_num (l : List UInt8) : isNum (digB l) = true := by
  unfold isNum digB
  rw [List.all_eq_true]
  intro b hb
  obtain ⟨c, _, rfl⟩ := List.mem_map.1 hb
  rw [dg_nat (by omega)]
  simp
  omega
theorem isNum_app {a b : List UInt8} (ha : isNum a = true) (hb : isNum b = true) : isNum (a ++ b) = true := by
  unfold isNum at *
  rw [List.all_append, ha, hb]; rfl
theorem signs_app (G : Nat → ByteArray) (a b : List UInt8) : signsOf G (a ++ b) = signsOf G a ++ signsOf G b := List.flatMap_append
theorem write_num {G : Nat → ByteArray} {a : List UInt8} (ha : isNum a = true) : writeRes G a = signsOf G a := by unfold writeRes; rw [if_pos ha]

/-- one sign: its first sign is all of it. -/
theorem one_sign {g : ByteArray} (h : oneB g = true) : 0 < leadL g.data.toList ∧ leadL g.data.toList = g.data.toList.length := by
  unfold oneB at h
  simp only [Bool.and_eq_true, decide_eq_true_eq] at h
  obtain ⟨hv, hc⟩ := h
  have hl : g.data.toList.length = g.size := Array.length_toList
  have h1 := scanS_count g (g.size + 1) 0 (Nat.zero_le _) (by omega) (by rw [List.drop_zero]; exact hv)
  rw [List.drop_zero] at h1
  have h2 : runeCountFrom g (g.size + 1) 0 = 1 := by
    have h3 := scanS_count g g.size 0 (Nat.zero_le _) (by omega) (by rw [List.drop_zero]; exact hv)
    rw [List.drop_zero, scanS_fuel g.size (g.size + 1) _ (by omega) (by omega), h1] at h3
    rw [h3]; exact hc
  rw [h2, scanS] at h1
  by_cases h0 : g.data.toList = []
  · rw [if_pos h0] at h1; simp at h1
  · rw [if_neg h0] at h1
    unfold valid at hv
    rw [valid_lead h0] at hv
    by_cases h4 : leadL g.data.toList = 0
    · rw [if_pos h4] at hv; cases hv
    · rw [if_neg h4] at h1 hv
      have hf := lead_facts (l := g.data.toList) (by omega)
      refine ⟨by omega, ?_⟩
      refine Classical.byContradiction fun hne => ?_
      have hd : g.data.toList.drop (leadL g.data.toList) ≠ [] := fun e => by
        have := congrArg List.length e
        rw [List.length_drop] at this
        simp only [List.length_nil] at this
        omega
      rw [valid_lead hd] at hv
      have hs : (scanS g.size (g.data.toList.drop (leadL g.data.toList))).1 = 0 := by
        have := h1
        dsimp only at this
        omega
      obtain ⟨k, hk⟩ : ∃ k, g.size = k + 1 := ⟨g.size - 1, by have := List.length_pos_iff.2 h0; omega⟩
      rw [hk, scanS, if_neg hd] at hs
      split at hv
      · cases hv
      · rename_i h5
        rw [if_neg h5] at hs
        dsimp only at hs
        omega

theorem lead_app {l : List UInt8} (h : leadL l = l.length) (h0 : 0 < leadL l) (t : List UInt8) : leadL (l ++ t) = l.length := by
  have := lead_pre t h0
  rw [h, List.take_length] at this
  exact this

theorem one_of {G : Nat → ByteArray} (hV : VG G) {d : Nat} (hd : d < 10) (t : List UInt8) : oneRes G ((G d).data.toList ++ t) = ((d : Int), (G d).size) := by
  obtain ⟨p1, p2⟩ := one_sign (hV d hd).1
  have hsz : (G d).size ≠ 0 := by
    have : (G d).data.toList.length = (G d).size := Array.length_toList
    omega
  have hpre : hasPrefix ((G d).data.toList ++ t) (G d).data.toList = true := by
    unfold hasPrefix
    rw [List.isPrefixOf_iff_prefix]
    exact ⟨t, rfl⟩
  unfold oneRes
  rcases oneFrom_ok G ((G d).data.toList ++ t) 10 0 rfl with ⟨_, _, h3⟩ | ⟨j, hj, h2, h3, h4, _⟩
  · exact absurd ⟨hsz, hpre⟩ (h3 d (Nat.zero_le _) hd)
  · obtain ⟨q1, q2⟩ := one_sign (hV j hj).1
    have e1 := lead_app p2 p1 t
    have h5 := (pre_len h4).2
    unfold hasPrefix at h4
    rw [List.isPrefixOf_iff_prefix] at h4
    obtain ⟨t', ht'⟩ := h4
    have e2 := lead_app q2 q1 t'
    rw [ht', e1] at e2
    rw [← e2, List.take_left] at h5
    have hG : G d = G j := ByteArray.ext (Array.ext' h5)
    have : j = d := by
      rcases Nat.lt_trichotomy j d with h | h | h
      · exact absurd hG ((hV d hd).2 j h)
      · exact h
      · exact absurd hG.symm ((hV j hj).2 d h)
    rw [h2, this]

/-- digits' signs, with something behind them that begins with no sign, are read back. -/
theorem read_signs {G : Nat → ByteArray} (hV : VG G) {t : List UInt8} (ht : (oneRes G t).1 < 0) : ∀ (l : List UInt8) (P : List UInt8) (n : Nat) (out : List Nat), isNum l = true → l.length < n →
    readFrom G (P ++ (signsOf G l ++ t)) n P.length out = (out ++ l.map (fun b => b.toNat - 48), P.length + (signsOf G l).length)
  | [], P, 0, out, _, h => by simp at h
  | [], P, n + 1, out, _, _ => by
    rw [readFrom]
    have e : (P ++ (signsOf G [] ++ t)).drop P.length = t := by simp [signsOf]
    rw [e, if_pos ht]
    simp [signsOf]
  | b :: l, P, 0, out, _, h => by simp at h
  | b :: l, P, n + 1, out, hn, h => by
    unfold isNum at hn
    rw [List.all_cons, Bool.and_eq_true] at hn
    obtain ⟨hb, hl⟩ := hn
    simp only [decide_eq_true_eq] at hb
    have es : signsOf G (b :: l) = (G (b.toNat - 48)).data.toList ++ signsOf G l := by unfold signsOf; rw [List.flatMap_cons]
    rw [readFrom]
    have e : (P ++ (signsOf G (b :: l) ++ t)).drop P.length = (G (b.toNat - 48)).data.toList ++ (signsOf G l ++ t) := by
      rw [List.drop_left, es, List.append_assoc]
    rw [e, one_of hV (by omega)]
    dsimp only
    rw [if_neg (by omega), Int.toNat_natCast]
    have hlen : (G (b.toNat - 48)).size = (G (b.toNat - 48)).data.toList.length := Array.length_toList.symm
    have e2 : P ++ (signsOf G (b :: l) ++ t) = (P ++ (G (b.toNat - 48)).data.toList) ++ (signsOf G l ++ t) := by
      rw [es]; simp only [List.append_assoc]
    have e3 : P.length + (G (b.toNat - 48)).size = (P ++ (G (b.toNat - 48)).data.toList).length := by rw [List.length_append, hlen]
    rw [e2, e3, read_signs hV ht l (P ++ (G (b.toNat - 48)).data.toList) n (out ++ [b.toNat - 48]) hl (by simp only [List.length_cons] at h; omega)]
    rw [es]
    simp [Nat.add_assoc]

theorem digs_back {l : List UInt8} (h : isNum l = true) : digs (l.map fun b => b.toNat - 48) = l := by
  unfold isNum at h
  rw [List.all_eq_true] at h
  unfold digs
  rw [List.map_map]
  conv => rhs; rw [← List.map_id l]
  refine List.map_congr_left fun b hb => ?_
  have := h b hb
  simp only [decide_eq_true_eq] at this
  show dg (b.toNat - 48) = b
  unfold dg
  rw [show 48 + (b.toNat - 48) = b.toNat by omega, UInt8.ofNat_toNat]

theorem one_empty {G : Nat → ByteArray} : (oneRes G []).1 < 0 := by
  unfold oneRes
  rcases oneFrom_ok G [] 10 0 rfl with ⟨h1, _⟩ | ⟨j, hj, h2, h3, h4, _⟩
  · rw [h1]; decide
  · have := (pre_len h4).1
    have hl : (G j).data.toList.length = (G j).size := Array.length_toList
    simp only [List.length_nil] at this
    omega

/-- all of it. -/
theorem read_back {G : Nat → ByteArray} (hV : VG G) {t l : List UInt8} (ht : (oneRes G t).1 < 0) (h : isNum l = true) (hs : l.length ≤ (signsOf G l).length) : readRes G (signsOf G l ++ t) = (l.map (fun b => b.toNat - 48), (signsOf G l).length) := by
  unfold readRes
  have := read_signs hV ht l [] ((signsOf G l ++ t).length + 1) [] h (by rw [List.length_append]; omega)
  simpa using this
theorem signs_ge {G : Nat → ByteArray} (hV : VG G) : ∀ (l : List UInt8), isNum l = true → l.length ≤ (signsOf G l).length
  | [], _ => by simp
  | b :: l, h => by
    unfold isNum at h
    rw [List.all_cons, Bool.and_eq_true] at h
    obtain ⟨hb, hl⟩ := h
    simp only [decide_eq_true_eq] at hb
    have ih := signs_ge hV l hl
    have := one_sign (hV (b.toNat - 48) (by omega)).1
    unfold signsOf at *
    rw [List.flatMap_cons, List.length_append, List.length_cons]
    omega
end Go.Proofs.YtajioajigpneoaaDoor
