/- The Reader's Num. -/
import Derived.Test.YtikkakbemphdhaaRead1
namespace Go.Proofs.Ytikkakbemphdhaa
open Go.RowKit Go.Fl

theorem num_none {l : List UInt8} {a : Nat} (h : Rd.rdNum (l.drop a) 0 0 = none) : Rd.num l (some a) = (0, none) := by simp [Rd.num, h]
theorem num_some {l : List UInt8} {a v k : Nat} (h : Rd.rdNum (l.drop a) 0 0 = some (v, k)) : Rd.num l (some a) = (v, some (a + k)) := by simp [Rd.num, h]
theorem drop_at {s : ByteArray} {p : Nat} (h : p < s.size) : s.data.toList.drop p = s[p] :: s.data.toList.drop (p + 1) := by
  have h' : p < s.data.toList.length := by rw [Array.length_toList]; exact h
  rw [List.drop_eq_getElem_cons h']
  rfl

def NumPost (g : Nat) (s : ByteArray) (st : Option Nat) (w : World) (e : Ending) (w' : World) : Prop :=
  e = .returned (.int .i64 ((Rd.num s.data.toList st).1 : Nat)) ∧ IsRd w' g s (Rd.num s.data.toList st).2 ∧ Kept w w' (· = g)

theorem numPost_none {g : Nat} {s : ByteArray} {a p : Nat} {w w' : World} (h : Rd.rdNum (s.data.toList.drop a) 0 0 = none) (hp : p ≤ s.size) (hI : IsR w' g s p true) (hK : Kept w w' (· = g)) :
    NumPost g s (some a) w (.returned (.int .i64 0)) w' := by
  unfold NumPost
  rw [num_none h]
  exact ⟨rfl, ⟨p, hp, hI⟩, hK⟩
theorem numPost_some {g : Nat} {s : ByteArray} {a p v k : Nat} {n : Int} {w w' : World} (h : Rd.rdNum (s.data.toList.drop a) 0 0 = some (v, k)) (hn : n = v) (hp : p = a + k) (hps : p ≤ s.size) (hI : IsR w' g s p false) (hK : Kept w w' (· = g)) :
    NumPost g s (some a) w (.returned (.int .i64 n)) w' := by
  unfold NumPost
  rw [num_some h, hn]
  subst hp
  exact ⟨rfl, ⟨hps, hI⟩, hK⟩

set_option maxRecDepth 100000 in
set_option maxHeartbeats 800000 in
theorem rNum_some (g : Nat) (s : ByteArray) (a : Nat) (w : World) (hR : IsR w g s a false) (ha : a ≤ s.size) (hs : s.size ≤ 140737488355328) :
    Calls Try.prog 18 #[.pointer (some ⟨g, 0, none⟩)] w (NumPost g s (some a) w) := by
  go_enter Try.func18, Try.ntmps18
  go_wp2
  go_loopw [3, 4] (fun u sh wr => ∃ (i acc t p : Nat), u = .int .i64 acc ∧ sh = .int .i64 t ∧ Hid (t = 7 * i) ∧ i ≤ 9 ∧ t ≤ 63 ∧ acc < 2 ^ t ∧ IsR wr g s p false ∧ Hid (p = a + i) ∧ p ≤ s.size ∧
      Hid (Rd.rdNum (s.data.toList.drop p) i acc = Rd.rdNum (s.data.toList.drop a) 0 0) ∧ Kept w wr (· = g)) (fun u sh _ => 1000 - (intOf sh).toNat)
  case atStart => exact ⟨0, 0, 0, a, rfl, rfl, Lib.hid rfl, by omega, by omega, by omega, hR, Lib.hid rfl, ha, Lib.hid rfl, Kept.refl _ _⟩
  case round =>
    obtain ⟨i, acc, t, p, rfl, rfl, ht, hi, htl, hacc, hI, hpa, hps, hrd, hK⟩ := hrel
    obtain ⟨hc0, hc1, hc2, hf0, hf1, hf2⟩ := hI.cells
    have HI := Lib.hid hI
    clear hI hR
    by_cases h1 : p = s.size
    · have hres : Hid (Rd.rdNum (s.data.toList.drop a) 0 0 = none) := by
        refine Lib.hid (hrd.out.symm.trans ?_)
        rw [List.drop_of_length_le (by rw [Array.length_toList]; show s.size ≤ p; omega)]
        rfl
      have hb : ((p : Int) == (s.size : Int)) = true := by simp [h1]
      clear h1
      go_wp2
      go_quiet (fail)
      go_wp2
      go_ret
      exact numPost_none hres.out hps ((HI.out.drewN _).set2 true) ((hK.drewN _).setCell (fun _ => rfl) _)
    · have hb : ((p : Int) == (s.size : Int)) = false := by simp; omega
      have hps2 : p < s.size := by omega
      have hstep := drop_at hps2
      have Hs := Lib.hid hstep
      clear h1 hstep
      by_cases h2 : 56 < t
      · have hres : Hid (Rd.rdNum (s.data.toList.drop a) 0 0 = none) := by
          refine Lib.hid (hrd.out.symm.trans ?_)
          rw [Hs.out, Rd.rdNum, if_pos (by have := ht.out; omega)]
        have hb2 : decide (56 < (t : Int)) = true := by simp; omega
        go_wp2
        go_quiet (fail)
        go_wp2
        go_ret
        exact numPost_none hres.out hps ((HI.out.drewN _).set2 true) ((hK.drewN _).setCell (fun _ => rfl) _)
      · have hb2 : decide (56 < (t : Int)) = false := by simp; omega
        have hmore := Lib.hid (more s[p].toNat t acc s[p].toNat_lt (by omega) hacc)
        have h9 : ¬ 9 ≤ i := by have := ht.out; omega
        by_cases h3 : s[p].toNat < 128
        · by_cases h4 : s[p].toNat = 0 ∧ 0 < t
          · have hres : Hid (Rd.rdNum (s.data.toList.drop a) 0 0 = none) := by
              refine Lib.hid (hrd.out.symm.trans ?_)
              rw [Hs.out, Rd.rdNum, if_neg h9, if_pos h3, if_pos ⟨h4.1, by have := ht.out; omega⟩]
            have h5 : ((s[p].toNat : Int) == 0) = true := by simp [h4.1]
            have h6 : 0 < t := h4.2
            clear h4
            go_wp2
            go_quiet (fail)
            go_wp2
            go_quiet (fail)
            go_wp2
            go_ret
            exact numPost_none hres.out (by omega) (((HI.out.drewN _).set1 (p + 1)).set2 true) (((hK.drewN _).setCell (fun _ => rfl) _).setCell (fun _ => rfl) _)
          · have hres : Hid (Rd.rdNum (s.data.toList.drop a) 0 0 = some (acc + s[p].toNat % 128 * 2 ^ t, i + 1)) := by
              refine Lib.hid (hrd.out.symm.trans ?_)
              rw [Hs.out, Rd.rdNum, if_neg h9, if_pos h3, if_neg (by have := ht.out; omega), Nat.mod_eq_of_lt h3, ht.out]
            have hpa' := hpa.out
            have Hpa := Lib.hid (show p + 1 = a + (i + 1) by omega)
            clear hpa'
            by_cases h7 : s[p].toNat = 0
            · have h5 : ((s[p].toNat : Int) == 0) = true := by simp [h7]
              have h6 : ¬ 0 < t := by omega
              clear h4 h7
              go_wp2
              go_quiet (fail)
              go_wp2
              go_quiet (fail)
              go_wp2
              go_ret
              exact numPost_some hres.out hmore.out Hpa.out (by omega) (((HI.out.drewN _).set1 (p + 1)).set2 false) (((hK.drewN _).setCell (fun _ => rfl) _).setCell (fun _ => rfl) _)
            · have h5 : ((s[p].toNat : Int) == 0) = false := by simpa using h7
              clear h4 h7
              go_wp2
              go_quiet (fail)
              go_wp2
              go_quiet (fail)
              go_wp2
              go_ret
              exact numPost_some hres.out hmore.out Hpa.out (by omega) (((HI.out.drewN _).set1 (p + 1)).set2 false) (((hK.drewN _).setCell (fun _ => rfl) _).setCell (fun _ => rfl) _)
        · have hres : Hid (Rd.rdNum (s.data.toList.drop (p + 1)) (i + 1) (acc + s[p].toNat % 128 * 2 ^ t) = Rd.rdNum (s.data.toList.drop a) 0 0) := by
            refine Lib.hid (Eq.trans ?_ hrd.out)
            rw [Hs.out, Rd.rdNum, if_neg h9, if_neg h3, ht.out]
          go_wp2
          go_quiet (fail)
          go_wp2
          go_quiet (fail)
          go_wp2
          have hlt : acc + s[p].toNat % 128 * 2 ^ t < 2 ^ (t + 7) := by
            rw [Nat.pow_add]
            have : s[p].toNat % 128 * 2 ^ t ≤ 127 * 2 ^ t := Nat.mul_le_mul_right _ (by omega)
            omega
          refine ⟨⟨i + 1, _, t + 7, p + 1, by rw [hmore.out], rfl, Lib.hid (by have := ht.out; omega), by omega, by omega, hlt, (HI.out.drewN _).set1 (p + 1), Lib.hid (by have := hpa.out; omega), by omega, hres, (hK.drewN _).setCell (fun _ => rfl) _⟩, by simp [intOf]; omega⟩

set_option maxRecDepth 100000 in
set_option maxHeartbeats 400000 in
theorem rNum_bad (g : Nat) (s : ByteArray) (a : Nat) (w : World) (hR : IsR w g s a true) (ha : a ≤ s.size) :
    Calls Try.prog 18 #[.pointer (some ⟨g, 0, none⟩)] w (NumPost g s none w) := by
  obtain ⟨hc0, hc1, hc2, hf0, hf1, hf2⟩ := hR.cells
  have HR := Lib.hid hR
  clear hR
  go_enter Try.func18, Try.ntmps18
  go_wp2
  go_loopw [3, 4] (fun u sh wr => u = .int .i64 0 ∧ sh = .int .i64 0 ∧ wr = w) (fun u sh _ => 1000 - (intOf sh).toNat)
  case atStart => exact ⟨rfl, rfl, rfl⟩
  case round =>
    obtain ⟨rfl, rfl, rfl⟩ := hrel
    go_wp2
    go_ret
    exact ⟨rfl, ⟨a, ha, HR.out⟩, Kept.refl _ _⟩

theorem rNum_any (g : Nat) (s : ByteArray) (st : Option Nat) (w : World) (hR : IsRd w g s st) (hs : s.size ≤ 140737488355328) :
    Calls Try.prog 18 #[.pointer (some ⟨g, 0, none⟩)] w (NumPost g s st w) := by
  cases st with
  | some a => exact rNum_some g s a w hR.2 hR.1 hs
  | none => obtain ⟨a, h1, h2⟩ := hR; exact rNum_bad g s a w h2 h1
end Go.Proofs.Ytikkakbemphdhaa
