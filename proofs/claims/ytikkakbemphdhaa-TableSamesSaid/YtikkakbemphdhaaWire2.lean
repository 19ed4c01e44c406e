/- The Writer's Text and String. -/
import Derived.Test.YtikkakbemphdhaaWire1
namespace Go.Proofs.Ytikkakbemphdhaa
open Go.RowKit Go.Fl

def textB (s : ByteArray) : List UInt8 := numB s.size ++ s.data.toList

set_option maxRecDepth 100000 in
set_option maxHeartbeats 400000 in
theorem wText_any (base g : Nat) (r : Option Nat) (l : List UInt8) (s : ByteArray) (w : World) (hW : IsW w base g r l) (hbase : base ≤ w.heap.size) (hl : l.length + s.size ≤ 140737488355300) :
    Calls Try.prog 11 #[.pointer (some ⟨g, 0, none⟩), .string s] w fun e w' => e = .returned (.pointer (some ⟨g, 0, none⟩)) ∧ ∃ r', IsW w' base g r' (l ++ textB s) ∧ KeptW w w' g r r' := by
  obtain ⟨i0, hi, hz0, hz1, hz2⟩ := info_parts Try.info5
  go_enter Try.func11, Try.ntmps11
  go_wp2_with fail
  refine (wNum_any base g r l _ _ (by omega) hW hbase (by omega)).mono ?_
  rintro e w1 ⟨rfl, r1, hW1, hK1⟩
  have hbs : base ≤ w1.heap.size := Nat.le_trans hbase hK1.size
  have hlen := numB_len9 s.size (by omega)
  obtain ⟨hbg, v, hg, hv, hown⟩ := hW1
  have hc : w1.cell? ⟨g, 0, none⟩ = some v := by simp [World.cell?, hg]
  have hf : w1.frozen? ⟨g, 0, none⟩ = false := by simp [World.frozen?, hg]
  subst hv
  rw [Int.toNat_natCast] at hown
  have Hg := Lib.hid hg
  clear hg
  have hll : (l ++ numB s.size).length = l.length + (numB s.size).length := List.length_append
  have Hll := Lib.hid hll
  have hlle : (l ++ numB s.size).length ≤ l.length + 9 := by omega
  clear hll
  generalize hl1 : l ++ numB s.size = l1 at *
  have Hl1 := Lib.hid hl1
  clear hl1
  go_wp2_with (at_builtin; (refine wpList_append_own_string_at _ rfl _ _ 26 9 rfl base 5 i0 Try.underlying26 Try.underlying9 hi hz0 hz1 hz2 _ _ _ rfl hown s rfl (by unfold maxLen; omega) (by omega) hbs ?_); intro v' w2 hown' hgrow hat; obtain ⟨a', c', rfl⟩ := own_slice hown'; obtain ⟨hc1, hf1⟩ := w_still Hg.out hown hgrow; have hp := w_put (news := s.data.toList) hbg Hg.out hown hgrow hown' hat; clear hown' hgrow hat)
  go_ret
  exact ⟨rfl, _, by rw [textB, ← List.append_assoc, Hl1.out]; exact hp.1, hK1.trans hp.2⟩

theorem wString_any (base g : Nat) (r : Option Nat) (l : List UInt8) (w : World) (hW : IsW w base g r l) :
    Calls Try.prog 14 #[.pointer (some ⟨g, 0, none⟩)] w fun e w' => e = .returned (.string ⟨l.toArray⟩) ∧ w = w' := by
  obtain ⟨hbg, v, hg, hv, hown⟩ := hW
  have hc : w.cell? ⟨g, 0, none⟩ = some v := by simp [World.cell?, hg]
  have hr := run_bytes_own (P := Try.prog) 26 9 Try.underlying26 Try.underlying5 Try.underlying9 hown
  clear hg hv
  go_enter Try.func14, Try.ntmps14
  go_wp2
  go_ret
  exact ⟨rfl, rfl⟩
end Go.Proofs.Ytikkakbemphdhaa
