/- The Reader's other methods. -/
import Derived.Test.YtikkakbemphdhaaRead2
namespace Go.Proofs.Ytikkakbemphdhaa
open Go.RowKit Go.Fl

set_option maxRecDepth 100000 in
set_option maxHeartbeats 400000 in
theorem rNew_any (s : ByteArray) (w : World) :
    Calls Try.prog 15 #[.string s] w fun e w' => e = .returned (.pointer (some ⟨w.heap.size, 0, none⟩)) ∧ w.alloc (.cells #[.string s, .int .i64 0, .bool false] 70) = w' := by
  go_enter Try.func15, Try.ntmps15
  go_wp2
  go_ret
  exact ⟨rfl, rfl⟩

theorem isRd_new (s : ByteArray) (w : World) : IsRd (w.alloc (.cells #[.string s, .int .i64 0, .bool false] 70)) w.heap.size s (some 0) :=
  ⟨Nat.zero_le _, heap_alloc_new w _⟩

set_option maxRecDepth 100000 in
set_option maxHeartbeats 400000 in
theorem rOK_any (g : Nat) (s : ByteArray) (st : Option Nat) (w : World) (hR : IsRd w g s st) :
    Calls Try.prog 19 #[.pointer (some ⟨g, 0, none⟩)] w fun e w' => e = .returned (.bool st.isSome) ∧ w = w' := by
  cases st with
  | some a =>
    obtain ⟨hc0, hc1, hc2, hf0, hf1, hf2⟩ := hR.2.cells
    clear hR
    go_enter Try.func19, Try.ntmps19
    go_wp2
    go_ret
    exact ⟨rfl, rfl⟩
  | none =>
    obtain ⟨a, h1, h2⟩ := hR
    obtain ⟨hc0, hc1, hc2, hf0, hf1, hf2⟩ := h2.cells
    clear h2
    go_enter Try.func19, Try.ntmps19
    go_wp2
    go_ret
    exact ⟨rfl, rfl⟩

set_option maxRecDepth 100000 in
set_option maxHeartbeats 400000 in
theorem rFail_any (g : Nat) (s : ByteArray) (st : Option Nat) (w : World) (hR : IsRd w g s st) :
    Calls Try.prog 22 #[.pointer (some ⟨g, 0, none⟩)] w fun e w' => e = .returned (.tuple #[]) ∧ IsRd w' g s none ∧ Kept w w' (· = g) := by
  obtain ⟨a, b, ha, hR⟩ : ∃ a b, a ≤ s.size ∧ IsR w g s a b := by
    cases st with
    | some a => exact ⟨a, false, hR.1, hR.2⟩
    | none => obtain ⟨a, h1, h2⟩ := hR; exact ⟨a, true, h1, h2⟩
  obtain ⟨hc0, hc1, hc2, hf0, hf1, hf2⟩ := hR.cells
  have HR := Lib.hid hR
  clear hR
  go_enter Try.func22, Try.ntmps22
  go_wp2
  go_end0
  exact ⟨rfl, ⟨a, ha, HR.out.set2 true⟩, (Kept.refl w (· = g)).setCell (fun _ => rfl) _⟩

set_option maxRecDepth 100000 in
set_option maxHeartbeats 400000 in
theorem rDone_any (g : Nat) (s : ByteArray) (st : Option Nat) (w : World) (hR : IsRd w g s st) :
    Calls Try.prog 16 #[.pointer (some ⟨g, 0, none⟩)] w fun e w' => e = .returned (.bool (decide (st = some s.size))) ∧ IsRd w' g s st ∧ Kept w w' (fun _ => False) := by
  cases st with
  | some a =>
    obtain ⟨hc0, hc1, hc2, hf0, hf1, hf2⟩ := hR.2.cells
    have HR := Lib.hid hR
    clear hR
    by_cases h : a = s.size
    · have hb : ((a : Int) == (s.size : Int)) = true := by simp [h]
      have H := Lib.hid h
      clear h
      go_enter Try.func16, Try.ntmps16
      go_wp2
      go_quiet (fail)
      go_wp2
      go_ret
      exact ⟨by simp [H.out], ⟨HR.out.1, HR.out.2.drewN _⟩, (Kept.refl _ _).drewN _⟩
    · have hb : ((a : Int) == (s.size : Int)) = false := by simp; omega
      have H := Lib.hid h
      clear h
      go_enter Try.func16, Try.ntmps16
      go_wp2
      go_quiet (fail)
      go_wp2
      go_ret
      exact ⟨by simp [H.out], ⟨HR.out.1, HR.out.2.drewN _⟩, (Kept.refl _ _).drewN _⟩
  | none =>
    obtain ⟨a, h1, h2⟩ := hR
    obtain ⟨hc0, hc1, hc2, hf0, hf1, hf2⟩ := h2.cells
    have HR := Lib.hid h2
    clear h2
    go_enter Try.func16, Try.ntmps16
    go_wp2
    go_quiet (fail)
    go_wp2
    go_ret
    exact ⟨by simp, ⟨a, h1, HR.out.drewN _⟩, (Kept.refl _ _).drewN _⟩

set_option maxRecDepth 100000 in
set_option maxHeartbeats 400000 in
theorem rCount_any (g : Nat) (s : ByteArray) (st : Option Nat) (most : Int) (w : World) (hR : IsRd w g s st) (hs : s.size ≤ 140737488355328) :
    Calls Try.prog 21 #[.pointer (some ⟨g, 0, none⟩), .int .i64 most] w fun e w' => e = .returned (.int .i64 ((Rd.count s.data.toList st most).1 : Nat)) ∧ IsRd w' g s (Rd.count s.data.toList st most).2 ∧ Kept w w' (· = g) := by
  go_enter Try.func21, Try.ntmps21
  go_wp2_with fail
  refine (rNum_any g s st _ hR hs).mono ?_
  rintro e w1 ⟨rfl, hR1, hK1⟩
  by_cases h : ((Rd.num s.data.toList st).1 : Int) ≤ most
  · have H := Lib.hid (show Rd.count s.data.toList st most = Rd.num s.data.toList st from if_pos h)
    have HR := Lib.hid hR1
    clear hR1 hR
    go_wp2
    go_ret
    rw [H.out]
    exact ⟨rfl, HR.out, hK1⟩
  · have H := Lib.hid (show Rd.count s.data.toList st most = (0, none) from if_neg h)
    obtain ⟨a, b, ha, hR2⟩ : ∃ a b, a ≤ s.size ∧ IsR w1 g s a b := by
      generalize (Rd.num s.data.toList st).2 = st1 at *
      cases st1 with
      | some a => exact ⟨a, false, hR1.1, hR1.2⟩
      | none => obtain ⟨a, h1, h2⟩ := hR1; exact ⟨a, true, h1, h2⟩
    obtain ⟨hc0, hc1, hc2, hf0, hf1, hf2⟩ := hR2.cells
    have HR := Lib.hid hR2
    clear hR1 hR hR2
    go_wp2
    go_ret
    rw [H.out]
    exact ⟨rfl, ⟨a, ha, HR.out.set2 true⟩, hK1.setCell (fun _ => rfl) _⟩

theorem ret_str {a b : ByteArray} (h : a = b) : Ending.returned (.string a) = .returned (.string b) := by rw [h]
/-- the bytes from a on, so many. -/
theorem extract_list (s : ByteArray) (a n : Nat) : s.extract a (a + n) = ⟨((s.data.toList.drop a).take n).toArray⟩ := by
  apply ByteArray.ext
  apply Array.ext'
  rw [ByteArray.data_extract, Array.toList_extract, List.extract_eq_take_drop, Nat.add_sub_cancel_left]

set_option maxRecDepth 100000 in
set_option maxHeartbeats 400000 in
theorem rText_any (g : Nat) (s : ByteArray) (st : Option Nat) (w : World) (hR : IsRd w g s st) (hs : s.size ≤ 140737488355328) :
    Calls Try.prog 17 #[.pointer (some ⟨g, 0, none⟩)] w fun e w' => e = .returned (.string ⟨(Rd.text s.data.toList st).1.toArray⟩) ∧ IsRd w' g s (Rd.text s.data.toList st).2 ∧ Kept w w' (· = g) := by
  go_enter Try.func17, Try.ntmps17
  go_wp2_with fail
  refine (rNum_any g s st _ hR hs).mono ?_
  rintro e w1 ⟨rfl, hR1, hK1⟩
  have hsz : s.data.toList.length = s.size := by rw [Array.length_toList]; rfl
  have hlt := Rd.num_lt s.data.toList st
  cases hst : (Rd.num s.data.toList st).2 with
  | none =>
    have H : Hid (Rd.text s.data.toList st = ([], none)) := Lib.hid (by
      unfold Rd.text
      generalize Rd.num s.data.toList st = q at hst
      obtain ⟨n, o⟩ := q
      cases hst
      rfl)
    have h0 : (Rd.num s.data.toList st).1 = 0 := by
      cases st with
      | none => rfl
      | some a =>
        cases h' : Rd.rdNum (s.data.toList.drop a) 0 0 with
        | none => rw [num_none h']
        | some p => obtain ⟨v, k⟩ := p; rw [num_some h'] at hst; cases hst
    rw [h0]
    rw [hst] at hR1
    clear hst h0 hR hlt hsz
    obtain ⟨a, ha, hR2⟩ := hR1
    obtain ⟨hc0, hc1, hc2, hf0, hf1, hf2⟩ := hR2.cells
    have HR := Lib.hid hR2
    clear hR2
    go_wp2
    go_quiet (fail)
    go_wp2
    go_ret
    rw [H.out]
    exact ⟨rfl, ⟨a, ha, HR.out.drewN _⟩, hK1.drewN _⟩
  | some a =>
    rw [hst] at hR1
    obtain ⟨ha, hR2⟩ := hR1
    obtain ⟨hc0, hc1, hc2, hf0, hf1, hf2⟩ := hR2.cells
    have HR := Lib.hid hR2
    clear hR2 hR
    by_cases h : a + (Rd.num s.data.toList st).1 ≤ s.size
    · have H : Hid (Rd.text s.data.toList st = ((s.data.toList.drop a).take (Rd.num s.data.toList st).1, some (a + (Rd.num s.data.toList st).1))) := Lib.hid (by
        unfold Rd.text
        generalize Rd.num s.data.toList st = q at hst h ⊢
        obtain ⟨n, o⟩ := q
        cases hst
        simp only
        rw [if_pos (by rw [hsz]; exact h)])
      clear hst
      generalize (Rd.num s.data.toList st).1 = n at *
      go_wp2
      go_quiet (fail)
      go_wp2
      go_quiet (fail)
      go_wp2
      go_ret
      rw [H.out]
      exact ⟨ret_str (extract_list _ _ _), ⟨h, ((HR.out.drewN _).set1 (a + n)).drewN _⟩, ((hK1.drewN _).setCell (fun _ => rfl) _).drewN _⟩
    · have H : Hid (Rd.text s.data.toList st = ([], none)) := Lib.hid (by
        unfold Rd.text
        generalize Rd.num s.data.toList st = q at hst h ⊢
        obtain ⟨n, o⟩ := q
        cases hst
        simp only
        rw [if_neg (by rw [hsz]; exact h)])
      clear hst
      generalize (Rd.num s.data.toList st).1 = n at *
      go_wp2
      go_quiet (fail)
      go_wp2
      go_ret
      rw [H.out]
      exact ⟨rfl, ⟨a, ha, (HR.out.drewN _).set2 true⟩, (hK1.drewN _).setCell (fun _ => rfl) _⟩
end Go.Proofs.Ytikkakbemphdhaa
