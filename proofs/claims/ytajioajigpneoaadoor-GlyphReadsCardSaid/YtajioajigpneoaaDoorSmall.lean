/- Right, One, First, Last. -/
import Derived.Test.YtajioajigpneoaaDoorBld1
import Derived.WalkSmall
import Derived.Deep.QuietTactic
import Derived.BigQuiet
import Derived.Deep.LoopGhost
set_option linter.unusedSimpArgs false
set_option linter.unusedVariables false
namespace Go.Proofs.YtajioajigpneoaaDoor
open Go.RowKit Go.Fl Go.Shelf

def Tabs (w : World) : Prop := Lib.Utf8Tabs 0 1 w
def valid (s : ByteArray) : Bool := Lib.validD s.data.toList
theorem Tabs.below {w w' : World} (h : Tabs w) (hb : Below w.heap.size w w') : Tabs w' := by
  exact Utf8Tabs_below h hb
theorem bt {w w1 w2 : World} (h : Below w.heap.size w w1) (k : Below w1.heap.size w1 w2) : Below w.heap.size w w2 := h.trans (k.mono h.size)

set_option maxRecDepth 100000 in
set_option maxHeartbeats 400000 in
theorem right_any (s : ByteArray) (w : World) (hs : s.size ≤ 9223372036854775807) (hT : Tabs w) :
    Calls Tryd.prog 12 #[.string s] w fun e w' => e = .returned (.bool (valid s)) ∧ Below w.heap.size w w' := by
  have cV : Calls Tryd.prog 25 #[.string s] w _ := Any.utf8_ValidString Tryd.laysValid s w hs hT
  unfold valid
  generalize Lib.validD s.data.toList = V at cV ⊢
  go_enter Tryd.func12, Tryd.ntmps12
  go_wp2_with (go_at_call 25; refine cV.mono ?_; rintro e w' ⟨rfl, hb⟩)
  go_ret
  exact ⟨rfl, hb⟩

set_option maxRecDepth 100000 in
set_option maxHeartbeats 400000 in
theorem one_any (s : ByteArray) (w : World) (hs : s.size < 9223372036854775807) (hT : Tabs w) :
    Calls Tryd.prog 13 #[.string s] w fun e w' => e = .returned (.bool (valid s && decide (Lib.runeCount s = 1))) ∧ Below w.heap.size w w' := by
  have HT := Lib.hid hT
  clear hT
  have c0 := right_any s w (by omega) HT.out
  have C1 := fun w1 => Lib.hid (Tryd.utf8_RuneCountInString s w1 hs)
  generalize valid s = V at c0 ⊢
  generalize Lib.runeCount s = R at C1 ⊢
  have C := Lib.hid c0
  clear c0
  go_enter Tryd.func13, Tryd.ntmps13
  go_wp2_with fail
  refine C.out.mono ?_
  rintro e w1 ⟨rfl, hb⟩
  have HB := Lib.hid hb
  clear hb
  cases V with
  | false =>
    go_wp2_with fail
    go_ret
    exact ⟨rfl, HB.out⟩
  | true =>
    go_wp2_with fail
    refine (C1 w1).out.mono ?_
    rintro e w2 ⟨rfl, pos, rfl⟩
    go_wp2_with fail
    go_ret
    refine ⟨?_, HB.out.trans ((Below.refl _ _).alloc HB.out.size _)⟩
    by_cases h : R = 1
    · subst h; simp
    · have : ¬ (R : Int) = 1 := by omega
      simp [h, this]

/-- what First and Last hand on. -/
def okP (d : Nat × Nat) : Bool := !(decide (d.1 = 65533) && decide (d.2 < 2))
def ptP (d : Nat × Nat) : Nat := if okP d = true then d.1 else 0

set_option maxRecDepth 100000 in
set_option maxHeartbeats 400000 in
theorem first_any (s : ByteArray) (w : World) (hT : Tabs w) :
    Calls Tryd.prog 10 #[.string s] w fun e w' => e = .returned (.tuple #[.int .i32 (ptP (Lib.decodeGo s)), .bool (okP (Lib.decodeGo s))]) ∧ Below w.heap.size w w' := by
  have HT := Lib.hid hT
  clear hT
  have c0 := Tryd.utf8_DecodeRuneInString s w HT.out
  generalize Lib.decodeGo s = D at c0 ⊢
  obtain ⟨r, n⟩ := D
  have C := Lib.hid c0
  clear c0
  go_enter Tryd.func10, Tryd.ntmps10
  go_wp2_with fail
  refine C.out.mono ?_
  rintro e w1 ⟨rfl, hb⟩
  dsimp only
  by_cases h1 : r = 65533
  · subst h1
    by_cases h2 : n < 2
    · have h3 : (n : Int) < 2 := by omega
      have HB := Lib.hid hb
      clear hb
      go_wp2
      go_ret2
      exact ⟨by simp [ptP, okP, h2], HB.out⟩
    · have h3 : ¬ (n : Int) < 2 := by omega
      have HB := Lib.hid hb
      clear hb
      go_wp2
      go_ret2
      exact ⟨by simp [ptP, okP, h2], HB.out⟩
  · have h3 : ((r : Int) == 65533) = false := by rw [beq_eq_false_iff_ne]; omega
    have HB := Lib.hid hb
    clear hb
    go_wp2
    go_ret2
    exact ⟨by simp [ptP, okP, h1], HB.out⟩

set_option maxRecDepth 100000 in
set_option maxHeartbeats 400000 in
theorem last_any (s : ByteArray) (w : World) (hs : s.size ≤ 9223372036854775807) (hT : Tabs w) :
    Calls Tryd.prog 11 #[.string s] w fun e w' => e = .returned (.tuple #[.int .i32 (ptP (Lib.decodeLastL s.data.toList)), .bool (okP (Lib.decodeLastL s.data.toList))]) ∧ Below w.heap.size w w' := by
  have HT := Lib.hid hT
  clear hT
  have c0 := Tryd.utf8_DecodeLastRuneInString s w hs HT.out
  generalize Lib.decodeLastL s.data.toList = D at c0 ⊢
  obtain ⟨r, n⟩ := D
  have C := Lib.hid c0
  clear c0
  go_enter Tryd.func11, Tryd.ntmps11
  go_wp2_with fail
  refine C.out.mono ?_
  rintro e w1 ⟨rfl, hb⟩
  dsimp only
  by_cases h1 : r = 65533
  · subst h1
    by_cases h2 : n < 2
    · have h3 : (n : Int) < 2 := by omega
      have HB := Lib.hid hb
      clear hb
      go_wp2
      go_ret2
      exact ⟨by simp [ptP, okP, h2], HB.out⟩
    · have h3 : ¬ (n : Int) < 2 := by omega
      have HB := Lib.hid hb
      clear hb
      go_wp2
      go_ret2
      exact ⟨by simp [ptP, okP, h2], HB.out⟩
  · have h3 : ((r : Int) == 65533) = false := by rw [beq_eq_false_iff_ne]; omega
    have HB := Lib.hid hb
    clear hb
    go_wp2
    go_ret2
    exact ⟨by simp [ptP, okP, h1], HB.out⟩
end Go.Proofs.YtajioajigpneoaaDoor
