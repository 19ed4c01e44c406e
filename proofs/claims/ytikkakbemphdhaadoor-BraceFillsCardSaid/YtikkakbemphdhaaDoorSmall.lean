/- Right, digit, plain. -/
import Derived.Test.YtikkakbemphdhaaDoorBld1
import Derived.Deep.QuietTactic
import Derived.BigQuiet
import Derived.Deep.LoopGhost
set_option linter.unusedSimpArgs false
set_option linter.unusedVariables false
namespace Go.Proofs.YtikkakbemphdhaaDoor
open Go.RowKit Go.Fl Go.Shelf

def Tabs (w : World) : Prop := Lib.Utf8Tabs (Tryd.laysValid_ren.g 3) (Tryd.laysValid_ren.g 4) w
def valid (s : ByteArray) : Bool := Lib.validD s.data.toList

set_option maxRecDepth 100000 in
set_option maxHeartbeats 400000 in
theorem right_any (s : ByteArray) (w : World) (hs : s.size ≤ 9223372036854775807) (hT : Tabs w) :
    Calls Tryd.prog 13 #[.string s] w fun e w' => e = .returned (.bool (valid s)) ∧ Below w.heap.size w w' := by
  have cV : Calls Tryd.prog 17 #[.string s] w _ := Any.utf8_ValidString Tryd.laysValid s w hs hT
  unfold valid
  generalize Lib.validD s.data.toList = V at cV ⊢
  go_enter Tryd.func13, Tryd.ntmps13
  go_wp2_with (go_at_call 17; refine cV.mono ?_; rintro e w' ⟨rfl, hb⟩)
  go_ret
  exact ⟨rfl, hb⟩

theorem conv1 (W : World) (b : Nat) (x : UInt8) (h : W.cell? ⟨b, 0, none⟩ = some (.int .u8 x.toNat)) :
    (convert 40 9 (.slice (some ⟨b, 0, none⟩) 1 1)).run Tryd.prog W = .ok (.string ⟨#[x]⟩) W := by
  refine run_convert_bytes_back W 40 9 5 ⟨b, 0, none⟩ 1 [x] Tryd.underlying40 Tryd.underlying5 Tryd.underlying9 fun j hj => ?_
  obtain rfl : j = 0 := by simpa using hj
  exact h
theorem conv1_new (W : World) (x : UInt8) :
    (convert 40 9 (.slice (some ⟨W.heap.size, 0, none⟩) 1 1)).run Tryd.prog (W.alloc (.cells #[.int .u8 x.toNat] 5)) = .ok (.string ⟨#[x]⟩) (W.alloc (.cells #[.int .u8 x.toNat] 5)) :=
  conv1 _ _ x ((cell_one_new W (.int .u8 x.toNat) 5) 0 _ rfl)

/-- a digit's byte. -/
def dg (n : Nat) : UInt8 := UInt8.ofNat (48 + n)

set_option maxRecDepth 100000 in
set_option maxHeartbeats 400000 in
theorem digit_any (n : Nat) (w : World) (hn : n < 100) :
    Calls Tryd.prog 9 #[.int .i64 n] w fun e w' => e = .returned (.string ⟨#[dg n]⟩) ∧ Below w.heap.size w w' := by
  have hc1 := conv1_new w (dg n)
  have hx : ((48 : Int) + n) = ((dg n).toNat : Int) := by unfold dg; simp; omega
  go_enter Tryd.func9, Tryd.ntmps9
  go_wp2
  go_ret
  exact ⟨rfl, (Below.refl _ _).alloc (Nat.le_refl _) _⟩

/-- no braces, few bytes, right. -/
def Plain (s : ByteArray) : Prop := (∀ i, (h : i < s.size) → s[i].toNat ≠ 123 ∧ s[i].toNat ≠ 125) ∧ s.size ≤ 20 ∧ valid s = true
def PlainPost (s : ByteArray) (w : World) (e : Ending) (w' : World) : Prop := ∃ r : Bool, e = .returned (.bool r) ∧ (r = true ↔ Plain s) ∧ Below w.heap.size w w'

set_option maxRecDepth 100000 in
set_option maxHeartbeats 800000 in
theorem plain_any (s : ByteArray) (w : World) (hs : s.size ≤ 9223372036854775807) (hT : Tabs w) : Calls Tryd.prog 8 #[.string s] w (PlainPost s w) := by
  have HT := Lib.hid hT
  clear hT
  go_enter Tryd.func8, Tryd.ntmps8
  go_wp2
  go_loopg [3] s.size (fun gk v wr => ∃ i : Nat, v = .int .i64 i ∧ i + gk = s.size ∧ Hid (∀ j, (h : j < s.size) → j < i → s[j].toNat ≠ 123 ∧ s[j].toNat ≠ 125) ∧ wr = w)
  case atStart => exact ⟨0, rfl, by omega, Lib.hid (fun j _ h => by omega), rfl⟩
  case round =>
    obtain ⟨i, rfl, hi, hP, rfl⟩ := hrel
    by_cases hil : i < s.size
    · by_cases h1 : s[i].toNat = 123
      · have hb1 : ((s[i].toNat : Int) == 123) = true := by rw [beq_iff_eq]; omega
        have H1 := Lib.hid h1
        clear h1
        go_wp2
        go_ret
        exact ⟨false, rfl, ⟨(fun h => by cases h), fun h => absurd H1.out (h.1 i hil).1⟩, Below.refl _ _⟩
      · have hb1 : ((s[i].toNat : Int) == 123) = false := by rw [beq_eq_false_iff_ne]; omega
        by_cases h2 : s[i].toNat = 125
        · have hb2 : ((s[i].toNat : Int) == 125) = true := by rw [beq_iff_eq]; omega
          have H2 := Lib.hid h2
          clear h1 h2
          go_wp2
          go_ret
          exact ⟨false, rfl, ⟨(fun h => by cases h), fun h => absurd H2.out (h.1 i hil).2⟩, Below.refl _ _⟩
        · have hb2 : ((s[i].toNat : Int) == 125) = false := by rw [beq_eq_false_iff_ne]; omega
          have H := Lib.hid (And.intro h1 h2)
          clear h1 h2
          go_wp2
          go_roundg (gk - 1)
          case measure => omega
          case rel => exact ⟨i + 1, rfl, by omega, Lib.hid (fun j hj hji => by
            by_cases e : j = i
            · subst e; exact H.out
            · exact hP.out j hj (by omega)), rfl⟩
    · by_cases h3 : s.size ≤ 20
      · go_wp2_with fail
        refine (right_any s _ hs HT.out).mono ?_
        rintro e w1 ⟨rfl, hb⟩
        have Hr := Lib.hid (show Plain s ↔ valid s = true from ⟨fun h => h.2.2, fun h => ⟨fun j hj => hP.out j hj (by omega), h3, h⟩⟩)
        generalize valid s = V at *
        go_wp2
        go_ret
        exact ⟨V, rfl, Hr.out.symm, hb⟩
      · have hd : decide ((s.size : Int) ≤ 20) = false := by simp; omega
        go_wp2
        go_ret
        exact ⟨false, rfl, ⟨(fun h => by cases h), fun h => absurd h.2.1 h3⟩, Below.refl _ _⟩
end Go.Proofs.YtikkakbemphdhaaDoor
