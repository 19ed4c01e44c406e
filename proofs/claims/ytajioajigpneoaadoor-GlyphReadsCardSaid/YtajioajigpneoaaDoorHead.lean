/- The head. -/
import Derived.Test.YtajioajigpneoaaDoorRead
set_option linter.unusedSimpArgs false
set_option linter.unusedVariables false
namespace Go.Proofs.YtajioajigpneoaaDoor
open Go.RowKit Go.Fl Go.Shelf

theorem ex_read : readRes dgG [49, 50, 46, 53] = ([1, 2], 2) := by decide +kernel
theorem ex_last : Lib.decodeLastL [53, 226, 130, 172] = (8364, 3) := by decide +kernel
theorem ex_valid : valid ⟨#[226, 130, 172]⟩ = true := by decide +kernel
theorem ex_count : Lib.runeCount ⟨#[226, 130, 172]⟩ = 1 := by decide +kernel
theorem ex_wrong : valid ⟨#[226, 130]⟩ = false := by decide +kernel

set_option maxRecDepth 100000 in
set_option maxHeartbeats 2000000 in
theorem head_any (w : World) (hT : Tabs w) : Calls Tryd.prog 8 #[] w fun e w' => e = .returned (.bool true) ∧ Below w.heap.size w w' := by
  have HT := Lib.hid hT
  clear hT
  go_enter Tryd.func8, Tryd.ntmps8
  go_wp2_with fail
  refine (plain_any w).mono ?_
  rintro e w1 ⟨rfl, hb1⟩
  have HB1 := Lib.hid hb1
  clear hb1
  go_wp2_with fail
  refine (gread_any dgG ⟨#[49, 50, 46, 53]⟩ w1 (by decide) (fun i _ => by unfold dgG; show #[dg i].size ≤ _; simp)).mono ?_
  rw [ex_read]
  rintro e w2 ⟨rfl, hb2⟩
  have HB2 := Lib.hid (bt HB1.out hb2)
  clear hb2
  rw [show (⟨(digs ([1, 2], 2).1).toArray⟩ : ByteArray) = ⟨#[49, 50]⟩ from rfl]
  go_wp2_with fail
  refine (last_any ⟨#[53, 226, 130, 172]⟩ w2 (by decide) (HT.out.below HB2.out)).mono ?_
  rw [ex_last]
  rintro e w3 ⟨rfl, hb3⟩
  have HB3 := Lib.hid (bt HB2.out hb3)
  clear hb3
  rw [show ptP (8364, 3) = 8364 from rfl, show okP (8364, 3) = true from rfl]
  go_wp2_with fail
  refine (one_any ⟨#[226, 130, 172]⟩ w3 (by decide) (HT.out.below HB3.out)).mono ?_
  rw [ex_valid, ex_count]
  rintro e w4 ⟨rfl, hb4⟩
  have HB4 := Lib.hid (bt HB3.out hb4)
  clear hb4
  go_wp2_with fail
  refine (right_any ⟨#[226, 130]⟩ w4 (by decide) (HT.out.below HB4.out)).mono ?_
  rw [ex_wrong]
  rintro e w5 ⟨rfl, hb5⟩
  have HB5 := Lib.hid (bt HB4.out hb5)
  clear hb5
  go_wp2_with fail
  go_ret
  exact ⟨rfl, HB5.out⟩
end Go.Proofs.YtajioajigpneoaaDoor
