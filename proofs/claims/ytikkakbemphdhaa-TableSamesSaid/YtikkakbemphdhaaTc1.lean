/- The walks of slices.Equal and slices.EqualFunc at texts. -/
import Derived.Test.YtikkakbemphdhaaTa9
import Derived.Deep.QuietTactic
import Derived.BigQuiet
import Derived.Lib.Strings
import Derived.Laws.StructEq
set_option linter.unusedSimpArgs false
set_option linter.unusedVariables false
namespace Go.Proofs.Ytikkakbemphdhaa
open Go.RowKit Go.Fl

def IsEq {α : Type} (x y : α) : Prop := x = y
def EqPost (p : Prop) (w : World) (e : Ending) (w' : World) : Prop := ∃ b : Bool, e = .returned (.bool b) ∧ Hid (b = true ↔ p) ∧ Below w.heap.size w w'
theorem below_drewN {B : Nat} {a w : World} (h : Below B a w) (n : Nat) : Below B a (w.drewN n) :=
  ⟨h.os, h.tape, h.output, by rw [World.heap_drewN]; exact h.size, fun k hk => by rw [World.heap_drewN]; exact h.block k hk⟩
theorem bytes_ext {s r : ByteArray} (h : s.toList = r.toList) : s = r := by
  rw [Lib.toList_data, Lib.toList_data] at h
  exact ByteArray.ext (Array.ext' h)
theorem beq_bytes (s r : ByteArray) : (s.toList == r.toList) = true ↔ IsEq s r := by
  unfold IsEq
  rw [beq_iff_eq]
  exact ⟨bytes_ext, fun h => by rw [h]⟩

set_option maxRecDepth 100000 in
set_option maxHeartbeats 800000 in
theorem same1_any (p q : Addr) (s r : ByteArray) (w : World) (hp : w.cell? p = some (.string s)) (hq : w.cell? q = some (.string r)) :
    Calls Try.prog 46 #[.pointer (some p), .pointer (some q)] w (EqPost (IsEq s r) w) := by
  go_enter Try.func46, Try.ntmps46
  go_wp2
  go_quiet (fail)
  go_wp2
  go_ret
  exact ⟨_, rfl, Lib.hid (beq_bytes s r), below_drewN (Below.refl _ _) _⟩

theorem tx_ext (x y : Tx) : x = y ↔ x.cat = y.cat ∧ x.s = y.s := by
  cases x; cases y; simp
theorem eq_take {α : Type} (xs ys : List α) (hl : xs.length = ys.length) : (∀ i, (h : i < xs.length) → (h' : i < ys.length) → xs[i] = ys[i]) ↔ xs = ys :=
  ⟨fun h => List.ext_getElem hl h, fun h i _ _ => by subst h; rfl⟩

theorem eqIn_tx (c1 c2 : Int) (s r : ByteArray) (W : World) : (Op.equalIn 10000 98 (.agg #[.int .i64 c1, .string s]) (.agg #[.int .i64 c2, .string r])).run Try.prog W = .ok (c1 == c2 && s.toList == r.toList) W := by
  rw [run_equalIn_agg W 9999 98 _ _ (by simp only [Program.fieldsOf, Try.underlying98]) (by kernel_rfl)]
  simp [Program.fieldsOf, Try.underlying98, Op.eqFields, go_sem]
  split <;> (try split) <;> simp_all
theorem neq_tx (x y : Tx) (b : Bool) (hb : b = true ↔ x = y) (W : World) : (Go.binOp .neq 98 (.agg #[.int .i64 x.cat, .string x.s]) (.agg #[.int .i64 y.cat, .string y.s])).run Try.prog W = .ok (.bool (!b)) W := by
  have e : (x.cat == y.cat && x.s.toList == y.s.toList) = b := by
    rw [Bool.eq_iff_iff, hb, tx_ext, Bool.and_eq_true, beq_iff_eq, beq_bytes]
    rfl
  rw [run_neq_struct, eqIn_tx, e]
  rfl
theorem guard98 : Try.prog.eqGuardType Try.prog.depth 98 = false := by kernel_rfl

set_option maxRecDepth 100000 in
set_option maxHeartbeats 800000 in
theorem eqTexts_any (P : Nat → Prop) (v u : Value) (xs ys : List Tx) (w : World) (hI : Txs P w v xs) (hJ : Txs P w u ys) (hx : xs.length ≤ 9223372036854775807) (hy : ys.length ≤ 9223372036854775807) :
    Calls Try.prog 48 #[v, u] w (EqPost (IsEq xs ys) w) := by
  obtain ⟨a, cap, rfl, hI⟩ := hI
  obtain ⟨b, cbp, rfl, hJ⟩ := hJ
  have HI := Lib.hid hI
  have HJ := Lib.hid hJ
  clear hI hJ
  by_cases hne : xs.length = ys.length
  · have HN := Lib.hid hne
    have hb : ((xs.length : Int) == (ys.length : Int)) = true := by simp [hne]
    have hb2 : ((xs.length : Int) != (ys.length : Int)) = false := by simp [hne]
    clear hne
    go_enter Try.func48, Try.ntmps48
    go_wp2
    go_loopg [13] xs.length (fun gk v wr => ∃ (j : Nat), v = .int .i64 j ∧ j + gk = xs.length ∧ Hid (∀ i, (h : i < xs.length) → (h' : i < ys.length) → i < j → xs[i] = ys[i]) ∧ Below w.heap.size w wr)
    case atStart => exact ⟨0, rfl, by omega, Lib.hid (fun i _ _ h => by omega), Below.refl _ _⟩
    case round =>
      obtain ⟨j, rfl, hj, HL, hbr⟩ := hrel
      by_cases hjl : j < xs.length
      · have hjy : j < ys.length := by have := HN.out; omega
        obtain ⟨b1, o1, rfl, hp, hbb, hc0, hc1⟩ := HI.out j hjl
        obtain ⟨b2, o2, rfl, hp', hbb', hd0, hd1⟩ := HJ.out j hjy
        have hw0 := (hbr.cell (p := ⟨b1, o1 + j * 2, none⟩) hbb).trans hc0
        have hw1 := (hbr.cell (p := ⟨b1, o1 + j * 2 + 1, none⟩) hbb).trans hc1
        have hw2 := (hbr.cell (p := ⟨b2, o2 + j * 2, none⟩) hbb').trans hd0
        have hw3 := (hbr.cell (p := ⟨b2, o2 + j * 2 + 1, none⟩) hbb').trans hd1
        have hi1 : (0 : Int) ≤ (j : Int) := by omega
        have hi2 : (j : Int) < (xs.length : Int) := by omega
        have hi3 : (j : Int) < (ys.length : Int) := by omega
        clear hc0 hc1 hd0 hd1
        obtain ⟨x, hxe⟩ : ∃ x, xs[j] = x := ⟨_, rfl⟩
        obtain ⟨y, hye⟩ : ∃ y, ys[j] = y := ⟨_, rfl⟩
        rw [hxe] at hw0 hw1
        rw [hye] at hw2 hw3
        have HX := Lib.hid hxe
        have HY := Lib.hid hye
        clear hxe hye
        have hgd := guard98
        by_cases hxy : x = y
        · have HXY := Lib.hid hxy
          have hop := neq_tx x y true (by simp [hxy])
          clear hxy
          go_wp2
          go_quiet (fail)
          go_wp2
          go_roundg (gk - 1)
          case measure => omega
          case rel => exact ⟨j + 1, rfl, by omega, Lib.hid (fun i hi hi' hij => by
              by_cases e : i = j
              · subst e; rw [HX.out, HY.out, HXY.out]
              · exact HL.out i hi hi' (by omega)), below_drewN hbr _⟩
        · have HXY := Lib.hid hxy
          have hop := neq_tx x y false (by simp [hxy])
          clear hxy
          go_wp2
          go_quiet (fail)
          go_wp2
          go_ret
          exact ⟨_, rfl, Lib.hid ⟨(fun h => by cases h), fun h => absurd (by rw [← HX.out, ← HY.out]; exact (eq_take xs ys HN.out).2 h j hjl hjy) HXY.out⟩, below_drewN hbr _⟩
      · obtain rfl : j = xs.length := by omega
        go_wp2
        go_ret
        exact ⟨_, rfl, Lib.hid ⟨fun _ => (eq_take xs ys HN.out).1 (fun i h h' => HL.out i h h' h), fun _ => rfl⟩, hbr⟩
  · have hb : ((xs.length : Int) == (ys.length : Int)) = false := by simp; omega
    have HN := Lib.hid hne
    clear hne
    go_enter Try.func48, Try.ntmps48
    go_wp2
    go_ret
    exact ⟨_, rfl, Lib.hid ⟨(fun h => by cases h), fun h => absurd (congrArg List.length h) HN.out⟩, Below.refl _ _⟩
end Go.Proofs.Ytikkakbemphdhaa
