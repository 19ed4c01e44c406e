/- The statements' own helpers of layer 14. -/
import Derived.Test.YtikkakbemphdhaaWire2
import Derived.Test.YtikkakbemphdhaaRead3
import Derived.Deep.RegionWith
namespace Go.Proofs.Ytikkakbemphdhaa
open Go.RowKit Go.Fl

def NumLaw (n : Int) (w : World) (e : Ending) (w' : World) : Prop := e = .returned (.string ⟨(numB n.toNat).toArray⟩) ∧ Below w.heap.size w w'

/-- string of one byte that stands in a block. -/
theorem conv1 (W : World) (b : Nat) (x : UInt8) (h : W.cell? ⟨b, 0, none⟩ = some (.int .u8 x.toNat)) :
    (convert 26 9 (.slice (some ⟨b, 0, none⟩) 1 1)).run Try.prog W = .ok (.string ⟨#[x]⟩) W := by
  refine run_convert_bytes_back W 26 9 5 ⟨b, 0, none⟩ 1 [x] Try.underlying26 Try.underlying5 Try.underlying9 fun j hj => ?_
  obtain rfl : j = 0 := by simpa using hj
  exact h
theorem conv1_new (W : World) (x : UInt8) :
    (convert 26 9 (.slice (some ⟨W.heap.size, 0, none⟩) 1 1)).run Try.prog (W.alloc (.cells #[.int .u8 x.toNat] 5)) = .ok (.string ⟨#[x]⟩) (W.alloc (.cells #[.int .u8 x.toNat] 5)) :=
  conv1 _ _ x ((cell_one_new W (.int .u8 x.toNat) 5) 0 _ rfl)
theorem conv1_new' (W : World) (x : UInt8) :
    (convert 26 9 (.slice (some ⟨W.heap.size, 0, none⟩) 1 1)).run Try.prog (W.alloc (.cells #[.int .u8 x.toNat] 5)).drew = .ok (.string ⟨#[x]⟩) (W.alloc (.cells #[.int .u8 x.toNat] 5)).drew :=
  conv1 _ _ x ((cell_one_new W (.int .u8 x.toNat) 5) 0 _ rfl)

set_option maxRecDepth 100000 in
set_option maxHeartbeats 400000 in
theorem lNum_small (x : UInt8) (n : Int) (w : World) (h : x.toNat < 128) (hx : n = x.toNat ∨ (n < 0 ∧ x = 0)) : Calls Try.prog 12 #[.int .i64 n] w (NumLaw n w) := by
  have hc1 := conv1_new
  have hB : Hid (numB n.toNat = [x]) := Lib.hid (by
    rcases hx with rfl | ⟨h0, rfl⟩
    · rw [Int.toNat_natCast, numB, if_pos h]; simp
    · rw [Int.toNat_of_nonpos (by omega), numB, if_pos (by omega)]; rfl)
  rcases hx with rfl | ⟨h0, rfl⟩
  · go_enter Try.func12, Try.ntmps12
    go_wp2
    go_ret
    exact ⟨by rw [hB.out]; rfl, (Below.refl _ _).alloc (Nat.le_refl _) _⟩
  · have hc2 : ∀ W : World, (convert 26 9 (.slice (some ⟨W.heap.size, 0, none⟩) 1 1)).run Try.prog (W.alloc (.cells #[.int .u8 0] 5)) = .ok (.string ⟨#[0]⟩) (W.alloc (.cells #[.int .u8 0] 5)) := fun W => hc1 W 0
    clear hc1 h
    go_enter Try.func12, Try.ntmps12
    go_wp2
    go_ret
    exact ⟨by rw [hB.out]; rfl, (Below.refl _ _).alloc (Nat.le_refl _) _⟩

set_option maxRecDepth 100000 in
set_option maxHeartbeats 400000 in
theorem lNum_big (n : Int) (w : World) (h : 128 ≤ n) (hn : n ≤ 9223372036854775807) (ih : ∀ w, Calls Try.prog 12 #[.int .i64 (n / 128)] w (NumLaw (n / 128) w)) : Calls Try.prog 12 #[.int .i64 n] w (NumLaw n w) := by
  obtain ⟨y, hy, hys⟩ : ∃ y : ByteArray, y = ⟨(numB (n / 128).toNat).toArray⟩ ∧ y.size ≤ 9 := ⟨_, rfl, numB_len9 _ (by omega)⟩
  have IH : Hid (∀ w, Calls Try.prog 12 #[.int .i64 (n / 128)] w fun e w' => e = .returned (.string y) ∧ Below w.heap.size w w') := by rw [hy]; exact Lib.hid ih
  clear ih
  have h' : ¬ n < 128 := by omega
  obtain ⟨x, hx⟩ : ∃ x : UInt8, x.toNat = (n % 128 + 128).toNat := ⟨UInt8.ofNat (n % 128 + 128).toNat, by simp; omega⟩
  have hB : Hid (ByteArray.mk #[x] ++ y = ⟨(numB n.toNat).toArray⟩) := Lib.hid (by
    have e1 : n.toNat % 128 + 128 = x.toNat := by omega
    have e2 : n.toNat / 128 = (n / 128).toNat := by omega
    rw [numB, if_neg (by omega), e1, e2, hy]
    apply ByteArray.ext
    apply Array.ext'
    simp)
  have e1 : IntKind.u8.wrap (IntKind.i64.wrap (n.tmod 128 + 128)) = (x.toNat : Int) := by
    rw [IntKind.wrap_i64, IntKind.wrap_u8, Int.tmod_eq_emod_of_nonneg (by omega)]; omega
  have e2 : IntKind.i64.wrap (n.tdiv 128) = n / 128 := by
    rw [IntKind.wrap_i64, Int.tdiv_eq_ediv_of_nonneg (by omega)]; omega
  clear hx hy
  have hc1 := conv1_new
  have hc2 := conv1_new'
  have hc3 := fun W => conv1 W w.heap.size x
  go_enter Try.func12, Try.ntmps12
  go_wp2
  go_region_with (go_at_call 12; refine (IH.out _).mono ?_; rintro e w1 ⟨rfl, hb⟩; try (have hz : w1.cell? ⟨w.heap.size, 0, none⟩ = some (.int .u8 x.toNat) := (hb.cell (p := ⟨w.heap.size, 0, none⟩) (by simp)).trans ((cell_one_new w (.int .u8 x.toNat) 5) 0 _ rfl)))
  all_goals
    go_wp2
    go_ret
    refine ⟨by rw [← hB.out]; rfl, ?_⟩
    first
    | exact (((Below.refl _ _).alloc (Nat.le_refl _) _).drew).trans (hb.mono (by simp))
    | exact ((Below.refl _ _).drew.trans hb).alloc hb.size _

theorem lNum_any (n : Int) (hn : n ≤ 9223372036854775807) : ∀ w : World, Calls Try.prog 12 #[.int .i64 n] w (NumLaw n w) := by
  have key : ∀ (k : Nat) (n : Int), n ≤ 9223372036854775807 → n.toNat ≤ k → ∀ w : World, Calls Try.prog 12 #[.int .i64 n] w (NumLaw n w) := by
    intro k
    induction k with
    | zero =>
      intro n _ hk w
      by_cases h0 : n = 0
      · subst h0
        exact lNum_small 0 0 w (by decide) (.inl rfl)
      · exact lNum_small 0 n w (by decide) (.inr ⟨by omega, rfl⟩)
    | succ k ih =>
      intro n hn hk w
      by_cases h : 128 ≤ n
      · exact lNum_big n w h hn (ih (n / 128) (by omega) (by omega))
      · by_cases h0 : n < 0
        · exact lNum_small 0 n w (by decide) (.inr ⟨h0, rfl⟩)
        · refine lNum_small (UInt8.ofNat n.toNat) n w (by simp; omega) (.inl ?_)
          simp; omega
  exact key n.toNat n hn (Nat.le_refl _)
end Go.Proofs.Ytikkakbemphdhaa
