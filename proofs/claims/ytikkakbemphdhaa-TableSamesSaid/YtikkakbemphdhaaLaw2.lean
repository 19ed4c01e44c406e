/- The document's example of layer 14. -/
import Derived.Test.YtikkakbemphdhaaLaw1
namespace Go.Proofs.Ytikkakbemphdhaa
open Go.RowKit Go.Fl

theorem IsW.row {W : World} {base g : Nat} {r : Option Nat} {l : List UInt8} (h : IsW W base g r l) : ∀ k, r = some k → base ≤ k := by
  obtain ⟨_, v, _, hv, hown⟩ := h
  intro k hk
  exact (hown.lt k (hv.trans hk)).1
theorem KeptW.below {w w' : World} {base g : Nat} {r r' : Option Nat} {l : List UInt8} (hK : KeptW w w' g r r') (hI : IsW w base g r l) (hb : base ≤ w.heap.size) : Below base w w' :=
  ⟨hK.os, hK.tape, hK.output, hK.size, fun k hk => hK.block k (by omega) (by have := hI.1; omega) (fun e => by have := hI.row k e.symm; omega)⟩
theorem KeptW.kept {w w' : World} {g : Nat} {r r' : Option Nat} (hK : KeptW w w' g r r') : Kept w w' (fun k => k = g ∨ some k = r) :=
  ⟨hK.os, hK.tape, hK.output, hK.size, fun k hk hn => hK.block k hk (fun e => hn (.inl e)) (fun e => hn (.inr e))⟩
theorem isW_new (w : World) : IsW (w.alloc (.cells #[.slice none 0 0] 28)) w.heap.size w.heap.size none [] :=
  ⟨Nat.le_refl _, _, heap_alloc_new w _, rfl, World.ownsRow_nil _ _ _ _⟩
theorem keptR_below {w w' : World} {g B : Nat} (hK : Kept w w' (· = g)) (hB : B ≤ w.heap.size) (hg : B ≤ g) : Below B w w' := hK.below hB (fun k hk e => by omega)

theorem IsW.kept {W W' : World} {base g : Nat} {r : Option Nat} {l : List UInt8} {S : Nat → Prop} (h : IsW W base g r l) (hK : Kept W W' S) (hg : ¬ S g) (hr : ∀ k, r = some k → ¬ S k) : IsW W' base g r l := by
  obtain ⟨hbg, v, hc, hv, hown⟩ := h
  refine ⟨hbg, v, hK.heap hc hg, hv, hown.1, ?_⟩
  rcases hown.2 with h | ⟨g', cap, cur, rfl, h1, h2, h3⟩
  · exact .inl h
  · exact .inr ⟨g', cap, cur, rfl, h1, hK.heap h2 (hr g' hv.symm), h3⟩

def hs : ByteArray := ⟨#[172, 2, 1, 97]⟩
theorem hs_num : Rd.num hs.data.toList (some 0) = (300, some 2) := by decide
theorem hs_text : Rd.text hs.data.toList (some 2) = ([97], some 4) := by decide

theorem head_bytes : [] ++ numB (300 : Int).toNat ++ textB ⟨#[97]⟩ = [172, 2, 1, 97] := by
  have h1 : numB (300 : Int).toNat = [172, 2] := by
    rw [show (300 : Int).toNat = 300 from rfl, numB, if_neg (by omega), numB, if_pos (by omega)]; rfl
  have h2 : numB (ByteArray.mk #[97]).size = [1] := by
    rw [show (ByteArray.mk #[97]).size = 1 from rfl, numB, if_pos (by omega)]; rfl
  rw [h1, textB, h2]
  rfl

set_option maxRecDepth 100000 in
set_option maxHeartbeats 800000 in
theorem head_any (w : World) : Calls Try.prog 9 #[] w fun e w' => e = .returned (.bool true) ∧ Below w.heap.size w w' := by
  have HI0 := Lib.hid (isW_new w)
  go_enter Try.func9, Try.ntmps9
  go_wp2_with fail
  refine (wNum_any w.heap.size w.heap.size none [] 300 _ (by omega) HI0.out (by simp) (by simp)).mono ?_
  rintro e w1 ⟨rfl, r1, hI1, hK1⟩
  have HI1 := Lib.hid hI1
  have HK1 := Lib.hid hK1
  clear hI1 hK1
  go_wp2_with fail
  refine (wText_any w.heap.size w.heap.size r1 _ _ _ HI1.out (by have := HK1.out.size; simp at this; omega) ?_).mono ?_
  · have := numB_len9 (300 : Int).toNat (by decide)
    have h1 : (ByteArray.mk #[97]).size = 1 := rfl
    simp only [List.length_append, List.length_nil]
    omega
  rintro e w2 ⟨rfl, r2, hI2, hK2⟩
  have HI2 := Lib.hid hI2
  have HK2 := Lib.hid hK2
  clear hI2 hK2
  go_wp2_with fail
  refine (wString_any w.heap.size w.heap.size r2 _ _ HI2.out).mono ?_
  rintro e w3 ⟨rfl, rfl⟩
  rw [head_bytes]
  rw [show (ByteArray.mk [172, 2, 1, 97].toArray) = hs from rfl]
  go_wp2_with fail
  refine (rNew_any hs _).mono ?_
  rintro e w3 ⟨rfl, rfl⟩
  have HR := Lib.hid (isRd_new hs w2)
  have HI3 := Lib.hid (HI2.out.kept ((Kept.refl w2 (fun _ => False)).alloc (.cells #[.string hs, .int .i64 (0 : Nat), .bool false] 70)) id (fun _ _ h => h))
  go_wp2_with fail
  refine (wString_any w.heap.size w.heap.size r2 _ _ HI3.out).mono ?_
  rintro e w3 ⟨rfl, rfl⟩
  rw [head_bytes]
  go_wp2_with fail
  refine (rNum_any w2.heap.size hs (some 0) _ HR.out (by decide)).mono ?_
  rintro e w3 ⟨rfl, hR3, hK3⟩
  rw [hs_num] at hR3 ⊢
  have HR3 := Lib.hid hR3
  have HK3 := Lib.hid hK3
  clear hR3 hK3
  go_wp2_with fail
  refine (rText_any w2.heap.size hs (some 2) _ HR3.out (by decide)).mono ?_
  rintro e w4 ⟨rfl, hR4, hK4⟩
  rw [hs_text] at hR4 ⊢
  have HR4 := Lib.hid hR4
  have HK4 := Lib.hid hK4
  clear hR4 hK4
  go_wp2_with fail
  refine (rDone_any w2.heap.size hs (some 4) _ HR4.out).mono ?_
  rintro e w5 ⟨rfl, hR5, hK5⟩
  rw [show decide (some 4 = some hs.size) = true by decide]
  have HR5 := Lib.hid hR5
  have HK5 := Lib.hid hK5
  clear hR5 hK5
  go_wp2_with fail
  refine (rOK_any w2.heap.size hs (some 4) _ HR5.out).mono ?_
  rintro e w6 ⟨rfl, rfl⟩
  rw [show (some 4).isSome = true by decide]
  go_wp2
  go_ret
  have b1 : Below w.heap.size w w2 := ((Below.refl _ _).alloc (Nat.le_refl _) _).trans (((HK1.out.trans HK2.out).below (isW_new w) (by simp)))
  have b2 : Below w.heap.size w2 (w2.alloc (.cells #[.string hs, .int .i64 (0 : Nat), .bool false] 70)) := (Below.refl _ _).alloc b1.size _
  have b3 := keptR_below HK3.out (B := w.heap.size) (Nat.le_trans b1.size (by simp)) b1.size
  have b4 := keptR_below HK4.out (B := w.heap.size) (Nat.le_trans (Nat.le_trans b1.size b2.size) b3.size) b1.size
  have b5 := HK5.out.below (B := w.heap.size) (Nat.le_trans (Nat.le_trans (Nat.le_trans b1.size b2.size) b3.size) b4.size) (fun _ _ h => h)
  exact ⟨rfl, (((b1.trans b2).trans b3).trans b4).trans b5⟩
end Go.Proofs.Ytikkakbemphdhaa
