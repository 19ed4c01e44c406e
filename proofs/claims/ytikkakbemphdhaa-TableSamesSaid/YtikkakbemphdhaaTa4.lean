/- The walks of lay, layTexts and layRows of the statements. -/
import Derived.Test.YtikkakbemphdhaaTa2
import Derived.Deep.RegionWith
import Derived.Deep.RegionHeld3
set_option linter.unusedSimpArgs false
set_option linter.unusedVariables false
namespace Go.Proofs.Ytikkakbemphdhaa
open Go.RowKit Go.Fl

/-- a text of these bytes. -/
def StrIs (s : ByteArray) (l : List UInt8) : Prop := s.data.toList = l
/-- what comes back is a text of these bytes, no longer than B. -/
def StrPost (l : List UInt8) (B : Nat) (w : World) (e : Ending) (w' : World) : Prop := ∃ s : ByteArray, e = .returned (.string s) ∧ Hid (StrIs s l) ∧ s.size ≤ B ∧ Below w.heap.size w w'
theorem strIs_size {s : ByteArray} {l : List UInt8} (h : StrIs s l) : s.size = l.length := by
  have : s.data.toList.length = s.size := by rw [Array.length_toList]; rfl
  rw [← this, h]
theorem strIs_append {s r : ByteArray} {l k : List UInt8} (h : StrIs s l) (h2 : StrIs r k) : StrIs (s ++ r) (l ++ k) := by
  unfold StrIs at *
  rw [← h, ← h2, ByteArray.data_append, Array.toList_append]
theorem textB_len (s : ByteArray) (h : s.size ≤ 9223372036854775807) : (textB s).length ≤ 9 + s.size := by
  have h1 := numB_len9 s.size (by omega)
  have h2 : s.data.toList.length = s.size := by rw [Array.length_toList]; rfl
  unfold textB
  rw [List.length_append, h2]
  omega
theorem size_le_textB (s : ByteArray) : s.size ≤ (textB s).length := by
  have h2 : s.data.toList.length = s.size := by rw [Array.length_toList]; rfl
  unfold textB
  rw [List.length_append, h2]
  omega

theorem lNum_str (n : Int) (w : World) (hn : n ≤ 9223372036854775807) : Calls Try.prog 12 #[.int .i64 n] w (StrPost (numB n.toNat) 9 w) :=
  (lNum_any n hn w).mono fun e w' ⟨h1, h2⟩ => ⟨_, h1, Lib.hid (by simp [StrIs]), by show (numB n.toNat).length ≤ 9; exact numB_len9 _ (by omega), h2⟩

set_option maxRecDepth 100000 in
set_option maxHeartbeats 800000 in
theorem lay_any (s : ByteArray) (w : World) (hs : s.size ≤ 140737488355328) : Calls Try.prog 36 #[.string s] w (StrPost (textB s) (9 + s.size) w) := by
  go_enter Try.func36, Try.ntmps36
  go_wp2_with fail
  refine (lNum_str _ _ (by omega)).mono ?_
  rintro e w1 ⟨y, rfl, hy, hyz, hb⟩
  rw [Int.toNat_natCast] at hy
  go_wp2
  go_ret
  have h := strIs_append (s := y) (r := s) hy.out rfl
  exact ⟨_, rfl, Lib.hid h, by rw [ByteArray.size_append]; omega, hb⟩

theorem keep2 {w W W' : World} {g : Nat} {v0 v1 : Value} (h : W.cell? ⟨g, 0, none⟩ = some v0 ∧ W.cell? ⟨g, 1, none⟩ = some v1 ∧ Below w.heap.size w W ∧ g < W.heap.size) (hb : Below W.heap.size W W') :
    W'.cell? ⟨g, 0, none⟩ = some v0 ∧ W'.cell? ⟨g, 1, none⟩ = some v1 ∧ Below w.heap.size w W' ∧ g < W'.heap.size :=
  ⟨(hb.cell (p := ⟨g, 0, none⟩) h.2.2.2).trans h.1, (hb.cell (p := ⟨g, 1, none⟩) h.2.2.2).trans h.2.1, h.2.2.1.trans (hb.mono h.2.2.1.size), Nat.lt_of_lt_of_le h.2.2.2 hb.size⟩

theorem eAll_take {α : Type} (f : α → List UInt8) (xs : List α) (j : Nat) (h : j < xs.length) : (xs.take (j + 1)).flatMap f = (xs.take j).flatMap f ++ f xs[j] := by
  rw [List.take_succ_eq_append_getElem h, List.flatMap_append]
  simp
theorem eAll_le {α : Type} (f : α → List UInt8) (xs : List α) (j : Nat) : ((xs.take j).flatMap f).length ≤ (xs.flatMap f).length := by
  conv => rhs; rw [← List.take_append_drop j xs, List.flatMap_append, List.length_append]
  omega

set_option maxRecDepth 100000 in
set_option maxHeartbeats 800000 in
theorem lTexts_any (P : Nat → Prop) (v : Value) (xs : List Tx) (w : World) (hI : Txs P w v xs) (hf : Fits Tx.fit xs) (hl : (eAll eTx xs).length ≤ 140737488355328) :
    Calls Try.prog 38 #[v] w (StrPost (eAll eTx xs) 140737488355328 w) := by
  obtain ⟨a, cap, rfl, hI⟩ := hI
  obtain ⟨hl0, hz⟩ := hf
  have HI := Lib.hid hI
  have HZ := Lib.hid hz
  have HLen := Lib.hid hl
  clear hI hz hl
  go_enter Try.func38, Try.ntmps38
  go_wp2_with fail
  refine (lNum_str _ _ (by omega)).mono ?_
  rintro e w1 ⟨y, rfl, hyb, hys, hb⟩
  rw [Int.toNat_natCast] at hyb
  go_wp2
  go_loopg [3, 11] xs.length (fun gk u v wr => ∃ (j : Nat) (S : ByteArray), u = .string S ∧ v = .int .i64 j ∧ j + gk = xs.length ∧ Hid (StrIs S (numB xs.length ++ (xs.take j).flatMap eTx)) ∧ Below w.heap.size w wr)
  case atStart => exact ⟨0, y, rfl, rfl, by omega, Lib.hid (by show StrIs _ _; rw [List.take_zero, List.flatMap_nil, List.append_nil]; exact hyb.out), hb⟩
  case round =>
    obtain ⟨j, S, rfl, rfl, hj, HS, hbr⟩ := hrel
    by_cases hjl : j < xs.length
    · obtain ⟨b, off, rfl, hp, hbb, hc0, hc1⟩ := HI.out j hjl
      have hw0 := (hbr.cell (p := ⟨b, off + j * 2, none⟩) hbb).trans hc0
      have hw1 := (hbr.cell (p := ⟨b, off + j * 2 + 1, none⟩) hbb).trans hc1
      clear hc0 hc1
      go_wp2
      have HE := Lib.hid (eAll_take eTx xs j hjl)
      obtain ⟨hz1, hz2, hz3⟩ : xs[j].cat ≤ 9223372036854775807 ∧ xs[j].s.size ≤ 140737488355328 ∧ S.size ≤ 140737488355328 := by
        obtain ⟨h1, h2⟩ := HZ.out xs[j] (List.getElem_mem _)
        have h3 := strIs_size HS.out
        have h4 := HLen.out
        have h5 := eAll_le eTx xs (j + 1)
        have h6 := size_le_textB xs[j].s
        have h7 : (eTx xs[j]).length = (numB xs[j].cat.toNat).length + (textB xs[j].s).length := List.length_append
        unfold eAll at h4
        rw [HE.out] at h5
        rw [List.length_append] at h3 h4 h5
        exact ⟨h2, by omega, by omega⟩
      obtain ⟨g, hg⟩ : ∃ g, g = wr.heap.size := ⟨_, rfl⟩
      have hS0 : (wr.alloc (.cells #[.int .i64 xs[j].cat, .string xs[j].s] 98)).cell? ⟨g, 0, none⟩ = some (.int .i64 xs[j].cat) ∧ (wr.alloc (.cells #[.int .i64 xs[j].cat, .string xs[j].s] 98)).cell? ⟨g, 1, none⟩ = some (.string xs[j].s) ∧
          Below w.heap.size w (wr.alloc (.cells #[.int .i64 xs[j].cat, .string xs[j].s] 98)) ∧ g < (wr.alloc (.cells #[.int .i64 xs[j].cat, .string xs[j].s] 98)).heap.size := by
        subst hg
        exact ⟨cell_of (heap_alloc_new wr _) rfl, cell_of (heap_alloc_new wr _) rfl, hbr.alloc hbr.size _, by simp⟩
      rw [← hg]
      clear hg hw0 hw1
      generalize (wr.alloc (.cells #[.int .i64 xs[j].cat, .string xs[j].s] 98)) = W0 at *
      go_region_held3 (fun w' => w'.cell? ⟨g, 0, none⟩ = some (.int .i64 xs[j].cat) ∧ w'.cell? ⟨g, 1, none⟩ = some (.string xs[j].s) ∧ Below w.heap.size w w' ∧ g < w'.heap.size)
        (first | assumption | exact ⟨hS0.1, hS0.2.1, hS0.2.2.1.drew, hS0.2.2.2⟩)
        (first | (go_at_call 12; refine (lNum_str _ _ (by omega)).mono ?_; rintro e w2 ⟨s2, rfl, hs2, hs2z, hb2⟩; have hz4 : ¬ (9223372036854775807 < S.size + s2.size) := (by omega); have hS2 := keep2 ‹_ ∧ _ ∧ Below w.heap.size w _ ∧ _› hb2) | (go_at_call 36; refine (lay_any _ _ (by omega)).mono ?_; rintro e w3 ⟨s3, rfl, hs3, hs3z, hb3⟩; have hz5 : ¬ (9223372036854775807 < S.size + s2.size + s3.size) := (by omega); have hS3 := keep2 ‹_ ∧ _ ∧ Below w.heap.size w _ ∧ _› hb3))
      all_goals
        go_wp2
        go_roundg (gk - 1)
        case measure => omega
        case rel => exact ⟨j + 1, _, rfl, rfl, by omega, Lib.hid (by
            show StrIs _ _
            rw [HE.out, ← List.append_assoc]
            unfold eTx
            rw [← List.append_assoc]
            exact strIs_append (strIs_append HS.out hs2.out) hs3.out), hS3.2.2.1⟩
    · obtain rfl : j = xs.length := by omega
      rw [List.take_length] at HS
      go_wp2
      go_ret
      exact ⟨S, rfl, HS, by rw [strIs_size HS.out]; exact HLen.out, hbr⟩
end Go.Proofs.Ytikkakbemphdhaa
