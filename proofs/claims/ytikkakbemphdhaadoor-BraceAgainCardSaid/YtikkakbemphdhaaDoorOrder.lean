/- order: the numbers from 0 to n - 1 in some order. -/
import Derived.Test.YtikkakbemphdhaaDoorSmall
set_option linter.unusedSimpArgs false
set_option linter.unusedVariables false
namespace Go.Proofs.YtikkakbemphdhaaDoor
open Go.RowKit Go.Fl Go.Shelf

theorem Tryd.info3 : (Tryd.prog.info? 3).map (fun i => (i.zero, i.size, i.bytes)) = some (some (.int .i64 0), 1, 8) := by kernel_rfl

def intsV (l : List Nat) : List Value := l.map fun (n : Nat) => Value.int .i64 (n : Int)
theorem intsV_one (l : List Nat) : ∀ u ∈ intsV l, u.oneCell' = true := by
  intro u hu
  simp only [intsV, List.mem_map] at hu
  obtain ⟨b, _, rfl⟩ := hu
  rfl
theorem intsV_len (l : List Nat) : (intsV l).length = l.length := List.length_map _
theorem intsV_set (l : List Nat) (j x : Nat) : (intsV l).set j (.int .i64 (x : Int)) = intsV (l.set j x) := by
  unfold intsV
  rw [List.map_set]

/-- where one number goes, by Go's unsigned arithmetic. -/
theorem place_of (k : Int) (i : Nat) (hi : i ≤ 7) :
    ∃ a : Nat, a ≤ i ∧ wrap64 ((IntKind.u64.wrap k).tmod (i + 1)) = a := by
  have h0 : 0 ≤ IntKind.u64.wrap k := by rw [IntKind.wrap_u64]; omega
  have h1 := Int.emod_lt_of_pos (IntKind.u64.wrap k) (show (0 : Int) < i + 1 by omega)
  have h2 := Int.emod_nonneg (IntKind.u64.wrap k) (show (i + 1 : Int) ≠ 0 by omega)
  rw [Int.tmod_eq_emod_of_nonneg h0]
  refine ⟨(IntKind.u64.wrap k % (i + 1)).toNat, by omega, ?_⟩
  unfold wrap64
  omega
theorem rest_of (x : Int) : ∃ k : Int, (-9223372036854775808 ≤ k ∧ k ≤ 9223372036854775807) ∧ wrap64 x = k := ⟨wrap64 x, by unfold wrap64; omega, rfl⟩

theorem own_ne {w : World} {base e size n : Nat} {v : Value} {xs : List Value} (h : w.ownsRow base e size v n xs) (hn : n ≠ 0) : ∃ g c, v = .slice (some ⟨g, 0, none⟩) n c := by
  rcases h.2 with ⟨_, rfl⟩ | ⟨g, cap, cur, rfl, _⟩
  · exact absurd rfl hn
  · exact ⟨_, _, rfl⟩
theorem shift_step (P : List Nat) (m x : Nat) (hm : m < P.length) : (P.take (m + 1) ++ x :: P.drop (m + 1)).set (m + 1) P[m] = P.take m ++ P[m] :: P.drop m := by
  have h1 : (P.take (m + 1)).length = m + 1 := by rw [List.length_take]; omega
  rw [List.set_append_right _ _ (by omega), h1, Nat.sub_self, List.set_cons_zero, ← List.drop_eq_getElem_cons hm, List.take_succ_eq_append_getElem hm, List.append_assoc]
  rfl
theorem cell_of_ints {w : World} {base g n c : Nat} {L : List Nat} (h : w.ownsRow base 3 1 (.slice (some ⟨g, 0, none⟩) n c) n (intsV L)) (j : Nat) (hj : j < L.length) : w.cell? ⟨g, j, none⟩ = some (.int .i64 (L[j] : Nat)) := by
  have := h.cells (g := g) rfl j (.int .i64 (L[j] : Nat)) (by simp [intsV, hj])
  rw [Addr.add_lit, Nat.zero_add] at this
  exact this

theorem ins_ok (P : List Nat) (a : Nat) (hnd : P.Nodup) (hlt : ∀ q ∈ P, q < P.length) : (P.take a ++ P.length :: P.drop a).Nodup ∧ ∀ q ∈ P.take a ++ P.length :: P.drop a, q < P.length + 1 := by
  have hp : (P.take a ++ P.length :: P.drop a).Perm (P.length :: P) := by
    refine List.perm_middle.trans ?_
    rw [List.take_append_drop]
  have hn : P.length ∉ P := fun h => by have := hlt _ h; omega
  refine ⟨hp.nodup_iff.2 (List.nodup_cons.2 ⟨hn, hnd⟩), fun q hq => ?_⟩
  rcases List.mem_cons.1 (hp.mem_iff.1 hq) with rfl | h
  · omega
  · have := hlt q h; omega

def OrderPost (n : Nat) (w : World) (e : Ending) (w' : World) : Prop :=
  ∃ (g c : Nat) (P : List Nat), e = .returned (.slice (some ⟨g, 0, none⟩) n c) ∧ P.length = n ∧ w'.ownsRow w.heap.size 3 1 (.slice (some ⟨g, 0, none⟩) n c) n (intsV P) ∧ P.Nodup ∧ (∀ q ∈ P, q < n) ∧ Below w.heap.size w w'

set_option maxRecDepth 100000 in
set_option maxHeartbeats 800000 in
theorem order_any (n : Nat) (k : Int) (w : World) (hn : n ≤ 7) (hk : -9223372036854775808 ≤ k ∧ k ≤ 9223372036854775807) : Calls Tryd.prog 7 #[.int .i64 n, .int .i64 k] w (OrderPost n w) := by
  obtain ⟨i0, hi, hz0, hz1, hz2⟩ := info_parts Tryd.info3
  have H0 := Lib.hid (World.ownsRow_made (base := w.heap.size) (e := 3) (size := 1) w #[] 0 (Nat.le_refl _) (by decide) rfl)
  go_enter Tryd.func7, Tryd.ntmps7
  go_wp2
  go_loopg [1, 5, 6] n (fun gk u v x wr => ∃ (k' : Int) (g c : Nat) (P : List Nat), u = .int .i64 k' ∧ (-9223372036854775808 ≤ k' ∧ k' ≤ 9223372036854775807) ∧ v = .slice (some ⟨g, 0, none⟩) P.length c ∧ x = .int .i64 P.length ∧ P.length + gk = n ∧
      wr.ownsRow w.heap.size 3 1 (.slice (some ⟨g, 0, none⟩) P.length c) P.length (intsV P) ∧ P.Nodup ∧ (∀ q ∈ P, q < P.length) ∧ Below w.heap.size w wr)
  case atStart => exact ⟨k, w.heap.size, 0, [], rfl, hk, rfl, rfl, by simp, (by simpa [intsV] using H0.out), List.nodup_nil, by simp, (Below.refl _ _).alloc (Nat.le_refl _) _⟩
  case round =>
    obtain ⟨k', g, c, P, rfl, hk', rfl, rfl, hj, hown, hnd, hlt, hbr⟩ := hrel
    have HO := Lib.hid hown
    have HN := Lib.hid hnd
    have HLt := Lib.hid hlt
    clear hown hnd hlt
    by_cases hjn : P.length < n
    · obtain ⟨a, ha, hae⟩ := place_of k' P.length (by omega)
      obtain ⟨k2, hk2, hke⟩ := rest_of (IntKind.u64.wrap ((IntKind.u64.wrap k').tdiv (P.length + 1)))
      go_wp2_with (at_builtin; (refine wpList_append_own_at _ rfl _ _ 24 rfl w.heap.size 3 i0 (.int .i64 0) 1 8 Tryd.underlying24 hi hz0 hz1 hz2 rfl (by decide) (.slice (some ⟨g, 0, none⟩) P.length c) _ _ rfl (HO.out.alloc _) ⟨wr.heap.size, 0, none⟩ 1 1 (intsV [0]) rfl rfl (cell_one_new _ (.int .i64 0) _) (intsV_one _) (by unfold maxLen; omega) (by omega) (by have := hbr.size; simp; omega) ?_); intro v' w1 hown' hgrow1 _ hat; have hgrow := (World.grownBy_alloc wr _ _).trans hgrow1; clear hgrow1; obtain ⟨g', c', rfl⟩ := own_ne hown' (by omega); have hb1 := hbr.grown hgrow hbr.size (fun k h => (HO.out.lt k h).1); clear hgrow hat)
      have HO1 := Lib.hid hown'
      clear hown'
      obtain ⟨gq, rfl⟩ : ∃ gq, gq = gk := ⟨_, rfl⟩
      go_loopg [8] (P.length - a) (fun hk v wr => ∃ (j x : Nat), v = .int .i64 j ∧ Hid (j = a + hk) ∧ j ≤ P.length ∧ Hid (wr.ownsRow w.heap.size 3 1 (.slice (some ⟨g', 0, none⟩) (P.length + 1) c') (P.length + 1) (intsV (P.take j ++ x :: P.drop j))) ∧ Below w.heap.size w wr)
      case atStart => exact ⟨P.length, 0, rfl, Lib.hid (by omega), by omega, Lib.hid (by simpa [intsV] using HO1.out), hb1⟩
      case round =>
        obtain ⟨j, x, rfl, hja, hjl, hO, hbx⟩ := hrel
        have hja' : a ≤ j := by have := hja.out; omega
        by_cases haj : a < j
        · obtain ⟨m, rfl⟩ : ∃ m, j = m + 1 := ⟨j - 1, by omega⟩
          have hmP : m < P.length := by omega
          have hL : (P.take (m + 1) ++ x :: P.drop (m + 1)).length = P.length + 1 := by simp; omega
          have hc1 := cell_of_ints hO.out m (by omega)
          have hc2 := cell_of_ints hO.out (m + 1) (by omega)
          have hf2 := hO.out.frozenAt (m + 1)
          have he : (P.take (m + 1) ++ x :: P.drop (m + 1))[m]'(by omega) = P[m] := by
            rw [List.getElem_append_left (by simp; omega)]; simp
          rw [he] at hc1
          have hS := Lib.hid (hO.out.stored (m + 1) (.int .i64 (P[m] : Nat)))
          have hidx : (P.take (m + 1) ++ x :: P.drop (m + 1))[m + 1]'(by omega) = x := by
            rw [List.getElem_append_right (by simp; omega)]
            have : m + 1 - (P.take (m + 1)).length = 0 := by rw [List.length_take]; omega
            simp only [this, List.getElem_cons_zero]
          rw [hidx] at hc2
          clear he hidx
          have e1 : ((m + 1 : Nat) : Int) - 1 = (m : Int) := by omega
          have Hl := Lib.hid hL
          go_wp2
          go_roundg (gk - 1)
          case measure => have := hja.out; omega
          case rel => exact ⟨m, P[m], rfl, Lib.hid (by have := hja.out; omega), by omega, Lib.hid (by
            have h := hS.out.1
            rw [intsV_set, shift_step P m x hmP] at h
            exact h), hbx.setCell (by have := (hO.out.lt g' rfl).1; exact this) _⟩
        · obtain rfl : j = a := by omega
          obtain ⟨y, hc2⟩ : ∃ y, wr.cell? ⟨g', j, none⟩ = some (.int .i64 y) := ⟨_, cell_of_ints hO.out j (by simp; omega)⟩
          have hf2 := hO.out.frozenAt j
          have hS := Lib.hid (hO.out.stored j (.int .i64 (P.length : Nat)))
          clear hae hke
          have hins := Lib.hid (ins_ok P j HN.out HLt.out)
          have hL : Hid ((P.take j ++ P.length :: P.drop j).length = P.length + 1) := Lib.hid (by simp; omega)
          go_wp2
          go_roundg (gq - 1)
          case measure => omega
          case rel =>
            have hst := hS.out.1
            rw [intsV_set, show (P.take j ++ x :: P.drop j).set j P.length = P.take j ++ P.length :: P.drop j by
              rw [List.set_append_right _ _ (by simp; omega)]
              have : j - (P.take j).length = 0 := by rw [List.length_take]; omega
              rw [this, List.set_cons_zero]] at hst
            refine ⟨k2, g', c', P.take j ++ P.length :: P.drop j, rfl, hk2, ?_, ?_, ?_, ?_, hins.out.1, ?_, hbx.setCell (by have := (hO.out.lt g' rfl).1; exact this) _⟩
            · rw [hL.out]
            · rw [hL.out]; rfl
            · rw [hL.out]; omega
            · rw [hL.out]; exact hst
            · rw [hL.out]; exact hins.out.2
    · obtain rfl : P.length = n := by omega
      go_wp2
      go_ret
      exact ⟨g, c, P, rfl, rfl, HO.out, HN.out, HLt.out, hbr⟩
end Go.Proofs.YtikkakbemphdhaaDoor
