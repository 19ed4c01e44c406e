/- (Set).Read: the digits with whose signs a text begins. -/
import Derived.Test.YtajioajigpneoaaDoorOne
import Derived.Test.YtajioajigpneoaaDoorHeld
set_option linter.unusedSimpArgs false
set_option linter.unusedVariables false
namespace Go.Proofs.YtajioajigpneoaaDoor
open Go.RowKit Go.Fl Go.Shelf

theorem Tryd.infoB : (Tryd.prog.info? 5).map (fun i => (i.zero, i.size, i.bytes)) = some (some (.int .u8 0), 1, 1) := by kernel_rfl

theorem oneFrom_ok (G : Nat → ByteArray) (s : List UInt8) : ∀ (n i : Nat) , i + n = 10 → ((oneFrom G s n i).1 = -1 ∧ (oneFrom G s n i).2 = 0 ∧ ∀ j, i ≤ j → j < 10 → ¬ ((G j).size ≠ 0 ∧ Lib.hasPrefix s (G j).data.toList = true)) ∨
    ∃ d : Nat, d < 10 ∧ oneFrom G s n i = ((d : Int), (G d).size) ∧ (G d).size ≠ 0 ∧ Lib.hasPrefix s (G d).data.toList = true ∧ ∀ j, i ≤ j → j < d → ¬ ((G j).size ≠ 0 ∧ Lib.hasPrefix s (G j).data.toList = true)
  | 0, i, h => .inl ⟨rfl, rfl, fun j h1 h2 => by omega⟩
  | n + 1, i, h => by
    rw [oneFrom]
    by_cases hc : (G i).size ≠ 0 ∧ Lib.hasPrefix s (G i).data.toList = true
    · rw [if_pos hc]
      exact .inr ⟨i, by omega, rfl, hc.1, hc.2, fun j h1 h2 => by omega⟩
    · rw [if_neg hc]
      rcases oneFrom_ok G s n (i + 1) (by omega) with ⟨h1, h2, h3⟩ | ⟨d, h1, h2, h3, h4, h5⟩
      · refine .inl ⟨h1, h2, fun j hj hj2 => ?_⟩
        by_cases e : j = i
        · subst e; exact hc
        · exact h3 j (by omega) hj2
      · refine .inr ⟨d, h1, h2, h3, h4, fun j hj hj2 => ?_⟩
        by_cases e : j = i
        · subst e; exact hc
        · exact h5 j (by omega) hj2
theorem pre_len {s p : List UInt8} (h : Lib.hasPrefix s p = true) : p.length ≤ s.length ∧ s.take p.length = p := by
  unfold Lib.hasPrefix at h
  rw [List.isPrefixOf_iff_prefix] at h
  obtain ⟨t, rfl⟩ := h
  simp

/-- from place p on: the digits, and where they end. -/
def readFrom (G : Nat → ByteArray) (l : List UInt8) : Nat → Nat → List Nat → List Nat × Nat
  | 0, p, out => (out, p)
  | n + 1, p, out => if (oneRes G (l.drop p)).1 < 0 then (out, p) else readFrom G l n (p + (oneRes G (l.drop p)).2) (out ++ [(oneRes G (l.drop p)).1.toNat])
def readRes (G : Nat → ByteArray) (l : List UInt8) : List Nat × Nat := readFrom G l (l.length + 1) 0 []
/-- enough rounds are enough. -/
theorem readFrom_fuel (G : Nat → ByteArray) (l : List UInt8) : ∀ (n m p : Nat) (out : List Nat), l.length < n + p → l.length < m + p → p ≤ l.length → readFrom G l n p out = readFrom G l m p out
  | 0, m, p, out, h1, h2, h3 => by omega
  | n + 1, 0, p, out, h1, h2, h3 => by omega
  | n + 1, m + 1, p, out, h1, h2, h3 => by
    rw [readFrom, readFrom]
    split
    · rfl
    · rename_i hc
      rcases oneFrom_ok G (l.drop p) 10 0 rfl with ⟨e1, _⟩ | ⟨d, _, e2, e3, e4, _⟩
      · unfold oneRes at hc; rw [e1] at hc; exact absurd (by decide) hc
      · have e5 := (pre_len e4).1
        have e6 : (oneRes G (l.drop p)).2 = (G d).size := by unfold oneRes; rw [e2]
        rw [List.length_drop, Array.length_toList] at e5
        have e7 : (G d).data.size = (G d).size := rfl
        exact readFrom_fuel G l n m _ _ (by omega) (by omega) (by omega)

theorem own_below {w w' : World} {base e size n : Nat} {v : Value} {xs : List Value} (h : w.ownsRow base e size v n xs) (hb : Below w.heap.size w w') : w'.ownsRow base e size v n xs := by
  obtain ⟨h1, h2⟩ := h
  refine ⟨h1, ?_⟩
  rcases h2 with h2 | ⟨g, cap, cur, hv, hg, hh, r⟩
  · exact .inl h2
  · exact .inr ⟨g, cap, cur, hv, hg, (hb.block g (lt_of_heap hh)).trans hh, r⟩
theorem ext_drop (s : ByteArray) (p : Nat) : (s.extract p s.size).data.toList = s.data.toList.drop p := by
  rw [ByteArray.data_extract, Array.toList_extract, List.extract_eq_take_drop, List.take_of_length_le (by rw [List.length_drop, Array.length_toList]; exact Nat.le_refl _)]

def digs (ds : List Nat) : List UInt8 := ds.map dg

set_option maxRecDepth 100000 in
set_option maxHeartbeats 4000000 in
theorem gread_any (G : Nat → ByteArray) (s : ByteArray) (w : World) (hs : s.size ≤ 1000000) (hG : ∀ i, i < 10 → (G i).size ≤ 9223372036854775807) :
    Calls Tryd.prog 21 #[.agg (arr G), .string s] w fun e w' => e = .returned (.tuple #[.string ⟨(digs (readRes G s.data.toList).1).toArray⟩, .int .i64 (readRes G s.data.toList).2]) ∧ Below w.heap.size w w' := by
  have HG := Lib.hid hG
  clear hG
  obtain ⟨R, hR⟩ : ∃ R, readRes G s.data.toList = R := ⟨_, rfl⟩
  rw [hR]
  have HR := Lib.hid hR
  have hx : w.heap.size < (w.alloc (.cells (arr G) 33)).heap.size := by simp
  have HX := Lib.hid (heap_alloc_new w (.cells (arr G) 33))
  clear hR hx
  unfold arr
  go_enter Tryd.func21, Tryd.ntmps21
  go_wp2
  go_loopg [6, 7, 8, 9] (s.size + 1) (fun gk u v x y wr => ∃ (p : Nat) (out : List Nat) (rv : Value), u = rv ∧ v = .int .i64 p ∧ Hid (p + gk = s.size + 1) ∧ p ≤ s.size ∧ out.length ≤ p ∧ Hid (readFrom G s.data.toList gk p out = R) ∧ Hid (wr.ownsRow (w.heap.size + 1) 5 1 rv out.length (bytesV (digs out))) ∧
      Hid (wr.heap[w.heap.size]? = some (.cells (arr G) 33 (0, 0))) ∧ Hid (Below w.heap.size w wr))
  case atStart => exact ⟨0, [], _, rfl, rfl, Lib.hid (by omega), by omega, by simp, Lib.hid (by rw [← HR.out]; unfold readRes; rw [Array.length_toList]; rfl), Lib.hid (World.ownsRow_nil _ _ _ _), Lib.hid HX.out, Lib.hid ((Below.refl _ _).alloc (Nat.le_refl _) _)⟩
  case round =>
    obtain ⟨p, out, rv, rfl, rfl, hpg, hps, hol, hsc, hO, hX, hbr⟩ := hrel
    obtain ⟨ra, rc, rfl⟩ := own_sl hO.out
    obtain ⟨gk, rfl⟩ : ∃ k, gk = k + 1 := ⟨gk - 1, by have := hpg.out; omega⟩
    have c0 := (arr_cell hX.out (show 0 < 10 by decide)).1
    have c1 := (arr_cell hX.out (show 1 < 10 by decide)).1
    have c2 := (arr_cell hX.out (show 2 < 10 by decide)).1
    have c3 := (arr_cell hX.out (show 3 < 10 by decide)).1
    have c4 := (arr_cell hX.out (show 4 < 10 by decide)).1
    have c5 := (arr_cell hX.out (show 5 < 10 by decide)).1
    have c6 := (arr_cell hX.out (show 6 < 10 by decide)).1
    have c7 := (arr_cell hX.out (show 7 < 10 by decide)).1
    have c8 := (arr_cell hX.out (show 8 < 10 by decide)).1
    have c9 := (arr_cell hX.out (show 9 < 10 by decide)).1
    have C0 := gone_any G (s.extract p s.size) wr.drew HG.out
    rw [ext_drop] at C0
    have hst := hsc.out
    rw [readFrom] at hst
    rcases oneFrom_ok G (s.data.toList.drop p) 10 0 rfl with ⟨e1, e2, _⟩ | ⟨d, hd, e2, e3, e4, _⟩
    · have e3 : oneRes G (s.data.toList.drop p) = (-1, 0) := Prod.ext e1 e2
      rw [e3] at C0 hst
      rw [if_pos (by decide)] at hst
      subst hst
      have C := Lib.hid C0
      clear C0 e1 e2 e3
      go_wp2
      refine kBegin (fun w' => w' = wr.drew) [4, 5, 6, 7, 8, 9] (by kernel_rfl) ?_
      change wpAnyK _ _ _ _ _ _ _ _ _ wr.drew
      refine kLoad 0 11 [4, 5, 6, 7, 8, 9] (v := ?v0A) rfl rfl (by kernel_rfl) (by kernel_rfl) (by kernel_rfl) (by kernel_rfl) (fun _ _ _ h => h) (by kernel_rfl) ?h0A rfl ?r0A
      case h0A => (intro w hSw; (try dsimp only at hSw); subst hSw; go_simp <;> with_reducible rfl)
      simp only [List.setIfInBounds_toArray, List.set_cons_zero, List.set_cons_succ]
      refine kPure 1 12 (v := ?v1A) rfl rfl (by kernel_rfl) (by kernel_rfl) (by kernel_rfl) (fun _ _ _ h => h) (by kernel_rfl) ?h1A ?r1A
      case h1A => (intro w; go_simp <;> with_reducible rfl)
      simp only [List.setIfInBounds_toArray, List.set_cons_zero, List.set_cons_succ]
      refine kPure 2 13 (v := ?v2A) rfl rfl (by kernel_rfl) (by kernel_rfl) (by kernel_rfl) (fun _ _ _ h => h) (by kernel_rfl) ?h2A ?r2A
      case h2A => (intro w; go_simp <;> with_reducible rfl)
      simp only [List.setIfInBounds_toArray, List.set_cons_zero, List.set_cons_succ]
      refine kPure 3 14 (v := ?v3A) rfl rfl (by kernel_rfl) (by kernel_rfl) (by kernel_rfl) (fun _ _ _ h => h) (by kernel_rfl) ?h3A ?r3A
      case h3A => (intro w; go_simp <;> with_reducible rfl)
      simp only [List.setIfInBounds_toArray, List.set_cons_zero, List.set_cons_succ]
      refine kAll (rs := [4]) (by kernel_rfl) (by simp) (kCons rfl (by kernel_rfl) (fun K hK => ?s4A) kNil)
      case s4A =>
        go_simp
        refine C.out.mono ?_
        rintro e w1 ⟨rfl, hb1⟩
        go_simp
        refine hK.out _ _ (fun h => absurd h (by decide)) ?_
        clear hK
        have HB1 := Lib.hid hb1
        clear hb1
        refine kPure 5 10 (v := ?v5A) rfl rfl (by kernel_rfl) (by kernel_rfl) (by kernel_rfl) (fun _ _ _ h => h) (by kernel_rfl) ?h5A ?r5A
        case h5A => (intro w; go_simp <;> with_reducible rfl)
        simp only [List.setIfInBounds_toArray, List.set_cons_zero, List.set_cons_succ]
        refine kPure 6 16 (v := ?v6A) rfl rfl (by kernel_rfl) (by kernel_rfl) (by kernel_rfl) (fun _ _ _ h => h) (by kernel_rfl) ?h6A ?r6A
        case h6A => (intro w; go_simp <;> with_reducible rfl)
        simp only [List.setIfInBounds_toArray, List.set_cons_zero, List.set_cons_succ]
        refine kPure 7 17 (v := ?v7A) rfl rfl (by kernel_rfl) (by kernel_rfl) (by kernel_rfl) (fun _ _ _ h => h) (by kernel_rfl) ?h7A ?r7A
        case h7A => (intro w; go_simp <;> with_reducible rfl)
        simp only [List.setIfInBounds_toArray, List.set_cons_zero, List.set_cons_succ]
        refine kPure 8 8 (v := ?v8A) rfl rfl (by kernel_rfl) (by kernel_rfl) (by kernel_rfl) (fun _ _ _ h => h) (by kernel_rfl) ?h8A ?r8A
        case h8A => (intro w; go_simp <;> with_reducible rfl)
        simp only [List.setIfInBounds_toArray, List.set_cons_zero, List.set_cons_succ]
        refine kPure 9 9 (v := ?v9A) rfl rfl (by kernel_rfl) (by kernel_rfl) (by kernel_rfl) (fun _ _ _ h => h) (by kernel_rfl) ?h9A ?r9A
        case h9A => (intro w; go_simp <;> with_reducible rfl)
        simp only [List.setIfInBounds_toArray, List.set_cons_zero, List.set_cons_succ]
        refine kDone (by kernel_rfl) ?_ _
        have hconv := run_bytes_own (P := Tryd.prog) 31 9 Tryd.underlying31 Tryd.underlying5 Tryd.underlying9 (own_below hO.out.drew HB1.out)
        go_wp2
        go_ret2
        exact ⟨rfl, bt hbr.out.drew HB1.out⟩
    · have e5 := (pre_len e4).1
      rw [List.length_drop, Array.length_toList, Array.length_toList] at e5
      have e6 : (G d).data.size = (G d).size := rfl
      have e7 : s.data.size = s.size := rfl
      have e8 : oneRes G (s.data.toList.drop p) = ((d : Int), (G d).size) := e2
      rw [e8] at C0 hst
      dsimp only at C0 hst
      rw [if_neg (by omega), Int.toNat_natCast] at hst
      obtain ⟨n, hn⟩ : ∃ n, (G d).size = n := ⟨_, rfl⟩
      rw [hn] at C0 hst
      have hn1 : 1 ≤ n := by omega
      have hn2 : p + n ≤ s.size := by omega
      have hfu : Hid (readFrom G s.data.toList (gk + 1 - n) (p + n) (out ++ [d]) = R) := Lib.hid (by
        rw [← hst]
        have h1 := hpg.out
        exact readFrom_fuel G s.data.toList _ _ _ _ (by rw [Array.length_toList]; omega) (by rw [Array.length_toList]; omega) (by rw [Array.length_toList]; omega))
      have C := Lib.hid C0
      clear C0 e2 e3 e4 e5 e6 e7 e8 hst hn
      go_wp2
      refine kBegin (fun w' => w' = wr.drew) [4, 5, 6, 7, 8, 9] (by kernel_rfl) ?_
      change wpAnyK _ _ _ _ _ _ _ _ _ wr.drew
      refine kLoad 0 11 [4, 5, 6, 7, 8, 9] (v := ?v0B) rfl rfl (by kernel_rfl) (by kernel_rfl) (by kernel_rfl) (by kernel_rfl) (fun _ _ _ h => h) (by kernel_rfl) ?h0B rfl ?r0B
      case h0B => (intro w hSw; (try dsimp only at hSw); subst hSw; go_simp <;> with_reducible rfl)
      simp only [List.setIfInBounds_toArray, List.set_cons_zero, List.set_cons_succ]
      refine kPure 1 12 (v := ?v1B) rfl rfl (by kernel_rfl) (by kernel_rfl) (by kernel_rfl) (fun _ _ _ h => h) (by kernel_rfl) ?h1B ?r1B
      case h1B => (intro w; go_simp <;> with_reducible rfl)
      simp only [List.setIfInBounds_toArray, List.set_cons_zero, List.set_cons_succ]
      refine kPure 2 13 (v := ?v2B) rfl rfl (by kernel_rfl) (by kernel_rfl) (by kernel_rfl) (fun _ _ _ h => h) (by kernel_rfl) ?h2B ?r2B
      case h2B => (intro w; go_simp <;> with_reducible rfl)
      simp only [List.setIfInBounds_toArray, List.set_cons_zero, List.set_cons_succ]
      refine kPure 3 14 (v := ?v3B) rfl rfl (by kernel_rfl) (by kernel_rfl) (by kernel_rfl) (fun _ _ _ h => h) (by kernel_rfl) ?h3B ?r3B
      case h3B => (intro w; go_simp <;> with_reducible rfl)
      simp only [List.setIfInBounds_toArray, List.set_cons_zero, List.set_cons_succ]
      refine kAll (rs := [4]) (by kernel_rfl) (by simp) (kCons rfl (by kernel_rfl) (fun K hK => ?s4B) kNil)
      case s4B =>
        go_simp
        refine C.out.mono ?_
        rintro e w1 ⟨rfl, hb1⟩
        go_simp
        refine hK.out _ _ (fun h => absurd h (by decide)) ?_
        clear hK
        have HB1 := Lib.hid hb1
        clear hb1
        refine kPure 5 10 (v := ?v5B) rfl rfl (by kernel_rfl) (by kernel_rfl) (by kernel_rfl) (fun _ _ _ h => h) (by kernel_rfl) ?h5B ?r5B
        case h5B => (intro w; go_simp <;> with_reducible rfl)
        simp only [List.setIfInBounds_toArray, List.set_cons_zero, List.set_cons_succ]
        refine kPure 6 16 (v := ?v6B) rfl rfl (by kernel_rfl) (by kernel_rfl) (by kernel_rfl) (fun _ _ _ h => h) (by kernel_rfl) ?h6B ?r6B
        case h6B => (intro w; go_simp <;> with_reducible rfl)
        simp only [List.setIfInBounds_toArray, List.set_cons_zero, List.set_cons_succ]
        refine kPure 7 17 (v := ?v7B) rfl rfl (by kernel_rfl) (by kernel_rfl) (by kernel_rfl) (fun _ _ _ h => h) (by kernel_rfl) ?h7B ?r7B
        case h7B => (intro w; go_simp <;> with_reducible rfl)
        simp only [List.setIfInBounds_toArray, List.set_cons_zero, List.set_cons_succ]
        refine kPure 8 8 (v := ?v8B) rfl rfl (by kernel_rfl) (by kernel_rfl) (by kernel_rfl) (fun _ _ _ h => h) (by kernel_rfl) ?h8B ?r8B
        case h8B => (intro w; go_simp <;> with_reducible rfl)
        simp only [List.setIfInBounds_toArray, List.set_cons_zero, List.set_cons_succ]
        refine kPure 9 9 (v := ?v9B) rfl rfl (by kernel_rfl) (by kernel_rfl) (by kernel_rfl) (fun _ _ _ h => h) (by kernel_rfl) ?h9B ?r9B
        case h9B => (intro w; go_simp <;> with_reducible rfl)
        simp only [List.setIfInBounds_toArray, List.set_cons_zero, List.set_cons_succ]
        refine kDone (by kernel_rfl) ?_ _
        obtain ⟨i0, hi, hz0, hz1, hz2⟩ := info_parts Tryd.infoB
        have HO1 := Lib.hid (own_below hO.out.drew HB1.out)
        have HBr1 := Lib.hid (bt hbr.out.drew HB1.out)
        have hdx : (48 : Int) + (d : Int) = ((dg d).toNat : Int) := by unfold dg; simp; omega
        go_wp2_with (at_builtin; (refine wpList_append_own_at _ rfl _ _ 31 rfl (w.heap.size + 1) 5 i0 (.int .u8 0) 1 1 Tryd.underlying31 hi hz0 hz1 hz2 rfl (by decide) (.slice ra out.length rc) _ _ rfl (HO1.out.alloc _) ⟨w1.heap.size, 0, none⟩ 1 1 (bytesV [dg d]) rfl rfl (cell_one_new _ (byteV (dg d)) _) (bytesV_one _) (by unfold maxLen; omega) (by omega) (by have h1 := lt_of_heap hX.out; have h2 := HB1.out.size; simp at h2 ⊢; omega) ?_); intro v' w2 hown' hgrow1 _ hat; have hgrow := (World.grownBy_alloc w1 _ _).trans hgrow1; clear hgrow1; obtain ⟨a', c', rfl⟩ := own_sl hown'; have hb2 := HBr1.out.grown hgrow HBr1.out.size (fun k h => by have h1 := (HO1.out.lt k h).1; omega); have hx2 := (hgrow.block w.heap.size (by have h1 := lt_of_heap hX.out; have h2 := HB1.out.size; simp at h2 ⊢; omega) (fun h => by have h1 := (HO1.out.lt _ h.symm).1; omega)).trans ((HB1.out.block w.heap.size (lt_of_heap hX.out)).trans hX.out); clear hgrow hat)
        have HO2 := Lib.hid hown'
        have HB2 := Lib.hid hb2
        have HX2 := Lib.hid hx2
        clear hown' hb2 hx2 hi hz0 hz1 hz2
        go_roundg (gk + 1 - n)
        case measure => omega
        case rel =>
          refine ⟨p + n, out ++ [d], _, rfl, rfl, Lib.hid (by have := hpg.out; omega), hn2, by rw [List.length_append]; simp only [List.length_cons, List.length_nil]; omega, hfu, Lib.hid ?_, HX2, HB2⟩
          rw [List.length_append, digs, List.map_append, bytesV_append]
          exact HO2.out
end Go.Proofs.YtajioajigpneoaaDoor
