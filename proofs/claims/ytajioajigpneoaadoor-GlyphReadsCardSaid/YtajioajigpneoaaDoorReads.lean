/- The walk of GlyphReads. -/
import Derived.Test.YtajioajigpneoaaDoorJoins
import Derived.BigQuiet
import Derived.WalkSmall
set_option linter.unusedSimpArgs false
set_option linter.unusedVariables false
namespace Go.Proofs.YtajioajigpneoaaDoor
open Go.RowKit Go.Fl Go.Shelf

def VGn (G : Nat → ByteArray) (n : Nat) : Prop := ∀ k, k < n → oneB (G k) = true ∧ ∀ j, j < k → G k ≠ G j
theorem vgn_zero {G : Nat → ByteArray} : VGn G 0 := fun k h => by omega
theorem vgn_succ {G : Nat → ByteArray} {i : Nat} : VGn G (i + 1) ↔ VGn G i ∧ oneB (G i) = true ∧ ∀ j, j < i → G i ≠ G j := by
  constructor
  · intro h
    exact ⟨fun k hk => h k (by omega), h i (by omega)⟩
  · rintro ⟨h1, h2⟩ k hk
    by_cases e : k = i
    · subst e; exact h2
    · exact h1 k (by omega)

/-- all of it is its first sign: one sign. -/
theorem one_conv {g : ByteArray} (h : leadL g.data.toList = g.size) (h0 : ¬ g.size = 0) : oneB g = true := by
  have hl : g.data.toList.length = g.size := Array.length_toList
  have hne : g.data.toList ≠ [] := fun e => by rw [e] at hl; simp at hl; omega
  have hs : scanS (g.size + 1) g.data.toList = (1, true) := by
    rw [scanS, if_neg hne, if_neg (by omega)]
    have e : g.data.toList.drop (leadL g.data.toList) = [] := List.drop_eq_nil_of_le (by omega)
    rw [e]
    cases g.size <;> simp [scanS]
  obtain ⟨a, b⟩ := valid_count (g.size + 1) (by omega) hs
  unfold oneB
  rw [a, b]; rfl
theorem one_not {g : ByteArray} (h : oneB g = true) : leadL g.data.toList = g.size ∧ ¬ g.size = 0 := by
  obtain ⟨a, b⟩ := one_sign h
  have hl : g.data.toList.length = g.size := Array.length_toList
  exact ⟨by omega, by omega⟩
theorem pre_extract {s g : ByteArray} {p : Nat} (hp : p ≤ s.size) : (g.size ≤ s.size - p ∧ s.extract p (p + g.size) = g) ↔ Lib.hasPrefix (s.data.toList.drop p) g.data.toList = true := by
  have hl : g.data.toList.length = g.size := Array.length_toList
  have hls : s.data.toList.length = s.size := Array.length_toList
  have e : (s.extract p (p + g.size)).data.toList = (s.data.toList.drop p).take g.size := by
    rw [ByteArray.data_extract, Array.toList_extract, List.extract_eq_take_drop]
    rw [show p + g.size - p = g.size by omega]
  constructor
  · rintro ⟨h1, h2⟩
    rw [h2] at e
    unfold Lib.hasPrefix
    rw [List.isPrefixOf_iff_prefix, e]
    exact List.take_prefix _ _
  · intro h
    obtain ⟨h1, h2⟩ := pre_len h
    rw [List.length_drop] at h1
    refine ⟨by omega, ByteArray.ext (Array.ext' ?_)⟩
    rw [e, ← hl, h2]
theorem vg_dg : VG dgG := by
  have h : ∀ i, i < 10 → oneB (dgG i) = true := by decide +kernel
  intro i hi
  refine ⟨h i hi, fun j hj e => ?_⟩
  have e2 : dg i = dg j := by
    unfold dgG at e
    have := congrArg (fun b : ByteArray => b.data.toList) e
    simpa using this
  have e3 := congrArg UInt8.toNat e2
  rw [dg_nat hi, dg_nat (by omega)] at e3
  omega
theorem write_dg : writeRes dgG (ByteArray.mk #[48, 49, 50, 51, 52, 53, 54, 55, 56, 57]).data.toList = [48, 49, 50, 51, 52, 53, 54, 55, 56, 57] := by decide +kernel
theorem lead_quiet (g : ByteArray) (n : Nat) (hg : g.size ≤ 1000000) (W : World) (m : Nat) (h : leadL g.data.toList = n) : Calls Tryd.prog 9 #[.string g] (W.drewN m) fun e w' => e = .returned (.int .i64 (n : Int)) ∧ ∃ k, w' = W.drewN k := by
  refine (lead_any g (W.drewN m) hg).mono ?_
  rintro e w' ⟨rfl, rfl⟩
  exact ⟨by rw [h], m, rfl⟩

set_option maxRecDepth 100000 in
set_option maxHeartbeats 3000000 in
theorem reads_law (G : Nat → ByteArray) (s : ByteArray) (w : World) (hs : s.size ≤ 9223372036854775807) (hG : ∀ i, i < 10 → (G i).size ≤ 9223372036854775807) (hT : Tabs w) :
    Calls Tryd.prog 6 #[.agg (arr G), .string s] w fun e w' => e = .returned (.bool true) ∧ Below w.heap.size w w' := by
  have HT := Lib.hid hT
  have HG := Lib.hid hG
  have HN0 := Lib.hid (heap_alloc_new w (.cells (arr G) 33))
  have HW0 : Hid (Below w.heap.size w (w.alloc (.cells (arr G) 33))) := Lib.hid ((Below.refl _ _).alloc (Nat.le_refl _) _)
  clear hT hG
  unfold arr at HN0 HW0 ⊢
  go_enter Tryd.func6, Tryd.ntmps6
  go_wp2_with fail
  refine (head_any _ (HT.out.below HW0.out)).mono ?_
  rintro e w1 ⟨rfl, hb1⟩
  have HB1 := Lib.hid (bt HW0.out hb1)
  have HX1 : Hid (w1.heap[w.heap.size]? = some (.cells (arr G) 33 (0, 0))) := Lib.hid ((hb1.block _ (lt_of_heap HN0.out)).trans HN0.out)
  clear hb1 HN0
  by_cases hz : s.size ≤ 60
  · go_wp2
    go_loopg [5, 6, 7, 19] 10 (fun gk a b c v wr => ∃ (i : Nat) (V : Bool), a = .bool V ∧ v = .int .i64 i ∧ Hid (i + gk = 10) ∧ Hid (V = true ↔ VGn G i) ∧ Hid (∀ k, k < i → (G k).size ≤ 20) ∧ Hid (wr.heap[w.heap.size]? = some (.cells (arr G) 33 (0, 0))) ∧ Hid (Below w.heap.size w wr))
    case atStart => exact ⟨0, true, rfl, rfl, Lib.hid (by omega), Lib.hid ⟨fun _ => vgn_zero, fun _ => rfl⟩, Lib.hid (fun k h => by omega), HX1, HB1⟩
    case round =>
      obtain ⟨i, V, rfl, rfl, hig, hV, hsz, hX, hbr⟩ := hrel
      obtain ⟨gq, hgq⟩ : ∃ gq, gq = gk := ⟨_, rfl⟩
      have Hgq := Lib.hid hgq
      clear hgq
      by_cases hi : i < 10
      · have hci := (arr_cell hX.out hi).1
        obtain ⟨g, hg⟩ : ∃ g, G i = g := ⟨_, rfl⟩
        rw [hg] at hci
        have Hg := Lib.hid hg
        clear hg
        by_cases h20 : g.size ≤ 20
        · cases V with
          | false =>
            have hbr2 := fun n => Lib.hid (below_drewN hbr.out n)
            go_wp2
            go_big_quiet (fail)
            have HX2 : Hid ((wr.drewN nq).heap[w.heap.size]? = some (.cells (arr G) 33 (0, 0))) := hX
            have HB2 := hbr2 nq
            have Hst : Hid (false = true ↔ VGn G i ∧ oneB g = true) := Lib.hid ⟨(fun h => by cases h), (fun h => by have := hV.out.2 h.1; cases this)⟩
            clear hbr2
            generalize wr.drewN nq = w3 at HX2 HB2 ⊢
            go_wp2
            try rw [show decide ((i : Int) < 10) = true from by rw [decide_eq_true_eq]; omega]
            go_loopg [5, 7] i (fun gk a v wr => ∃ (j : Nat) (V2 : Bool), a = .bool V2 ∧ v = .int .i64 j ∧ Hid (j + gk = i) ∧ Hid (V2 = true ↔ (VGn G i ∧ oneB g = true) ∧ ∀ k, k < j → g ≠ G k) ∧ Hid (wr.heap[w.heap.size]? = some (.cells (arr G) 33 (0, 0))) ∧ Hid (Below w.heap.size w wr))
            case atStart => exact ⟨0, _, rfl, rfl, Lib.hid (by omega), Lib.hid ⟨fun h => ⟨Hst.out.1 (by first | exact h | trivial), fun k hk => by omega⟩, fun h => by first | exact Hst.out.2 h.1 | simp⟩, HX2, HB2⟩
            case round =>
              obtain ⟨j, V2, rfl, rfl, hjg, hV2, hX3, hbr3⟩ := hrel
              by_cases hj : j < i
              · have hcj := (arr_cell hX3.out (show j < 10 by omega)).1
                have hci3 : wr.cell? ⟨w.heap.size, i, none⟩ = some (.string g) := by rw [← Hg.out]; exact (arr_cell hX3.out hi).1
                have hbr4 := fun n => Lib.hid (below_drewN hbr3.out n)
                obtain ⟨h, hh⟩ : ∃ h, G j = h := ⟨_, rfl⟩
                have Hh := Lib.hid hh
                rw [hh] at hcj
                clear hh
                cases V2 with
                | false =>
                  go_wp2
                  go_big_quiet (fail)
                  go_wp2
                  go_roundg (gk - 1)
                  case measure => have := hjg.out; omega
                  case rel =>
                    refine ⟨j + 1, false, rfl, rfl, Lib.hid (by have := hjg.out; omega), Lib.hid ⟨(fun h => by cases h), fun h => hV2.out.2 ⟨h.1, fun k hk => h.2 k (by omega)⟩⟩, hX3, hbr4 _⟩
                | true =>
                  by_cases he : g = h
                  · subst he
                    go_wp2
                    go_big_quiet (fail)
                    go_wp2
                    go_roundg (gk - 1)
                    case measure => have := hjg.out; omega
                    case rel =>
                      refine ⟨j + 1, false, rfl, rfl, Lib.hid (by have := hjg.out; omega), Lib.hid ⟨(fun h => by cases h), fun h => absurd Hh.out.symm (h.2 j (by omega))⟩, hX3, hbr4 _⟩
                  · have hne3 := ba_ne he
                    have He := Lib.hid he
                    clear he
                    go_wp2
                    go_big_quiet (fail)
                    go_wp2
                    go_roundg (gk - 1)
                    case measure => have := hjg.out; omega
                    case rel =>
                      refine ⟨j + 1, true, rfl, rfl, Lib.hid (by have := hjg.out; omega), Lib.hid ⟨fun _ => ⟨(hV2.out.1 (by first | rfl | trivial)).1, fun k hk => ?_⟩, fun _ => rfl⟩, hX3, hbr4 _⟩
                      by_cases e : k = j
                      · subst e; rw [Hh.out]; exact He.out
                      · exact (hV2.out.1 (by first | rfl | trivial)).2 k (by omega)
              · obtain rfl : j = i := by have := hjg.out; omega
                go_wp2
                go_roundg (gq - 1)
                case measure => have := hig.out; have := Hgq.out; omega
                case rel =>
                  refine ⟨j + 1, V2, rfl, rfl, Lib.hid (by have := hig.out; have := Hgq.out; omega), Lib.hid ?_, Lib.hid (fun k hk => ?_), hX3, hbr3⟩
                  · rw [vgn_succ, Hg.out, hV2.out]
                    constructor
                    · rintro ⟨⟨a, b⟩, c⟩; exact ⟨a, b, c⟩
                    · rintro ⟨a, b, c⟩; exact ⟨⟨a, b⟩, c⟩
                  · by_cases e : k = j
                    · subst e; rw [Hg.out]; omega
                    · exact hsz.out k (by omega)
          | true =>
            by_cases hl : leadL g.data.toList = g.size
            · by_cases h0 : g.size = 0
              · have hemp : g.toList.isEmpty = true := by rw [empty_of h0, Lib.toList_data]; rfl
                have C := fun W m => lead_quiet g g.size (by omega) W m hl
                have hbr2 := fun n => Lib.hid (below_drewN hbr.out n)
                have Hg0 := Lib.hid h0
                clear hl h0
                go_wp2
                go_big_quiet ((refine C _ _))
                have HX2 : Hid ((wr.drewN nq).heap[w.heap.size]? = some (.cells (arr G) 33 (0, 0))) := hX
                have HB2 := hbr2 nq
                have Hst : Hid (false = true ↔ VGn G i ∧ oneB g = true) := Lib.hid ⟨(fun h => by cases h), (fun h => absurd Hg0.out (one_not h.2).2)⟩
                clear hbr2
                generalize wr.drewN nq = w3 at HX2 HB2 ⊢
                go_wp2
                try rw [show decide ((i : Int) < 10) = true from by rw [decide_eq_true_eq]; omega]
                go_loopg [5, 7] i (fun gk a v wr => ∃ (j : Nat) (V2 : Bool), a = .bool V2 ∧ v = .int .i64 j ∧ Hid (j + gk = i) ∧ Hid (V2 = true ↔ (VGn G i ∧ oneB g = true) ∧ ∀ k, k < j → g ≠ G k) ∧ Hid (wr.heap[w.heap.size]? = some (.cells (arr G) 33 (0, 0))) ∧ Hid (Below w.heap.size w wr))
                case atStart => exact ⟨0, _, rfl, rfl, Lib.hid (by omega), Lib.hid ⟨fun h => ⟨Hst.out.1 (by first | exact h | trivial), fun k hk => by omega⟩, fun h => by first | exact Hst.out.2 h.1 | simp⟩, HX2, HB2⟩
                case round =>
                  obtain ⟨j, V2, rfl, rfl, hjg, hV2, hX3, hbr3⟩ := hrel
                  by_cases hj : j < i
                  · have hcj := (arr_cell hX3.out (show j < 10 by omega)).1
                    have hci3 : wr.cell? ⟨w.heap.size, i, none⟩ = some (.string g) := by rw [← Hg.out]; exact (arr_cell hX3.out hi).1
                    have hbr4 := fun n => Lib.hid (below_drewN hbr3.out n)
                    obtain ⟨h, hh⟩ : ∃ h, G j = h := ⟨_, rfl⟩
                    have Hh := Lib.hid hh
                    rw [hh] at hcj
                    clear hh
                    cases V2 with
                    | false =>
                      go_wp2
                      go_big_quiet (fail)
                      go_wp2
                      go_roundg (gk - 1)
                      case measure => have := hjg.out; omega
                      case rel =>
                        refine ⟨j + 1, false, rfl, rfl, Lib.hid (by have := hjg.out; omega), Lib.hid ⟨(fun h => by cases h), fun h => hV2.out.2 ⟨h.1, fun k hk => h.2 k (by omega)⟩⟩, hX3, hbr4 _⟩
                    | true =>
                      by_cases he : g = h
                      · subst he
                        go_wp2
                        go_big_quiet (fail)
                        go_wp2
                        go_roundg (gk - 1)
                        case measure => have := hjg.out; omega
                        case rel =>
                          refine ⟨j + 1, false, rfl, rfl, Lib.hid (by have := hjg.out; omega), Lib.hid ⟨(fun h => by cases h), fun h => absurd Hh.out.symm (h.2 j (by omega))⟩, hX3, hbr4 _⟩
                      · have hne3 := ba_ne he
                        have He := Lib.hid he
                        clear he
                        go_wp2
                        go_big_quiet (fail)
                        go_wp2
                        go_roundg (gk - 1)
                        case measure => have := hjg.out; omega
                        case rel =>
                          refine ⟨j + 1, true, rfl, rfl, Lib.hid (by have := hjg.out; omega), Lib.hid ⟨fun _ => ⟨(hV2.out.1 (by first | rfl | trivial)).1, fun k hk => ?_⟩, fun _ => rfl⟩, hX3, hbr4 _⟩
                          by_cases e : k = j
                          · subst e; rw [Hh.out]; exact He.out
                          · exact (hV2.out.1 (by first | rfl | trivial)).2 k (by omega)
                  · obtain rfl : j = i := by have := hjg.out; omega
                    go_wp2
                    go_roundg (gq - 1)
                    case measure => have := hig.out; have := Hgq.out; omega
                    case rel =>
                      refine ⟨j + 1, V2, rfl, rfl, Lib.hid (by have := hig.out; have := Hgq.out; omega), Lib.hid ?_, Lib.hid (fun k hk => ?_), hX3, hbr3⟩
                      · rw [vgn_succ, Hg.out, hV2.out]
                        constructor
                        · rintro ⟨⟨a, b⟩, c⟩; exact ⟨a, b, c⟩
                        · rintro ⟨a, b, c⟩; exact ⟨⟨a, b⟩, c⟩
                      · by_cases e : k = j
                        · subst e; rw [Hg.out]; omega
                        · exact hsz.out k (by omega)
              · have hne := some_of h0
                have C := fun W m => lead_quiet g g.size (by omega) W m hl
                have HO := Lib.hid (one_conv hl h0)
                have hbr2 := fun n => Lib.hid (below_drewN hbr.out n)
                clear hl h0
                go_wp2
                go_big_quiet ((refine C _ _))
                have HX2 : Hid ((wr.drewN nq).heap[w.heap.size]? = some (.cells (arr G) 33 (0, 0))) := hX
                have HB2 := hbr2 nq
                have Hst : Hid (true = true ↔ VGn G i ∧ oneB g = true) := Lib.hid ⟨(fun _ => ⟨hV.out.1 (by first | rfl | trivial), HO.out⟩), (fun _ => rfl)⟩
                clear hbr2
                generalize wr.drewN nq = w3 at HX2 HB2 ⊢
                go_wp2
                try rw [show decide ((i : Int) < 10) = true from by rw [decide_eq_true_eq]; omega]
                go_loopg [5, 7] i (fun gk a v wr => ∃ (j : Nat) (V2 : Bool), a = .bool V2 ∧ v = .int .i64 j ∧ Hid (j + gk = i) ∧ Hid (V2 = true ↔ (VGn G i ∧ oneB g = true) ∧ ∀ k, k < j → g ≠ G k) ∧ Hid (wr.heap[w.heap.size]? = some (.cells (arr G) 33 (0, 0))) ∧ Hid (Below w.heap.size w wr))
                case atStart => exact ⟨0, _, rfl, rfl, Lib.hid (by omega), Lib.hid ⟨fun h => ⟨Hst.out.1 (by first | exact h | trivial), fun k hk => by omega⟩, fun h => by first | exact Hst.out.2 h.1 | simp⟩, HX2, HB2⟩
                case round =>
                  obtain ⟨j, V2, rfl, rfl, hjg, hV2, hX3, hbr3⟩ := hrel
                  by_cases hj : j < i
                  · have hcj := (arr_cell hX3.out (show j < 10 by omega)).1
                    have hci3 : wr.cell? ⟨w.heap.size, i, none⟩ = some (.string g) := by rw [← Hg.out]; exact (arr_cell hX3.out hi).1
                    have hbr4 := fun n => Lib.hid (below_drewN hbr3.out n)
                    obtain ⟨h, hh⟩ : ∃ h, G j = h := ⟨_, rfl⟩
                    have Hh := Lib.hid hh
                    rw [hh] at hcj
                    clear hh
                    cases V2 with
                    | false =>
                      go_wp2
                      go_big_quiet (fail)
                      go_wp2
                      go_roundg (gk - 1)
                      case measure => have := hjg.out; omega
                      case rel =>
                        refine ⟨j + 1, false, rfl, rfl, Lib.hid (by have := hjg.out; omega), Lib.hid ⟨(fun h => by cases h), fun h => hV2.out.2 ⟨h.1, fun k hk => h.2 k (by omega)⟩⟩, hX3, hbr4 _⟩
                    | true =>
                      by_cases he : g = h
                      · subst he
                        go_wp2
                        go_big_quiet (fail)
                        go_wp2
                        go_roundg (gk - 1)
                        case measure => have := hjg.out; omega
                        case rel =>
                          refine ⟨j + 1, false, rfl, rfl, Lib.hid (by have := hjg.out; omega), Lib.hid ⟨(fun h => by cases h), fun h => absurd Hh.out.symm (h.2 j (by omega))⟩, hX3, hbr4 _⟩
                      · have hne3 := ba_ne he
                        have He := Lib.hid he
                        clear he
                        go_wp2
                        go_big_quiet (fail)
                        go_wp2
                        go_roundg (gk - 1)
                        case measure => have := hjg.out; omega
                        case rel =>
                          refine ⟨j + 1, true, rfl, rfl, Lib.hid (by have := hjg.out; omega), Lib.hid ⟨fun _ => ⟨(hV2.out.1 (by first | rfl | trivial)).1, fun k hk => ?_⟩, fun _ => rfl⟩, hX3, hbr4 _⟩
                          by_cases e : k = j
                          · subst e; rw [Hh.out]; exact He.out
                          · exact (hV2.out.1 (by first | rfl | trivial)).2 k (by omega)
                  · obtain rfl : j = i := by have := hjg.out; omega
                    go_wp2
                    go_roundg (gq - 1)
                    case measure => have := hig.out; have := Hgq.out; omega
                    case rel =>
                      refine ⟨j + 1, V2, rfl, rfl, Lib.hid (by have := hig.out; have := Hgq.out; omega), Lib.hid ?_, Lib.hid (fun k hk => ?_), hX3, hbr3⟩
                      · rw [vgn_succ, Hg.out, hV2.out]
                        constructor
                        · rintro ⟨⟨a, b⟩, c⟩; exact ⟨a, b, c⟩
                        · rintro ⟨a, b, c⟩; exact ⟨⟨a, b⟩, c⟩
                      · by_cases e : k = j
                        · subst e; rw [Hg.out]; omega
                        · exact hsz.out k (by omega)
            · obtain ⟨L, hL⟩ : ∃ L, leadL g.data.toList = L := ⟨_, rfl⟩
              have hne1 : ((L : Int) == (g.size : Int)) = false := by rw [beq_eq_false_iff_ne]; omega
              have hne2 : decide ((L : Int) = (g.size : Int)) = false := by rw [decide_eq_false_iff_not]; omega
              have C := fun W m => lead_quiet g L (by omega) W m hL
              have Hl := Lib.hid hl
              have hbr2 := fun n => Lib.hid (below_drewN hbr.out n)
              clear hl hL
              go_wp2
              go_big_quiet ((refine C _ _))
              have HX2 : Hid ((wr.drewN nq).heap[w.heap.size]? = some (.cells (arr G) 33 (0, 0))) := hX
              have HB2 := hbr2 nq
              have Hst : Hid (false = true ↔ VGn G i ∧ oneB g = true) := Lib.hid ⟨(fun h => by cases h), (fun h => absurd (one_not h.2).1 Hl.out)⟩
              clear hbr2
              generalize wr.drewN nq = w3 at HX2 HB2 ⊢
              go_wp2
              try rw [show decide ((i : Int) < 10) = true from by rw [decide_eq_true_eq]; omega]
              go_loopg [5, 7] i (fun gk a v wr => ∃ (j : Nat) (V2 : Bool), a = .bool V2 ∧ v = .int .i64 j ∧ Hid (j + gk = i) ∧ Hid (V2 = true ↔ (VGn G i ∧ oneB g = true) ∧ ∀ k, k < j → g ≠ G k) ∧ Hid (wr.heap[w.heap.size]? = some (.cells (arr G) 33 (0, 0))) ∧ Hid (Below w.heap.size w wr))
              case atStart => exact ⟨0, _, rfl, rfl, Lib.hid (by omega), Lib.hid ⟨fun h => ⟨Hst.out.1 (by first | exact h | trivial), fun k hk => by omega⟩, fun h => by first | exact Hst.out.2 h.1 | simp⟩, HX2, HB2⟩
              case round =>
                obtain ⟨j, V2, rfl, rfl, hjg, hV2, hX3, hbr3⟩ := hrel
                by_cases hj : j < i
                · have hcj := (arr_cell hX3.out (show j < 10 by omega)).1
                  have hci3 : wr.cell? ⟨w.heap.size, i, none⟩ = some (.string g) := by rw [← Hg.out]; exact (arr_cell hX3.out hi).1
                  have hbr4 := fun n => Lib.hid (below_drewN hbr3.out n)
                  obtain ⟨h, hh⟩ : ∃ h, G j = h := ⟨_, rfl⟩
                  have Hh := Lib.hid hh
                  rw [hh] at hcj
                  clear hh
                  cases V2 with
                  | false =>
                    go_wp2
                    go_big_quiet (fail)
                    go_wp2
                    go_roundg (gk - 1)
                    case measure => have := hjg.out; omega
                    case rel =>
                      refine ⟨j + 1, false, rfl, rfl, Lib.hid (by have := hjg.out; omega), Lib.hid ⟨(fun h => by cases h), fun h => hV2.out.2 ⟨h.1, fun k hk => h.2 k (by omega)⟩⟩, hX3, hbr4 _⟩
                  | true =>
                    by_cases he : g = h
                    · subst he
                      go_wp2
                      go_big_quiet (fail)
                      go_wp2
                      go_roundg (gk - 1)
                      case measure => have := hjg.out; omega
                      case rel =>
                        refine ⟨j + 1, false, rfl, rfl, Lib.hid (by have := hjg.out; omega), Lib.hid ⟨(fun h => by cases h), fun h => absurd Hh.out.symm (h.2 j (by omega))⟩, hX3, hbr4 _⟩
                    · have hne3 := ba_ne he
                      have He := Lib.hid he
                      clear he
                      go_wp2
                      go_big_quiet (fail)
                      go_wp2
                      go_roundg (gk - 1)
                      case measure => have := hjg.out; omega
                      case rel =>
                        refine ⟨j + 1, true, rfl, rfl, Lib.hid (by have := hjg.out; omega), Lib.hid ⟨fun _ => ⟨(hV2.out.1 (by first | rfl | trivial)).1, fun k hk => ?_⟩, fun _ => rfl⟩, hX3, hbr4 _⟩
                        by_cases e : k = j
                        · subst e; rw [Hh.out]; exact He.out
                        · exact (hV2.out.1 (by first | rfl | trivial)).2 k (by omega)
                · obtain rfl : j = i := by have := hjg.out; omega
                  go_wp2
                  go_roundg (gq - 1)
                  case measure => have := hig.out; have := Hgq.out; omega
                  case rel =>
                    refine ⟨j + 1, V2, rfl, rfl, Lib.hid (by have := hig.out; have := Hgq.out; omega), Lib.hid ?_, Lib.hid (fun k hk => ?_), hX3, hbr3⟩
                    · rw [vgn_succ, Hg.out, hV2.out]
                      constructor
                      · rintro ⟨⟨a, b⟩, c⟩; exact ⟨a, b, c⟩
                      · rintro ⟨a, b, c⟩; exact ⟨⟨a, b⟩, c⟩
                    · by_cases e : k = j
                      · subst e; rw [Hg.out]; omega
                      · exact hsz.out k (by omega)
        · go_wp2
          go_ret
          exact ⟨rfl, hbr.out⟩
      · obtain rfl : i = 10 := by have := hig.out; omega
        have HVG : Hid (V = true ↔ VG G) := hV
        have HSZ := hsz
        clear hV hi hsz
        obtain ⟨R, hR⟩ : ∃ R, readRes G s.data.toList = R := ⟨_, rfl⟩
        have HR := Lib.hid hR
        clear hR
        go_wp2
        go_loopg [8, 9, 10, 11] (s.size + 1) (fun gk u v x y wr => ∃ (Z : ByteArray) (p : Nat) (out : List Nat), u = .string Z ∧ v = .int .i64 p ∧ Hid (Z.data.toList = digs out) ∧ out.length ≤ p ∧ Hid (p + gk = s.size + 1) ∧ p ≤ s.size ∧ Hid (readFrom G s.data.toList gk p out = R) ∧ Hid (wr.heap[w.heap.size]? = some (.cells (arr G) 33 (0, 0))) ∧ Hid (Below w.heap.size w wr))
        case atStart => exact ⟨⟨#[]⟩, 0, [], rfl, rfl, Lib.hid rfl, Nat.le_refl _, Lib.hid (by omega), Nat.zero_le _, Lib.hid (by rw [← HR.out]; unfold readRes; rw [Array.length_toList]; rfl), hX, hbr⟩
        case round =>
          obtain ⟨Z, p, out, rfl, rfl, hZ, hol, hpg, hps, hsc, hX, hbr⟩ := hrel
          obtain ⟨gp, hgp⟩ : ∃ gp, gp = gk := ⟨_, rfl⟩
          have Hgp := Lib.hid hgp
          clear hgp
          go_wp2
          go_loopg [10, 11] 10 (fun gk x y wr => ∃ (i : Int), x = .int .i64 (oneFrom G (s.data.toList.drop p) (10 - gk) gk).1 ∧ y = .int .i64 i ∧ Hid (i = (gk : Int) - 1) ∧ gk ≤ 10 ∧ Hid (wr.heap[w.heap.size]? = some (.cells (arr G) 33 (0, 0))) ∧ Hid (Below w.heap.size w wr))
          case atStart => exact ⟨9, rfl, rfl, Lib.hid (by decide), by decide, hX, hbr⟩
          case round =>
            obtain ⟨i, rfl, rfl, hik, hg10, hX2, hbr2⟩ := hrel
            have hbr3 := fun n => Lib.hid (below_drewN hbr2.out n)
            cases gk with
            | zero =>
              obtain rfl : i = -1 := by have := hik.out; omega
              obtain ⟨n, rfl⟩ : ∃ n, gp = n + 1 := ⟨gp - 1, by have := Hgp.out; have := hpg.out; omega⟩
              have hst := hsc.out
              rw [← Hgp.out, readFrom] at hst
              rw [show (10 - 0) = 10 from rfl]
              rcases oneFrom_ok G (s.data.toList.drop p) 10 0 rfl with ⟨e1, e2, _⟩ | ⟨d, hd, e2, e3, e4, _⟩
              · rw [e1]
                rw [if_pos (by unfold oneRes; rw [e1]; decide)] at hst
                have Hst := Lib.hid hst
                clear e1 e2 hst
                obtain ⟨c0, c1, c2, c3, c4, c5, c6, c7, c8, c9⟩ := arr10 hX2.out
                go_wp2_with fail
                refine (gread_any G s wr (by omega) (fun i hi => HG.out i hi)).mono ?_
                rw [HR.out, ← Hst.out]
                dsimp only
                rw [show (⟨(digs out).toArray⟩ : ByteArray) = Z from ByteArray.ext (Array.ext' (by rw [hZ.out]))]
                rintro e w2 ⟨rfl, hb2⟩
                have HB2 := Lib.hid (bt hbr2.out hb2)
                have HX2 : Hid (w2.heap[w.heap.size]? = some (.cells (arr G) 33 (0, 0))) := Lib.hid ((hb2.block _ (lt_of_heap hX2.out)).trans hX2.out)
                clear hb2 c0 c1 c2 c3 c4 c5 c6 c7 c8 c9
                obtain ⟨c0, c1, c2, c3, c4, c5, c6, c7, c8, c9⟩ := arr10 HX2.out
                go_wp2_with fail
                refine (gvalid_any G w2 (fun i hi => Nat.le_trans (HSZ.out i hi) (by decide)) (HT.out.below HB2.out)).mono ?_
                rintro e w3 ⟨r, rfl, hr, hb3⟩
                have HB3 := Lib.hid (bt HB2.out hb3)
                obtain rfl : r = V := Bool.eq_iff_iff.2 (hr.trans HVG.out.symm)
                clear hb3 hr c0 c1 c2 c3 c4 c5 c6 c7 c8 c9
                go_wp2_with fail
                refine (plain_any w3).mono ?_
                rintro e w4 ⟨rfl, hb4⟩
                have HB4 := Lib.hid (bt HB3.out hb4)
                clear hb4
                go_wp2_with fail
                refine (gvalid_any dgG w4 (fun i hi => by unfold dgG; show #[dg i].size ≤ _; simp) (HT.out.below HB4.out)).mono ?_
                rintro e w5 ⟨r', rfl, hr', hb5⟩
                have HB5 := Lib.hid (bt HB4.out hb5)
                obtain rfl : r' = true := hr'.2 vg_dg
                clear hb5 hr'
                go_wp2_with fail
                refine (plain_any w5).mono ?_
                rintro e w6 ⟨rfl, hb6⟩
                have HB6 := Lib.hid (bt HB5.out hb6)
                clear hb6
                go_wp2_with fail
                refine (gwrite_any dgG ⟨#[48, 49, 50, 51, 52, 53, 54, 55, 56, 57]⟩ w6 (by decide) (fun i hi => by unfold dgG; show #[dg i].size ≤ _; simp)).mono ?_
                rw [write_dg]
                rintro e w7 ⟨rfl, hb7⟩
                have HB7 := Lib.hid (bt HB6.out hb7)
                clear hb7
                go_wp2_with fail
                go_ret
                exact ⟨rfl, HB7.out⟩
              · have e5 := (pre_len e4).1
                rw [List.length_drop, Array.length_toList, Array.length_toList] at e5
                have e6 : (G d).data.size = (G d).size := rfl
                have e7 : s.data.size = s.size := rfl
                have e8 : oneRes G (s.data.toList.drop p) = ((d : Int), (G d).size) := e2
                rw [e2]
                rw [e8] at hst
                dsimp only at hst ⊢
                rw [if_neg (by omega), Int.toNat_natCast] at hst
                obtain ⟨g, hg⟩ : ∃ g, G d = g := ⟨_, rfl⟩
                rw [hg] at hst e3 e5 e6
                have hn1 : 1 ≤ g.size := by omega
                have hn2 : p + g.size ≤ s.size := by omega
                have hfu : Hid (readFrom G s.data.toList (n + 1 - g.size) (p + g.size) (out ++ [d]) = R) := Lib.hid (by
                  rw [← hst]
                  have h1 := hpg.out
                  have h2 := Hgp.out
                  exact readFrom_fuel G s.data.toList _ _ _ _ (by rw [Array.length_toList]; omega) (by rw [Array.length_toList]; omega) (by rw [Array.length_toList]; omega))
                have hcv := conv_newL wr [dg d] 1 #[.int .u8 (48 + (d : Int))] rfl (by simp) (by unfold dg; rw [show bytesV [UInt8.ofNat (48 + d)] = [byteV (UInt8.ofNat (48 + d))] from rfl, byteV_of (by omega)]; rfl)
                obtain ⟨X, hX1⟩ : ∃ X : ByteArray, ⟨[dg d].toArray⟩ = X := ⟨_, rfl⟩
                rw [hX1] at hcv
                have HXl : Hid (X.data.toList = [dg d]) := Lib.hid (by rw [← hX1])
                have hb3 : Hid (Below w.heap.size w (wr.alloc (.cells #[.int .u8 (48 + (d : Int))] 5))) := Lib.hid (hbr2.out.alloc hbr2.out.size _)
                have HX3 : Hid ((wr.alloc (.cells #[.int .u8 (48 + (d : Int))] 5)).heap[w.heap.size]? = some (.cells (arr G) 33 (0, 0))) := Lib.hid (by
                  rw [heap_alloc_old wr _ (lt_of_heap hX2.out)]; exact hX2.out)
                have hcd := (arr_cell HX3.out hd).1
                rw [hg] at hcd
                have hcd0 := (arr_cell hX2.out hd).1
                rw [hg] at hcd0
                have hzs : Z.size = out.length := by rw [size_of_list hZ.out]; unfold digs; rw [List.length_map]
                have hxs : X.size = 1 := size_of_list HXl.out
                have hsum : ¬ 9223372036854775807 < Z.size + X.size := by omega
                clear e2 e3 e4 e5 e6 e7 e8 hst hX1 hg
                go_wp2
                go_roundg (n + 1 - g.size)
                case measure => have := Hgp.out; omega
                case rel =>
                  exact ⟨Z ++ X, p + g.size, out ++ [d], rfl, rfl, Lib.hid (by rw [app_list, hZ.out, HXl.out]; unfold digs; rw [List.map_append]; rfl), by rw [List.length_append]; simp only [List.length_cons, List.length_nil]; omega, Lib.hid (by have := hpg.out; have := Hgp.out; omega), hn2, hfu, HX3, hb3⟩
            | succ k =>
              obtain rfl : i = (k : Int) := by have := hik.out; omega
              have hstT : (G k).size ≠ 0 ∧ ((G k).size ≤ s.size - p ∧ s.extract p (p + (G k).size) = G k) → (oneFrom G (s.data.toList.drop p) (10 - k) k).1 = (k : Int) := fun hc => by
                rw [show 10 - k = (10 - (k + 1)) + 1 by omega, oneFrom, if_pos ⟨hc.1, (pre_extract hps).1 hc.2⟩]
              have hstF : ¬ ((G k).size ≠ 0 ∧ ((G k).size ≤ s.size - p ∧ s.extract p (p + (G k).size) = G k)) → (oneFrom G (s.data.toList.drop p) (10 - k) k).1 = (oneFrom G (s.data.toList.drop p) (10 - (k + 1)) (k + 1)).1 := fun hc => by
                rw [show 10 - k = (10 - (k + 1)) + 1 by omega, oneFrom, if_neg (fun h => hc ⟨h.1, (pre_extract hps).2 h.2⟩)]
              obtain ⟨D, hD⟩ : ∃ D, (oneFrom G (s.data.toList.drop p) (10 - (k + 1)) (k + 1)).1 = D := ⟨_, rfl⟩
              have hss := HSZ.out k (by omega)
              rw [hD] at hstF ⊢
              have hci := (arr_cell hX2.out (show k < 10 by omega)).1
              obtain ⟨g, hg⟩ : ∃ g, G k = g := ⟨_, rfl⟩
              rw [hg] at hci hstT hstF hss
              clear hD hg
              by_cases h0 : g.size = 0
              · have hemp : g.toList.isEmpty = true := by rw [empty_of h0, Lib.toList_data]; rfl
                have HN := Lib.hid (hstF (fun h => h.1 h0))
                clear hstT hstF h0
                go_wp2
                go_big_quiet (fail)
                go_wp2
                go_roundg k
                case measure => omega
                case rel => exact ⟨(k : Int) - 1, by rw [HN.out], rfl, Lib.hid rfl, by omega, hX2, hbr3 _⟩
              · have hne := some_of h0
                by_cases h1 : g.size ≤ s.size - p
                · have hle : decide ((g.size : Int) ≤ (s.size : Int) - (p : Int)) = true := by rw [decide_eq_true_eq]; omega
                  by_cases h2 : s.extract p (p + g.size) = g
                  · have HN := Lib.hid (hstT ⟨h0, h1, h2⟩)
                    clear hstT hstF
                    go_wp2
                    go_big_quiet (fail)
                    go_wp2
                    go_roundg k
                    case measure => omega
                    case rel => exact ⟨(k : Int) - 1, by rw [HN.out], rfl, Lib.hid rfl, by omega, hX2, hbr3 _⟩
                  · have hne2 := ba_ne h2
                    have HN := Lib.hid (hstF (fun h => h2 h.2.2))
                    clear hstT hstF h2
                    go_wp2
                    go_big_quiet (fail)
                    go_wp2
                    go_roundg k
                    case measure => omega
                    case rel => exact ⟨(k : Int) - 1, by rw [HN.out], rfl, Lib.hid rfl, by omega, hX2, hbr3 _⟩
                · have hle : decide ((g.size : Int) ≤ (s.size : Int) - (p : Int)) = false := by rw [decide_eq_false_iff_not]; omega
                  have HN := Lib.hid (hstF (fun h => h1 h.2.1))
                  clear hstT hstF
                  go_wp2
                  go_big_quiet (fail)
                  go_wp2
                  go_roundg k
                  case measure => omega
                  case rel => exact ⟨(k : Int) - 1, by rw [HN.out], rfl, Lib.hid rfl, by omega, hX2, hbr3 _⟩
  · go_wp2_with fail
    go_ret
    exact ⟨rfl, HB1.out⟩
end Go.Proofs.YtajioajigpneoaaDoor
