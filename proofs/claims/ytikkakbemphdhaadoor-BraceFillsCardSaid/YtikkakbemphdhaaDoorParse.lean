/- The walk of Parse. -/
import Derived.Test.YtikkakbemphdhaaDoorOrder
import Derived.Test.YtikkakbemphdhaaDoorPure
import Derived.Test.YtikkakbemphdhaaDoorLib3
import Derived.Deep.LoopGhost
import Derived.Test.YtikkakbemphdhaaDoorRow2
import Derived.Test.YtikkakbemphdhaaDoorHeld
set_option linter.unusedSimpArgs false
set_option linter.unusedVariables false
namespace Go.Proofs.YtikkakbemphdhaaDoor
open Go.RowKit Go.Fl Go.Shelf


def strsV (l : List (List UInt8)) : List Value := l.map fun t => Value.string ⟨t.toArray⟩

/-- what Parse comes to. -/
def parseRes (s : ByteArray) (n : Int) : Br.Res := if valid s = true then Br.scan n s.data.toList 0 [] [] [] else .err 1 0

def ParsePost (s : ByteArray) (n : Int) (w : World) (e : Ending) (w' : World) : Prop :=
  match parseRes s n with
  | .err c p => e = .returned (.tuple #[.agg #[.slice none 0 0, .slice none 0 0], .int .i64 c, .int .i64 p]) ∧ Below w.heap.size w w'
  | .ok ts ps => ∃ tv pv : Value, e = .returned (.tuple #[.agg #[tv, pv], .int .i64 0, .int .i64 0]) ∧ w'.ownsRow w.heap.size 9 1 tv ts.length (strsV ts) ∧ w'.ownsRow w.heap.size 3 1 pv ps.length (intsV ps) ∧ Below w.heap.size w w'

theorem Tabs.below {w w' : World} (h : Tabs w) (hb : Below w.heap.size w w') : Tabs w' := by
  exact Utf8Tabs_below h hb

theorem two {W : World} {b t : Nat} {x y : Value} (h : W.heap[b]? = some (.cells #[x, y] t (0, 0))) :
    W.cell? ⟨b, 0, none⟩ = some x ∧ W.cell? ⟨b, 1, none⟩ = some y ∧ W.frozen? ⟨b, 0, none⟩ = false ∧ W.frozen? ⟨b, 1, none⟩ = false := by
  refine ⟨?_, ?_, ?_, ?_⟩
  · simp [World.cell?, h]
  · simp [World.cell?, h]
  · simp [World.frozen?, h]
  · simp [World.frozen?, h]

set_option maxRecDepth 100000 in
set_option maxHeartbeats 800000 in
theorem parse_bad (s : ByteArray) (n : Int) (w : World) (hs : s.size ≤ 1000) (hT : Tabs w) (hv : valid s = false) : Calls Tryd.prog 10 #[.string s, .int .i64 n] w (ParsePost s n w) := by
  have HP : Hid (parseRes s n = .err 1 0) := Lib.hid (by unfold parseRes; rw [hv]; rfl)
  have HT := Lib.hid hT
  clear hT
  go_enter Tryd.func10, Tryd.ntmps10
  go_wp2_with fail
  refine (right_any s _ (by omega) (HT.out.below ((Below.refl _ _).alloc (Nat.le_refl _) _))).mono ?_
  rintro e w1 ⟨rfl, hb⟩
  rw [hv]
  obtain ⟨hc0, hc1, hf0, hf1⟩ := two ((hb.block w.heap.size (by simp)).trans (heap_alloc_new w _))
  go_wp2
  refine bodyPost_ret (v := .tuple #[.agg #[.slice none 0 0, .slice none 0 0], .int .i64 1, .int .i64 0]) (by simp [results, Tryd.results10, go_sem, hc0, hc1]) rfl ?_
  unfold ParsePost
  rw [HP.out]
  exact ⟨rfl, ((((Below.refl _ _).alloc (Nat.le_refl _) _).trans (hb.mono (by simp))).setCell (Nat.le_refl _) _).setCell (Nat.le_refl _) _⟩

/-- which places were seen. -/
def seenV (ps : List Nat) : List Value := (List.range 10).map fun k => Value.bool (decide (k ∈ ps))

/-- what holds at the loop's head: at i; the text begun at fr. -/
structure PI (s : ByteArray) (n : Int) (w wr : World) (o q i fr : Nat) (ts : List (List UInt8)) (ps : List Nat) : Prop where
  le1 : fr ≤ i
  le2 : i ≤ s.size
  scan : Br.scan n (s.data.toList.drop i) i ((s.data.toList.drop fr).take (i - fr)) ts ps = Br.scan n s.data.toList 0 [] [] []
  res : wr.heap[w.heap.size]? = some (.cells #[.slice none 0 0, .slice none 0 0] 29 (0, 0))
  out : ∃ tv pv, wr.heap[o]? = some (.cells #[tv, pv] 29 (0, 0)) ∧ wr.ownsRow w.heap.size 9 1 tv ts.length (strsV ts) ∧ wr.ownsRow w.heap.size 3 1 pv ps.length (intsV ps)
  seen : wr.heap[q]? = some (.cells (seenV ps).toArray 37 (0, 0))
  lo : w.heap.size < o ∧ o < q
  len : ts.length = ps.length ∧ ps.Nodup ∧ ∀ k ∈ ps, k < 10
  low : Below w.heap.size w wr

theorem seen_cell {W : World} {q k : Nat} {ps : List Nat} (h : W.heap[q]? = some (.cells (seenV ps).toArray 37 (0, 0))) (hk : k < 10) :
    W.cell? ⟨q, k, none⟩ = some (.bool (decide (k ∈ ps))) ∧ W.frozen? ⟨q, k, none⟩ = false := by
  refine ⟨?_, ?_⟩
  · simp [World.cell?, h, seenV, hk]
  · simp [World.frozen?, h]

theorem drop_cons {s : ByteArray} {i : Nat} (h : i < s.size) : s.data.toList.drop i = s[i] :: s.data.toList.drop (i + 1) := by
  have h' : i < s.data.toList.length := by rw [Array.length_toList]; exact h
  rw [List.drop_eq_getElem_cons h']
  rfl
theorem cur_snoc {s : ByteArray} {fr i : Nat} (h1 : fr ≤ i) (h : i < s.size) : (s.data.toList.drop fr).take (i - fr) ++ [s[i]] = (s.data.toList.drop fr).take (i + 1 - fr) := by
  have h' : i - fr < (s.data.toList.drop fr).length := by rw [List.length_drop, Array.length_toList]; show i - fr < s.size - fr; omega
  rw [show i + 1 - fr = (i - fr) + 1 by omega, List.take_succ_eq_append_getElem h']
  congr 2
  simp only [List.getElem_drop]
  show s.data[i] = _
  simp only [show fr + (i - fr) = i by omega]
  rfl

theorem strsV_snoc (ts : List (List UInt8)) (t : List UInt8) : strsV (ts ++ [t]) = strsV ts ++ [.string ⟨t.toArray⟩] := List.map_append
theorem intsV_snoc (ps : List Nat) (k : Nat) : intsV (ps ++ [k]) = intsV ps ++ [.int .i64 k] := List.map_append
theorem ext_of (s : ByteArray) (fr i : Nat) : s.extract fr i = ⟨((s.data.toList.drop fr).take (i - fr)).toArray⟩ := by
  refine ByteArray.ext ?_
  rw [ByteArray.data_extract]
  refine Array.ext' ?_
  rw [Array.toList_extract, List.extract_eq_take_drop]
theorem len_snoc {ts : List (List UInt8)} {ps : List Nat} {t : List UInt8} {k : Nat} (h : ts.length = ps.length ∧ ps.Nodup ∧ ∀ k ∈ ps, k < 10) (hin : k ∉ ps) (hk : k < 10) : (ts ++ [t]).length = (ps ++ [k]).length ∧ (ps ++ [k]).Nodup ∧ ∀ j ∈ ps ++ [k], j < 10 := by
  refine ⟨by simp [h.1], ?_, fun j hj => ?_⟩
  · rw [List.nodup_append]
    exact ⟨h.2.1, by simp, fun a ha b hb e => by simp at hb; subst hb; exact hin (e ▸ ha)⟩
  · rcases List.mem_append.1 hj with h1 | h1
    · exact h.2.2 j h1
    · simp at h1; omega

theorem seenV_set (ps : List Nat) (k : Nat) (hk : k < 10) : (seenV ps).toArray.setIfInBounds k (.bool true) = (seenV (ps ++ [k])).toArray := by
  rw [List.setIfInBounds_toArray]
  congr 1
  refine List.ext_getElem (by simp [seenV]) fun j h1 h2 => ?_
  rw [List.getElem_set]
  simp only [seenV, List.getElem_map, List.getElem_range]
  by_cases h : k = j
  · subst h; simp
  · have h' : ¬ j = k := fun e => h e.symm
    simp [h, h']

set_option maxRecDepth 100000 in
set_option maxHeartbeats 8000000 in
theorem parse_good (s : ByteArray) (n : Int) (w : World) (hs : s.size ≤ 1000) (hT : Tabs w) (hv : valid s = true) : Calls Tryd.prog 10 #[.string s, .int .i64 n] w (ParsePost s n w) := by
  have HP : Hid (parseRes s n = Br.scan n s.data.toList 0 [] [] []) := Lib.hid (by unfold parseRes; rw [if_pos hv])
  have HT := Lib.hid hT
  clear hT
  go_enter Tryd.func10, Tryd.ntmps10
  go_wp2_with fail
  refine (right_any s _ (by omega) (HT.out.below ((Below.refl _ _).alloc (Nat.le_refl _) _))).mono ?_
  rintro e w1 ⟨rfl, hb⟩
  rw [hv]
  have Hres := Lib.hid ((hb.block w.heap.size (by simp)).trans (heap_alloc_new w _))
  go_wp2
  have hbs : w.heap.size < w1.heap.size := by have := hb.size; simp at this; omega
  obtain ⟨o, ho⟩ : ∃ o, w1.heap.size = o := ⟨_, rfl⟩
  have hPI : PI s n w ((w1.alloc (.cells #[.slice none 0 0, .slice none 0 0] 29)).alloc (.cells #[.bool false, .bool false, .bool false, .bool false, .bool false, .bool false, .bool false, .bool false, .bool false, .bool false] 37)) o (o + 1) 0 0 [] [] := by
    subst ho
    have k1 := heap_alloc_new w1 (.cells #[.slice none 0 0, .slice none 0 0] 29)
    refine ⟨Nat.le_refl _, Nat.zero_le _, by simp, ?_, ⟨.slice none 0 0, .slice none 0 0, ?_, World.ownsRow_nil _ _ _ _, World.ownsRow_nil _ _ _ _⟩, ?_, ⟨hbs, by omega⟩, ⟨rfl, List.nodup_nil, by simp⟩, ?_⟩
    · rw [Below.heap_alloc _ _ _ (by simp; omega), Below.heap_alloc _ _ _ hbs]; exact Hres.out
    · rw [Below.heap_alloc _ _ _ (by simp)]; exact k1
    · have := heap_alloc_new (w1.alloc (.cells #[.slice none 0 0, .slice none 0 0] 29)) (.cells #[.bool false, .bool false, .bool false, .bool false, .bool false, .bool false, .bool false, .bool false, .bool false, .bool false] 37)
      rw [show (seenV []).toArray = #[.bool false, .bool false, .bool false, .bool false, .bool false, .bool false, .bool false, .bool false, .bool false, .bool false] from rfl]
      simpa using this
    · exact (((((Below.refl w.heap.size w).alloc (Nat.le_refl _) _).trans (hb.mono (by simp))).alloc (by omega) _).alloc (by simp; omega) _)
  have HPI := Lib.hid hPI
  have Hbs := Lib.hid hbs
  clear hPI
  rw [ho]
  clear ho hbs
  go_loopg [9, 10] s.size (fun gk f v wr => ∃ (i fr : Nat) (ts : List (List UInt8)) (ps : List Nat), f = .int .i64 fr ∧ v = .int .i64 i ∧ Hid (i + gk = s.size) ∧ i ≤ s.size ∧ fr ≤ i ∧ PI s n w wr o (o + 1) i fr ts ps)
  case atStart => exact ⟨0, 0, [], [], rfl, rfl, Lib.hid (by omega), by omega, by omega, HPI.out⟩
  case round =>
    obtain ⟨i, fr, ts, ps, rfl, rfl, hig, his, hfi, hI⟩ := hrel
    have HI := Lib.hid hI
    clear hI
    by_cases hil : i < s.size
    · have Hd := Lib.hid (drop_cons hil)
      by_cases h1 : s[i].toNat = 125
      · as_aux_lemma =>
        have hb1 : ((s[i].toNat : Int) == 125) = true := by rw [beq_iff_eq]; omega
        have hres : Hid (parseRes s n = .err 1 i) := Lib.hid (by rw [HP.out, ← HI.out.scan, Hd.out, Br.scan_close n _ _ _ _ _ _ h1])
        obtain ⟨hc0, hc1, hf0, hf1⟩ := two HI.out.res
        clear h1
        go_wp2
        refine bodyPost_ret (v := .tuple #[.agg #[.slice none 0 0, .slice none 0 0], .int .i64 1, .int .i64 i]) (by simp [results, Tryd.results10, go_sem, hc0, hc1]) rfl ?_
        unfold ParsePost
        rw [hres.out]
        exact ⟨rfl, (HI.out.low.setCell (Nat.le_refl _) _).setCell (Nat.le_refl _) _⟩
      · have hb1 : ((s[i].toNat : Int) == 125) = false := by rw [beq_eq_false_iff_ne]; omega
        by_cases h2 : s[i].toNat = 123
        · have hb2 : ((s[i].toNat : Int) == 123) = true := by rw [beq_iff_eq]; omega
          have H2 := Lib.hid h2
          obtain ⟨hc0, hc1, hf0, hf1⟩ := two HI.out.res
          clear h1 h2
          by_cases h3 : i + 2 < s.size
          · have h4 : i + 1 < s.size := by omega
            have hr : Hid (s.data.toList.drop (i + 1) = s[i + 1] :: s[i + 2] :: s.data.toList.drop (i + 3)) := Lib.hid (by rw [drop_cons h4, drop_cons h3])
            have hpl : Hid (Br.place (s.data.toList.drop (i + 1)) = if Br.isDig s[i + 1] = true ∧ s[i + 2].toNat = 125 then some (s[i + 1].toNat - 48, s.data.toList.drop (i + 3)) else none) := Lib.hid (by rw [hr.out, Br.place])
            by_cases h5 : Br.isDig s[i + 1] = true ∧ s[i + 2].toNat = 125
            · obtain ⟨h6, h7, h8, k, hk, hk10⟩ : ¬ s[i + 1].toNat < 48 ∧ ¬ 57 < s[i + 1].toNat ∧ ((s[i + 2].toNat : Int) != 125) = false ∧ ∃ k, s[i + 1].toNat = 48 + k ∧ k < 10 := by
                have hd := h5.1
                unfold Br.isDig at hd
                simp only [decide_eq_true_eq] at hd
                refine ⟨by omega, by omega, ?_, s[i + 1].toNat - 48, by omega, by omega⟩
                rw [bne_eq_false_iff_eq]
                have := h5.2
                omega
              have hpl2 : Hid (Br.place (s.data.toList.drop (i + 1)) = some (k, s.data.toList.drop (i + 3))) := Lib.hid (by rw [hpl.out, if_pos h5, show s[i + 1].toNat - 48 = k by omega])
              have Hk := Lib.hid hk
              clear h5 hpl
              obtain ⟨hs1, hs2⟩ := seen_cell HI.out.seen hk10
              by_cases hnk : n ≤ (k : Int)
              · have hres : Hid (parseRes s n = .err 3 i) := Lib.hid (by rw [HP.out, ← HI.out.scan, Hd.out, Br.scan_open_bad n _ _ _ _ _ _ _ _ H2.out hpl2.out (.inl hnk)])
                as_aux_lemma =>
                go_wp2
                refine bodyPost_ret (v := .tuple #[.agg #[.slice none 0 0, .slice none 0 0], .int .i64 3, .int .i64 i]) (by simp [results, Tryd.results10, go_sem, hc0, hc1]) rfl ?_
                unfold ParsePost
                rw [hres.out]
                exact ⟨rfl, (HI.out.low.setCell (Nat.le_refl _) _).setCell (Nat.le_refl _) _⟩
              · have hnk2 : (k : Int) < n := by omega
                by_cases hin : k ∈ ps
                · have hres : Hid (parseRes s n = .err 3 i) := Lib.hid (by rw [HP.out, ← HI.out.scan, Hd.out, Br.scan_open_bad n _ _ _ _ _ _ _ _ H2.out hpl2.out (.inr hin)])
                  rw [decide_eq_true hin] at hs1
                  as_aux_lemma =>
                  go_wp2
                  refine bodyPost_ret (v := .tuple #[.agg #[.slice none 0 0, .slice none 0 0], .int .i64 3, .int .i64 i]) (by simp [results, Tryd.results10, go_sem, hc0, hc1]) rfl ?_
                  unfold ParsePost
                  rw [hres.out]
                  exact ⟨rfl, (HI.out.low.setCell (Nat.le_refl _) _).setCell (Nat.le_refl _) _⟩
                · have hsc : Hid (Br.scan n (s.data.toList.drop (i + 3)) (i + 3) [] (ts ++ [(s.data.toList.drop fr).take (i - fr)]) (ps ++ [k]) = Br.scan n s.data.toList 0 [] [] []) := Lib.hid (by
                    rw [← HI.out.scan, Hd.out, Br.scan_open_ok n _ _ _ _ _ _ _ _ H2.out hpl2.out (fun h => h.elim hnk hin)])
                  rw [decide_eq_false hin] at hs1
                  clear hnk
                  as_aux_lemma =>
                  go_wp2
                  obtain ⟨tv, pv, ho, hot, hop⟩ := HI.out.out
                  obtain ⟨tb, tc, rfl⟩ := own_sl hot
                  obtain ⟨pb, pc, rfl⟩ := own_sl hop
                  have hlo := HI.out.lo
                  have hR0 : RW w w.heap.size o (o + 1) #[.slice tb ts.length tc, .slice pb ps.length pc] #[.slice none 0 0, .slice none 0 0] (seenV (ps ++ [k])).toArray (.slice tb ts.length tc) (.slice pb ps.length pc) ts.length ps.length (strsV ts) (intsV ps) (wr.setCell ⟨o + 1, k, none⟩ (.bool true)) := by
                    have h := (RW.mk hot hop ho HI.out.res HI.out.seen HI.out.low).setQ (by omega) (by omega) k (.bool true)
                    rw [seenV_set ps k hk10] at h
                    exact h
                  obtain ⟨W, hW⟩ : ∃ W, wr.setCell ⟨o + 1, k, none⟩ (.bool true) = W := ⟨_, rfl⟩
                  rw [hW] at hR0 ⊢
                  have HR := Lib.hid hR0.drew
                  have HL := Lib.hid HI.out.len
                  have HLo := Lib.hid hlo
                  clear hW hR0 ho hot hop hlo hs1 hs2 hc0 hc1 hf0 hf1 HI HPI hr hpl2 Hd
                  have e11 : (48 + (k : Int) - 48) = k := by omega
                  rw [e11]
                  clear e11
                  refine kBegin (fun w' => w'.heap[o]? = some (.cells #[.slice tb ts.length tc, .slice pb ps.length pc] 29 (0, 0))) [13, 14, 15, 16] (by kernel_rfl) ?_
                  change wpAnyK _ _ _ _ _ _ _ _ _ W.drew
                  obtain ⟨V, hV⟩ : ∃ V, W.drew = V := ⟨_, rfl⟩
                  rw [hV] at HR ⊢
                  clear hV
                  have hS := HR.out.o
                  refine kPure 0 78 (v := ?v0) rfl rfl (by kernel_rfl) (by kernel_rfl) (by kernel_rfl) (fun _ _ _ h => h) (by kernel_rfl) ?h0 ?r0
                  case h0 => (intro w; go_simp <;> with_reducible rfl)
                  simp only [List.setIfInBounds_toArray, List.set_cons_zero, List.set_cons_succ]
                  refine kLoad 1 79 [13, 14, 15, 16] (v := ?v1) rfl rfl (by kernel_rfl) (by kernel_rfl) (by kernel_rfl) (by kernel_rfl) (fun _ _ _ h => h) (by kernel_rfl) ?h1 hS ?r1
                  case h1 => (intro w hSw; (try dsimp only at hSw); obtain ⟨c0, c1, _, _⟩ := two hSw; go_simp <;> with_reducible rfl)
                  simp only [List.setIfInBounds_toArray, List.set_cons_zero, List.set_cons_succ]
                  refine kPure 2 80 (v := ?v2) rfl rfl (by kernel_rfl) (by kernel_rfl) (by kernel_rfl) (fun _ _ _ h => h) (by kernel_rfl) ?h2 ?r2
                  case h2 => (intro w; go_simp <;> with_reducible rfl)
                  simp only [List.setIfInBounds_toArray, List.set_cons_zero, List.set_cons_succ]
                  refine kPure 3 81 (v := ?v3) rfl rfl (by kernel_rfl) (by kernel_rfl) (by kernel_rfl) (fun _ _ _ h => h) (by kernel_rfl) ?h3 ?r3
                  case h3 => (intro w; go_simp <;> with_reducible rfl)
                  simp only [List.setIfInBounds_toArray, List.set_cons_zero, List.set_cons_succ]
                  refine kPure 4 82 (v := ?v4) rfl rfl (by kernel_rfl) (by kernel_rfl) (by kernel_rfl) (fun _ _ _ h => h) (by kernel_rfl) ?h4 ?r4
                  case h4 => (intro w; go_simp <;> with_reducible rfl)
                  simp only [List.setIfInBounds_toArray, List.set_cons_zero, List.set_cons_succ]
                  refine kPure 5 83 (v := ?v5) rfl rfl (by kernel_rfl) (by kernel_rfl) (by kernel_rfl) (fun _ _ _ h => h) (by kernel_rfl) ?h5 ?r5
                  case h5 => (intro w; go_simp <;> with_reducible rfl)
                  simp only [List.setIfInBounds_toArray, List.set_cons_zero, List.set_cons_succ]
                  refine kPure 8 86 (v := ?v8) rfl rfl (by kernel_rfl) (by kernel_rfl) (by kernel_rfl) (fun _ _ _ h => h) (by kernel_rfl) ?h8 ?r8
                  case h8 => (intro w; go_simp <;> with_reducible rfl)
                  simp only [List.setIfInBounds_toArray, List.set_cons_zero, List.set_cons_succ]
                  refine kLoad 9 87 [13, 14, 15, 16] (v := ?v9) rfl rfl (by kernel_rfl) (by kernel_rfl) (by kernel_rfl) (by kernel_rfl) (fun _ _ _ h => h) (by kernel_rfl) ?h9 hS ?r9
                  case h9 => (intro w hSw; (try dsimp only at hSw); obtain ⟨c0, c1, _, _⟩ := two hSw; go_simp <;> with_reducible rfl)
                  simp only [List.setIfInBounds_toArray, List.set_cons_zero, List.set_cons_succ]
                  refine kPure 10 88 (v := ?v10) rfl rfl (by kernel_rfl) (by kernel_rfl) (by kernel_rfl) (fun _ _ _ h => h) (by kernel_rfl) ?h10 ?r10
                  case h10 => (intro w; go_simp <;> with_reducible rfl)
                  simp only [List.setIfInBounds_toArray, List.set_cons_zero, List.set_cons_succ]
                  have hn10 : ts.length ≤ 1000 := by have h1 := nodup_len 10 ps HL.out.2.1 HL.out.2.2; have h2 := HL.out.1; omega
                  have hm10 : ps.length ≤ 1000 := by have h1 := nodup_len 10 ps HL.out.2.1 HL.out.2.2; omega
                  refine kAll (rs := [6, 11]) (by kernel_rfl) (by simp) (kCons rfl (by kernel_rfl) (fun K hK => ?a6) (kCons rfl (by kernel_rfl) (fun K hK => ?b11) kNil))
                  case a6 =>
                    go_simp
                    refine hK.out _ _ (fun _ _ => (HR.out.alloc _).o) ?_
                    obtain ⟨V1, gt, e1, e2, q1, up⟩ := named_alloc V #[.string (s.extract fr i)] 9
                    have HR1 := Lib.hid (HR.out.alloc (.cells #[.string (s.extract fr i)] 9))
                    change wpAnyK _ _ _ _ _ _ _ _ _ (V.alloc (.cells #[.string (s.extract fr i)] 9))
                    rw [e1] at HR1
                    rw [e1, e2]
                    have GT := Lib.hid q1
                    clear hK e1 e2 q1
                    clear up
                    refine kAll (rs := [7, 11]) (by kernel_rfl) (by simp) (kCons rfl (by kernel_rfl) (fun K hK => ?a7) (kCons rfl (by kernel_rfl) (fun K hK => ?a11) kNil))
                    case a7 =>
                      refine wpT HR1.out (.tmp 79) (.tmp 84) rfl gt (s.extract fr i) rfl rfl GT.out hn10 ?_
                      intro tb' tc' V2 hRR far
                      have HR2 := Lib.hid hRR
                      refine hK.out _ _ (fun _ _ => HR2.out.o) ?_
                      clear far
                      clear hK hRR
                      dsimp only [Act.put]
                      simp only [List.setIfInBounds_toArray, List.set_cons_zero, List.set_cons_succ]
                      refine kPure 13 91 (v := ?v13) rfl rfl (by kernel_rfl) (by kernel_rfl) (by kernel_rfl) (fun _ _ _ h => h) (by kernel_rfl) ?h13 ?r13
                      case h13 => (intro w; go_simp <;> with_reducible rfl)
                      simp only [List.setIfInBounds_toArray, List.set_cons_zero, List.set_cons_succ]
                      refine kAll (rs := [11]) (by kernel_rfl) (by simp) (kCons rfl (by kernel_rfl) (fun K hK => ?z11) kNil)
                      case z11 =>
                        go_simp
                        refine hK.out _ _ (fun _ _ => (HR2.out.alloc _).o) ?_
                        obtain ⟨V3, gp, e1, e2, q1, up⟩ := named_alloc V2 #[.int .i64 k] 3
                        have HR3 := Lib.hid (HR2.out.alloc (.cells #[.int .i64 k] 3))
                        change wpAnyK _ _ _ _ _ _ _ _ _ (V2.alloc (.cells #[.int .i64 k] 3))
                        rw [e1] at HR3
                        rw [e1, e2]
                        have GP := Lib.hid q1
                        clear hK e1 e2 q1
                        clear up
                        refine kAll (rs := [12]) (by kernel_rfl) (by simp) (kCons rfl (by kernel_rfl) (fun K hK => ?z12) kNil)
                        case z12 =>
                          refine wpP HR3.out (.tmp 87) (.tmp 89) rfl gp k rfl rfl GP.out hm10 ?_
                          intro pb' pc' V4 hRR far
                          have HR4 := Lib.hid hRR
                          refine hK.out _ _ (fun _ _ => HR4.out.o) ?_
                          clear far
                          clear hK hRR
                          dsimp only [Act.put]
                          simp only [List.setIfInBounds_toArray, List.set_cons_zero, List.set_cons_succ]
                          refine kAll (rs := [14]) (by kernel_rfl) (by simp) (kCons rfl (by kernel_rfl) (fun K hK => ?s14) kNil)
                          case s14 =>
                            obtain ⟨c0, c1, f0, f1⟩ := two HR4.out.o
                            go_simp
                            refine hK.out _ _ (fun h => absurd h (by decide)) ?_
                            clear hK c0 c1 f0 f1
                            have HR8 := Lib.hid (HR4.out.setO (by have := HLo.out; omega) (by omega) 0 (.slice tb' (ts.length + 1 : Nat) tc'))
                            refine kPure 15 92 (v := ?v15) rfl rfl (by kernel_rfl) (by kernel_rfl) (by kernel_rfl) (fun _ _ _ h => h) (by kernel_rfl) ?h15 ?r15
                            case h15 => (intro w; go_simp <;> with_reducible rfl)
                            simp only [List.setIfInBounds_toArray, List.set_cons_zero, List.set_cons_succ]
                            refine kAll (rs := [16]) (by kernel_rfl) (by simp) (kCons rfl (by kernel_rfl) (fun K hK => ?s16) kNil)
                            case s16 =>
                              obtain ⟨c0, c1, f0, f1⟩ := two HR8.out.o
                              go_simp
                              refine hK.out _ _ (fun h => absurd h (by decide)) ?_
                              clear hK c0 c1 f0 f1
                              have HR9 := Lib.hid (HR8.out.setO (by have := HLo.out; omega) (by omega) 1 (.slice pb' (ps.length + 1 : Nat) pc'))
                              refine kDone (by kernel_rfl) ?_ _
                              have R9 := HR9
                              obtain ⟨V9, hV9⟩ : ∃ V9, (V4.setCell ⟨o, 0, none⟩ (.slice tb' (ts.length + 1 : Nat) tc')).setCell ⟨o, 1, none⟩ (.slice pb' (ps.length + 1 : Nat) pc') = V9 := ⟨_, rfl⟩
                              rw [hV9] at R9
                              first | rw [hV9] | fail
                              clear hV9 HR HR8 HR9
                              go_wp2
                              go_roundg (gk - 3)
                              case measure => have := hig.out; omega
                              case rel =>
                                refine ⟨i + 3, i + 3, ts ++ [((s.data.toList.drop fr).take (i - fr))], ps ++ [k], ?_, ?_, Lib.hid (by have := hig.out; omega), by omega, Nat.le_refl _, ?_⟩
                                · congr 1
                                · congr 1
                                · exact { le1 := Nat.le_refl _, le2 := by omega, scan := (by rw [Nat.sub_self, List.take_zero]; exact hsc.out), res := R9.out.r, out := ⟨_, _, R9.out.o, (by rw [List.length_append, strsV_snoc, ← ext_of]; exact R9.out.t), (by rw [List.length_append, intsV_snoc]; exact R9.out.p)⟩, seen := R9.out.q, lo := HLo.out, len := len_snoc HL.out hin hk10, low := R9.out.low }
                    case a11 =>
                      go_simp
                      refine hK.out _ _ (fun _ _ => (HR1.out.alloc _).o) ?_
                      obtain ⟨V2, gp, e1, e2, q1, up⟩ := named_alloc V1 #[.int .i64 k] 3
                      have HR2 := Lib.hid (HR1.out.alloc (.cells #[.int .i64 k] 3))
                      change wpAnyK _ _ _ _ _ _ _ _ _ (V1.alloc (.cells #[.int .i64 k] 3))
                      rw [e1] at HR2
                      rw [e1, e2]
                      have GP := Lib.hid q1
                      clear hK e1 e2 q1
                      replace GT := Lib.hid (up _ _ GT.out)
                      clear up
                      refine kAll (rs := [7]) (by kernel_rfl) (by simp) (kCons rfl (by kernel_rfl) (fun K hK => ?y7B) kNil)
                      case y7B =>
                        refine wpT HR2.out (.tmp 79) (.tmp 84) rfl gt (s.extract fr i) rfl rfl GT.out hn10 ?_
                        intro tb' tc' V3 hRR far
                        have HR3 := Lib.hid hRR
                        refine hK.out _ _ (fun _ _ => HR3.out.o) ?_
                        replace GP := Lib.hid (far _ _ _ _ (by decide) GP.out)
                        clear far
                        clear hK hRR
                        dsimp only [Act.put]
                        simp only [List.setIfInBounds_toArray, List.set_cons_zero, List.set_cons_succ]
                        refine kPure 13 91 (v := ?v13B) rfl rfl (by kernel_rfl) (by kernel_rfl) (by kernel_rfl) (fun _ _ _ h => h) (by kernel_rfl) ?h13B ?r13B
                        case h13B => (intro w; go_simp <;> with_reducible rfl)
                        simp only [List.setIfInBounds_toArray, List.set_cons_zero, List.set_cons_succ]
                        refine kAll (rs := [12]) (by kernel_rfl) (by simp) (kCons rfl (by kernel_rfl) (fun K hK => ?z12B) kNil)
                        case z12B =>
                          refine wpP HR3.out (.tmp 87) (.tmp 89) rfl gp k rfl rfl GP.out hm10 ?_
                          intro pb' pc' V4 hRR far
                          have HR4 := Lib.hid hRR
                          refine hK.out _ _ (fun _ _ => HR4.out.o) ?_
                          clear far
                          clear hK hRR
                          dsimp only [Act.put]
                          simp only [List.setIfInBounds_toArray, List.set_cons_zero, List.set_cons_succ]
                          refine kAll (rs := [14]) (by kernel_rfl) (by simp) (kCons rfl (by kernel_rfl) (fun K hK => ?s14B) kNil)
                          case s14B =>
                            obtain ⟨c0, c1, f0, f1⟩ := two HR4.out.o
                            go_simp
                            refine hK.out _ _ (fun h => absurd h (by decide)) ?_
                            clear hK c0 c1 f0 f1
                            have HR8 := Lib.hid (HR4.out.setO (by have := HLo.out; omega) (by omega) 0 (.slice tb' (ts.length + 1 : Nat) tc'))
                            refine kPure 15 92 (v := ?v15B) rfl rfl (by kernel_rfl) (by kernel_rfl) (by kernel_rfl) (fun _ _ _ h => h) (by kernel_rfl) ?h15B ?r15B
                            case h15B => (intro w; go_simp <;> with_reducible rfl)
                            simp only [List.setIfInBounds_toArray, List.set_cons_zero, List.set_cons_succ]
                            refine kAll (rs := [16]) (by kernel_rfl) (by simp) (kCons rfl (by kernel_rfl) (fun K hK => ?s16B) kNil)
                            case s16B =>
                              obtain ⟨c0, c1, f0, f1⟩ := two HR8.out.o
                              go_simp
                              refine hK.out _ _ (fun h => absurd h (by decide)) ?_
                              clear hK c0 c1 f0 f1
                              have HR9 := Lib.hid (HR8.out.setO (by have := HLo.out; omega) (by omega) 1 (.slice pb' (ps.length + 1 : Nat) pc'))
                              refine kDone (by kernel_rfl) ?_ _
                              have R9 := HR9
                              obtain ⟨V9, hV9⟩ : ∃ V9, (V4.setCell ⟨o, 0, none⟩ (.slice tb' (ts.length + 1 : Nat) tc')).setCell ⟨o, 1, none⟩ (.slice pb' (ps.length + 1 : Nat) pc') = V9 := ⟨_, rfl⟩
                              rw [hV9] at R9
                              first | rw [hV9] | fail
                              clear hV9 HR HR8 HR9
                              go_wp2
                              go_roundg (gk - 3)
                              case measure => have := hig.out; omega
                              case rel =>
                                refine ⟨i + 3, i + 3, ts ++ [((s.data.toList.drop fr).take (i - fr))], ps ++ [k], ?_, ?_, Lib.hid (by have := hig.out; omega), by omega, Nat.le_refl _, ?_⟩
                                · congr 1
                                · congr 1
                                · exact { le1 := Nat.le_refl _, le2 := by omega, scan := (by rw [Nat.sub_self, List.take_zero]; exact hsc.out), res := R9.out.r, out := ⟨_, _, R9.out.o, (by rw [List.length_append, strsV_snoc, ← ext_of]; exact R9.out.t), (by rw [List.length_append, intsV_snoc]; exact R9.out.p)⟩, seen := R9.out.q, lo := HLo.out, len := len_snoc HL.out hin hk10, low := R9.out.low }
                  case b11 =>
                    go_simp
                    refine hK.out _ _ (fun _ _ => (HR.out.alloc _).o) ?_
                    obtain ⟨V1, gp, e1, e2, q1, up⟩ := named_alloc V #[.int .i64 k] 3
                    have HR1 := Lib.hid (HR.out.alloc (.cells #[.int .i64 k] 3))
                    change wpAnyK _ _ _ _ _ _ _ _ _ (V.alloc (.cells #[.int .i64 k] 3))
                    rw [e1] at HR1
                    rw [e1, e2]
                    have GP := Lib.hid q1
                    clear hK e1 e2 q1
                    clear up
                    refine kAll (rs := [6]) (by kernel_rfl) (by simp) (kCons rfl (by kernel_rfl) (fun K hK => ?y6C) kNil)
                    case y6C =>
                      go_simp
                      refine hK.out _ _ (fun _ _ => (HR1.out.alloc _).o) ?_
                      obtain ⟨V2, gt, e1, e2, q1, up⟩ := named_alloc V1 #[.string (s.extract fr i)] 9
                      have HR2 := Lib.hid (HR1.out.alloc (.cells #[.string (s.extract fr i)] 9))
                      change wpAnyK _ _ _ _ _ _ _ _ _ (V1.alloc (.cells #[.string (s.extract fr i)] 9))
                      rw [e1] at HR2
                      rw [e1, e2]
                      have GT := Lib.hid q1
                      clear hK e1 e2 q1
                      replace GP := Lib.hid (up _ _ GP.out)
                      clear up
                      refine kAll (rs := [7]) (by kernel_rfl) (by simp) (kCons rfl (by kernel_rfl) (fun K hK => ?y7C) kNil)
                      case y7C =>
                        refine wpT HR2.out (.tmp 79) (.tmp 84) rfl gt (s.extract fr i) rfl rfl GT.out hn10 ?_
                        intro tb' tc' V3 hRR far
                        have HR3 := Lib.hid hRR
                        refine hK.out _ _ (fun _ _ => HR3.out.o) ?_
                        replace GP := Lib.hid (far _ _ _ _ (by decide) GP.out)
                        clear far
                        clear hK hRR
                        dsimp only [Act.put]
                        simp only [List.setIfInBounds_toArray, List.set_cons_zero, List.set_cons_succ]
                        refine kPure 13 91 (v := ?v13C) rfl rfl (by kernel_rfl) (by kernel_rfl) (by kernel_rfl) (fun _ _ _ h => h) (by kernel_rfl) ?h13C ?r13C
                        case h13C => (intro w; go_simp <;> with_reducible rfl)
                        simp only [List.setIfInBounds_toArray, List.set_cons_zero, List.set_cons_succ]
                        refine kAll (rs := [12]) (by kernel_rfl) (by simp) (kCons rfl (by kernel_rfl) (fun K hK => ?z12C) kNil)
                        case z12C =>
                          refine wpP HR3.out (.tmp 87) (.tmp 89) rfl gp k rfl rfl GP.out hm10 ?_
                          intro pb' pc' V4 hRR far
                          have HR4 := Lib.hid hRR
                          refine hK.out _ _ (fun _ _ => HR4.out.o) ?_
                          clear far
                          clear hK hRR
                          dsimp only [Act.put]
                          simp only [List.setIfInBounds_toArray, List.set_cons_zero, List.set_cons_succ]
                          refine kAll (rs := [14]) (by kernel_rfl) (by simp) (kCons rfl (by kernel_rfl) (fun K hK => ?s14C) kNil)
                          case s14C =>
                            obtain ⟨c0, c1, f0, f1⟩ := two HR4.out.o
                            go_simp
                            refine hK.out _ _ (fun h => absurd h (by decide)) ?_
                            clear hK c0 c1 f0 f1
                            have HR8 := Lib.hid (HR4.out.setO (by have := HLo.out; omega) (by omega) 0 (.slice tb' (ts.length + 1 : Nat) tc'))
                            refine kPure 15 92 (v := ?v15C) rfl rfl (by kernel_rfl) (by kernel_rfl) (by kernel_rfl) (fun _ _ _ h => h) (by kernel_rfl) ?h15C ?r15C
                            case h15C => (intro w; go_simp <;> with_reducible rfl)
                            simp only [List.setIfInBounds_toArray, List.set_cons_zero, List.set_cons_succ]
                            refine kAll (rs := [16]) (by kernel_rfl) (by simp) (kCons rfl (by kernel_rfl) (fun K hK => ?s16C) kNil)
                            case s16C =>
                              obtain ⟨c0, c1, f0, f1⟩ := two HR8.out.o
                              go_simp
                              refine hK.out _ _ (fun h => absurd h (by decide)) ?_
                              clear hK c0 c1 f0 f1
                              have HR9 := Lib.hid (HR8.out.setO (by have := HLo.out; omega) (by omega) 1 (.slice pb' (ps.length + 1 : Nat) pc'))
                              refine kDone (by kernel_rfl) ?_ _
                              have R9 := HR9
                              obtain ⟨V9, hV9⟩ : ∃ V9, (V4.setCell ⟨o, 0, none⟩ (.slice tb' (ts.length + 1 : Nat) tc')).setCell ⟨o, 1, none⟩ (.slice pb' (ps.length + 1 : Nat) pc') = V9 := ⟨_, rfl⟩
                              rw [hV9] at R9
                              first | rw [hV9] | fail
                              clear hV9 HR HR8 HR9
                              go_wp2
                              go_roundg (gk - 3)
                              case measure => have := hig.out; omega
                              case rel =>
                                refine ⟨i + 3, i + 3, ts ++ [((s.data.toList.drop fr).take (i - fr))], ps ++ [k], ?_, ?_, Lib.hid (by have := hig.out; omega), by omega, Nat.le_refl _, ?_⟩
                                · congr 1
                                · congr 1
                                · exact { le1 := Nat.le_refl _, le2 := by omega, scan := (by rw [Nat.sub_self, List.take_zero]; exact hsc.out), res := R9.out.r, out := ⟨_, _, R9.out.o, (by rw [List.length_append, strsV_snoc, ← ext_of]; exact R9.out.t), (by rw [List.length_append, intsV_snoc]; exact R9.out.p)⟩, seen := R9.out.q, lo := HLo.out, len := len_snoc HL.out hin hk10, low := R9.out.low }
            · have hres : Hid (parseRes s n = .err 1 i) := Lib.hid (by rw [HP.out, ← HI.out.scan, Hd.out, Br.scan_open_none n _ _ _ _ _ _ H2.out (by rw [hpl.out, if_neg h5])])
              have h6 : (s[i + 1].toNat < 48) ∨ (¬ s[i + 1].toNat < 48 ∧ 57 < s[i + 1].toNat) ∨ (¬ s[i + 1].toNat < 48 ∧ ¬ 57 < s[i + 1].toNat ∧ ((s[i + 2].toNat : Int) != 125) = true) := by
                unfold Br.isDig at h5
                simp only [decide_eq_true_eq] at h5
                by_cases q1 : s[i + 1].toNat < 48
                · exact .inl q1
                · by_cases q2 : 57 < s[i + 1].toNat
                  · exact .inr (.inl ⟨q1, q2⟩)
                  · refine .inr (.inr ⟨q1, q2, ?_⟩)
                    rw [bne_iff_ne]
                    omega
              clear h5
              rcases h6 with h6 | ⟨h6, h7⟩ | ⟨h6, h7, h8⟩
              all_goals
                as_aux_lemma =>
                go_wp2
                refine bodyPost_ret (v := .tuple #[.agg #[.slice none 0 0, .slice none 0 0], .int .i64 1, .int .i64 i]) (by simp [results, Tryd.results10, go_sem, hc0, hc1]) rfl ?_
                unfold ParsePost
                rw [hres.out]
                exact ⟨rfl, (HI.out.low.setCell (Nat.le_refl _) _).setCell (Nat.le_refl _) _⟩
          · as_aux_lemma =>
            have hres : Hid (parseRes s n = .err 1 i) := Lib.hid (by
              rw [HP.out, ← HI.out.scan, Hd.out, Br.scan_open_none n _ _ _ _ _ _ H2.out]
              by_cases h4 : i + 1 < s.size
              · rw [drop_cons h4, List.drop_of_length_le (by rw [Array.length_toList]; show s.size ≤ i + 1 + 1; omega)]; rfl
              · rw [List.drop_of_length_le (by rw [Array.length_toList]; show s.size ≤ i + 1; omega)]; rfl)
            go_wp2
            refine bodyPost_ret (v := .tuple #[.agg #[.slice none 0 0, .slice none 0 0], .int .i64 1, .int .i64 i]) (by simp [results, Tryd.results10, go_sem, hc0, hc1]) rfl ?_
            unfold ParsePost
            rw [hres.out]
            exact ⟨rfl, (HI.out.low.setCell (Nat.le_refl _) _).setCell (Nat.le_refl _) _⟩
        · as_aux_lemma =>
          have hb2 : ((s[i].toNat : Int) == 123) = false := by rw [beq_eq_false_iff_ne]; omega
          have hsc : Hid (Br.scan n (s.data.toList.drop (i + 1)) (i + 1) ((s.data.toList.drop fr).take (i + 1 - fr)) ts ps = Br.scan n s.data.toList 0 [] [] []) := Lib.hid (by
            rw [← HI.out.scan, Hd.out, Br.scan_byte n _ _ _ _ _ _ h1 h2, cur_snoc hfi hil])
          clear h1 h2
          go_wp2
          go_roundg (gk - 1)
          case measure => have := hig.out; omega
          case rel => exact ⟨i + 1, fr, ts, ps, rfl, rfl, Lib.hid (by have := hig.out; omega), by omega, by omega, { HI.out with le1 := by omega, le2 := by omega, scan := hsc.out }⟩
    · obtain rfl : i = s.size := by omega
      obtain ⟨tv, pv, ho, hot, hop⟩ := HI.out.out
      obtain ⟨tb, tc, rfl⟩ := own_sl hot
      obtain ⟨pb, pc, rfl⟩ := own_sl hop
      have Ht := Lib.hid hot
      have Hp := Lib.hid hop
      have Ho := Lib.hid ho
      obtain ⟨ho0, ho1, hq0, hq1⟩ := two ho
      obtain ⟨hc0, hc1, hf0, hf1⟩ := two HI.out.res
      have hsc : Hid (Br.scan n s.data.toList 0 [] [] [] = if (ps.length : Int) < min n 10 then .err 3 s.size else .ok (ts ++ [(s.data.toList.drop fr).take (s.size - fr)]) ps) := Lib.hid (by
        rw [← HI.out.scan, List.drop_of_length_le (by rw [Array.length_toList]; exact Nat.le_refl _), Br.scan_nil])
      clear hot hop ho hil
      by_cases hlt : (ps.length : Int) < min n 10
      · have hres : Hid (parseRes s n = .err 3 s.size) := Lib.hid (by rw [HP.out, hsc.out, if_pos hlt])
        as_aux_lemma =>
        go_wp2
        refine bodyPost_ret (v := .tuple #[.agg #[.slice none 0 0, .slice none 0 0], .int .i64 3, .int .i64 s.size]) (by simp [results, Tryd.results10, go_sem, hc0, hc1]) rfl ?_
        unfold ParsePost
        rw [hres.out]
        exact ⟨rfl, (HI.out.low.setCell (Nat.le_refl _) _).setCell (Nat.le_refl _) _⟩
      · have hres : Hid (parseRes s n = .ok (ts ++ [(s.data.toList.drop fr).take (s.size - fr)]) ps) := Lib.hid (by rw [HP.out, hsc.out, if_neg hlt])
        as_aux_lemma =>
        have hR0 : RW w w.heap.size o (o + 1) #[.slice tb ts.length tc, .slice pb ps.length pc] #[.slice none 0 0, .slice none 0 0] (seenV ps).toArray (.slice tb ts.length tc) (.slice pb ps.length pc) ts.length ps.length (strsV ts) (intsV ps) wr := RW.mk Ht.out Hp.out Ho.out HI.out.res HI.out.seen HI.out.low
        have HL := Lib.hid HI.out.len
        have HLo := Lib.hid HI.out.lo
        have HR := Lib.hid hR0.drew
        go_wp2
        clear hR0 ho0 ho1 hq0 hq1 hc0 hc1 hf0 hf1 HPI
        refine kBegin (fun w' => w'.heap[o]? = some (.cells #[.slice tb ts.length tc, .slice pb ps.length pc] 29 (0, 0))) [7, 8] (by kernel_rfl) ?_
        change wpAnyK _ _ _ _ _ _ _ _ _ wr.drew
        obtain ⟨V, hV⟩ : ∃ V, wr.drew = V := ⟨_, rfl⟩
        rw [hV] at HR ⊢
        clear hV
        have hS := HR.out.o
        have hn10 : ts.length ≤ 1000 := by have h1 := nodup_len 10 ps HL.out.2.1 HL.out.2.2; have h2 := HL.out.1; omega
        refine kPure 0 106 (v := ?v0Z) rfl rfl (by kernel_rfl) (by kernel_rfl) (by kernel_rfl) (fun _ _ _ h => h) (by kernel_rfl) ?h0Z ?r0Z
        case h0Z => (intro w; go_simp <;> with_reducible rfl)
        simp only [List.setIfInBounds_toArray, List.set_cons_zero, List.set_cons_succ]
        refine kLoad 1 107 [7, 8] (v := ?v1Z) rfl rfl (by kernel_rfl) (by kernel_rfl) (by kernel_rfl) (by kernel_rfl) (fun _ _ _ h => h) (by kernel_rfl) ?h1Z hS ?r1Z
        case h1Z => (intro w hSw; (try dsimp only at hSw); obtain ⟨c0, c1, _, _⟩ := two hSw; go_simp <;> with_reducible rfl)
        simp only [List.setIfInBounds_toArray, List.set_cons_zero, List.set_cons_succ]
        refine kPure 2 108 (v := ?v2Z) rfl rfl (by kernel_rfl) (by kernel_rfl) (by kernel_rfl) (fun _ _ _ h => h) (by kernel_rfl) ?h2Z ?r2Z
        case h2Z => (intro w; go_simp <;> with_reducible rfl)
        simp only [List.setIfInBounds_toArray, List.set_cons_zero, List.set_cons_succ]
        refine kPure 3 109 (v := ?v3Z) rfl rfl (by kernel_rfl) (by kernel_rfl) (by kernel_rfl) (fun _ _ _ h => h) (by kernel_rfl) ?h3Z ?r3Z
        case h3Z => (intro w; go_simp <;> with_reducible rfl)
        simp only [List.setIfInBounds_toArray, List.set_cons_zero, List.set_cons_succ]
        refine kPure 4 110 (v := ?v4Z) rfl rfl (by kernel_rfl) (by kernel_rfl) (by kernel_rfl) (fun _ _ _ h => h) (by kernel_rfl) ?h4Z ?r4Z
        case h4Z => (intro w; go_simp <;> with_reducible rfl)
        simp only [List.setIfInBounds_toArray, List.set_cons_zero, List.set_cons_succ]
        refine kAll (rs := [5]) (by kernel_rfl) (by simp) (kCons rfl (by kernel_rfl) (fun K hK => ?s5Z) kNil)
        case s5Z =>
          go_simp
          refine hK.out _ _ (fun _ _ => (HR.out.alloc _).o) ?_
          obtain ⟨V1, gt, e1, e2, q1, up⟩ := named_alloc V #[.string (s.extract fr s.size)] 9
          have HR1 := Lib.hid (HR.out.alloc (.cells #[.string (s.extract fr s.size)] 9))
          change wpAnyK _ _ _ _ _ _ _ _ _ (V.alloc (.cells #[.string (s.extract fr s.size)] 9))
          rw [e1] at HR1
          rw [e1, e2]
          have GT := Lib.hid q1
          clear hK e1 e2 q1
          clear up
          refine kAll (rs := [6]) (by kernel_rfl) (by simp) (kCons rfl (by kernel_rfl) (fun K hK => ?s6Z) kNil)
          case s6Z =>
            refine wpT HR1.out (.tmp 107) (.tmp 111) rfl gt (s.extract fr s.size) rfl rfl GT.out hn10 ?_
            intro tb' tc' V2 hRR far
            have HR2 := Lib.hid hRR
            refine hK.out _ _ (fun _ _ => HR2.out.o) ?_
            clear hK hRR far
            dsimp only [Act.put]
            simp only [List.setIfInBounds_toArray, List.set_cons_zero, List.set_cons_succ]
            refine kPure 7 113 (v := ?v7Z) rfl rfl (by kernel_rfl) (by kernel_rfl) (by kernel_rfl) (fun _ _ _ h => h) (by kernel_rfl) ?h7Z ?r7Z
            case h7Z => (intro w; go_simp <;> with_reducible rfl)
            simp only [List.setIfInBounds_toArray, List.set_cons_zero, List.set_cons_succ]
            refine kAll (rs := [8]) (by kernel_rfl) (by simp) (kCons rfl (by kernel_rfl) (fun K hK => ?s8Z) kNil)
            case s8Z =>
              obtain ⟨c0, c1, f0, f1⟩ := two HR2.out.o
              go_simp
              refine hK.out _ _ (fun h => absurd h (by decide)) ?_
              clear hK c0 c1 f0 f1
              have HR8 := Lib.hid (HR2.out.setO (by have := HLo.out; omega) (by omega) 0 (.slice tb' (ts.length + 1 : Nat) tc'))
              refine kDone (by kernel_rfl) ?_ _
              obtain ⟨V9, hV9⟩ : ∃ V9, V2.setCell ⟨o, 0, none⟩ (.slice tb' (ts.length + 1 : Nat) tc') = V9 := ⟨_, rfl⟩
              rw [hV9] at HR8
              first | rw [hV9] | fail
              clear hV9 HR HR1 HR2 GT
              obtain ⟨c0, c1, f0, f1⟩ := two HR8.out.o
              obtain ⟨d0, d1, g0, g1⟩ := two HR8.out.r
              go_wp2
              have HZ := Lib.hid ((HR8.out.setR (by have := HLo.out; omega) (by have := HLo.out; omega) 0 (.slice tb' (ts.length + 1 : Nat) tc')).setR (by have := HLo.out; omega) (by have := HLo.out; omega) 1 (.slice pb ps.length pc))
              obtain ⟨x0, x1, _, _⟩ := two HZ.out.r
              refine bodyPost_ret (v := .tuple #[.agg #[.slice tb' (ts.length + 1 : Nat) tc', .slice pb ps.length pc], .int .i64 0, .int .i64 0]) (by simp [results, Tryd.results10, go_sem, c0, c1, d0, d1, x0, x1]) rfl ?_
              unfold ParsePost
              rw [hres.out]
              refine ⟨_, _, rfl, ?_, HZ.out.p, HZ.out.low⟩
              rw [List.length_append, strsV_snoc, ← ext_of]
              exact HZ.out.t
end Go.Proofs.YtikkakbemphdhaaDoor
