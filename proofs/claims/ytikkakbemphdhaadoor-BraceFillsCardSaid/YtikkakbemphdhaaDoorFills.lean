/- The walk of BraceFills. -/
import Derived.Test.YtikkakbemphdhaaDoorAgain
import Derived.Test.YtikkakbemphdhaaDoorPure4
namespace Go.Proofs.YtikkakbemphdhaaDoor
open Go.RowKit Go.Fl Go.Shelf
set_option linter.unusedVariables false

/-- what holds at the first loop's head. -/
structure FI (w2 wr : World) (A g c : Nat) (list ts : List (List UInt8)) (P : List Nat) (S Wn : ByteArray) : Prop where
  s : S.data.toList = Br.disp ts P
  f : Wn.data.toList = (Br.fill list ts P [] (List.replicate list.length 0)).1
  mine : wr.ownsRow (A + 1) 9 1 (.slice (some ⟨g, 0, none⟩) ts.length c) ts.length (strsV ts)
  at_ : wr.heap[A]? = some (.cells (intsV (Br.fill list ts P [] (List.replicate list.length 0)).2).toArray 3 (0, 0))
  plain : ∀ t ∈ ts, (∀ b ∈ t, b.toNat ≠ 123 ∧ b.toNat ≠ 125) ∧ Lib.validD t = true
  low : Below w2.heap.size w2 wr

theorem plain_list {t : List UInt8} (h : Plain ⟨t.toArray⟩) : (∀ b ∈ t, b.toNat ≠ 123 ∧ b.toNat ≠ 125) ∧ Lib.validD t = true := by
  refine ⟨fun b hb => ?_, h.2.2⟩
  obtain ⟨i, hi, rfl⟩ := List.mem_iff_getElem.1 hb
  exact h.1 i (by show i < t.toArray.size; simpa using hi)

/-- what parse gives of it. -/
theorem fi_parse {w2 wr : World} {A g c : Nat} {list ts : List (List UInt8)} {P : List Nat} {S Wn : ByteArray} (h : FI w2 wr A g c list ts P S Wn) {m : Nat} (hm : m < 8) (hP : P.length = m) (hnd : P.Nodup) (hlt : ∀ q ∈ P, q < m) (hl : ts.length = m + 1) :
    parseRes S m = .ok ts P := by
  unfold parseRes valid
  rw [h.s, Br.valid_disp ts P (fun t ht => (h.plain t ht).2) (fun k hk => by have := hlt k hk; omega), if_pos rfl]
  have := Br.scan_disp m ts P 0 [] [] (by omega) (fun t ht => (h.plain t ht).1) (by simpa using hnd) (fun k hk => by have := hlt k hk; omega) (by simp; omega)
  simpa using this

/-- one text more. -/
theorem fi_step {w2 wr w' : World} {A g c g' c' : Nat} {list ts : List (List UInt8)} {P : List Nat} {S Wn S' Wn' T : ByteArray} {F' : List Nat} (h : FI w2 wr A g c list ts P S Wn) (hT : Plain T)
    (hs : S'.data.toList = S.data.toList ++ (T.data.toList ++ (match P[ts.length]? with | some p => Br.pl p | none => [])))
    (hst : Br.step list T.data.toList P[ts.length]? (Wn.data.toList, (Br.fill list ts P [] (List.replicate list.length 0)).2) = (Wn'.data.toList, F'))
    (hm : w'.ownsRow (A + 1) 9 1 (.slice (some ⟨g', 0, none⟩) (ts.length + 1 : Nat) c') (ts.length + 1) (strsV ts ++ [.string T]))
    (ha : w'.heap[A]? = some (.cells (intsV F').toArray 3 (0, 0))) (hb : Below w2.heap.size w2 w') : FI w2 w' A g' c' list (ts ++ [T.data.toList]) P S' Wn' := by
  have hf : Br.fill list (ts ++ [T.data.toList]) P [] (List.replicate list.length 0) = (Wn'.data.toList, F') := by
    rw [Br.fill_snoc, ← hst, h.f]
  refine ⟨?_, ?_, ?_, ?_, ?_, hb⟩
  · rw [hs, Br.disp_snoc, h.s]
    rfl
  · rw [hf]
  · rw [List.length_append, strsV_snoc]; exact hm
  · rw [hf]; exact ha
  · intro t ht
    rcases List.mem_append.1 ht with h1 | h1
    · exact h.plain t h1
    · simp at h1; subst h1; exact plain_list hT
theorem fi_at_len {w2 wr : World} {A g c : Nat} {list ts : List (List UInt8)} {P : List Nat} {S Wn : ByteArray} (h : FI w2 wr A g c list ts P S Wn) : (Br.fill list ts P [] (List.replicate list.length 0)).2.length = list.length := by
  rw [Br.fill_at_len, List.length_replicate]

theorem cell_far {W : World} {a b : Addr} (v : Value) (h : a.block ≠ b.block) : (W.setCell b v).cell? a = W.cell? a := by
  simp only [World.cell?, Below.heap_setCell W b v a.block h]
theorem nats_cell {w w' : World} {g : Nat} {P : List Nat} (h : Nats w (some ⟨g, 0, none⟩) P) (hb : Below w.heap.size w w') {i p : Nat} (hp : P[i]? = some p) : w'.cell? ⟨g, i, none⟩ = some (.int .i64 (p : Nat)) := by
  obtain ⟨hi, he⟩ := List.getElem?_eq_some_iff.1 hp
  obtain ⟨b, off, hbo, hlt, hc⟩ := h i hi
  injection hbo with hbo
  injection hbo with e1 e2
  subst e1 e2
  have := (hb.cell (p := ⟨g, 0 + i, none⟩) hlt).trans hc
  rw [Nat.zero_add, he] at this
  exact this


set_option maxRecDepth 100000 in
set_option maxHeartbeats 16000000 in
theorem fills_any (a0 a3 : Option Addr) (txs list : List (List UInt8)) (c0 c3 : Nat) (n k : Int) (w : World) (ht : Strs w a0 txs) (hl : Strs w a3 list) (htb : ∀ t ∈ txs, t.length ≤ 9223372036854775807) (hlb : ∀ t ∈ list, t.length ≤ 9223372036854775807)
    (htl : txs.length ≤ 9223372036854775807) (hll : list.length ≤ 9223372036854775807) (hk : -9223372036854775808 ≤ k ∧ k ≤ 9223372036854775807) (hT : Tabs w) :
    Calls Tryd.prog 3 #[.slice a0 txs.length c0, .int .i64 n, .int .i64 k, .slice a3 list.length c3] w fun e w' => e = .returned (.bool true) ∧ Below w.heap.size w w' := by
  have HT := Lib.hid hT
  have HTx := Lib.hid ht
  have HLi := Lib.hid hl
  have HTb := Lib.hid htb
  have HLb := Lib.hid hlb
  clear hT ht hl htb hlb
  obtain ⟨m, hm, hm8⟩ := and7 n
  go_enter Tryd.func3, Tryd.ntmps3
  go_wp2_with fail
  refine (head_any w HT.out).mono ?_
  rintro e w1 ⟨rfl, hb1⟩
  have HB1 := Lib.hid hb1
  clear hb1
  by_cases hsz : list.length ≤ 12
  · go_wp2_with fail
    refine (order_any m k w1 (by omega) hk).mono ?_
    rintro e w2 ⟨g0, c4, P, rfl, hP, hown, hnd, hlt, hb2⟩
    have HP := Lib.hid hP
    have HB2 := Lib.hid (bt HB1.out hb2)
    have HN : Hid (Nats w2 (some ⟨g0, 0, none⟩) P) := Lib.hid (by
      intro i hi
      have h := cell_of_ints hown i hi
      exact ⟨g0, 0, rfl, (hown.lt g0 rfl).2, by rw [Nat.zero_add]; exact h⟩)
    have HPerm := Lib.hid (And.intro hnd hlt)
    clear hown hnd hlt hb2 hP
    have hmk := make_zeros list.length (by omega)
    go_wp2
    obtain ⟨A, hA⟩ : ∃ A, w2.heap.size = A := ⟨_, rfl⟩
    have HwA : Hid (w2.heap.size = A) := Lib.hid hA
    rw [hA]
    have h3 := heap_alloc_new w2 (.cells (intsV (List.replicate list.length 0)).toArray 3)
    rw [hA] at h3
    obtain ⟨w3, hw3⟩ : ∃ w3, w2.alloc (.cells (intsV (List.replicate list.length 0)).toArray 3) = w3 := ⟨_, rfl⟩
    have hs3 : w3.heap.size = A + 1 := by rw [← hw3, ← hA]; simp
    rw [hw3] at h3 ⊢
    have hb3 : Below w2.heap.size w2 w3 := by rw [← hw3]; exact (Below.refl _ _).alloc (Nat.le_refl _) _
    have H0 : Hid (FI w2 (w3.alloc (.cells #[] 9)) A (A + 1) 0 list [] P ByteArray.empty ByteArray.empty) := by
      have hmade := World.ownsRow_made (base := w3.heap.size) (e := 9) (size := 1) w3 #[] 0 (Nat.le_refl _) (by decide) rfl
      rw [hs3] at hmade
      refine Lib.hid ⟨rfl, by rw [Br.fill]; rfl, hmade, ?_, by simp, hb3.alloc hb3.size _⟩
      rw [Br.fill, Below.heap_alloc _ _ _ (lt_of_heap h3)]
      exact h3
    have HgA : Hid (∀ i, i < P.length → g0 < A) := Lib.hid (fun i hi => by
      obtain ⟨b, off, hbo, hlt, _⟩ := HN.out i hi
      injection hbo with hbo
      injection hbo with e1 e2
      subst e1
      rw [hA] at hlt
      exact hlt)
    clear hA h3 hw3 hb3 hs3
    go_loopg [10, 11, 13, 14, 15] (m + 1) (fun gk s10 s11 s13 s14 s15 wr => ∃ (g c : Nat) (ts : List (List UInt8)) (S Wn : ByteArray), s10 = .string S ∧ s11 = .string Wn ∧ s13 = .slice (some ⟨g, 0, none⟩) ts.length c ∧ s14 = .int .i64 ts.length ∧ Hid (ts.length + gk = m + 1) ∧
        S.size ≤ ts.length * 23 ∧ Wn.size ≤ ts.length * 60 ∧ Hid (FI w2 wr A g c list ts P S Wn))
    case atStart => exact ⟨A + 1, 0, [], ByteArray.empty, ByteArray.empty, rfl, rfl, rfl, rfl, Lib.hid (by simp), by decide, by decide, H0⟩
    case round =>
      obtain ⟨g, cc, ts, S, Wn, rfl, rfl, rfl, rfl, hig, hSs, hWs, HF⟩ := hrel
      by_cases him : ts.length ≤ m
      · by_cases hti : ts.length < txs.length
        · obtain ⟨tb, tf, rfl, htlt, htc⟩ := HTx.out ts.length hti
          obtain ⟨T, hTe⟩ : ∃ T : ByteArray, ⟨txs[ts.length].toArray⟩ = T := ⟨_, rfl⟩
          have hct : wr.cell? ⟨tb, tf + ts.length, none⟩ = some (.string T) := by
            have h := ((bt HB2.out HF.out.low).cell (p := ⟨tb, tf + ts.length, none⟩) htlt).trans htc
            unfold strV at h
            rw [hTe] at h
            exact h
          have HTs : Hid (T.size ≤ 9223372036854775807) := Lib.hid (by
            rw [← hTe]
            show txs[ts.length].toArray.size ≤ _
            rw [List.size_toArray]
            exact HTb.out _ (List.getElem_mem hti))
          clear htc hTe htlt
          go_wp2_with fail
          refine (plain_any T wr HTs.out (HT.out.below (bt HB2.out HF.out.low))).mono ?_
          rintro e w5 ⟨r, rfl, hr, hb5⟩
          have HB5 := Lib.hid (bt HF.out.low hb5)
          cases r with
          | false =>
            clear hr hb5
            go_wp2_with fail
            go_ret
            exact ⟨rfl, bt HB2.out HB5.out⟩
          | true =>
            have hPl := hr.1 rfl
            have hTl : T.size ≤ 20 := hPl.2.1
            have HPl := Lib.hid hPl
            have HO5 := Lib.hid (own_below HF.out.mine hb5)
            have At5 := Lib.hid ((hb5.block A (lt_of_heap HF.out.at_)).trans HF.out.at_)
            obtain ⟨i0, hi, hz0, hz1, hz2⟩ := info_parts Tryd.info9
            clear hr hb5 hPl
            by_cases hlm : ts.length < m
            · obtain ⟨p, hpe⟩ : ∃ p, P[ts.length]? = some p := ⟨P[ts.length]'(by rw [HP.out]; exact hlm), List.getElem?_eq_getElem (by rw [HP.out]; exact hlm)⟩
              have hpm : p < m := HPerm.out.2 p (List.mem_of_getElem? hpe)
              have Hpe := Lib.hid hpe
              clear hpe
              go_wp2_with (at_builtin; (refine wpList_append_own_at _ rfl _ _ 22 rfl (A + 1) 9 i0 (.string ByteArray.empty) 1 16 Tryd.underlying22 hi hz0 hz1 hz2 rfl (by decide) (.slice (some ⟨g, 0, none⟩) ts.length cc) _ _ rfl (HO5.out.alloc _) ⟨w5.heap.size, 0, none⟩ 1 1 [.string T] rfl rfl (cell_one_new _ (.string T) _) (by intro u hu; simp at hu; subst hu; rfl) (by unfold maxLen; omega) (by omega) (by have := HB5.out.size; have := HwA.out; simp; omega) ?_); intro v' w6 hown' hgrow1 _ hat; have hgrow := (World.grownBy_alloc w5 _ _).trans hgrow1; clear hgrow1; obtain ⟨g', c', rfl⟩ := own_ne hown' (by omega); have hb6 := HB5.out.grown hgrow HB5.out.size (fun k h => by have h1 := (HO5.out.lt k h).1; have h2 := HwA.out; omega); have ha6 := heap_far HO5.out hgrow At5.out (by decide); have hcp6 : w6.cell? ⟨g0, ts.length, none⟩ = some (.int .i64 (p : Nat)) := nats_cell HN.out hb6 Hpe.out; clear hgrow hat)
              have HO6 := Lib.hid hown'
              have HB6 := Lib.hid hb6
              have At6 := Lib.hid ha6
              clear hown' hb6 hi hz0 hz1 hz2 ha6
              refine (digit_any p w6 (by omega)).mono ?_
              rintro e w7 ⟨rfl, hb7⟩
              have HO7 := Lib.hid (own_below HO6.out hb7)
              have HB7 := Lib.hid (bt HB6.out hb7)
              have At7 := Lib.hid ((hb7.block A (lt_of_heap At6.out)).trans At6.out)
              have hcp7 : w7.cell? ⟨g0, ts.length, none⟩ = some (.int .i64 (p : Nat)) := nats_cell HN.out HB7.out Hpe.out
              clear hb7 hcp6
              by_cases hpl : p < list.length
              · obtain ⟨lb, lf, hla, hlt, hlc⟩ := HLi.out p hpl
                obtain ⟨L, hL⟩ : ∃ L : ByteArray, ⟨list[p].toArray⟩ = L := ⟨_, rfl⟩
                have HL := Lib.hid hL
                have hlc7 : w7.cell? ⟨lb, lf + p, none⟩ = some (.string L) := by
                  have h := ((bt HB2.out HB7.out).cell (p := ⟨lb, lf + p, none⟩) hlt).trans hlc
                  unfold strV at h
                  rw [hL] at h
                  exact h
                have hLs : L.size ≤ 9223372036854775807 := by
                  rw [← hL]
                  show list[p].toArray.size ≤ _
                  rw [List.size_toArray]
                  exact HLb.out _ (List.getElem_mem hpl)
                have hlbA : lb < A := by have h1 := HB2.out.size; have h2 := HwA.out; omega
                subst hla
                clear hlc hL hlt
                by_cases hL40 : L.size ≤ 40
                · obtain ⟨ac, af⟩ := ints_cell (j := p) At7.out (by rw [fi_at_len HF.out]; exact hpl)
                  have f1 : (w7.setCell ⟨A, p, none⟩ (.int .i64 ((Wn.size : Int) + (T.size : Int)))).cell? ⟨g0, ts.length, none⟩ = some (.int .i64 (p : Nat)) := (cell_far _ (Nat.ne_of_lt (HgA.out ts.length (by rw [HP.out]; exact hlm)))).trans hcp7
                  have f2 : (w7.setCell ⟨A, p, none⟩ (.int .i64 ((Wn.size : Int) + (T.size : Int)))).cell? ⟨lb, lf + p, none⟩ = some (.string L) := (cell_far _ (Nat.ne_of_lt hlbA)).trans hlc7
                  go_wp2
                  go_roundg (gk - 1)
                  case measure => have := hig.out; omega
                  case rel =>
                    have hSz : (S ++ T ++ ⟨#[123]⟩ ++ ⟨#[dg p]⟩ ++ ⟨#[125]⟩ : ByteArray).size = S.size + T.size + 1 + 1 + 1 := by simp only [ByteArray.size_append]; rfl
                    refine ⟨g', c', ts ++ [T.data.toList], S ++ T ++ ⟨#[123]⟩ ++ ⟨#[dg p]⟩ ++ ⟨#[125]⟩, Wn ++ T ++ L, rfl, rfl, by rw [List.length_append]; rfl, by rw [List.length_append]; rfl, Lib.hid (by have := hig.out; rw [List.length_append]; simp only [List.length_cons, List.length_nil]; omega), ?_, ?_, Lib.hid ?_⟩
                    · rw [List.length_append, hSz]; simp only [List.length_cons, List.length_nil]; omega
                    · rw [List.length_append]; simp only [ByteArray.size_append, List.length_cons, List.length_nil]; omega
                    · exact fi_step HF.out HPl.out (by rw [Hpe.out]; simp [ByteArray.data_append, Br.pl, dg]) (F' := (Br.fill list ts P [] (List.replicate list.length 0)).2.set p (Wn.data.toList ++ T.data.toList).length) (by rw [Hpe.out]; unfold Br.step; dsimp only; rw [dif_pos hpl]; simp [ByteArray.data_append, ← HL.out]) (ownsRow_setCell_other HO7.out (fun hh => row_far HO7.out At7.out (by decide) hh.symm) _) (by rw [(show ((Wn.size : Int) + (T.size : Int)) = (((Wn.data.toList ++ T.data.toList).length : Nat) : Int) by rw [List.length_append, Array.length_toList, Array.length_toList]; rfl)]; exact ints_set At7.out p _) (HB7.out.setCell (p := ⟨A, p, none⟩) (Nat.le_of_eq HwA.out) _)
                · go_wp2_with fail
                  go_ret
                  exact ⟨rfl, bt HB2.out HB7.out⟩
              · go_wp2
                go_roundg (gk - 1)
                case measure => have := hig.out; omega
                case rel =>
                  have hSz : (S ++ T ++ ⟨#[123]⟩ ++ ⟨#[dg p]⟩ ++ ⟨#[125]⟩ : ByteArray).size = S.size + T.size + 1 + 1 + 1 := by simp only [ByteArray.size_append]; rfl
                  refine ⟨g', c', ts ++ [T.data.toList], S ++ T ++ ⟨#[123]⟩ ++ ⟨#[dg p]⟩ ++ ⟨#[125]⟩, Wn ++ T, rfl, rfl, by rw [List.length_append]; rfl, by rw [List.length_append]; rfl, Lib.hid (by have := hig.out; rw [List.length_append]; simp only [List.length_cons, List.length_nil]; omega), ?_, ?_, Lib.hid ?_⟩
                  · rw [List.length_append, hSz]; simp only [List.length_cons, List.length_nil]; omega
                  · rw [List.length_append]; simp only [ByteArray.size_append, List.length_cons, List.length_nil]; omega
                  · exact fi_step HF.out HPl.out (by rw [Hpe.out]; simp [ByteArray.data_append, Br.pl, dg]) (by rw [Hpe.out]; unfold Br.step; dsimp only; rw [dif_neg hpl]; simp [ByteArray.data_append]) HO7.out At7.out HB7.out
            · have Hlm2 : Hid (ts.length = m) := Lib.hid (by omega)
              go_wp2_with (at_builtin; (refine wpList_append_own_at _ rfl _ _ 22 rfl (A + 1) 9 i0 (.string ByteArray.empty) 1 16 Tryd.underlying22 hi hz0 hz1 hz2 rfl (by decide) (.slice (some ⟨g, 0, none⟩) ts.length cc) _ _ rfl (HO5.out.alloc _) ⟨w5.heap.size, 0, none⟩ 1 1 [.string T] rfl rfl (cell_one_new _ (.string T) _) (by intro u hu; simp at hu; subst hu; rfl) (by unfold maxLen; omega) (by omega) (by have := HB5.out.size; have := HwA.out; simp; omega) ?_); intro v' w6 hown' hgrow1 _ hat; have hgrow := (World.grownBy_alloc w5 _ _).trans hgrow1; clear hgrow1; obtain ⟨g', c', rfl⟩ := own_ne hown' (by omega); have hb6 := HB5.out.grown hgrow HB5.out.size (fun k h => by have h1 := (HO5.out.lt k h).1; have h2 := HwA.out; omega); have ha6 := heap_far HO5.out hgrow At5.out (by decide); clear hgrow hat)
              have HO6 := Lib.hid hown'
              have HB6 := Lib.hid hb6
              have At6 := Lib.hid ha6
              clear hown' hb6 hi hz0 hz1 hz2 ha6
              have Hn2 : Hid (P[ts.length]? = none) := Lib.hid (List.getElem?_eq_none (by rw [HP.out, Hlm2.out]; exact Nat.le_refl _))
              try go_wp2
              go_roundg (gk - 1)
              case measure => have := hig.out; omega
              case rel =>
                have hSz : (S ++ T : ByteArray).size = S.size + T.size := by simp only [ByteArray.size_append]
                refine ⟨g', c', ts ++ [T.data.toList], S ++ T, Wn ++ T, rfl, rfl, by rw [List.length_append]; rfl, by rw [List.length_append]; rfl, Lib.hid (by have := hig.out; rw [List.length_append]; simp only [List.length_cons, List.length_nil]; omega), ?_, ?_, Lib.hid ?_⟩
                · rw [List.length_append, hSz]; simp only [List.length_cons, List.length_nil]; omega
                · rw [List.length_append]; simp only [ByteArray.size_append, List.length_cons, List.length_nil]; omega
                · exact fi_step HF.out HPl.out (by rw [Hn2.out]; simp [ByteArray.data_append]) (by rw [Hn2.out]; unfold Br.step; simp [ByteArray.data_append]) HO6.out At6.out HB6.out
        · go_wp2_with fail
          obtain ⟨T, hTe⟩ : ∃ T : ByteArray, (⟨#[]⟩ : ByteArray) = T := ⟨_, rfl⟩
          have HTs : Hid (T.size ≤ 9223372036854775807) := Lib.hid (by rw [← hTe]; decide)
          rw [hTe]
          clear hTe
          refine (plain_any T wr HTs.out (HT.out.below (bt HB2.out HF.out.low))).mono ?_
          rintro e w5 ⟨r, rfl, hr, hb5⟩
          have HB5 := Lib.hid (bt HF.out.low hb5)
          cases r with
          | false =>
            clear hr hb5
            go_wp2_with fail
            go_ret
            exact ⟨rfl, bt HB2.out HB5.out⟩
          | true =>
            have hPl := hr.1 rfl
            have hTl : T.size ≤ 20 := hPl.2.1
            have HPl := Lib.hid hPl
            have HO5 := Lib.hid (own_below HF.out.mine hb5)
            have At5 := Lib.hid ((hb5.block A (lt_of_heap HF.out.at_)).trans HF.out.at_)
            obtain ⟨i0, hi, hz0, hz1, hz2⟩ := info_parts Tryd.info9
            clear hr hb5 hPl
            by_cases hlm : ts.length < m
            · obtain ⟨p, hpe⟩ : ∃ p, P[ts.length]? = some p := ⟨P[ts.length]'(by rw [HP.out]; exact hlm), List.getElem?_eq_getElem (by rw [HP.out]; exact hlm)⟩
              have hpm : p < m := HPerm.out.2 p (List.mem_of_getElem? hpe)
              have Hpe := Lib.hid hpe
              clear hpe
              go_wp2_with (at_builtin; (refine wpList_append_own_at _ rfl _ _ 22 rfl (A + 1) 9 i0 (.string ByteArray.empty) 1 16 Tryd.underlying22 hi hz0 hz1 hz2 rfl (by decide) (.slice (some ⟨g, 0, none⟩) ts.length cc) _ _ rfl (HO5.out.alloc _) ⟨w5.heap.size, 0, none⟩ 1 1 [.string T] rfl rfl (cell_one_new _ (.string T) _) (by intro u hu; simp at hu; subst hu; rfl) (by unfold maxLen; omega) (by omega) (by have := HB5.out.size; have := HwA.out; simp; omega) ?_); intro v' w6 hown' hgrow1 _ hat; have hgrow := (World.grownBy_alloc w5 _ _).trans hgrow1; clear hgrow1; obtain ⟨g', c', rfl⟩ := own_ne hown' (by omega); have hb6 := HB5.out.grown hgrow HB5.out.size (fun k h => by have h1 := (HO5.out.lt k h).1; have h2 := HwA.out; omega); have ha6 := heap_far HO5.out hgrow At5.out (by decide); have hcp6 : w6.cell? ⟨g0, ts.length, none⟩ = some (.int .i64 (p : Nat)) := nats_cell HN.out hb6 Hpe.out; clear hgrow hat)
              have HO6 := Lib.hid hown'
              have HB6 := Lib.hid hb6
              have At6 := Lib.hid ha6
              clear hown' hb6 hi hz0 hz1 hz2 ha6
              refine (digit_any p w6 (by omega)).mono ?_
              rintro e w7 ⟨rfl, hb7⟩
              have HO7 := Lib.hid (own_below HO6.out hb7)
              have HB7 := Lib.hid (bt HB6.out hb7)
              have At7 := Lib.hid ((hb7.block A (lt_of_heap At6.out)).trans At6.out)
              have hcp7 : w7.cell? ⟨g0, ts.length, none⟩ = some (.int .i64 (p : Nat)) := nats_cell HN.out HB7.out Hpe.out
              clear hb7 hcp6
              by_cases hpl : p < list.length
              · obtain ⟨lb, lf, hla, hlt, hlc⟩ := HLi.out p hpl
                obtain ⟨L, hL⟩ : ∃ L : ByteArray, ⟨list[p].toArray⟩ = L := ⟨_, rfl⟩
                have HL := Lib.hid hL
                have hlc7 : w7.cell? ⟨lb, lf + p, none⟩ = some (.string L) := by
                  have h := ((bt HB2.out HB7.out).cell (p := ⟨lb, lf + p, none⟩) hlt).trans hlc
                  unfold strV at h
                  rw [hL] at h
                  exact h
                have hLs : L.size ≤ 9223372036854775807 := by
                  rw [← hL]
                  show list[p].toArray.size ≤ _
                  rw [List.size_toArray]
                  exact HLb.out _ (List.getElem_mem hpl)
                have hlbA : lb < A := by have h1 := HB2.out.size; have h2 := HwA.out; omega
                subst hla
                clear hlc hL hlt
                by_cases hL40 : L.size ≤ 40
                · obtain ⟨ac, af⟩ := ints_cell (j := p) At7.out (by rw [fi_at_len HF.out]; exact hpl)
                  have f1 : (w7.setCell ⟨A, p, none⟩ (.int .i64 ((Wn.size : Int) + (T.size : Int)))).cell? ⟨g0, ts.length, none⟩ = some (.int .i64 (p : Nat)) := (cell_far _ (Nat.ne_of_lt (HgA.out ts.length (by rw [HP.out]; exact hlm)))).trans hcp7
                  have f2 : (w7.setCell ⟨A, p, none⟩ (.int .i64 ((Wn.size : Int) + (T.size : Int)))).cell? ⟨lb, lf + p, none⟩ = some (.string L) := (cell_far _ (Nat.ne_of_lt hlbA)).trans hlc7
                  go_wp2
                  go_roundg (gk - 1)
                  case measure => have := hig.out; omega
                  case rel =>
                    have hSz : (S ++ T ++ ⟨#[123]⟩ ++ ⟨#[dg p]⟩ ++ ⟨#[125]⟩ : ByteArray).size = S.size + T.size + 1 + 1 + 1 := by simp only [ByteArray.size_append]; rfl
                    refine ⟨g', c', ts ++ [T.data.toList], S ++ T ++ ⟨#[123]⟩ ++ ⟨#[dg p]⟩ ++ ⟨#[125]⟩, Wn ++ T ++ L, rfl, rfl, by rw [List.length_append]; rfl, by rw [List.length_append]; rfl, Lib.hid (by have := hig.out; rw [List.length_append]; simp only [List.length_cons, List.length_nil]; omega), ?_, ?_, Lib.hid ?_⟩
                    · rw [List.length_append, hSz]; simp only [List.length_cons, List.length_nil]; omega
                    · rw [List.length_append]; simp only [ByteArray.size_append, List.length_cons, List.length_nil]; omega
                    · exact fi_step HF.out HPl.out (by rw [Hpe.out]; simp [ByteArray.data_append, Br.pl, dg]) (F' := (Br.fill list ts P [] (List.replicate list.length 0)).2.set p (Wn.data.toList ++ T.data.toList).length) (by rw [Hpe.out]; unfold Br.step; dsimp only; rw [dif_pos hpl]; simp [ByteArray.data_append, ← HL.out]) (ownsRow_setCell_other HO7.out (fun hh => row_far HO7.out At7.out (by decide) hh.symm) _) (by rw [(show ((Wn.size : Int) + (T.size : Int)) = (((Wn.data.toList ++ T.data.toList).length : Nat) : Int) by rw [List.length_append, Array.length_toList, Array.length_toList]; rfl)]; exact ints_set At7.out p _) (HB7.out.setCell (p := ⟨A, p, none⟩) (Nat.le_of_eq HwA.out) _)
                · go_wp2_with fail
                  go_ret
                  exact ⟨rfl, bt HB2.out HB7.out⟩
              · go_wp2
                go_roundg (gk - 1)
                case measure => have := hig.out; omega
                case rel =>
                  have hSz : (S ++ T ++ ⟨#[123]⟩ ++ ⟨#[dg p]⟩ ++ ⟨#[125]⟩ : ByteArray).size = S.size + T.size + 1 + 1 + 1 := by simp only [ByteArray.size_append]; rfl
                  refine ⟨g', c', ts ++ [T.data.toList], S ++ T ++ ⟨#[123]⟩ ++ ⟨#[dg p]⟩ ++ ⟨#[125]⟩, Wn ++ T, rfl, rfl, by rw [List.length_append]; rfl, by rw [List.length_append]; rfl, Lib.hid (by have := hig.out; rw [List.length_append]; simp only [List.length_cons, List.length_nil]; omega), ?_, ?_, Lib.hid ?_⟩
                  · rw [List.length_append, hSz]; simp only [List.length_cons, List.length_nil]; omega
                  · rw [List.length_append]; simp only [ByteArray.size_append, List.length_cons, List.length_nil]; omega
                  · exact fi_step HF.out HPl.out (by rw [Hpe.out]; simp [ByteArray.data_append, Br.pl, dg]) (by rw [Hpe.out]; unfold Br.step; dsimp only; rw [dif_neg hpl]; simp [ByteArray.data_append]) HO7.out At7.out HB7.out
            · have Hlm2 : Hid (ts.length = m) := Lib.hid (by omega)
              go_wp2_with (at_builtin; (refine wpList_append_own_at _ rfl _ _ 22 rfl (A + 1) 9 i0 (.string ByteArray.empty) 1 16 Tryd.underlying22 hi hz0 hz1 hz2 rfl (by decide) (.slice (some ⟨g, 0, none⟩) ts.length cc) _ _ rfl (HO5.out.alloc _) ⟨w5.heap.size, 0, none⟩ 1 1 [.string T] rfl rfl (cell_one_new _ (.string T) _) (by intro u hu; simp at hu; subst hu; rfl) (by unfold maxLen; omega) (by omega) (by have := HB5.out.size; have := HwA.out; simp; omega) ?_); intro v' w6 hown' hgrow1 _ hat; have hgrow := (World.grownBy_alloc w5 _ _).trans hgrow1; clear hgrow1; obtain ⟨g', c', rfl⟩ := own_ne hown' (by omega); have hb6 := HB5.out.grown hgrow HB5.out.size (fun k h => by have h1 := (HO5.out.lt k h).1; have h2 := HwA.out; omega); have ha6 := heap_far HO5.out hgrow At5.out (by decide); clear hgrow hat)
              have HO6 := Lib.hid hown'
              have HB6 := Lib.hid hb6
              have At6 := Lib.hid ha6
              clear hown' hb6 hi hz0 hz1 hz2 ha6
              have Hn2 : Hid (P[ts.length]? = none) := Lib.hid (List.getElem?_eq_none (by rw [HP.out, Hlm2.out]; exact Nat.le_refl _))
              try go_wp2
              go_roundg (gk - 1)
              case measure => have := hig.out; omega
              case rel =>
                have hSz : (S ++ T : ByteArray).size = S.size + T.size := by simp only [ByteArray.size_append]
                refine ⟨g', c', ts ++ [T.data.toList], S ++ T, Wn ++ T, rfl, rfl, by rw [List.length_append]; rfl, by rw [List.length_append]; rfl, Lib.hid (by have := hig.out; rw [List.length_append]; simp only [List.length_cons, List.length_nil]; omega), ?_, ?_, Lib.hid ?_⟩
                · rw [List.length_append, hSz]; simp only [List.length_cons, List.length_nil]; omega
                · rw [List.length_append]; simp only [ByteArray.size_append, List.length_cons, List.length_nil]; omega
                · exact fi_step HF.out HPl.out (by rw [Hn2.out]; simp [ByteArray.data_append]) (by rw [Hn2.out]; unfold Br.step; simp [ByteArray.data_append]) HO6.out At6.out HB6.out
      · have hres := fi_parse HF.out hm8 HP.out HPerm.out.1 HPerm.out.2 (by have := hig.out; omega)
        have Hlen : Hid (ts.length = m + 1) := Lib.hid (by have := hig.out; omega)
        have hSb : S.size ≤ 300 := by have := Hlen.out; omega
        have htb : ts.length ≤ 8 := by have := Hlen.out; omega
        have HWb : Hid (Wn.size ≤ 500) := Lib.hid (by have := Hlen.out; omega)
        clear hSs hWs
        go_wp2_with fail
        refine (parse_any S m wr (by omega) (HT.out.below (bt HB2.out HF.out.low))).mono ?_
        intro e w8 hP8
        obtain ⟨hb8, hP8⟩ := hP8
        rw [hres] at hP8
        obtain ⟨ta, tc, pa, pc, rfl, hS, hN⟩ := hP8
        have HB8 := Lib.hid (bt (bt HB2.out HF.out.low) hb8)
        have HL8 := Lib.hid (bt HF.out.low hb8)
        have At8 := Lib.hid ((hb8.block A (lt_of_heap HF.out.at_)).trans HF.out.at_)
        have HO8 := Lib.hid (own_below HF.out.mine hb8)
        have HS8 := Lib.hid hS
        have HN8 := Lib.hid hN
        clear hb8 hS hN hres
        go_wp2_with fail
        obtain ⟨w9, hw9⟩ : ∃ w9, w8.alloc (.cells #[.slice ta ts.length tc, .slice pa P.length pc] 29) = w9 := ⟨_, rfl⟩
        have hb9 : Below w8.heap.size w8 w9 := by rw [← hw9]; exact (Below.refl _ _).alloc (Nat.le_refl _) _
        have HX9 : Hid (w9.heap[w8.heap.size]? = some (.cells #[.slice ta ts.length tc, .slice pa P.length pc] 29 (0, 0))) := Lib.hid (by
          rw [← hw9]; exact heap_alloc_new w8 _)
        have HS9 := Lib.hid (HS8.out.below hb9)
        have HN9 := Lib.hid (HN8.out.below hb9)
        have At9 := Lib.hid ((hb9.block A (lt_of_heap At8.out)).trans At8.out)
        have HO9 := Lib.hid (own_below HO8.out hb9)
        have HB9 := Lib.hid (bt HB8.out hb9)
        have HL9 := Lib.hid (bt HL8.out hb9)
        obtain ⟨B, hB⟩ : ∃ B, w8.heap.size = B := ⟨_, rfl⟩
        rw [hB] at HX9
        rw [hw9, hB]
        clear hw9 hb9 hB HS8 HN8 At8 HO8 HB8 HL8
        refine (string_any ta pa tc pc ts P w9 HS9.out HN9.out (fun k hk => by have := HPerm.out.2 k hk; omega) (by rw [← HF.out.s, Array.length_toList]; show S.size ≤ _; omega) (by omega) (by rw [HP.out]; omega)).mono ?_
        rintro e w10 ⟨rfl, hb10⟩
        have hse : strV (Br.disp ts P) = .string S := by unfold strV; rw [← HF.out.s]
        rw [hse]
        have HX10 := Lib.hid ((hb10.block B (lt_of_heap HX9.out)).trans HX9.out)
        have HS10 := Lib.hid (HS9.out.below hb10)
        have HN10 := Lib.hid (HN9.out.below hb10)
        have At10 := Lib.hid ((hb10.block A (lt_of_heap At9.out)).trans At9.out)
        have HO10 := Lib.hid (own_below HO9.out hb10)
        have HB10 := Lib.hid (bt HB9.out hb10)
        have HL10 := Lib.hid (bt HL9.out hb10)
        have HM10 : Hid (Strs w10 (some ⟨g, 0, none⟩) ts) := Lib.hid (by
          obtain ⟨ga, gc, hge, hLs⟩ := Strs.of_own HO10.out
          injection hge with hge q1 q2
          subst hge
          exact hLs)
        clear hse hb10 HX9 HS9 HN9 At9 HO9 HB9 HL9
        obtain ⟨x0, x1, _, _⟩ := two2 HX10.out
        have hle : (ts.length : Int) = m + 1 := by have := Hlen.out; omega
        have hPl : (P.length : Int) = m := by have := HP.out; omega
        go_wp2_with fail
        go_loopg [19, 144] (m + 1) (fun gk u v wr => ∃ j : Nat, v = .int .i64 j ∧ Hid (j + gk = m + 1) ∧ Hid (Below w10.heap.size w10 wr))
        case atStart => exact ⟨0, rfl, Lib.hid (by omega), Lib.hid (Below.refl _ _)⟩
        case round =>
          obtain ⟨j, rfl, hjg, hbq⟩ := hrel
          obtain ⟨x0, x1, _, _⟩ := two2 ((hbq.out.block B (lt_of_heap HX10.out)).trans HX10.out)
          by_cases hj1 : j < m + 1
          · have hjt : j < ts.length := by rw [Hlen.out]; exact hj1
            obtain ⟨tb, tf, rfl, htlt, htc⟩ := HS10.out j hjt
            obtain ⟨mb, mf, hme, hmlt, hmc⟩ := HM10.out j hjt
            injection hme with hme
            injection hme with hm1 hm2
            subst hm1 hm2
            have htc2 : wr.cell? ⟨tb, tf + j, none⟩ = some (.string ⟨ts[j].toArray⟩) := (hbq.out.cell (p := ⟨tb, tf + j, none⟩) htlt).trans htc
            have hmc2 : wr.cell? ⟨g, j, none⟩ = some (.string ⟨ts[j].toArray⟩) := by
              have h := (hbq.out.cell (p := ⟨g, 0 + j, none⟩) hmlt).trans hmc
              rw [Nat.zero_add] at h
              exact h
            have hj2 : (j : Int) < (ts.length : Int) := by omega
            have Hjt := Lib.hid hjt
            generalize ts[j] = tj at htc2 hmc2
            clear htc hmc htlt hmlt hjt
            by_cases hjm : j < m
            · have hjp : j < P.length := by rw [HP.out]; exact hjm
              obtain ⟨pb, pf, rfl, hplt, hpc⟩ := HN10.out j hjp
              have hpc2 : wr.cell? ⟨pb, pf + j, none⟩ = some (.int .i64 (P[j] : Nat)) := (hbq.out.cell (p := ⟨pb, pf + j, none⟩) hplt).trans hpc
              have hpc3 : wr.cell? ⟨g0, j, none⟩ = some (.int .i64 (P[j] : Nat)) := nats_cell HN.out (bt HL10.out hbq.out) (List.getElem?_eq_getElem hjp)
              generalize P[j] = pj at hpc2 hpc3
              have d1 : decide ((j : Int) < (m : Int)) = true := decide_eq_true (by omega)
              have hjm2 : (j : Int) < (m : Int) := by omega
              have hjp2 : (j : Int) < (P.length : Int) := by omega
              clear hpc hplt hjp
              go_wp2
              go_quiet (fail)
              go_wp2
              go_roundg (gk - 1)
              case measure => have := hjg.out; omega
              case rel => exact ⟨j + 1, rfl, Lib.hid (by have := hjg.out; omega), Lib.hid (below_drewN hbq.out _)⟩
            · have d1 : decide ((j : Int) < (m : Int)) = false := decide_eq_false (by omega)
              go_wp2
              go_quiet (fail)
              go_wp2
              go_roundg (gk - 1)
              case measure => have := hjg.out; omega
              case rel => exact ⟨j + 1, rfl, Lib.hid (by have := hjg.out; omega), Lib.hid (below_drewN hbq.out _)⟩
          · go_wp2_with fail
            have HSr := Lib.hid (HS10.out.below hbq.out)
            have HNr := Lib.hid (HN10.out.below hbq.out)
            have HLr := Lib.hid (HLi.out.below (bt HB10.out hbq.out))
            refine (fill_any ta pa a3 tc pc c3 list ts P wr HSr.out HNr.out HLr.out (by rw [← HF.out.f, Array.length_toList]; show Wn.size ≤ _; have := HWb.out; omega) (by omega) (by rw [HP.out]; omega) (by omega)).mono ?_
            intro e w12 hF12
            obtain ⟨a12, rfl, hA12, hb12⟩ := hF12
            have hWn : strV (Br.fill list ts P [] (List.replicate list.length 0)).1 = .string Wn := by unfold strV; rw [← HF.out.f]
            rw [hWn]
            have hle2 := Br.fill_at_le (list := list) ts P [] (List.replicate list.length 0) (by intro x hx; rw [(List.mem_replicate.1 hx).2]; exact Nat.zero_le _)
            rw [← HF.out.f] at hle2
            have hfl := fi_at_len HF.out
            have At12 := Lib.hid ((hb12.block A (lt_of_heap ((hbq.out.block A (lt_of_heap At10.out)).trans At10.out))).trans ((hbq.out.block A (lt_of_heap At10.out)).trans At10.out))
            generalize (Br.fill list ts P [] (List.replicate list.length 0)).2 = F2 at hA12 hle2 hfl At12
            have HA12 := Lib.hid hA12
            have Hle2 := Lib.hid hle2
            have Hfl := Lib.hid hfl
            have HB12 := Lib.hid (bt (bt HB10.out hbq.out) hb12)
            clear hA12 hb12 hWn hle2 hfl
            go_wp2
            go_loopg [22, 193] list.length (fun gk u v wr => ∃ j : Nat, v = .int .i64 j ∧ Hid (j + gk = list.length) ∧ Hid (Below w12.heap.size w12 wr))
            case atStart => exact ⟨0, rfl, Lib.hid (by omega), Lib.hid (Below.refl _ _)⟩
            case round =>
              obtain ⟨q, rfl, hqg, hbz⟩ := hrel
              by_cases hq1 : q < list.length
              · have hqf : q < F2.length := by rw [Hfl.out]; exact hq1
                obtain ⟨ab, af, rfl, halt, hac⟩ := HA12.out q hqf
                have hac2 : wr.cell? ⟨ab, af + q, none⟩ = some (.int .i64 (F2[q] : Nat)) := (hbz.out.cell (p := ⟨ab, af + q, none⟩) halt).trans hac
                have hac3 : wr.cell? ⟨A, q, none⟩ = some (.int .i64 (F2[q] : Nat)) := (ints_cell ((hbz.out.block A (lt_of_heap At12.out)).trans At12.out) hqf).1
                have hxl : F2[q] ≤ Wn.size := by
                  have h := Hle2.out F2[q] (List.getElem_mem hqf)
                  rw [Array.length_toList] at h
                  exact h
                generalize F2[q] = xq at hac2 hac3 hxl
                have d2 : decide ((Wn.size : Int) < (xq : Int)) = false := decide_eq_false (by omega)
                have hq2 : (q : Int) < (list.length : Int) := by omega
                clear hac halt hqf
                go_wp2
                go_quiet (fail)
                go_wp2
                go_roundg (gk - 1)
                case measure => have := hqg.out; omega
                case rel => exact ⟨q + 1, rfl, Lib.hid (by have := hqg.out; omega), Lib.hid (below_drewN hbz.out _)⟩
              · go_wp2
                go_ret
                exact ⟨rfl, bt HB12.out hbz.out⟩
  · go_wp2_with fail
    go_ret
    exact ⟨rfl, HB1.out⟩
end Go.Proofs.YtikkakbemphdhaaDoor
