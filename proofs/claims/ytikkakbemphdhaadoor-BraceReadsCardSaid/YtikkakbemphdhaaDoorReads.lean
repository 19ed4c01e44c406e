/- The walk of BraceReads. -/
import Derived.Test.YtikkakbemphdhaaDoorHead
set_option linter.unusedSimpArgs false
set_option linter.unusedVariables false
namespace Go.Proofs.YtikkakbemphdhaaDoor
open Go.RowKit Go.Fl Go.Shelf

/-- what Parse gives, in one form. -/
def PRes (R : Br.Res) (c p : Nat) (ts : List (List UInt8)) (ps : List Nat) : Prop := (R = .err c p ∧ ts = [] ∧ ps = []) ∨ (R = .ok ts ps ∧ c = 0 ∧ p = 0)
def PPost1 (R : Br.Res) (w : World) (e : Ending) (w' : World) : Prop :=
  Below w.heap.size w w' ∧ ∃ ta tc pa pc c p ts ps, e = .returned (.tuple #[.agg #[.slice ta ts.length tc, .slice pa ps.length pc], .int .i64 (c : Nat), .int .i64 (p : Nat)]) ∧ Strs w' ta ts ∧ Nats w' pa ps ∧ PRes R c p ts ps
theorem parse_one (s : ByteArray) (n : Int) (w : World) (hs : s.size ≤ 1000) (hT : Tabs w) : Calls Tryd.prog 10 #[.string s, .int .i64 n] w (PPost1 (parseRes s n) w) := by
  refine (parse_any s n w hs hT).mono fun e w' h => ?_
  obtain ⟨hb, h⟩ := h
  refine ⟨hb, ?_⟩
  cases hr : parseRes s n with
  | err c p =>
    rw [hr] at h
    exact ⟨none, 0, none, 0, c, p, [], [], h, (fun i hi => absurd hi (Nat.not_lt_zero i)), (fun i hi => absurd hi (Nat.not_lt_zero i)), .inl ⟨rfl, rfl, rfl⟩⟩
  | ok ts ps =>
    rw [hr] at h
    obtain ⟨ta, tc, pa, pc, he, hS, hN⟩ := h
    exact ⟨ta, tc, pa, pc, 0, 0, ts, ps, he, hS, hN, .inr ⟨rfl, rfl, rfl⟩⟩

theorem pres_err {R : Br.Res} {c p c' p' : Nat} {ts : List (List UInt8)} {ps : List Nat} (h : PRes R c p ts ps) (hR : R = .err c' p') : c = c' ∧ p = p' ∧ ts = [] ∧ ps = [] := by
  rcases h with ⟨h, h1, h2⟩ | ⟨h, _, _⟩
  · rw [hR] at h; injection h with h3 h4; exact ⟨h3.symm, h4.symm, h1, h2⟩
  · rw [hR] at h; cases h
theorem pres_ok {R : Br.Res} {c p : Nat} {ts ts' : List (List UInt8)} {ps ps' : List Nat} (h : PRes R c p ts ps) (hR : R = .ok ts' ps') : c = 0 ∧ p = 0 ∧ ts = ts' ∧ ps = ps' := by
  rcases h with ⟨h, _, _⟩ | ⟨h, h1, h2⟩
  · rw [hR] at h; cases h
  · rw [hR] at h; injection h with h3 h4; exact ⟨h1, h2, h3.symm, h4.symm⟩

set_option maxRecDepth 100000 in
set_option maxHeartbeats 8000000 in
theorem reads_any (s : ByteArray) (n : Int) (w : World) (hs : s.size ≤ 9223372036854775807) (hT : Tabs w) : Calls Tryd.prog 4 #[.string s, .int .i64 n] w fun e w' => e = .returned (.bool true) ∧ Below w.heap.size w w' := by
  have HT := Lib.hid hT
  clear hT
  go_enter Tryd.func4, Tryd.ntmps4
  go_wp2_with fail
  refine (head_any w HT.out).mono ?_
  rintro e w1 ⟨rfl, hb1⟩
  have HB1 := Lib.hid hb1
  clear hb1
  by_cases hsz : s.size ≤ 100
  · go_wp2_with fail
    generalize wrap64 (n.tmod 14 - 1) = m
    refine (parse_one s m w1 (by omega) (HT.out.below HB1.out)).mono ?_
    rintro e w2 ⟨hb2, ta, tc, pa, pc, c, p, ts, ps, rfl, hS, hN, hR⟩
    have HB2 := Lib.hid (bt HB1.out hb2)
    have HS := Lib.hid hS
    have HN := Lib.hid hN
    have HR := Lib.hid hR
    clear hb2 hS hN hR
    go_wp2_with fail
    obtain ⟨w3, hw3⟩ : ∃ w3, w2.alloc (.cells #[.slice ta ts.length tc, .slice pa ps.length pc] 29) = w3 := ⟨_, rfl⟩
    have hb3 : Below w2.heap.size w2 w3 := by rw [← hw3]; exact (Below.refl _ _).alloc (Nat.le_refl _) _
    have HX3 : Hid (w3.heap[w2.heap.size]? = some (.cells #[.slice ta ts.length tc, .slice pa ps.length pc] 29 (0, 0))) := Lib.hid (by
      rw [← hw3]; exact heap_alloc_new w2 _)
    have HS3 := Lib.hid (HS.out.below hb3)
    have HN3 := Lib.hid (HN.out.below hb3)
    have HB3 := Lib.hid (bt HB2.out hb3)
    obtain ⟨B, hB⟩ : ∃ B, w2.heap.size = B := ⟨_, rfl⟩
    rw [hB] at HX3
    have HBl : Hid (B < w3.heap.size ∧ w.heap.size ≤ B) := Lib.hid ⟨lt_of_heap HX3.out, by rw [← hB]; exact HB2.out.size⟩
    rw [hw3, hB]
    clear hw3 hb3 hB
    refine (right_any s w3 hs (HT.out.below HB3.out)).mono ?_
    rintro e w4 ⟨rfl, hb4⟩
    have HX := Lib.hid ((hb4.block _ (lt_of_heap HX3.out)).trans HX3.out)
    have HS4 := Lib.hid (HS3.out.below hb4)
    have HN4 := Lib.hid (HN3.out.below hb4)
    have HB4 := Lib.hid (bt HB3.out hb4)
    have HBl4 : Hid (B < w4.heap.size ∧ w.heap.size ≤ B) := Lib.hid ⟨Nat.lt_of_lt_of_le HBl.out.1 hb4.size, HBl.out.2⟩
    obtain ⟨hx0, hx1, _, _⟩ := two2 HX.out
    clear hb4 HX3 HS3 HN3 HB3 HB2 HB1 HS HN HBl
    cases hv : valid s with
    | false =>
      obtain ⟨rfl, rfl, rfl, rfl⟩ := pres_err HR.out (show parseRes s m = .err 1 0 by unfold parseRes; rw [hv]; rfl)
      go_wp2_with fail
      go_ret
      exact ⟨rfl, HB4.out⟩
    | true =>
      have HP : Hid (parseRes s m = Br.scan m s.data.toList 0 [] [] []) := Lib.hid (by unfold parseRes; rw [if_pos hv])
      clear hv
      go_wp2
      clear hx0 hx1
      go_loopg [9, 10, 11] s.size (fun gk a b x wr => ∃ (i : Nat) (cur : List UInt8) (ts0 : List (List UInt8)) (ps0 : List Nat), a = .int .i64 ps0.length ∧ b = .int .i64 i ∧ Hid (i + gk = s.size) ∧ i ≤ s.size ∧ Hid (Br.scan m (s.data.toList.drop i) i cur ts0 ps0 = Br.scan m s.data.toList 0 [] [] []) ∧
          Hid (wr.heap[w4.heap.size]? = some (.cells (seenV ps0).toArray 37 (0, 0))) ∧ Hid (Below w4.heap.size w4 wr) ∧ Hid (ps0.length ≤ i))
      case atStart =>
        exact ⟨0, [], [], [], rfl, rfl, Lib.hid (by omega), by omega, Lib.hid rfl, Lib.hid (heap_alloc_new w4 _), Lib.hid ((Below.refl _ _).alloc (Nat.le_refl _) _), Lib.hid (Nat.le_refl _)⟩
      case round =>
        obtain ⟨i, cur, ts0, ps0, rfl, rfl, hig, his, hsc, hse, hbr, hpi⟩ := hrel
        by_cases hil : i < s.size
        · have Hd := Lib.hid (drop_cons hil)
          by_cases h1 : s[i].toNat = 125
          · have hb1 : ((s[i].toNat : Int) == 125) = true := by rw [beq_iff_eq]; omega
            have hres : Hid (parseRes s m = .err 1 i) := Lib.hid (by rw [HP.out, ← hsc.out, Hd.out, Br.scan_close m _ _ _ _ _ _ h1])
            clear h1
            as_aux_lemma =>
            obtain ⟨rfl, rfl, rfl, rfl⟩ := pres_err HR.out hres.out
            obtain ⟨hx0, hx1, _, _⟩ := two2 ((hbr.out.block B HBl4.out.1).trans HX.out)
            go_wp2_with fail
            go_ret
            exact ⟨rfl, bt HB4.out hbr.out⟩
          · have hb1 : ((s[i].toNat : Int) == 125) = false := by rw [beq_eq_false_iff_ne]; omega
            by_cases h2 : s[i].toNat = 123
            · have hb2 : ((s[i].toNat : Int) != 123) = false := by rw [bne_eq_false_iff_eq]; omega
              have H2 := Lib.hid h2
              clear h1 h2
              by_cases h3 : i + 2 < s.size
              · have h4 : i + 1 < s.size := by omega
                have hr : Hid (s.data.toList.drop (i + 1) = s[i + 1] :: s[i + 2] :: s.data.toList.drop (i + 3)) := Lib.hid (by rw [drop_cons h4, drop_cons h3])
                have hpl : Hid (Br.place (s.data.toList.drop (i + 1)) = if Br.isDig s[i + 1] = true ∧ s[i + 2].toNat = 125 then some (s[i + 1].toNat - 48, s.data.toList.drop (i + 3)) else none) := Lib.hid (by rw [hr.out, Br.place])
                by_cases h5 : Br.isDig s[i + 1] = true ∧ s[i + 2].toNat = 125
                · obtain ⟨h6, h7, h8, k, hk, hk10⟩ : ¬ s[i + 1].toNat < 48 ∧ ¬ 57 < s[i + 1].toNat ∧ ((s[i + 2].toNat : Int) != 125) = false ∧ ∃ k, s[i + 1].toNat = 48 + k ∧ k < 10 := by
                    have hd := h5.1
                    unfold Br.isDig at hd
                    simp only [decide_eq_true_eq] at hd
                    refine ⟨by omega, by omega, ?_, s[i + 1].toNat - 48, by omega, by omega⟩
                    rw [bne_eq_false_iff_eq]
                    have := h5.2
                    omega
                  have hpl2 : Hid (Br.place (s.data.toList.drop (i + 1)) = some (k, s.data.toList.drop (i + 3))) := Lib.hid (by rw [hpl.out, if_pos h5, show s[i + 1].toNat - 48 = k by omega])
                  clear h5 hpl
                  obtain ⟨hs1, hs2⟩ := seen_cell hse.out hk10
                  by_cases hnk : m ≤ (k : Int)
                  · have hres : Hid (parseRes s m = .err 3 i) := Lib.hid (by rw [HP.out, ← hsc.out, Hd.out, Br.scan_open_bad m _ _ _ _ _ _ _ _ H2.out hpl2.out (.inl hnk)])
                    as_aux_lemma =>
                    obtain ⟨rfl, rfl, rfl, rfl⟩ := pres_err HR.out hres.out
                    obtain ⟨hx0, hx1, _, _⟩ := two2 ((hbr.out.block B HBl4.out.1).trans HX.out)
                    go_wp2_with fail
                    go_ret
                    exact ⟨rfl, bt HB4.out hbr.out⟩
                  · have hnk2 : (k : Int) < m := by omega
                    by_cases hin : k ∈ ps0
                    · have hres : Hid (parseRes s m = .err 3 i) := Lib.hid (by rw [HP.out, ← hsc.out, Hd.out, Br.scan_open_bad m _ _ _ _ _ _ _ _ H2.out hpl2.out (.inr hin)])
                      rw [decide_eq_true hin] at hs1
                      as_aux_lemma =>
                      obtain ⟨rfl, rfl, rfl, rfl⟩ := pres_err HR.out hres.out
                      obtain ⟨hx0, hx1, _, _⟩ := two2 ((hbr.out.block B HBl4.out.1).trans HX.out)
                      go_wp2_with fail
                      go_ret
                      exact ⟨rfl, bt HB4.out hbr.out⟩
                    · have hsc2 : Hid (Br.scan m (s.data.toList.drop (i + 3)) (i + 3) [] (ts0 ++ [cur]) (ps0 ++ [k]) = Br.scan m s.data.toList 0 [] [] []) := Lib.hid (by
                        rw [← hsc.out, Hd.out, Br.scan_open_ok m _ _ _ _ _ _ _ _ H2.out hpl2.out (fun h => h.elim hnk hin)])
                      rw [decide_eq_false hin] at hs1
                      clear hnk
                      have hpi2 := hpi.out
                      as_aux_lemma =>
                      go_wp2
                      go_roundg (gk - 3)
                      case measure => have := hig.out; omega
                      case rel =>
                        refine ⟨i + 3, [], ts0 ++ [cur], ps0 ++ [k], ?_, ?_, Lib.hid (by have := hig.out; omega), by omega, hsc2, Lib.hid ?_, Lib.hid (hbr.out.setCell (p := ⟨w4.heap.size, k, none⟩) (Nat.le_refl _) _), Lib.hid (by simp; omega)⟩
                        · rw [List.length_append]; rfl
                        · congr 1
                        · have h := heap_set_same hse.out k (.bool true)
                          rw [seenV_set ps0 k hk10] at h
                          exact h
                · have hres : Hid (parseRes s m = .err 1 i) := Lib.hid (by rw [HP.out, ← hsc.out, Hd.out, Br.scan_open_none m _ _ _ _ _ _ H2.out (by rw [hpl.out, if_neg h5])])
                  have h6 : (s[i + 1].toNat < 48) ∨ (¬ s[i + 1].toNat < 48 ∧ 57 < s[i + 1].toNat) ∨ (¬ s[i + 1].toNat < 48 ∧ ¬ 57 < s[i + 1].toNat ∧ ((s[i + 2].toNat : Int) != 125) = true) := by
                    unfold Br.isDig at h5
                    simp only [decide_eq_true_eq] at h5
                    by_cases q1 : s[i + 1].toNat < 48
                    · exact .inl q1
                    · by_cases q2 : 57 < s[i + 1].toNat
                      · exact .inr (.inl ⟨q1, q2⟩)
                      · refine .inr (.inr ⟨q1, q2, ?_⟩)
                        rw [bne_iff_ne]
                        omega
                  clear h5
                  obtain ⟨rfl, rfl, rfl, rfl⟩ := pres_err HR.out hres.out
                  obtain ⟨hx0, hx1, _, _⟩ := two2 ((hbr.out.block B HBl4.out.1).trans HX.out)
                  rcases h6 with h6 | ⟨h6, h7⟩ | ⟨h6, h7, h8⟩
                  all_goals
                    as_aux_lemma =>
                    go_wp2_with fail
                    go_ret
                    exact ⟨rfl, bt HB4.out hbr.out⟩
              · have hres : Hid (parseRes s m = .err 1 i) := Lib.hid (by
                  rw [HP.out, ← hsc.out, Hd.out, Br.scan_open_none m _ _ _ _ _ _ H2.out]
                  by_cases h4 : i + 1 < s.size
                  · rw [drop_cons h4, List.drop_of_length_le (by rw [Array.length_toList]; show s.size ≤ i + 1 + 1; omega)]; rfl
                  · rw [List.drop_of_length_le (by rw [Array.length_toList]; show s.size ≤ i + 1; omega)]; rfl)
                as_aux_lemma =>
                obtain ⟨rfl, rfl, rfl, rfl⟩ := pres_err HR.out hres.out
                obtain ⟨hx0, hx1, _, _⟩ := two2 ((hbr.out.block B HBl4.out.1).trans HX.out)
                go_wp2_with fail
                go_ret
                exact ⟨rfl, bt HB4.out hbr.out⟩
            · have hb2 : ((s[i].toNat : Int) != 123) = true := by rw [bne_iff_ne]; omega
              have hsc2 : Hid (Br.scan m (s.data.toList.drop (i + 1)) (i + 1) (cur ++ [s[i]]) ts0 ps0 = Br.scan m s.data.toList 0 [] [] []) := Lib.hid (by
                rw [← hsc.out, Hd.out, Br.scan_byte m _ _ _ _ _ _ h1 h2])
              clear h1 h2
              as_aux_lemma =>
              go_wp2
              go_roundg (gk - 1)
              case measure => have := hig.out; omega
              case rel => exact ⟨i + 1, cur ++ [s[i]], ts0, ps0, rfl, rfl, Lib.hid (by have := hig.out; omega), by omega, hsc2, hse, hbr, Lib.hid (by have := hpi.out; omega)⟩
        · obtain rfl : i = s.size := by omega
          have hsc2 : Hid (parseRes s m = if (ps0.length : Int) < min m 10 then .err 3 s.size else .ok (ts0 ++ [cur]) ps0) := Lib.hid (by
            rw [HP.out, ← hsc.out, List.drop_of_length_le (by rw [Array.length_toList]; exact Nat.le_refl _), Br.scan_nil])
          obtain ⟨hx0, hx1, _, _⟩ := two2 ((hbr.out.block B HBl4.out.1).trans HX.out)
          clear hil
          as_aux_lemma =>
          by_cases hlt : (ps0.length : Int) < min m 10
          · obtain ⟨rfl, rfl, rfl, rfl⟩ := pres_err HR.out (show parseRes s m = .err 3 s.size by rw [hsc2.out, if_pos hlt])
            have hlt2 : (ps0.length : Int) < min (max m 0) 10 := by omega
            go_wp2_with fail
            go_ret
            exact ⟨rfl, bt HB4.out hbr.out⟩
          · have hlt2 : ¬ (ps0.length : Int) < min (max m 0) 10 := by omega
            obtain ⟨ts2, hts2⟩ : ∃ ts2, ts0 ++ [cur] = ts2 := ⟨_, rfl⟩
            have hok : parseRes s m = .ok ts2 ps0 := by rw [hsc2.out, if_neg hlt, hts2]
            obtain ⟨rfl, rfl, rfl, rfl⟩ := pres_ok HR.out hok
            obtain ⟨_, hds, hle, hgood, _⟩ := parse_facts hok
            have Hds := Lib.hid hds
            have Hgood := Lib.hid hgood
            have Hle := Lib.hid hle
            have HSr := Lib.hid (HS4.out.below hbr.out)
            have HNr := Lib.hid (HN4.out.below hbr.out)
            have Hpi := hpi.out
            have htl : ts.length ≤ 1000000 := by omega
            have hpl : ps.length ≤ 1000000 := by omega
            clear hds hgood hok hts2 hle
            go_wp2_with fail
            refine (string_any ta pa tc pc ts ps wr HSr.out HNr.out (fun k hk => (Hgood.out.2 k hk).1) (by rw [Hds.out, Array.length_toList]; show s.size ≤ _; omega) htl hpl).mono ?_
            rintro e w5 ⟨rfl, hb5⟩
            have HB5 := Lib.hid hb5
            have hse5 : strV (Br.disp ts ps) = .string s := by unfold strV; rw [Hds.out]
            rw [hse5]
            obtain ⟨hx0, hx1, _, _⟩ := two2 ((hb5.block B (by have h1 := hbr.out.size; have h2 := HBl4.out.1; omega)).trans ((hbr.out.block B HBl4.out.1).trans HX.out))
            have hle2 : (ts.length : Int) = ps.length + 1 := by have := Hle.out; omega
            clear hb5 hse5
            go_wp2_with fail
            go_ret
            exact ⟨rfl, bt (bt HB4.out hbr.out) HB5.out⟩
  · go_wp2_with fail
    go_ret
    exact ⟨rfl, HB1.out⟩
end Go.Proofs.YtikkakbemphdhaaDoor
