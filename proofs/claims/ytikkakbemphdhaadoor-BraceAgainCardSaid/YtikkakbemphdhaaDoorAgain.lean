/- The walk of BraceAgain. -/
import Derived.Test.YtikkakbemphdhaaDoorHead
import Derived.WalkSmall
import Derived.Deep.QuietTactic
import Derived.BigQuiet
set_option linter.unusedSimpArgs false
set_option linter.unusedVariables false
namespace Go.Proofs.YtikkakbemphdhaaDoor
open Go.RowKit Go.Fl Go.Shelf

theorem and7 (k : Int) : ∃ c : Nat, bits .and .i64 k 7 = (c : Int) ∧ c < 8 := by
  refine ⟨(BitVec.ofInt 64 k &&& BitVec.ofInt 64 ((7 : Nat) : Int)).toNat, ?_, ?_⟩
  · have h : (BitVec.ofInt 64 k &&& BitVec.ofInt 64 ((7 : Nat) : Int)).toNat < 8 := by
      rw [BitVec.toNat_and]
      exact Nat.lt_of_le_of_lt Nat.and_le_right (by decide)
    show IntKind.i64.wrap ((BitVec.ofInt 64 k &&& BitVec.ofInt 64 ((7 : Nat) : Int)).toNat : Int) = _
    rw [IntKind.wrap_i64]
    omega
  · rw [BitVec.toNat_and]
    exact Nat.lt_of_le_of_lt Nat.and_le_right (by decide)

/-- the places themselves, as texts. -/
def own7 (n : Nat) : List (List UInt8) := (List.range n).map Br.pl

theorem all_in {n : Nat} {ps : List Nat} (h : ps.Nodup) (hlt : ∀ k ∈ ps, k < n) (hn : n ≤ ps.length) (k : Nat) (hk : k < n) : k ∈ ps := by
  refine Classical.byContradiction fun hin => ?_
  have := nodup_len n (k :: ps) (List.nodup_cons.2 ⟨hin, h⟩) (fun j hj => by
    rcases List.mem_cons.1 hj with rfl | hj
    · exact hk
    · exact hlt j hj)
  rw [List.length_cons] at this
  omega

/-- filled with its own places: the text, and where each stands. -/
theorem again_pure {s : ByteArray} {n : Nat} (hn : n < 8) {ts : List (List UInt8)} {ps : List Nat} (h : parseRes s n = .ok ts ps) :
    (Br.fill (own7 n) ts ps [] (List.replicate (own7 n).length 0)).1 = s.data.toList ∧ (Br.fill (own7 n) ts ps [] (List.replicate (own7 n).length 0)).2.length = n ∧
    ∀ k, k < n → ∃ p : Nat, (Br.fill (own7 n) ts ps [] (List.replicate (own7 n).length 0)).2[k]? = some p ∧ p + 3 ≤ s.size ∧ (s.data.toList.drop p).take 3 = Br.pl k := by
  obtain ⟨_, hd, hl, hg, hmin⟩ := parse_facts h
  have hlen : (own7 n).length = n := by simp [own7]
  have hget : ∀ k (hk : k < (own7 n).length), (own7 n)[k] = Br.pl k := fun k hk => by simp [own7]
  have hself := Br.fill_self (list := own7 n) ts ps [] (List.replicate (own7 n).length 0) (fun k hk => ⟨by rw [hlen]; have := (hg.2 k hk).2; omega, hget k _⟩)
  rw [List.nil_append, hd] at hself
  refine ⟨hself, by rw [Br.fill_at_len, List.length_replicate, hlen], fun k hk => ?_⟩
  obtain ⟨A, B, h1, h2⟩ := Br.fill_at (list := own7 n) ts ps [] (List.replicate (own7 n).length 0) k (by omega) (by simp) hg.1 (all_in hg.1 (fun j hj => by have := (hg.2 j hj).2; omega) (by omega) k hk) (by omega)
  rw [hself, hget k (by omega)] at h1
  have hsz : s.size = s.data.toList.length := by rw [Array.length_toList]; rfl
  refine ⟨A.length, h2, ?_, ?_⟩
  · rw [hsz, h1]; simp [Br.pl]
  · rw [h1, List.append_assoc, List.drop_left, List.take_append_of_le_length (by simp [Br.pl]), List.take_of_length_le (by simp [Br.pl])]

theorem own_below {w w' : World} {base e size n : Nat} {v : Value} {xs : List Value} (h : w.ownsRow base e size v n xs) (hb : Below w.heap.size w w') : w'.ownsRow base e size v n xs := by
  obtain ⟨h1, h2⟩ := h
  refine ⟨h1, ?_⟩
  rcases h2 with h2 | ⟨g, cap, cur, hv, hg, hh, r⟩
  · exact .inl h2
  · exact .inr ⟨g, cap, cur, hv, hg, (hb.block g (lt_of_heap hh)).trans hh, r⟩
theorem own7_len (n : Nat) : (own7 n).length = n := by simp [own7]
theorem own7_get (n j : Nat) (h : j < n) : (own7 n)[j]'(by rw [own7_len]; exact h) = Br.pl j := by simp [own7]

theorem own7_succ (i : Nat) : strsV (own7 (i + 1)) = strsV (own7 i) ++ [.string ((⟨#[123]⟩ : ByteArray) ++ ⟨#[dg i]⟩ ++ ⟨#[125]⟩)] := by
  unfold own7
  rw [List.range_succ, List.map_append, strsV, List.map_append]
  have h := pl_text i
  have : ((⟨#[123]⟩ : ByteArray) ++ ⟨#[dg i]⟩ ++ ⟨#[125]⟩) = ⟨(Br.pl i).toArray⟩ := by
    rw [← h]
  rw [this]
  rfl
theorem scan_err (n : Int) : ∀ (m : Nat) (l : List UInt8) (pos : Nat) (cur : List UInt8) (ts : List (List UInt8)) (ps : List Nat) (c p : Nat), l.length ≤ m → Br.scan n l pos cur ts ps = .err c p → c ≠ 0
  | m, [], pos, cur, ts, ps, c, p, _, h => by
    rw [Br.scan_nil] at h
    split at h
    · injection h with h; omega
    · cases h
  | 0, b :: r, pos, cur, ts, ps, c, p, hm, h => by simp at hm
  | m + 1, b :: r, pos, cur, ts, ps, c, p, hm, h => by
    simp only [List.length_cons] at hm
    by_cases h1 : b.toNat = 125
    · rw [Br.scan_close _ _ _ _ _ _ _ h1] at h; injection h with h; omega
    · by_cases h2 : b.toNat = 123
      · cases hp : Br.place r with
        | none => rw [Br.scan_open_none _ _ _ _ _ _ _ h2 hp] at h; injection h with h; omega
        | some x =>
          obtain ⟨k, r'⟩ := x
          have := Br.place_len hp
          by_cases hk : n ≤ (k : Int) ∨ k ∈ ps
          · rw [Br.scan_open_bad _ _ _ _ _ _ _ _ _ h2 hp hk] at h; injection h with h; omega
          · rw [Br.scan_open_ok _ _ _ _ _ _ _ _ _ h2 hp hk] at h
            exact scan_err n m r' _ _ _ _ _ _ (by omega) h
      · rw [Br.scan_byte _ _ _ _ _ _ _ h1 h2] at h
        exact scan_err n m r _ _ _ _ _ _ (by omega) h
theorem res_err {s : ByteArray} {n : Int} {c p : Nat} (h : parseRes s n = .err c p) : c ≠ 0 := by
  unfold parseRes at h
  split at h
  · exact scan_err n _ _ _ _ _ _ _ _ (Nat.le_refl _) h
  · injection h with h; omega

set_option maxRecDepth 100000 in
set_option maxHeartbeats 8000000 in
theorem again_any (s : ByteArray) (n : Int) (w : World) (hs : s.size ≤ 9223372036854775807) (hT : Tabs w) : Calls Tryd.prog 5 #[.string s, .int .i64 n] w fun e w' => e = .returned (.bool true) ∧ Below w.heap.size w w' := by
  have HT := Lib.hid hT
  clear hT
  obtain ⟨m, hm, hm8⟩ := and7 n
  go_enter Tryd.func5, Tryd.ntmps5
  go_wp2_with fail
  refine (head_any w HT.out).mono ?_
  rintro e w1 ⟨rfl, hb1⟩
  have HB1 := Lib.hid hb1
  clear hb1
  by_cases hsz : s.size ≤ 100
  · go_wp2_with fail
    refine (parse_any s m w1 (by omega) (HT.out.below HB1.out)).mono ?_
    intro e w2 hP
    obtain ⟨hb2, hP⟩ := hP
    have HB2 := Lib.hid (bt HB1.out hb2)
    clear hb2
    cases hR : parseRes s m with
    | err c p =>
      rw [hR] at hP
      dsimp only at hP
      subst hP
      have hc : c ≠ 0 := res_err hR
      have hc2 : ((c : Int) != 0) = true := by rw [bne_iff_ne]; omega
      clear hR
      go_wp2_with fail
      go_ret
      exact ⟨rfl, HB2.out.alloc (by have := HB2.out.size; omega) _⟩
    | ok ts ps =>
      rw [hR] at hP
      obtain ⟨ta, tc, pa, pc, rfl, hS, hN⟩ := hP
      have HR := Lib.hid hR
      have HS := Lib.hid hS
      have HN := Lib.hid hN
      clear hR hS hN
      go_wp2
      obtain ⟨w3, hw3⟩ : ∃ w3, w2.alloc (.cells #[.slice ta ts.length tc, .slice pa ps.length pc] 29) = w3 := ⟨_, rfl⟩
      have hb3 : Below w2.heap.size w2 w3 := by rw [← hw3]; exact (Below.refl _ _).alloc (Nat.le_refl _) _
      have HX3 : Hid (w3.heap[w2.heap.size]? = some (.cells #[.slice ta ts.length tc, .slice pa ps.length pc] 29 (0, 0))) := Lib.hid (by
        rw [← hw3]; exact heap_alloc_new w2 _)
      have HS3 := Lib.hid (HS.out.below hb3)
      have HN3 := Lib.hid (HN.out.below hb3)
      have HB3 := Lib.hid (bt HB2.out hb3)
      obtain ⟨B, hB⟩ : ∃ B, w2.heap.size = B := ⟨_, rfl⟩
      rw [hB] at HX3
      have HBl : Hid (B < w3.heap.size) := Lib.hid (lt_of_heap HX3.out)
      have hwB : w3.heap.size = B + 1 := by rw [← hw3, ← hB]; simp
      rw [hw3, hB]
      clear hw3 hb3 hB HS HN HB2 HB1
      have H0 := Lib.hid (World.ownsRow_made (base := w3.heap.size) (e := 9) (size := 1) w3 #[] 0 (Nat.le_refl _) (by decide) rfl)
      rw [hwB] at H0
      have HwB := Lib.hid hwB
      clear hwB
      go_loopg [8, 9] m (fun gk u v wr => ∃ (i g c : Nat), u = .slice (some ⟨g, 0, none⟩) i c ∧ v = .int .i64 i ∧ Hid (i + gk = m) ∧ Hid (wr.ownsRow (B + 1) 9 1 (.slice (some ⟨g, 0, none⟩) i c) i (strsV (own7 i))) ∧ Hid (Below w3.heap.size w3 wr))
      case atStart => exact ⟨0, B + 1, 0, rfl, rfl, Lib.hid (by omega), H0, Lib.hid ((Below.refl _ _).alloc (Nat.le_refl _) _)⟩
      case round =>
        obtain ⟨i, g, cc, rfl, rfl, hig, hO, hbr⟩ := hrel
        by_cases him : i < m
        · go_wp2_with fail
          refine (digit_any i wr (by omega)).mono ?_
          rintro e w5 ⟨rfl, hb5⟩
          have HO5 := Lib.hid (own_below hO.out hb5)
          have HB5 := Lib.hid (bt hbr.out hb5)
          clear hb5
          obtain ⟨i0, hi, hz0, hz1, hz2⟩ := info_parts Tryd.info9
          go_wp2_with (at_builtin; (refine wpList_append_own_at _ rfl _ _ 22 rfl (B + 1) 9 i0 (.string ByteArray.empty) 1 16 Tryd.underlying22 hi hz0 hz1 hz2 rfl (by decide) (.slice (some ⟨g, 0, none⟩) i cc) _ _ rfl (HO5.out.alloc _) ⟨w5.heap.size, 0, none⟩ 1 1 [.string ((⟨#[123]⟩ : ByteArray) ++ ⟨#[dg i]⟩ ++ ⟨#[125]⟩)] rfl rfl (cell_one_new _ (.string ((⟨#[123]⟩ : ByteArray) ++ ⟨#[dg i]⟩ ++ ⟨#[125]⟩)) _) (by intro u hu; simp at hu; subst hu; rfl) (by unfold maxLen; omega) (by omega) (by have := HB5.out.size; have := HwB.out; simp; omega) ?_); intro v' w6 hown' hgrow1 _ hat; have hgrow := (World.grownBy_alloc w5 _ _).trans hgrow1; clear hgrow1; obtain ⟨g', c', rfl⟩ := own_ne hown' (by omega); have hb6 := HB5.out.grown hgrow HB5.out.size (fun k h => by have h1 := (HO5.out.lt k h).1; have h2 := HwB.out; omega); clear hgrow hat)
          have HO6 := Lib.hid hown'
          have HB6 := Lib.hid hb6
          clear hown' hb6 hi hz0 hz1 hz2
          go_roundg (gk - 1)
          case measure => have := hig.out; omega
          case rel =>
            refine ⟨i + 1, g', c', rfl, rfl, Lib.hid (by have := hig.out; omega), Lib.hid ?_, HB6⟩
            rw [own7_succ]
            exact HO6.out
        · obtain rfl : i = m := by have := hig.out; omega
          obtain ⟨x0, x1, _, _⟩ := two2 ((hbr.out.block B HBl.out).trans HX3.out)
          go_wp2_with fail
          have HTs := Lib.hid (HS3.out.below hbr.out)
          have HNs := Lib.hid (HN3.out.below hbr.out)
          have hOl : wr.ownsRow (B + 1) 9 1 (.slice (some ⟨g, 0, none⟩) i cc) (own7 i).length (strsV (own7 i)) := by rw [own7_len]; exact hO.out
          obtain ⟨ga, gc, hge, hLs⟩ := Strs.of_own hOl
          injection hge with hge q1 q2
          clear q1 q2
          subst hge
          have HLs := Lib.hid hLs
          obtain ⟨hf1, hf2, hf3⟩ := again_pure hm8 HR.out
          obtain ⟨_, hds, htl, hgood, _⟩ := parse_facts HR.out
          have hpl : ps.length ≤ 10 := nodup_len 10 ps hgood.1 (fun k hk => (hgood.2 k hk).1)
          have hw := fill_any ta pa (some ⟨g, 0, none⟩) tc pc cc (own7 i) ts ps wr HTs.out HNs.out hLs (by rw [hf1, Array.length_toList]; show s.size ≤ _; omega) (by omega) (by omega) (by rw [own7_len]; omega)
          rw [own7_len] at hw
          refine hw.mono ?_
          rintro e w7 hF
          clear hw hOl hLs hds htl hgood hpl
          obtain ⟨a, rfl, hA, hb7⟩ := hF
          obtain ⟨F2, hF2⟩ : ∃ F2, (Br.fill (own7 i) ts ps [] (List.replicate (own7 i).length 0)).2 = F2 := ⟨_, rfl⟩
          rw [hF2] at hf2 hf3 hA
          unfold strV
          rw [hf1, own7_len]
          have HA := Lib.hid hA
          have HF3 := Lib.hid hf3
          have HF2 := Lib.hid hf2
          have HL7 := Lib.hid (HLs.out.below hb7)
          have HB7 := Lib.hid (bt (bt HB3.out hbr.out) hb7)
          clear hf1 hf2 hf3 hF2 hA hb7
          rw [show (⟨s.data.toList.toArray⟩ : ByteArray) = s from rfl]
          go_wp2
          go_loopg [12, 64] i (fun hk u v wr => ∃ j : Nat, v = .int .i64 j ∧ Hid (j + hk = i) ∧ Hid (Below w7.heap.size w7 wr))
          case atStart => exact ⟨0, rfl, Lib.hid (by omega), Lib.hid (Below.refl _ _)⟩
          case round =>
            obtain ⟨j, rfl, hjg, hbq⟩ := hrel
            by_cases hji : j < i
            · obtain ⟨p, hp1, hp2, hp3⟩ := HF3.out j hji
              obtain ⟨ab, ao, rfl, hal, hac⟩ := HA.out j (by rw [HF2.out]; exact hji)
              have hac2 : wr.cell? ⟨ab, ao + j, none⟩ = some (.int .i64 (p : Nat)) := by
                have h := (hbq.out.cell (p := ⟨ab, ao + j, none⟩) hal).trans hac
                rw [List.getElem?_eq_getElem (by rw [HF2.out]; exact hji)] at hp1
                rw [Option.some.inj hp1] at h
                exact h
              obtain ⟨lb, lo, hle, hll, hlc⟩ := HL7.out j (by rw [own7_len]; exact hji)
              injection hle with hle
              injection hle with hle1 hle2
              subst hle1 hle2
              have hlc2 : wr.cell? ⟨g, j, none⟩ = some (.string ⟨(Br.pl j).toArray⟩) := by
                have h := (hbq.out.cell (p := ⟨g, 0 + j, none⟩) hll).trans hlc
                rw [own7_get i j hji, Nat.zero_add] at h
                exact h
              have hex : s.extract p (p + 3) = ⟨(Br.pl j).toArray⟩ := by
                rw [ext_of, show p + 3 - p = 3 by omega, hp3]
              have Hp2 := Lib.hid hp2
              have g1 : ¬ (p : Int) < 0 := by omega
              have g2 : ¬ (s.size : Int) < (p : Int) + 3 := by omega
              clear hp1 hp3 hac hlc hal hll
              go_wp2
              have d1 : decide ((p : Int) < 0) = false := decide_eq_false (by omega)
              have d2 : decide ((s.size : Int) < (p : Int) + 3) = false := decide_eq_false (by have := Hp2.out; omega)
              have hji2 : (j : Int) < (i : Int) := by omega
              have hp4 : (p : Int) + 3 ≤ (s.size : Int) := by have := Hp2.out; omega
              clear g1 g2
              go_quiet (fail)
              go_wp2
              go_roundg (gk - 1)
              case measure => have := hjg.out; omega
              case rel => exact ⟨j + 1, rfl, Lib.hid (by have := hjg.out; omega), Lib.hid (below_drewN hbq.out _)⟩
            · obtain rfl : j = i := by have := hjg.out; omega
              go_wp2
              go_ret
              exact ⟨rfl, bt HB7.out hbq.out⟩
  · go_wp2_with fail
    go_ret
    exact ⟨rfl, HB1.out⟩
end Go.Proofs.YtikkakbemphdhaaDoor
