/- The walk of Turn. -/
import Derived.Test.YtikkakbemphdhaaTm1
import Derived.Test.YtikkakbemphdhaaTm2b
import Derived.StillTailTactics
set_option linter.unusedSimpArgs false
set_option linter.unusedVariables false
namespace Go.Proofs.Ytikkakbemphdhaa
open Go.RowKit Go.Fl

/-- where the three own slices lie. -/
structure TO (w W : World) (t : Tb) (v1 v4 v5 : Value) : Prop where
  short : OwnS 2 (RwAt (fun b => b < w.heap.size)) 66 (w.heap.size + 2) W v1 t.short
  curs : OwnS 8 (CuAt (fun b => b < w.heap.size)) 64 (w.heap.size + 2) W v4 t.curs
  units : OwnS 2 (UnAt (fun b => b < w.heap.size)) 76 (w.heap.size + 2) W v5 t.units
  d14 : ∀ b, v1.ownBlock = some b → ¬ v4.ownBlock = some b
  d15 : ∀ b, v1.ownBlock = some b → ¬ v5.ownBlock = some b
  d45 : ∀ b, v4.ownBlock = some b → ¬ v5.ownBlock = some b

def TurnPost (t : Tb) (w : World) (e : Ending) (w' : World) : Prop :=
  ∃ (u : Tb) (v1 v2 v3 v4 v5 v6 : Value) (b : Bool), e = .returned (.tuple #[tbV u.s u.grp v1 v2 v3 v4 v5 v6, .bool b]) ∧ Below w.heap.size w w' ∧ (tbC u.s u.grp v1 v2 v3 v4 v5 v6).all (·.oneCell') = true ∧ (b = true → Turned t u ∧ TbS (fun b => b < w'.heap.size) w' u v1 v2 v3 v4 v5 v6)

set_option maxRecDepth 100000 in
set_option maxHeartbeats 1600000 in
theorem turn_any (t : Tb) (v1 v2 v3 v4 v5 v6 : Value) (which : Int) (w : World) (hI : TbS (fun b => b < w.heap.size) w t v1 v2 v3 v4 v5 v6) (hok : t.ok) (hgrp : t.grp ≤ 1000) (hcur : ∀ c r, t.curs = c :: r → 0 ≤ c.d3 ∧ c.d3 ≤ 1000) (hrow : ∀ x r, t.short = x :: r → 0 ≤ x.mag ∧ x.mag ≤ 1000) :
    Calls Try.prog 29 #[tbV t.s t.grp v1 v2 v3 v4 v5 v6, .int .i64 which] w (TurnPost t w) := by
  have HI := Lib.hid hI
  have HK := Lib.hid hok
  have HCur := Lib.hid hcur
  have HRow := Lib.hid hrow
  have hwr : wrap64 (t.grp + 1) = t.grp + 1 := wrap_one _ hok.grp hgrp
  obtain ⟨a1, c1, rfl⟩ := hI.short.len
  obtain ⟨a2, c2, rfl⟩ := hI.long.len
  obtain ⟨a3, c3, rfl⟩ := hI.mshort.len
  obtain ⟨a4, c4, rfl⟩ := hI.curs.len
  obtain ⟨a5, c5, rfl⟩ := hI.units.len
  obtain ⟨a6, c6, rfl⟩ := hI.munit.len
  clear hI hok hcur hrow hgrp
  have HT0 := Lib.hid (TP.start w t.s t.grp (.slice a1 t.short.length c1) (.slice a2 t.long.length c2) (.slice a3 t.mshort.length c3) (.slice a4 t.curs.length c4) (.slice a5 t.units.length c5) (.slice a6 t.munit.length c6))
  obtain ⟨i66, h66, y66, x66, z66⟩ := info_parts Try.info66
  obtain ⟨i64, h64, y64, x64, z64⟩ := info_parts Try.info64
  obtain ⟨i76, h76, y76, x76, z76⟩ := info_parts Try.info76
  obtain ⟨i98, h98, y98, x98, z98⟩ := info_parts Try.info98
  unfold tbV
  go_enter Try.func29, Try.ntmps29
  go_upto_region 1 with fail
  refine wp_name (fun W => TP w W t.s t.grp (.slice a1 t.short.length c1) (.slice a2 t.long.length c2) (.slice a3 t.mshort.length c3) (.slice a4 t.curs.length c4) (.slice a5 t.units.length c5) (.slice a6 t.munit.length c6)) HT0.out (fun W1 hT1 => ?_)
  have HT1 := Lib.hid hT1
  clear HT0 hT1
  have HO := Lib.hid (OwnS.nothing (α := Rw) (k := 2) (R := RwAt (fun b => b < w.heap.size)) (e := 66) HT1.out.lt)
  have HTa := Lib.hid (HT1.out.alloc (.cells #[] 66))
  obtain ⟨hc1, hf1⟩ := HTa.out.tb.at 22 (.slice a1 t.short.length c1) rfl
  go_upto_region 2 with (at_builtin; (refine wpList_appS rfl _ _ 48 rfl (w.heap.size + 2) 66 i66 (.agg #[.int .i64 0, .slice none 0 0]) 2 32 Try.underlying48 h66 y66 x66 z66 rfl (by omega) (RwAt (fun b => b < w.heap.size)) (fun b => b < w.heap.size) (fun b => b < w.heap.size) (carries_rw _) (fun b hb => by omega) (.slice (some ⟨W1.heap.size, 0, none⟩) 0 0) [] rfl HO.out a1 t.short.length c1 t.short rfl (HI.out.short.same (Same.of_below HTa.out.bel (fun b hb => hb))) t.short rfl (by have := HK.out.short.1; omega) (by omega) HTa.out.lt ?_; intro b1 d1 W2 hown hgr hat; have HT2 := Lib.hid (HTa.out.grown hgr (fun b e => (HO.out.lt b e).1)); obtain ⟨hc2, hf2⟩ := HT2.out.tb.at 22 (.slice a1 t.short.length c1) rfl))
  have HN1 := Lib.hid ((hown.set (carries_rw _) w.heap.size 22 (.slice b1 t.short.length d1) (by omega) (by omega)))
  refine wp_name (fun W => TP w W t.s t.grp (.slice b1 t.short.length d1) (.slice a2 t.long.length c2) (.slice a3 t.mshort.length c3) (.slice a4 t.curs.length c4) (.slice a5 t.units.length c5) (.slice a6 t.munit.length c6) ∧ OwnS 2 (RwAt (fun b => b < w.heap.size)) 66 (w.heap.size + 2) W (.slice b1 t.short.length d1) t.short) ⟨HT2.out.set 22 (.slice b1 t.short.length d1) rfl, HN1.out⟩ (fun W3 hW => ?_)
  clear HO HTa hc1 hf1 hown hgr hat HT2 hc2 hf2 HT1 HN1 
  obtain ⟨q0, q1⟩ := hW
  have HT1 := Lib.hid q0
  have HN1 := Lib.hid q1
  clear q0 q1
  obtain ⟨W1, rfl⟩ : ∃ W, W = W3 := ⟨_, rfl⟩
  have HO := Lib.hid (OwnS.nothing (α := Cu) (k := 8) (R := CuAt (fun b => b < w.heap.size)) (e := 64) HT1.out.lt)
  have HTa := Lib.hid (HT1.out.alloc (.cells #[] 64))
  obtain ⟨hc1, hf1⟩ := HTa.out.tb.at 25 (.slice a4 t.curs.length c4) rfl
  go_upto_region 3 with (at_builtin; (refine wpList_appS rfl _ _ 49 rfl (w.heap.size + 2) 64 i64 (.agg #[.string ⟨#[]⟩, .string ⟨#[]⟩, .string ⟨#[]⟩, .slice none 0 0, .int .i64 0, .int .i64 0, .int .i64 0, .int .i64 0]) 8 104 Try.underlying49 h64 y64 x64 z64 rfl (by omega) (CuAt (fun b => b < w.heap.size)) (fun b => b < w.heap.size) (fun b => b < w.heap.size) (carries_cu _) (fun b hb => by omega) (.slice (some ⟨W1.heap.size, 0, none⟩) 0 0) [] rfl HO.out a4 t.curs.length c4 t.curs rfl (HI.out.curs.same (Same.of_below HTa.out.bel (fun b hb => hb))) t.curs rfl (by have := HK.out.curs.1; omega) (by omega) HTa.out.lt ?_; intro b4 d4 W2 hown hgr hat; have HT2 := Lib.hid (HTa.out.grown hgr (fun b e => (HO.out.lt b e).1)); obtain ⟨hc2, hf2⟩ := HT2.out.tb.at 25 (.slice a4 t.curs.length c4) rfl))
  have HN4 := Lib.hid ((hown.set (carries_cu _) w.heap.size 25 (.slice b4 t.curs.length d4) (by omega) (by omega)))
  have HM1 := Lib.hid (((HN1.out.alloc (carries_rw _) (.cells #[] 64)).grown (carries_rw _) hgr (fun b e => ⟨by have := (HO.out.lt b e).1; omega, fun e2 => by have h1 := (HN1.out.lt b e2).2; injection e with e; have e : W1.heap.size = b := e; omega⟩)).set (carries_rw _) w.heap.size 25 (.slice b4 t.curs.length d4) (by omega) (by omega))
  have HD14 : Hid (∀ b, (Value.slice b1 t.short.length d1).ownBlock = some b → ¬ (Value.slice b4 t.curs.length d4).ownBlock = some b) := Lib.hid (fun b e e2 => by
    have h1 := (HN1.out.lt b e).2
    rcases hat with h | h
    · rw [e2] at h
      injection h with h
      have h : b = W1.heap.size := h
      omega
    · rw [e2] at h
      injection h with h
      simp at h
      omega)
  refine wp_name (fun W => TP w W t.s t.grp (.slice b1 t.short.length d1) (.slice a2 t.long.length c2) (.slice a3 t.mshort.length c3) (.slice b4 t.curs.length d4) (.slice a5 t.units.length c5) (.slice a6 t.munit.length c6) ∧ OwnS 2 (RwAt (fun b => b < w.heap.size)) 66 (w.heap.size + 2) W (.slice b1 t.short.length d1) t.short ∧ OwnS 8 (CuAt (fun b => b < w.heap.size)) 64 (w.heap.size + 2) W (.slice b4 t.curs.length d4) t.curs) ⟨HT2.out.set 25 (.slice b4 t.curs.length d4) rfl, HM1.out, HN4.out⟩ (fun W4 hW => ?_)
  clear HO HTa hc1 hf1 hown hgr hat HT2 hc2 hf2 HT1 HN4 HM1 HN1
  obtain ⟨q0, q1, q2⟩ := hW
  have HT1 := Lib.hid q0
  have HN1 := Lib.hid q1
  have HN4 := Lib.hid q2
  clear q0 q1 q2
  obtain ⟨W1, rfl⟩ : ∃ W, W = W4 := ⟨_, rfl⟩
  have HO := Lib.hid (OwnS.nothing (α := Un) (k := 2) (R := UnAt (fun b => b < w.heap.size)) (e := 76) HT1.out.lt)
  have HTa := Lib.hid (HT1.out.alloc (.cells #[] 76))
  obtain ⟨hc1, hf1⟩ := HTa.out.tb.at 26 (.slice a5 t.units.length c5) rfl
  go_upto_region 4 with (at_builtin; (refine wpList_appS rfl _ _ 50 rfl (w.heap.size + 2) 76 i76 (.agg #[.string ⟨#[]⟩, .slice none 0 0]) 2 40 Try.underlying50 h76 y76 x76 z76 rfl (by omega) (UnAt (fun b => b < w.heap.size)) (fun b => b < w.heap.size) (fun b => b < w.heap.size) (carries_un _) (fun b hb => by omega) (.slice (some ⟨W1.heap.size, 0, none⟩) 0 0) [] rfl HO.out a5 t.units.length c5 t.units rfl (HI.out.units.same (Same.of_below HTa.out.bel (fun b hb => hb))) t.units rfl (by have := HK.out.units.1; omega) (by omega) HTa.out.lt ?_; intro b5 d5 W2 hown hgr hat; have HT2 := Lib.hid (HTa.out.grown hgr (fun b e => (HO.out.lt b e).1)); obtain ⟨hc2, hf2⟩ := HT2.out.tb.at 26 (.slice a5 t.units.length c5) rfl))
  have HN5 := Lib.hid ((hown.set (carries_un _) w.heap.size 26 (.slice b5 t.units.length d5) (by omega) (by omega)))
  have HM1 := Lib.hid (((HN1.out.alloc (carries_rw _) (.cells #[] 76)).grown (carries_rw _) hgr (fun b e => ⟨by have := (HO.out.lt b e).1; omega, fun e2 => by have h1 := (HN1.out.lt b e2).2; injection e with e; have e : W1.heap.size = b := e; omega⟩)).set (carries_rw _) w.heap.size 26 (.slice b5 t.units.length d5) (by omega) (by omega))
  have HD15 : Hid (∀ b, (Value.slice b1 t.short.length d1).ownBlock = some b → ¬ (Value.slice b5 t.units.length d5).ownBlock = some b) := Lib.hid (fun b e e2 => by
    have h1 := (HN1.out.lt b e).2
    rcases hat with h | h
    · rw [e2] at h
      injection h with h
      have h : b = W1.heap.size := h
      omega
    · rw [e2] at h
      injection h with h
      simp at h
      omega)
  have HM4 := Lib.hid (((HN4.out.alloc (carries_cu _) (.cells #[] 76)).grown (carries_cu _) hgr (fun b e => ⟨by have := (HO.out.lt b e).1; omega, fun e2 => by have h1 := (HN4.out.lt b e2).2; injection e with e; have e : W1.heap.size = b := e; omega⟩)).set (carries_cu _) w.heap.size 26 (.slice b5 t.units.length d5) (by omega) (by omega))
  have HD45 : Hid (∀ b, (Value.slice b4 t.curs.length d4).ownBlock = some b → ¬ (Value.slice b5 t.units.length d5).ownBlock = some b) := Lib.hid (fun b e e2 => by
    have h1 := (HN4.out.lt b e).2
    rcases hat with h | h
    · rw [e2] at h
      injection h with h
      have h : b = W1.heap.size := h
      omega
    · rw [e2] at h
      injection h with h
      simp at h
      omega)
  refine wp_name (fun W => TP w W t.s t.grp (.slice b1 t.short.length d1) (.slice a2 t.long.length c2) (.slice a3 t.mshort.length c3) (.slice b4 t.curs.length d4) (.slice b5 t.units.length d5) (.slice a6 t.munit.length c6) ∧ OwnS 2 (RwAt (fun b => b < w.heap.size)) 66 (w.heap.size + 2) W (.slice b1 t.short.length d1) t.short ∧ OwnS 8 (CuAt (fun b => b < w.heap.size)) 64 (w.heap.size + 2) W (.slice b4 t.curs.length d4) t.curs ∧ OwnS 2 (UnAt (fun b => b < w.heap.size)) 76 (w.heap.size + 2) W (.slice b5 t.units.length d5) t.units) ⟨HT2.out.set 26 (.slice b5 t.units.length d5) rfl, HM1.out, HM4.out, HN5.out⟩ (fun W5 hW => ?_)
  clear HO HTa hc1 hf1 hown hgr hat HT2 hc2 hf2 HT1 HN5 HM1 HN1 HM4 HN4
  obtain ⟨q0, q1, q2, q3⟩ := hW
  have HT1 := Lib.hid q0
  have HN1 := Lib.hid q1
  have HN4 := Lib.hid q2
  have HN5 := Lib.hid q3
  clear q0 q1 q2 q3
  obtain ⟨W1, rfl⟩ : ∃ W, W = W5 := ⟨_, rfl⟩
  go_upto_region 6 with fail
  obtain ⟨kk, hkk, hk27⟩ := which27 which
  rw [hkk]
  clear hkk
  refine wp_name (fun W => TP w W t.s t.grp (.slice b1 t.short.length d1) (.slice a2 t.long.length c2) (.slice a3 t.mshort.length c3) (.slice b4 t.curs.length d4) (.slice b5 t.units.length d5) (.slice a6 t.munit.length c6) ∧ OwnS 2 (RwAt (fun b => b < w.heap.size)) 66 (w.heap.size + 2) W (.slice b1 t.short.length d1) t.short ∧ OwnS 8 (CuAt (fun b => b < w.heap.size)) 64 (w.heap.size + 2) W (.slice b4 t.curs.length d4) t.curs ∧ OwnS 2 (UnAt (fun b => b < w.heap.size)) 76 (w.heap.size + 2) W (.slice b5 t.units.length d5) t.units ∧ W.heap[W1.heap.size]? = some (.cells (pts w.heap.size) 79 (0, 0))) ⟨HT1.out.alloc _, HN1.out.alloc (carries_rw _) _, HN4.out.alloc (carries_cu _) _, HN5.out.alloc (carries_un _) _, heap_alloc_new _ _⟩ (fun W6 hW => ?_)
  obtain ⟨gP, hgP⟩ : ∃ g, g = W1.heap.size := ⟨_, rfl⟩
  rw [← hgP] at hW ⊢
  have hgP2 : w.heap.size + 2 ≤ gP := by have := HT1.out.lt; omega
  clear HT1 HN1 HN4 HN5
  obtain ⟨q0, q1, q2, q3, q4⟩ := hW
  have HT1 := Lib.hid q0
  have HN1 := Lib.hid q1
  have HN4 := Lib.hid q2
  have HN5 := Lib.hid q3
  have HP := Lib.hid q4
  clear q0 q1 q2 q3 q4 hgP
  by_cases hk18 : kk < 18
  · obtain ⟨hp1, hq27⟩ := pts_get w.heap.size kk hk18
    have hp2 := cell_of HP.out hp1
    obtain ⟨hp3, hp4⟩ := HT1.out.tb.at (pl (qn kk)) (.string (t.s (qn kk))) (tbC_pl _ _ _ _ _ _ _ _ _ hq27)
    have hsz : ¬ (9223372036854775807 < (t.s (qn kk)).size + 1) := by have := HK.out.s (qn kk) hq27; omega
    clear hp1
    go_upto_region 7 with fail
    go_still_tail 12, (by kernel_rfl)
    change wpList _ _ _ _ _ W6.drew
    have HT2 := Lib.hid (HT1.out.below ((Below.refl _ _).drew))
    obtain ⟨hq3, hq4⟩ := HT2.out.tb.at (pl (qn kk)) (.string (t.s (qn kk))) (tbC_pl _ _ _ _ _ _ _ _ _ hq27)
    go_upto_region 8 with fail
    have HX := Lib.hid (HT1.out.setS (qn kk) hq27 (t.s (qn kk) ++ ⟨#[120]⟩)).drew
    have HX1 := Lib.hid (((HN1.out.set (carries_rw _) w.heap.size (pl (qn kk)) (.string (t.s (qn kk) ++ ⟨#[120]⟩)) (by omega) (by omega)).drew (carries_rw _)).rws)
    have HX4 := Lib.hid (((HN4.out.set (carries_cu _) w.heap.size (pl (qn kk)) (.string (t.s (qn kk) ++ ⟨#[120]⟩)) (by omega) (by omega)).drew (carries_cu _)).cus)
    have HX5 := Lib.hid (((HN5.out.set (carries_un _) w.heap.size (pl (qn kk)) (.string (t.s (qn kk) ++ ⟨#[120]⟩)) (by omega) (by omega)).drew (carries_un _)).uns)
    generalize (W6.setCell ⟨w.heap.size, pl (qn kk), none⟩ (.string (t.s (qn kk) ++ ⟨#[120]⟩))).drew = W7 at *
    obtain ⟨s7, hs7⟩ : ∃ s : Nat → ByteArray, s = fun j => if j = qn kk then t.s (qn kk) ++ ⟨#[120]⟩ else t.s j := ⟨_, rfl⟩
    rw [← hs7] at HX
    have HX7 : Hid (Turned t { t with s := s7 }) := Lib.hid (by rw [hs7]; exact Turned.s _ hq27)
    clear hs7
    refine wp_name (fun W => TP w W s7 t.grp (.slice b1 t.short.length d1) (.slice a2 t.long.length c2) (.slice a3 t.mshort.length c3) (.slice b4 t.curs.length d4) (.slice b5 t.units.length d5) (.slice a6 t.munit.length c6) ∧ TbS (Live w W) W { t with s := s7 } (.slice b1 t.short.length d1) (.slice a2 t.long.length c2) (.slice a3 t.mshort.length c3) (.slice b4 t.curs.length d4) (.slice b5 t.units.length d5) (.slice a6 t.munit.length c6)) ⟨HX.out, ⟨HX1.out, args_rws HX.out.bel HI.out.long, args_rws HX.out.bel HI.out.mshort, HX4.out, HX5.out, args_txs HX.out.bel HI.out.munit⟩⟩ (fun Wf hW => ?_)
    obtain ⟨q0, q1⟩ := hW
    have HTf := Lib.hid q0
    have HSf := Lib.hid q1
    clear q0 q1
    clear HT1 HT2 HN1 HN4 HN5 HP HX HX1 HX4 HX5 hp2 hp3 hp4 hq3 hq4
    refine wp_region_list ?_
    refine wpList_load_mid rfl 55 _ rfl w.heap.size 0 rfl (tbC s7 t.grp (.slice b1 t.short.length d1) (.slice a2 t.long.length c2) (.slice a3 t.mshort.length c3) (.slice b4 t.curs.length d4) (.slice b5 t.units.length d5) (.slice a6 t.munit.length c6)).toList _ HTf.out.tb.range Try.underlying55 rfl size55 ?_
    refine wpList_store_mid rfl 55 _ _ rfl (w.heap.size + 1) 0 (tbC s7 t.grp (.slice b1 t.short.length d1) (.slice a2 t.long.length c2) (.slice a3 t.mshort.length c3) (.slice b4 t.curs.length d4) (.slice b5 t.units.length d5) (.slice a6 t.munit.length c6)) rfl rfl HTf.out.z.there size55 (tbC_one _ _ _ _ _ _ _ _ _ _ _ _ _ _ _ _ _ _ _ _) ?_
    have HPf := Lib.hid (HTf.out.z.put (tbC s7 t.grp (.slice b1 t.short.length d1) (.slice a2 t.long.length c2) (.slice a3 t.mshort.length c3) (.slice b4 t.curs.length d4) (.slice b5 t.units.length d5) (.slice a6 t.munit.length c6)) rfl)
    have HKf := Lib.hid (setCells_kept (tbC s7 t.grp (.slice b1 t.short.length d1) (.slice a2 t.long.length c2) (.slice a3 t.mshort.length c3) (.slice b4 t.curs.length d4) (.slice b5 t.units.length d5) (.slice a6 t.munit.length c6)).toList 0 Wf (w.heap.size + 1))
    generalize Wf.setCells (w.heap.size + 1) 0 (tbC s7 t.grp (.slice b1 t.short.length d1) (.slice a2 t.long.length c2) (.slice a3 t.mshort.length c3) (.slice b4 t.curs.length d4) (.slice b5 t.units.length d5) (.slice a6 t.munit.length c6)).toList = wq at *
    go_wp2
    refine bodyPost_ret (res29 HPf.out rfl rfl) rfl ⟨{ t with s := s7 }, _, _, _, _, _, _, true, rfl, HTf.out.bel.trans (HKf.out.below HTf.out.bel.size (fun k hk e => by omega)), tbC_one _ _ _ _ _ _ _ _ _ _ _ _ _ _ _ _ _ _ _ _, (fun _ => ⟨HX7.out, HSf.out.fin HKf.out⟩)⟩
  · have hk9 : kk = 18 ∨ kk = 19 ∨ kk = 20 ∨ kk = 21 ∨ kk = 22 ∨ kk = 23 ∨ kk = 24 ∨ kk = 25 ∨ kk = 26 := by omega
    clear hk18 hk27 HP hgP2
    rcases hk9 with rfl | rfl | rfl | rfl | rfl | rfl | rfl | rfl | rfl
    · obtain ⟨hc1, hf1⟩ := HT1.out.tb.at 16 (.int .i64 t.grp) rfl
      go_upto_region 32 with fail
      have HX := Lib.hid (HT1.out.set (grp' := t.grp + 1) 16 (.int .i64 (t.grp + 1)) rfl)
      try rw [hwr]
      refine wp_name (fun W => TP w W t.s (t.grp + 1) (.slice b1 t.short.length d1) (.slice a2 t.long.length c2) (.slice a3 t.mshort.length c3) (.slice b4 t.curs.length d4) (.slice b5 t.units.length d5) (.slice a6 t.munit.length c6) ∧ TbS (Live w W) W { t with grp := t.grp + 1 } (.slice b1 t.short.length d1) (.slice a2 t.long.length c2) (.slice a3 t.mshort.length c3) (.slice b4 t.curs.length d4) (.slice b5 t.units.length d5) (.slice a6 t.munit.length c6)) ⟨HX.out, ⟨(HN1.out.set (carries_rw _) w.heap.size 16 (.int .i64 (t.grp + 1)) (by omega) (by omega)).rws, args_rws HX.out.bel HI.out.long, args_rws HX.out.bel HI.out.mshort, (HN4.out.set (carries_cu _) w.heap.size 16 (.int .i64 (t.grp + 1)) (by omega) (by omega)).cus, (HN5.out.set (carries_un _) w.heap.size 16 (.int .i64 (t.grp + 1)) (by omega) (by omega)).uns, args_txs HX.out.bel HI.out.munit⟩⟩ (fun Wf hW => ?_)
      obtain ⟨q0, q1⟩ := hW
      have HTf := Lib.hid q0
      have HSf := Lib.hid q1
      clear q0 q1
      clear HT1 HN1 HN4 HN5 HX hc1 hf1
      refine wp_region_list ?_
      refine wpList_load_mid rfl 55 _ rfl w.heap.size 0 rfl (tbC t.s (t.grp + 1) (.slice b1 t.short.length d1) (.slice a2 t.long.length c2) (.slice a3 t.mshort.length c3) (.slice b4 t.curs.length d4) (.slice b5 t.units.length d5) (.slice a6 t.munit.length c6)).toList _ HTf.out.tb.range Try.underlying55 rfl size55 ?_
      refine wpList_store_mid rfl 55 _ _ rfl (w.heap.size + 1) 0 (tbC t.s (t.grp + 1) (.slice b1 t.short.length d1) (.slice a2 t.long.length c2) (.slice a3 t.mshort.length c3) (.slice b4 t.curs.length d4) (.slice b5 t.units.length d5) (.slice a6 t.munit.length c6)) rfl rfl HTf.out.z.there size55 (tbC_one _ _ _ _ _ _ _ _ _ _ _ _ _ _ _ _ _ _ _ _) ?_
      have HPf := Lib.hid (HTf.out.z.put (tbC t.s (t.grp + 1) (.slice b1 t.short.length d1) (.slice a2 t.long.length c2) (.slice a3 t.mshort.length c3) (.slice b4 t.curs.length d4) (.slice b5 t.units.length d5) (.slice a6 t.munit.length c6)) rfl)
      have HKf := Lib.hid (setCells_kept (tbC t.s (t.grp + 1) (.slice b1 t.short.length d1) (.slice a2 t.long.length c2) (.slice a3 t.mshort.length c3) (.slice b4 t.curs.length d4) (.slice b5 t.units.length d5) (.slice a6 t.munit.length c6)).toList 0 Wf (w.heap.size + 1))
      generalize Wf.setCells (w.heap.size + 1) 0 (tbC t.s (t.grp + 1) (.slice b1 t.short.length d1) (.slice a2 t.long.length c2) (.slice a3 t.mshort.length c3) (.slice b4 t.curs.length d4) (.slice b5 t.units.length d5) (.slice a6 t.munit.length c6)).toList = wq at *
      go_wp2
      refine bodyPost_ret (res29 HPf.out rfl rfl) rfl ⟨{ t with grp := t.grp + 1 }, _, _, _, _, _, _, true, rfl, HTf.out.bel.trans (HKf.out.below HTf.out.bel.size (fun k hk e => by omega)), tbC_one _ _ _ _ _ _ _ _ _ _ _ _ _ _ _ _ _ _ _ _, (fun _ => ⟨Turned.grp, HSf.out.fin HKf.out⟩)⟩
    · obtain ⟨zs, hzs⟩ : ∃ l, l = (t.short ++ [rw0]) := ⟨_, rfl⟩
      have HTn : Hid (Turned t { t with short := zs }) := Lib.hid (by rw [hzs]; exact Turned.short)
      have HZs := Lib.hid hzs
      have hlen : zs.length ≤ 1000 := by
        have := HK.out.short.1
        rw [hzs]
        simp only [List.length_append, List.length_cons, List.length_nil]
        omega
      clear hzs
      have HS := Lib.hid (OwnS.one (k := 2) (R := RwAt (fun b => b < w.heap.size)) (e := 66) (base := w.heap.size + 2) (W := W6) HT1.out.lt (cs := #[.int .i64 0, .slice none 0 0]) rfl (x := rw0) ⟨cell_of (heap_alloc_new _ _) rfl, .slice none 0 0, cell_of (heap_alloc_new _ _) rfl, SliceOf.nil⟩)
      have HTa := Lib.hid (HT1.out.alloc (.cells #[.int .i64 0, .slice none 0 0] 66))
      obtain ⟨hc0, hf0⟩ := HT1.out.tb.at 22 (.slice b1 t.short.length d1) rfl
      obtain ⟨hc1, hf1⟩ := HTa.out.tb.at 22 (.slice b1 t.short.length d1) rfl
      have HN1a := Lib.hid (HN1.out.alloc (carries_rw _) (.cells #[.int .i64 0, .slice none 0 0] 66))
      have HN4a := Lib.hid (HN4.out.alloc (carries_cu _) (.cells #[.int .i64 0, .slice none 0 0] 66))
      have HN5a := Lib.hid (HN5.out.alloc (carries_un _) (.cells #[.int .i64 0, .slice none 0 0] 66))
      go_upto_region 32 with (at_builtin; (refine wpList_appS rfl _ _ 48 rfl (w.heap.size + 2) 66 i66 (.agg #[.int .i64 0, .slice none 0 0]) 2 32 Try.underlying48 h66 y66 x66 z66 rfl (by omega) (RwAt (fun b => b < w.heap.size)) (fun b => b < w.heap.size) (fun b => (Value.slice (some ⟨W6.heap.size, 0, none⟩) 1 1).ownBlock = some b) (carries_rw _) (fun b hb => by omega) (.slice b1 t.short.length d1) t.short rfl HN1a.out (some ⟨W6.heap.size, 0, none⟩) 1 1 [rw0] rfl HS.out.sl zs HZs.out hlen (by omega) HTa.out.lt ?_; intro bz dz W8 hown hgr hat; have HT2 := Lib.hid (HTa.out.grown hgr (fun b e => (HN1a.out.lt b e).1)); obtain ⟨hc2, hf2⟩ := HT2.out.tb.at 22 (.slice b1 t.short.length d1) rfl))
      have HX := Lib.hid (HT2.out.set 22 (.slice bz zs.length dz) rfl)
      refine wp_name (fun W => TP w W t.s t.grp (.slice bz zs.length dz) (.slice a2 t.long.length c2) (.slice a3 t.mshort.length c3) (.slice b4 t.curs.length d4) (.slice b5 t.units.length d5) (.slice a6 t.munit.length c6) ∧ TbS (Live w W) W { t with short := zs } (.slice bz zs.length dz) (.slice a2 t.long.length c2) (.slice a3 t.mshort.length c3) (.slice b4 t.curs.length d4) (.slice b5 t.units.length d5) (.slice a6 t.munit.length c6)) ⟨HX.out, ⟨(hown.set (carries_rw _) w.heap.size 22 (.slice bz zs.length dz) (by omega) (by omega)).rws, args_rws HX.out.bel HI.out.long, args_rws HX.out.bel HI.out.mshort, ((HN4a.out.grown (carries_cu _) hgr (fun b e => ⟨by have := (HN1a.out.lt b e).1; omega, fun e2 => HD14.out b e e2⟩)).set (carries_cu _) w.heap.size 22 (.slice bz zs.length dz) (by omega) (by omega)).cus, ((HN5a.out.grown (carries_un _) hgr (fun b e => ⟨by have := (HN1a.out.lt b e).1; omega, fun e2 => HD15.out b e e2⟩)).set (carries_un _) w.heap.size 22 (.slice bz zs.length dz) (by omega) (by omega)).uns, args_txs HX.out.bel HI.out.munit⟩⟩ (fun Wf hW => ?_)
      obtain ⟨q0, q1⟩ := hW
      have HTf := Lib.hid q0
      have HSf := Lib.hid q1
      clear q0 q1
      clear HT1 HTa HT2 HS HN1 HN4 HN5 HN1a HN4a HN5a HX hc0 hf0 hc1 hf1 hc2 hf2 hown hgr hat hlen
      refine wp_region_list ?_
      refine wpList_load_mid rfl 55 _ rfl w.heap.size 0 rfl (tbC t.s t.grp (.slice bz zs.length dz) (.slice a2 t.long.length c2) (.slice a3 t.mshort.length c3) (.slice b4 t.curs.length d4) (.slice b5 t.units.length d5) (.slice a6 t.munit.length c6)).toList _ HTf.out.tb.range Try.underlying55 rfl size55 ?_
      refine wpList_store_mid rfl 55 _ _ rfl (w.heap.size + 1) 0 (tbC t.s t.grp (.slice bz zs.length dz) (.slice a2 t.long.length c2) (.slice a3 t.mshort.length c3) (.slice b4 t.curs.length d4) (.slice b5 t.units.length d5) (.slice a6 t.munit.length c6)) rfl rfl HTf.out.z.there size55 (tbC_one _ _ _ _ _ _ _ _ _ _ _ _ _ _ _ _ _ _ _ _) ?_
      have HPf := Lib.hid (HTf.out.z.put (tbC t.s t.grp (.slice bz zs.length dz) (.slice a2 t.long.length c2) (.slice a3 t.mshort.length c3) (.slice b4 t.curs.length d4) (.slice b5 t.units.length d5) (.slice a6 t.munit.length c6)) rfl)
      have HKf := Lib.hid (setCells_kept (tbC t.s t.grp (.slice bz zs.length dz) (.slice a2 t.long.length c2) (.slice a3 t.mshort.length c3) (.slice b4 t.curs.length d4) (.slice b5 t.units.length d5) (.slice a6 t.munit.length c6)).toList 0 Wf (w.heap.size + 1))
      generalize Wf.setCells (w.heap.size + 1) 0 (tbC t.s t.grp (.slice bz zs.length dz) (.slice a2 t.long.length c2) (.slice a3 t.mshort.length c3) (.slice b4 t.curs.length d4) (.slice b5 t.units.length d5) (.slice a6 t.munit.length c6)).toList = wq at *
      go_wp2
      refine bodyPost_ret (res29 HPf.out rfl rfl) rfl ⟨{ t with short := zs }, _, _, _, _, _, _, true, rfl, HTf.out.bel.trans (HKf.out.below HTf.out.bel.size (fun k hk e => by omega)), tbC_one _ _ _ _ _ _ _ _ _ _ _ _ _ _ _ _ _ _ _ _, (fun _ => ⟨HTn.out, HSf.out.fin HKf.out⟩)⟩
    · obtain ⟨zs, hzs⟩ : ∃ l, l = (rw1 :: t.long) := ⟨_, rfl⟩
      have HTn : Hid (Turned t { t with long := zs }) := Lib.hid (by rw [hzs]; exact Turned.long)
      have HZs := Lib.hid hzs
      have hlen : zs.length ≤ 1000 := by
        have := HK.out.long.1
        rw [hzs]
        simp only [List.length_append, List.length_cons, List.length_nil]
        omega
      clear hzs
      have HS := Lib.hid (OwnS.one (k := 2) (R := RwAt (fun b => b < w.heap.size)) (e := 66) (base := w.heap.size + 2) (W := W6) HT1.out.lt (cs := #[.int .i64 1, .slice none 0 0]) rfl (x := rw1) ⟨cell_of (heap_alloc_new _ _) rfl, .slice none 0 0, cell_of (heap_alloc_new _ _) rfl, SliceOf.nil⟩)
      have HTa := Lib.hid (HT1.out.alloc (.cells #[.int .i64 1, .slice none 0 0] 66))
      obtain ⟨hc0, hf0⟩ := HT1.out.tb.at 23 (.slice a2 t.long.length c2) rfl
      obtain ⟨hc1, hf1⟩ := HTa.out.tb.at 23 (.slice a2 t.long.length c2) rfl
      have HN1a := Lib.hid (HN1.out.alloc (carries_rw _) (.cells #[.int .i64 1, .slice none 0 0] 66))
      have HN4a := Lib.hid (HN4.out.alloc (carries_cu _) (.cells #[.int .i64 1, .slice none 0 0] 66))
      have HN5a := Lib.hid (HN5.out.alloc (carries_un _) (.cells #[.int .i64 1, .slice none 0 0] 66))
      go_upto_region 32 with (at_builtin; (refine wpList_appS rfl _ _ 48 rfl (w.heap.size + 2) 66 i66 (.agg #[.int .i64 0, .slice none 0 0]) 2 32 Try.underlying48 h66 y66 x66 z66 rfl (by omega) (RwAt (fun b => b < w.heap.size)) (fun b => b < w.heap.size) (fun b => b < w.heap.size) (carries_rw _) (fun b hb => by omega) (.slice (some ⟨W6.heap.size, 0, none⟩) 1 1) [rw1] rfl HS.out a2 t.long.length c2 t.long rfl (HI.out.long.same (Same.of_below HTa.out.bel (fun b hb => hb))) zs HZs.out hlen (by omega) HTa.out.lt ?_; intro bz dz W8 hown hgr hat; have HT2 := Lib.hid (HTa.out.grown hgr (fun b e => (HS.out.lt b e).1)); obtain ⟨hc2, hf2⟩ := HT2.out.tb.at 23 (.slice a2 t.long.length c2) rfl))
      have HX := Lib.hid (HT2.out.set 23 (.slice bz zs.length dz) rfl)
      refine wp_name (fun W => TP w W t.s t.grp (.slice b1 t.short.length d1) (.slice bz zs.length dz) (.slice a3 t.mshort.length c3) (.slice b4 t.curs.length d4) (.slice b5 t.units.length d5) (.slice a6 t.munit.length c6) ∧ TbS (Live w W) W { t with long := zs } (.slice b1 t.short.length d1) (.slice bz zs.length dz) (.slice a3 t.mshort.length c3) (.slice b4 t.curs.length d4) (.slice b5 t.units.length d5) (.slice a6 t.munit.length c6)) ⟨HX.out, ⟨((HN1a.out.grown (carries_rw _) hgr (fun b e => ⟨by have := (HS.out.lt b e).1; omega, fun e2 => by have h1 := (HN1.out.lt b e2).2; injection e with e; have e : W6.heap.size = b := e; omega⟩)).set (carries_rw _) w.heap.size 23 (.slice bz zs.length dz) (by omega) (by omega)).rws, (hown.set (carries_rw (fun b => b < w.heap.size)) w.heap.size 23 (.slice bz zs.length dz) (by omega) (by omega)).rws, args_rws HX.out.bel HI.out.mshort, ((HN4a.out.grown (carries_cu _) hgr (fun b e => ⟨by have := (HS.out.lt b e).1; omega, fun e2 => by have h1 := (HN4.out.lt b e2).2; injection e with e; have e : W6.heap.size = b := e; omega⟩)).set (carries_cu _) w.heap.size 23 (.slice bz zs.length dz) (by omega) (by omega)).cus, ((HN5a.out.grown (carries_un _) hgr (fun b e => ⟨by have := (HS.out.lt b e).1; omega, fun e2 => by have h1 := (HN5.out.lt b e2).2; injection e with e; have e : W6.heap.size = b := e; omega⟩)).set (carries_un _) w.heap.size 23 (.slice bz zs.length dz) (by omega) (by omega)).uns, args_txs HX.out.bel HI.out.munit⟩⟩ (fun Wf hW => ?_)
      obtain ⟨q0, q1⟩ := hW
      have HTf := Lib.hid q0
      have HSf := Lib.hid q1
      clear q0 q1
      clear HT1 HTa HT2 HS HN1 HN4 HN5 HN1a HN4a HN5a HX hc0 hf0 hc1 hf1 hc2 hf2 hown hgr hat hlen
      refine wp_region_list ?_
      refine wpList_load_mid rfl 55 _ rfl w.heap.size 0 rfl (tbC t.s t.grp (.slice b1 t.short.length d1) (.slice bz zs.length dz) (.slice a3 t.mshort.length c3) (.slice b4 t.curs.length d4) (.slice b5 t.units.length d5) (.slice a6 t.munit.length c6)).toList _ HTf.out.tb.range Try.underlying55 rfl size55 ?_
      refine wpList_store_mid rfl 55 _ _ rfl (w.heap.size + 1) 0 (tbC t.s t.grp (.slice b1 t.short.length d1) (.slice bz zs.length dz) (.slice a3 t.mshort.length c3) (.slice b4 t.curs.length d4) (.slice b5 t.units.length d5) (.slice a6 t.munit.length c6)) rfl rfl HTf.out.z.there size55 (tbC_one _ _ _ _ _ _ _ _ _ _ _ _ _ _ _ _ _ _ _ _) ?_
      have HPf := Lib.hid (HTf.out.z.put (tbC t.s t.grp (.slice b1 t.short.length d1) (.slice bz zs.length dz) (.slice a3 t.mshort.length c3) (.slice b4 t.curs.length d4) (.slice b5 t.units.length d5) (.slice a6 t.munit.length c6)) rfl)
      have HKf := Lib.hid (setCells_kept (tbC t.s t.grp (.slice b1 t.short.length d1) (.slice bz zs.length dz) (.slice a3 t.mshort.length c3) (.slice b4 t.curs.length d4) (.slice b5 t.units.length d5) (.slice a6 t.munit.length c6)).toList 0 Wf (w.heap.size + 1))
      generalize Wf.setCells (w.heap.size + 1) 0 (tbC t.s t.grp (.slice b1 t.short.length d1) (.slice bz zs.length dz) (.slice a3 t.mshort.length c3) (.slice b4 t.curs.length d4) (.slice b5 t.units.length d5) (.slice a6 t.munit.length c6)).toList = wq at *
      go_wp2
      refine bodyPost_ret (res29 HPf.out rfl rfl) rfl ⟨{ t with long := zs }, _, _, _, _, _, _, true, rfl, HTf.out.bel.trans (HKf.out.below HTf.out.bel.size (fun k hk e => by omega)), tbC_one _ _ _ _ _ _ _ _ _ _ _ _ _ _ _ _ _ _ _ _, (fun _ => ⟨HTn.out, HSf.out.fin HKf.out⟩)⟩
    · obtain ⟨zs, hzs⟩ : ∃ l, l = (rw1 :: t.mshort) := ⟨_, rfl⟩
      have HTn : Hid (Turned t { t with mshort := zs }) := Lib.hid (by rw [hzs]; exact Turned.mshort)
      have HZs := Lib.hid hzs
      have hlen : zs.length ≤ 1000 := by
        have := HK.out.mshort.1
        rw [hzs]
        simp only [List.length_append, List.length_cons, List.length_nil]
        omega
      clear hzs
      have HS := Lib.hid (OwnS.one (k := 2) (R := RwAt (fun b => b < w.heap.size)) (e := 66) (base := w.heap.size + 2) (W := W6) HT1.out.lt (cs := #[.int .i64 1, .slice none 0 0]) rfl (x := rw1) ⟨cell_of (heap_alloc_new _ _) rfl, .slice none 0 0, cell_of (heap_alloc_new _ _) rfl, SliceOf.nil⟩)
      have HTa := Lib.hid (HT1.out.alloc (.cells #[.int .i64 1, .slice none 0 0] 66))
      obtain ⟨hc0, hf0⟩ := HT1.out.tb.at 24 (.slice a3 t.mshort.length c3) rfl
      obtain ⟨hc1, hf1⟩ := HTa.out.tb.at 24 (.slice a3 t.mshort.length c3) rfl
      have HN1a := Lib.hid (HN1.out.alloc (carries_rw _) (.cells #[.int .i64 1, .slice none 0 0] 66))
      have HN4a := Lib.hid (HN4.out.alloc (carries_cu _) (.cells #[.int .i64 1, .slice none 0 0] 66))
      have HN5a := Lib.hid (HN5.out.alloc (carries_un _) (.cells #[.int .i64 1, .slice none 0 0] 66))
      go_upto_region 32 with (at_builtin; (refine wpList_appS rfl _ _ 48 rfl (w.heap.size + 2) 66 i66 (.agg #[.int .i64 0, .slice none 0 0]) 2 32 Try.underlying48 h66 y66 x66 z66 rfl (by omega) (RwAt (fun b => b < w.heap.size)) (fun b => b < w.heap.size) (fun b => b < w.heap.size) (carries_rw _) (fun b hb => by omega) (.slice (some ⟨W6.heap.size, 0, none⟩) 1 1) [rw1] rfl HS.out a3 t.mshort.length c3 t.mshort rfl (HI.out.mshort.same (Same.of_below HTa.out.bel (fun b hb => hb))) zs HZs.out hlen (by omega) HTa.out.lt ?_; intro bz dz W8 hown hgr hat; have HT2 := Lib.hid (HTa.out.grown hgr (fun b e => (HS.out.lt b e).1)); obtain ⟨hc2, hf2⟩ := HT2.out.tb.at 24 (.slice a3 t.mshort.length c3) rfl))
      have HX := Lib.hid (HT2.out.set 24 (.slice bz zs.length dz) rfl)
      refine wp_name (fun W => TP w W t.s t.grp (.slice b1 t.short.length d1) (.slice a2 t.long.length c2) (.slice bz zs.length dz) (.slice b4 t.curs.length d4) (.slice b5 t.units.length d5) (.slice a6 t.munit.length c6) ∧ TbS (Live w W) W { t with mshort := zs } (.slice b1 t.short.length d1) (.slice a2 t.long.length c2) (.slice bz zs.length dz) (.slice b4 t.curs.length d4) (.slice b5 t.units.length d5) (.slice a6 t.munit.length c6)) ⟨HX.out, ⟨((HN1a.out.grown (carries_rw _) hgr (fun b e => ⟨by have := (HS.out.lt b e).1; omega, fun e2 => by have h1 := (HN1.out.lt b e2).2; injection e with e; have e : W6.heap.size = b := e; omega⟩)).set (carries_rw _) w.heap.size 24 (.slice bz zs.length dz) (by omega) (by omega)).rws, args_rws HX.out.bel HI.out.long, (hown.set (carries_rw (fun b => b < w.heap.size)) w.heap.size 24 (.slice bz zs.length dz) (by omega) (by omega)).rws, ((HN4a.out.grown (carries_cu _) hgr (fun b e => ⟨by have := (HS.out.lt b e).1; omega, fun e2 => by have h1 := (HN4.out.lt b e2).2; injection e with e; have e : W6.heap.size = b := e; omega⟩)).set (carries_cu _) w.heap.size 24 (.slice bz zs.length dz) (by omega) (by omega)).cus, ((HN5a.out.grown (carries_un _) hgr (fun b e => ⟨by have := (HS.out.lt b e).1; omega, fun e2 => by have h1 := (HN5.out.lt b e2).2; injection e with e; have e : W6.heap.size = b := e; omega⟩)).set (carries_un _) w.heap.size 24 (.slice bz zs.length dz) (by omega) (by omega)).uns, args_txs HX.out.bel HI.out.munit⟩⟩ (fun Wf hW => ?_)
      obtain ⟨q0, q1⟩ := hW
      have HTf := Lib.hid q0
      have HSf := Lib.hid q1
      clear q0 q1
      clear HT1 HTa HT2 HS HN1 HN4 HN5 HN1a HN4a HN5a HX hc0 hf0 hc1 hf1 hc2 hf2 hown hgr hat hlen
      refine wp_region_list ?_
      refine wpList_load_mid rfl 55 _ rfl w.heap.size 0 rfl (tbC t.s t.grp (.slice b1 t.short.length d1) (.slice a2 t.long.length c2) (.slice bz zs.length dz) (.slice b4 t.curs.length d4) (.slice b5 t.units.length d5) (.slice a6 t.munit.length c6)).toList _ HTf.out.tb.range Try.underlying55 rfl size55 ?_
      refine wpList_store_mid rfl 55 _ _ rfl (w.heap.size + 1) 0 (tbC t.s t.grp (.slice b1 t.short.length d1) (.slice a2 t.long.length c2) (.slice bz zs.length dz) (.slice b4 t.curs.length d4) (.slice b5 t.units.length d5) (.slice a6 t.munit.length c6)) rfl rfl HTf.out.z.there size55 (tbC_one _ _ _ _ _ _ _ _ _ _ _ _ _ _ _ _ _ _ _ _) ?_
      have HPf := Lib.hid (HTf.out.z.put (tbC t.s t.grp (.slice b1 t.short.length d1) (.slice a2 t.long.length c2) (.slice bz zs.length dz) (.slice b4 t.curs.length d4) (.slice b5 t.units.length d5) (.slice a6 t.munit.length c6)) rfl)
      have HKf := Lib.hid (setCells_kept (tbC t.s t.grp (.slice b1 t.short.length d1) (.slice a2 t.long.length c2) (.slice bz zs.length dz) (.slice b4 t.curs.length d4) (.slice b5 t.units.length d5) (.slice a6 t.munit.length c6)).toList 0 Wf (w.heap.size + 1))
      generalize Wf.setCells (w.heap.size + 1) 0 (tbC t.s t.grp (.slice b1 t.short.length d1) (.slice a2 t.long.length c2) (.slice bz zs.length dz) (.slice b4 t.curs.length d4) (.slice b5 t.units.length d5) (.slice a6 t.munit.length c6)).toList = wq at *
      go_wp2
      refine bodyPost_ret (res29 HPf.out rfl rfl) rfl ⟨{ t with mshort := zs }, _, _, _, _, _, _, true, rfl, HTf.out.bel.trans (HKf.out.below HTf.out.bel.size (fun k hk e => by omega)), tbC_one _ _ _ _ _ _ _ _ _ _ _ _ _ _ _ _ _ _ _ _, (fun _ => ⟨HTn.out, HSf.out.fin HKf.out⟩)⟩
    · obtain ⟨zs, hzs⟩ : ∃ l, l = (t.curs ++ [cu0]) := ⟨_, rfl⟩
      have HTn : Hid (Turned t { t with curs := zs }) := Lib.hid (by rw [hzs]; exact Turned.curs)
      have HZs := Lib.hid hzs
      have hlen : zs.length ≤ 1000 := by
        have := HK.out.curs.1
        rw [hzs]
        simp only [List.length_append, List.length_cons, List.length_nil]
        omega
      clear hzs
      have HS := Lib.hid (OwnS.one (k := 8) (R := CuAt (fun b => b < w.heap.size)) (e := 64) (base := w.heap.size + 2) (W := W6) HT1.out.lt (cs := #[.string ⟨#[]⟩, .string ⟨#[]⟩, .string ⟨#[]⟩, .slice none 0 0, .int .i64 0, .int .i64 0, .int .i64 0, .int .i64 0]) rfl (x := cu0) ⟨cell_of (heap_alloc_new _ _) rfl, cell_of (heap_alloc_new _ _) rfl, cell_of (heap_alloc_new _ _) rfl, cell_of (heap_alloc_new _ _) rfl, cell_of (heap_alloc_new _ _) rfl, cell_of (heap_alloc_new _ _) rfl, cell_of (heap_alloc_new _ _) rfl, .slice none 0 0, cell_of (heap_alloc_new _ _) rfl, SliceOf.nil⟩)
      have HTa := Lib.hid (HT1.out.alloc (.cells #[.string ⟨#[]⟩, .string ⟨#[]⟩, .string ⟨#[]⟩, .slice none 0 0, .int .i64 0, .int .i64 0, .int .i64 0, .int .i64 0] 64))
      obtain ⟨hc0, hf0⟩ := HT1.out.tb.at 25 (.slice b4 t.curs.length d4) rfl
      obtain ⟨hc1, hf1⟩ := HTa.out.tb.at 25 (.slice b4 t.curs.length d4) rfl
      have HN1a := Lib.hid (HN1.out.alloc (carries_rw _) (.cells #[.string ⟨#[]⟩, .string ⟨#[]⟩, .string ⟨#[]⟩, .slice none 0 0, .int .i64 0, .int .i64 0, .int .i64 0, .int .i64 0] 64))
      have HN4a := Lib.hid (HN4.out.alloc (carries_cu _) (.cells #[.string ⟨#[]⟩, .string ⟨#[]⟩, .string ⟨#[]⟩, .slice none 0 0, .int .i64 0, .int .i64 0, .int .i64 0, .int .i64 0] 64))
      have HN5a := Lib.hid (HN5.out.alloc (carries_un _) (.cells #[.string ⟨#[]⟩, .string ⟨#[]⟩, .string ⟨#[]⟩, .slice none 0 0, .int .i64 0, .int .i64 0, .int .i64 0, .int .i64 0] 64))
      go_upto_region 32 with (at_builtin; (refine wpList_appS rfl _ _ 49 rfl (w.heap.size + 2) 64 i64 (.agg #[.string ⟨#[]⟩, .string ⟨#[]⟩, .string ⟨#[]⟩, .slice none 0 0, .int .i64 0, .int .i64 0, .int .i64 0, .int .i64 0]) 8 104 Try.underlying49 h64 y64 x64 z64 rfl (by omega) (CuAt (fun b => b < w.heap.size)) (fun b => b < w.heap.size) (fun b => (Value.slice (some ⟨W6.heap.size, 0, none⟩) 1 1).ownBlock = some b) (carries_cu _) (fun b hb => by omega) (.slice b4 t.curs.length d4) t.curs rfl HN4a.out (some ⟨W6.heap.size, 0, none⟩) 1 1 [cu0] rfl HS.out.sl zs HZs.out hlen (by omega) HTa.out.lt ?_; intro bz dz W8 hown hgr hat; have HT2 := Lib.hid (HTa.out.grown hgr (fun b e => (HN4a.out.lt b e).1)); obtain ⟨hc2, hf2⟩ := HT2.out.tb.at 25 (.slice b4 t.curs.length d4) rfl))
      have HX := Lib.hid (HT2.out.set 25 (.slice bz zs.length dz) rfl)
      refine wp_name (fun W => TP w W t.s t.grp (.slice b1 t.short.length d1) (.slice a2 t.long.length c2) (.slice a3 t.mshort.length c3) (.slice bz zs.length dz) (.slice b5 t.units.length d5) (.slice a6 t.munit.length c6) ∧ TbS (Live w W) W { t with curs := zs } (.slice b1 t.short.length d1) (.slice a2 t.long.length c2) (.slice a3 t.mshort.length c3) (.slice bz zs.length dz) (.slice b5 t.units.length d5) (.slice a6 t.munit.length c6)) ⟨HX.out, ⟨((HN1a.out.grown (carries_rw _) hgr (fun b e => ⟨by have := (HN4a.out.lt b e).1; omega, fun e2 => HD14.out b e2 e⟩)).set (carries_rw _) w.heap.size 25 (.slice bz zs.length dz) (by omega) (by omega)).rws, args_rws HX.out.bel HI.out.long, args_rws HX.out.bel HI.out.mshort, (hown.set (carries_cu _) w.heap.size 25 (.slice bz zs.length dz) (by omega) (by omega)).cus, ((HN5a.out.grown (carries_un _) hgr (fun b e => ⟨by have := (HN4a.out.lt b e).1; omega, fun e2 => HD45.out b e e2⟩)).set (carries_un _) w.heap.size 25 (.slice bz zs.length dz) (by omega) (by omega)).uns, args_txs HX.out.bel HI.out.munit⟩⟩ (fun Wf hW => ?_)
      obtain ⟨q0, q1⟩ := hW
      have HTf := Lib.hid q0
      have HSf := Lib.hid q1
      clear q0 q1
      clear HT1 HTa HT2 HS HN1 HN4 HN5 HN1a HN4a HN5a HX hc0 hf0 hc1 hf1 hc2 hf2 hown hgr hat hlen
      refine wp_region_list ?_
      refine wpList_load_mid rfl 55 _ rfl w.heap.size 0 rfl (tbC t.s t.grp (.slice b1 t.short.length d1) (.slice a2 t.long.length c2) (.slice a3 t.mshort.length c3) (.slice bz zs.length dz) (.slice b5 t.units.length d5) (.slice a6 t.munit.length c6)).toList _ HTf.out.tb.range Try.underlying55 rfl size55 ?_
      refine wpList_store_mid rfl 55 _ _ rfl (w.heap.size + 1) 0 (tbC t.s t.grp (.slice b1 t.short.length d1) (.slice a2 t.long.length c2) (.slice a3 t.mshort.length c3) (.slice bz zs.length dz) (.slice b5 t.units.length d5) (.slice a6 t.munit.length c6)) rfl rfl HTf.out.z.there size55 (tbC_one _ _ _ _ _ _ _ _ _ _ _ _ _ _ _ _ _ _ _ _) ?_
      have HPf := Lib.hid (HTf.out.z.put (tbC t.s t.grp (.slice b1 t.short.length d1) (.slice a2 t.long.length c2) (.slice a3 t.mshort.length c3) (.slice bz zs.length dz) (.slice b5 t.units.length d5) (.slice a6 t.munit.length c6)) rfl)
      have HKf := Lib.hid (setCells_kept (tbC t.s t.grp (.slice b1 t.short.length d1) (.slice a2 t.long.length c2) (.slice a3 t.mshort.length c3) (.slice bz zs.length dz) (.slice b5 t.units.length d5) (.slice a6 t.munit.length c6)).toList 0 Wf (w.heap.size + 1))
      generalize Wf.setCells (w.heap.size + 1) 0 (tbC t.s t.grp (.slice b1 t.short.length d1) (.slice a2 t.long.length c2) (.slice a3 t.mshort.length c3) (.slice bz zs.length dz) (.slice b5 t.units.length d5) (.slice a6 t.munit.length c6)).toList = wq at *
      go_wp2
      refine bodyPost_ret (res29 HPf.out rfl rfl) rfl ⟨{ t with curs := zs }, _, _, _, _, _, _, true, rfl, HTf.out.bel.trans (HKf.out.below HTf.out.bel.size (fun k hk e => by omega)), tbC_one _ _ _ _ _ _ _ _ _ _ _ _ _ _ _ _ _ _ _ _, (fun _ => ⟨HTn.out, HSf.out.fin HKf.out⟩)⟩
    · obtain ⟨zs, hzs⟩ : ∃ l, l = (t.units ++ [un0]) := ⟨_, rfl⟩
      have HTn : Hid (Turned t { t with units := zs }) := Lib.hid (by rw [hzs]; exact Turned.units)
      have HZs := Lib.hid hzs
      have hlen : zs.length ≤ 1000 := by
        have := HK.out.units.1
        rw [hzs]
        simp only [List.length_append, List.length_cons, List.length_nil]
        omega
      clear hzs
      have HS := Lib.hid (OwnS.one (k := 2) (R := UnAt (fun b => b < w.heap.size)) (e := 76) (base := w.heap.size + 2) (W := W6) HT1.out.lt (cs := #[.string ⟨#[]⟩, .slice none 0 0]) rfl (x := un0) ⟨cell_of (heap_alloc_new _ _) rfl, .slice none 0 0, cell_of (heap_alloc_new _ _) rfl, SliceOf.nil⟩)
      have HTa := Lib.hid (HT1.out.alloc (.cells #[.string ⟨#[]⟩, .slice none 0 0] 76))
      obtain ⟨hc0, hf0⟩ := HT1.out.tb.at 26 (.slice b5 t.units.length d5) rfl
      obtain ⟨hc1, hf1⟩ := HTa.out.tb.at 26 (.slice b5 t.units.length d5) rfl
      have HN1a := Lib.hid (HN1.out.alloc (carries_rw _) (.cells #[.string ⟨#[]⟩, .slice none 0 0] 76))
      have HN4a := Lib.hid (HN4.out.alloc (carries_cu _) (.cells #[.string ⟨#[]⟩, .slice none 0 0] 76))
      have HN5a := Lib.hid (HN5.out.alloc (carries_un _) (.cells #[.string ⟨#[]⟩, .slice none 0 0] 76))
      go_upto_region 32 with (at_builtin; (refine wpList_appS rfl _ _ 50 rfl (w.heap.size + 2) 76 i76 (.agg #[.string ⟨#[]⟩, .slice none 0 0]) 2 40 Try.underlying50 h76 y76 x76 z76 rfl (by omega) (UnAt (fun b => b < w.heap.size)) (fun b => b < w.heap.size) (fun b => (Value.slice (some ⟨W6.heap.size, 0, none⟩) 1 1).ownBlock = some b) (carries_un _) (fun b hb => by omega) (.slice b5 t.units.length d5) t.units rfl HN5a.out (some ⟨W6.heap.size, 0, none⟩) 1 1 [un0] rfl HS.out.sl zs HZs.out hlen (by omega) HTa.out.lt ?_; intro bz dz W8 hown hgr hat; have HT2 := Lib.hid (HTa.out.grown hgr (fun b e => (HN5a.out.lt b e).1)); obtain ⟨hc2, hf2⟩ := HT2.out.tb.at 26 (.slice b5 t.units.length d5) rfl))
      have HX := Lib.hid (HT2.out.set 26 (.slice bz zs.length dz) rfl)
      refine wp_name (fun W => TP w W t.s t.grp (.slice b1 t.short.length d1) (.slice a2 t.long.length c2) (.slice a3 t.mshort.length c3) (.slice b4 t.curs.length d4) (.slice bz zs.length dz) (.slice a6 t.munit.length c6) ∧ TbS (Live w W) W { t with units := zs } (.slice b1 t.short.length d1) (.slice a2 t.long.length c2) (.slice a3 t.mshort.length c3) (.slice b4 t.curs.length d4) (.slice bz zs.length dz) (.slice a6 t.munit.length c6)) ⟨HX.out, ⟨((HN1a.out.grown (carries_rw _) hgr (fun b e => ⟨by have := (HN5a.out.lt b e).1; omega, fun e2 => HD15.out b e2 e⟩)).set (carries_rw _) w.heap.size 26 (.slice bz zs.length dz) (by omega) (by omega)).rws, args_rws HX.out.bel HI.out.long, args_rws HX.out.bel HI.out.mshort, ((HN4a.out.grown (carries_cu _) hgr (fun b e => ⟨by have := (HN5a.out.lt b e).1; omega, fun e2 => HD45.out b e2 e⟩)).set (carries_cu _) w.heap.size 26 (.slice bz zs.length dz) (by omega) (by omega)).cus, (hown.set (carries_un _) w.heap.size 26 (.slice bz zs.length dz) (by omega) (by omega)).uns, args_txs HX.out.bel HI.out.munit⟩⟩ (fun Wf hW => ?_)
      obtain ⟨q0, q1⟩ := hW
      have HTf := Lib.hid q0
      have HSf := Lib.hid q1
      clear q0 q1
      clear HT1 HTa HT2 HS HN1 HN4 HN5 HN1a HN4a HN5a HX hc0 hf0 hc1 hf1 hc2 hf2 hown hgr hat hlen
      refine wp_region_list ?_
      refine wpList_load_mid rfl 55 _ rfl w.heap.size 0 rfl (tbC t.s t.grp (.slice b1 t.short.length d1) (.slice a2 t.long.length c2) (.slice a3 t.mshort.length c3) (.slice b4 t.curs.length d4) (.slice bz zs.length dz) (.slice a6 t.munit.length c6)).toList _ HTf.out.tb.range Try.underlying55 rfl size55 ?_
      refine wpList_store_mid rfl 55 _ _ rfl (w.heap.size + 1) 0 (tbC t.s t.grp (.slice b1 t.short.length d1) (.slice a2 t.long.length c2) (.slice a3 t.mshort.length c3) (.slice b4 t.curs.length d4) (.slice bz zs.length dz) (.slice a6 t.munit.length c6)) rfl rfl HTf.out.z.there size55 (tbC_one _ _ _ _ _ _ _ _ _ _ _ _ _ _ _ _ _ _ _ _) ?_
      have HPf := Lib.hid (HTf.out.z.put (tbC t.s t.grp (.slice b1 t.short.length d1) (.slice a2 t.long.length c2) (.slice a3 t.mshort.length c3) (.slice b4 t.curs.length d4) (.slice bz zs.length dz) (.slice a6 t.munit.length c6)) rfl)
      have HKf := Lib.hid (setCells_kept (tbC t.s t.grp (.slice b1 t.short.length d1) (.slice a2 t.long.length c2) (.slice a3 t.mshort.length c3) (.slice b4 t.curs.length d4) (.slice bz zs.length dz) (.slice a6 t.munit.length c6)).toList 0 Wf (w.heap.size + 1))
      generalize Wf.setCells (w.heap.size + 1) 0 (tbC t.s t.grp (.slice b1 t.short.length d1) (.slice a2 t.long.length c2) (.slice a3 t.mshort.length c3) (.slice b4 t.curs.length d4) (.slice bz zs.length dz) (.slice a6 t.munit.length c6)).toList = wq at *
      go_wp2
      refine bodyPost_ret (res29 HPf.out rfl rfl) rfl ⟨{ t with units := zs }, _, _, _, _, _, _, true, rfl, HTf.out.bel.trans (HKf.out.below HTf.out.bel.size (fun k hk e => by omega)), tbC_one _ _ _ _ _ _ _ _ _ _ _ _ _ _ _ _ _ _ _ _, (fun _ => ⟨HTn.out, HSf.out.fin HKf.out⟩)⟩
    · obtain ⟨zs, hzs⟩ : ∃ l, l = (tx0 :: t.munit) := ⟨_, rfl⟩
      have HTn : Hid (Turned t { t with munit := zs }) := Lib.hid (by rw [hzs]; exact Turned.munit)
      have HZs := Lib.hid hzs
      have hlen : zs.length ≤ 1000 := by
        have := HK.out.munit.1
        rw [hzs]
        simp only [List.length_append, List.length_cons, List.length_nil]
        omega
      clear hzs
      have HS := Lib.hid (OwnS.one (k := 2) (R := TxAt) (e := 98) (base := w.heap.size + 2) (W := W6) HT1.out.lt (cs := #[.int .i64 0, .string ⟨#[]⟩]) rfl (x := tx0) ⟨cell_of (heap_alloc_new _ _) rfl, cell_of (heap_alloc_new _ _) rfl⟩)
      have HTa := Lib.hid (HT1.out.alloc (.cells #[.int .i64 0, .string ⟨#[]⟩] 98))
      obtain ⟨hc0, hf0⟩ := HT1.out.tb.at 27 (.slice a6 t.munit.length c6) rfl
      obtain ⟨hc1, hf1⟩ := HTa.out.tb.at 27 (.slice a6 t.munit.length c6) rfl
      have HN1a := Lib.hid (HN1.out.alloc (carries_rw _) (.cells #[.int .i64 0, .string ⟨#[]⟩] 98))
      have HN4a := Lib.hid (HN4.out.alloc (carries_cu _) (.cells #[.int .i64 0, .string ⟨#[]⟩] 98))
      have HN5a := Lib.hid (HN5.out.alloc (carries_un _) (.cells #[.int .i64 0, .string ⟨#[]⟩] 98))
      go_upto_region 32 with (at_builtin; (refine wpList_appS rfl _ _ 51 rfl (w.heap.size + 2) 98 i98 (.agg #[.int .i64 0, .string ⟨#[]⟩]) 2 24 Try.underlying51 h98 y98 x98 z98 rfl (by omega) (TxAt) (fun b => b < w.heap.size) (fun b => b < w.heap.size) (carries_tx _) (fun b hb => by omega) (.slice (some ⟨W6.heap.size, 0, none⟩) 1 1) [tx0] rfl HS.out a6 t.munit.length c6 t.munit rfl (HI.out.munit.same (Same.of_below HTa.out.bel (fun b hb => hb))) zs HZs.out hlen (by omega) HTa.out.lt ?_; intro bz dz W8 hown hgr hat; have HT2 := Lib.hid (HTa.out.grown hgr (fun b e => (HS.out.lt b e).1)); obtain ⟨hc2, hf2⟩ := HT2.out.tb.at 27 (.slice a6 t.munit.length c6) rfl))
      have HX := Lib.hid (HT2.out.set 27 (.slice bz zs.length dz) rfl)
      refine wp_name (fun W => TP w W t.s t.grp (.slice b1 t.short.length d1) (.slice a2 t.long.length c2) (.slice a3 t.mshort.length c3) (.slice b4 t.curs.length d4) (.slice b5 t.units.length d5) (.slice bz zs.length dz) ∧ TbS (Live w W) W { t with munit := zs } (.slice b1 t.short.length d1) (.slice a2 t.long.length c2) (.slice a3 t.mshort.length c3) (.slice b4 t.curs.length d4) (.slice b5 t.units.length d5) (.slice bz zs.length dz)) ⟨HX.out, ⟨((HN1a.out.grown (carries_rw _) hgr (fun b e => ⟨by have := (HS.out.lt b e).1; omega, fun e2 => by have h1 := (HN1.out.lt b e2).2; injection e with e; have e : W6.heap.size = b := e; omega⟩)).set (carries_rw _) w.heap.size 27 (.slice bz zs.length dz) (by omega) (by omega)).rws, args_rws HX.out.bel HI.out.long, args_rws HX.out.bel HI.out.mshort, ((HN4a.out.grown (carries_cu _) hgr (fun b e => ⟨by have := (HS.out.lt b e).1; omega, fun e2 => by have h1 := (HN4.out.lt b e2).2; injection e with e; have e : W6.heap.size = b := e; omega⟩)).set (carries_cu _) w.heap.size 27 (.slice bz zs.length dz) (by omega) (by omega)).cus, ((HN5a.out.grown (carries_un _) hgr (fun b e => ⟨by have := (HS.out.lt b e).1; omega, fun e2 => by have h1 := (HN5.out.lt b e2).2; injection e with e; have e : W6.heap.size = b := e; omega⟩)).set (carries_un _) w.heap.size 27 (.slice bz zs.length dz) (by omega) (by omega)).uns, (hown.set (carries_tx (fun b => b < w.heap.size)) w.heap.size 27 (.slice bz zs.length dz) (by omega) (by omega)).txs⟩⟩ (fun Wf hW => ?_)
      obtain ⟨q0, q1⟩ := hW
      have HTf := Lib.hid q0
      have HSf := Lib.hid q1
      clear q0 q1
      clear HT1 HTa HT2 HS HN1 HN4 HN5 HN1a HN4a HN5a HX hc0 hf0 hc1 hf1 hc2 hf2 hown hgr hat hlen
      refine wp_region_list ?_
      refine wpList_load_mid rfl 55 _ rfl w.heap.size 0 rfl (tbC t.s t.grp (.slice b1 t.short.length d1) (.slice a2 t.long.length c2) (.slice a3 t.mshort.length c3) (.slice b4 t.curs.length d4) (.slice b5 t.units.length d5) (.slice bz zs.length dz)).toList _ HTf.out.tb.range Try.underlying55 rfl size55 ?_
      refine wpList_store_mid rfl 55 _ _ rfl (w.heap.size + 1) 0 (tbC t.s t.grp (.slice b1 t.short.length d1) (.slice a2 t.long.length c2) (.slice a3 t.mshort.length c3) (.slice b4 t.curs.length d4) (.slice b5 t.units.length d5) (.slice bz zs.length dz)) rfl rfl HTf.out.z.there size55 (tbC_one _ _ _ _ _ _ _ _ _ _ _ _ _ _ _ _ _ _ _ _) ?_
      have HPf := Lib.hid (HTf.out.z.put (tbC t.s t.grp (.slice b1 t.short.length d1) (.slice a2 t.long.length c2) (.slice a3 t.mshort.length c3) (.slice b4 t.curs.length d4) (.slice b5 t.units.length d5) (.slice bz zs.length dz)) rfl)
      have HKf := Lib.hid (setCells_kept (tbC t.s t.grp (.slice b1 t.short.length d1) (.slice a2 t.long.length c2) (.slice a3 t.mshort.length c3) (.slice b4 t.curs.length d4) (.slice b5 t.units.length d5) (.slice bz zs.length dz)).toList 0 Wf (w.heap.size + 1))
      generalize Wf.setCells (w.heap.size + 1) 0 (tbC t.s t.grp (.slice b1 t.short.length d1) (.slice a2 t.long.length c2) (.slice a3 t.mshort.length c3) (.slice b4 t.curs.length d4) (.slice b5 t.units.length d5) (.slice bz zs.length dz)).toList = wq at *
      go_wp2
      refine bodyPost_ret (res29 HPf.out rfl rfl) rfl ⟨{ t with munit := zs }, _, _, _, _, _, _, true, rfl, HTf.out.bel.trans (HKf.out.below HTf.out.bel.size (fun k hk e => by omega)), tbC_one _ _ _ _ _ _ _ _ _ _ _ _ _ _ _ _ _ _ _ _, (fun _ => ⟨HTn.out, HSf.out.fin HKf.out⟩)⟩
    · obtain ⟨hc1, hf1⟩ := HT1.out.tb.at 25 (.slice b4 t.curs.length d4) rfl
      obtain ⟨ls, hls⟩ : ∃ l, l = t.curs := ⟨_, rfl⟩
      cases ls with
      | nil =>
        have hl0 : t.curs.length = 0 := by rw [← hls]; rfl
        go_upto_region 26 with fail
        refine wp_name (fun W => TP w W t.s t.grp (.slice b1 t.short.length d1) (.slice a2 t.long.length c2) (.slice a3 t.mshort.length c3) (.slice b4 t.curs.length d4) (.slice b5 t.units.length d5) (.slice a6 t.munit.length c6)) HT1.out (fun Wf hW => ?_)
        have HTf := Lib.hid hW
        clear hW
        refine wp_region_list ?_
        refine wpList_load_mid rfl 55 _ rfl w.heap.size 0 rfl (tbC t.s t.grp (.slice b1 t.short.length d1) (.slice a2 t.long.length c2) (.slice a3 t.mshort.length c3) (.slice b4 t.curs.length d4) (.slice b5 t.units.length d5) (.slice a6 t.munit.length c6)).toList _ HTf.out.tb.range Try.underlying55 rfl size55 ?_
        refine wpList_store_mid rfl 55 _ _ rfl (w.heap.size + 1) 0 (tbC t.s t.grp (.slice b1 t.short.length d1) (.slice a2 t.long.length c2) (.slice a3 t.mshort.length c3) (.slice b4 t.curs.length d4) (.slice b5 t.units.length d5) (.slice a6 t.munit.length c6)) rfl rfl HTf.out.z.there size55 (tbC_one _ _ _ _ _ _ _ _ _ _ _ _ _ _ _ _ _ _ _ _) ?_
        have HPf := Lib.hid (HTf.out.z.put (tbC t.s t.grp (.slice b1 t.short.length d1) (.slice a2 t.long.length c2) (.slice a3 t.mshort.length c3) (.slice b4 t.curs.length d4) (.slice b5 t.units.length d5) (.slice a6 t.munit.length c6)) rfl)
        have HKf := Lib.hid (setCells_kept (tbC t.s t.grp (.slice b1 t.short.length d1) (.slice a2 t.long.length c2) (.slice a3 t.mshort.length c3) (.slice b4 t.curs.length d4) (.slice b5 t.units.length d5) (.slice a6 t.munit.length c6)).toList 0 Wf (w.heap.size + 1))
        generalize Wf.setCells (w.heap.size + 1) 0 (tbC t.s t.grp (.slice b1 t.short.length d1) (.slice a2 t.long.length c2) (.slice a3 t.mshort.length c3) (.slice b4 t.curs.length d4) (.slice b5 t.units.length d5) (.slice a6 t.munit.length c6)).toList = wq at *
        go_wp2
        refine bodyPost_ret (res29 HPf.out rfl rfl) rfl ⟨t, _, _, _, _, _, _, false, rfl, HTf.out.bel.trans (HKf.out.below HTf.out.bel.size (fun k hk e => by omega)), tbC_one _ _ _ _ _ _ _ _ _ _ _ _ _ _ _ _ _ _ _ _, (fun h => by cases h)⟩
      | cons x r =>
        have hl0 : t.curs.length = r.length + 1 := by rw [← hls]; rfl
        have HNx : Hid (OwnS 8 (CuAt (fun b => b < w.heap.size)) 64 (w.heap.size + 2) W6 (.slice b4 t.curs.length d4) (x :: r)) := by rw [hls]; exact HN4
        obtain ⟨g, hg, hgb, hgl, hgr, _, hfz⟩ := HNx.out.head
        subst hg
        obtain ⟨h0x, hx1⟩ := HCur.out x r hls.symm
        have hwx : wrap64 (x.d3 + 1) = x.d3 + 1 := wrap_one _ h0x hx1
        obtain ⟨e0, e1, e2, e4, e5, e6, e7, tv, e3, et⟩ := hgr
        have e7' : W6.cell? ⟨g, 7, none⟩ = some (.int .i64 x.d3) := e7
        have hfz7 := hfz 7
        have HSm : Hid (Same (fun b => b < w.heap.size) W6 (W6.setCell ⟨g, 7, none⟩ (.int .i64 (x.d3 + 1)))) := Lib.hid (Same.of_kept ((Kept.refl W6 (· = g)).setCell (p := ⟨g, 7, none⟩) (fun _ => rfl) _) (fun b hb e => by omega))
        have HC : Hid (CuAt (fun b => b < w.heap.size) (W6.setCell ⟨g, 7, none⟩ (.int .i64 (x.d3 + 1))) g 0 { x with d3 := x.d3 + 1 }) := Lib.hid ⟨(World.cell?_setCell_other _ _ _ _ (by simp)).trans e0, (World.cell?_setCell_other _ _ _ _ (by simp)).trans e1, (World.cell?_setCell_other _ _ _ _ (by simp)).trans e2, (World.cell?_setCell_other _ _ _ _ (by simp)).trans e4, (World.cell?_setCell_other _ _ _ _ (by simp)).trans e5, (World.cell?_setCell_other _ _ _ _ (by simp)).trans e6, World.cell?_setCell_same _ _ _ e7', tv, (World.cell?_setCell_other _ _ _ _ (by simp)).trans e3, et.same HSm.out⟩
        clear e0 e1 e2 e3 e4 e5 e6 e7 et hfz
        go_upto_region 32 with fail
        have HX := Lib.hid (HT1.out.below ((Below.refl _ _).setCell (p := ⟨g, 7, none⟩) hgb (.int .i64 (x.d3 + 1))))
        have HX1 := Lib.hid (HN1.out.kept (carries_rw _) (W' := (W6.setCell ⟨g, 7, none⟩ (.int .i64 (x.d3 + 1)))) (fun b hb => Below.heap_setCell _ _ _ _ (fun e2 => HD14.out b hb (by rw [show b = g from e2]; rfl))) HSm.out).rws
        have HX4 : Hid (Cus (Live w (W6.setCell ⟨g, 7, none⟩ (.int .i64 (x.d3 + 1)))) (W6.setCell ⟨g, 7, none⟩ (.int .i64 (x.d3 + 1))) (.slice (some ⟨g, 0, none⟩) t.curs.length d4) ({ x with d3 := x.d3 + 1 } :: r)) := Lib.hid (live_cus (HNx.out.first (carries_cu _) (by omega) 7 (by omega) (.int .i64 (x.d3 + 1)) { x with d3 := x.d3 + 1 } HC.out) (fun b e => (HNx.out.lt b e).1))
        have HX5 := Lib.hid (HN5.out.kept (carries_un _) (W' := (W6.setCell ⟨g, 7, none⟩ (.int .i64 (x.d3 + 1)))) (fun b hb => Below.heap_setCell _ _ _ _ (fun e2 => HD45.out g rfl (by rw [← show b = g from e2]; exact hb))) HSm.out).uns
        have HTn : Hid (Turned t { t with curs := { x with d3 := x.d3 + 1 } :: r }) := Lib.hid (Turned.cur x r hls.symm)
        refine wp_name (fun W => TP w W t.s t.grp (.slice b1 t.short.length d1) (.slice a2 t.long.length c2) (.slice a3 t.mshort.length c3) (.slice (some ⟨g, 0, none⟩) t.curs.length d4) (.slice b5 t.units.length d5) (.slice a6 t.munit.length c6) ∧ TbS (Live w W) W { t with curs := { x with d3 := x.d3 + 1 } :: r } (.slice b1 t.short.length d1) (.slice a2 t.long.length c2) (.slice a3 t.mshort.length c3) (.slice (some ⟨g, 0, none⟩) t.curs.length d4) (.slice b5 t.units.length d5) (.slice a6 t.munit.length c6)) ⟨HX.out, ⟨HX1.out, args_rws HX.out.bel HI.out.long, args_rws HX.out.bel HI.out.mshort, HX4.out, HX5.out, args_txs HX.out.bel HI.out.munit⟩⟩ (fun Wf hW => ?_)
        obtain ⟨q0, q1⟩ := hW
        have HTf := Lib.hid q0
        have HSf := Lib.hid q1
        clear q0 q1
        clear HT1 HN1 HN4 HN5 HX HX1 HX4 HX5 HNx hc1 hf1 HSm HC e7' hfz7 HD14 HD15 HD45 hls
        refine wp_region_list ?_
        refine wpList_load_mid rfl 55 _ rfl w.heap.size 0 rfl (tbC t.s t.grp (.slice b1 t.short.length d1) (.slice a2 t.long.length c2) (.slice a3 t.mshort.length c3) (.slice (some ⟨g, 0, none⟩) t.curs.length d4) (.slice b5 t.units.length d5) (.slice a6 t.munit.length c6)).toList _ HTf.out.tb.range Try.underlying55 rfl size55 ?_
        refine wpList_store_mid rfl 55 _ _ rfl (w.heap.size + 1) 0 (tbC t.s t.grp (.slice b1 t.short.length d1) (.slice a2 t.long.length c2) (.slice a3 t.mshort.length c3) (.slice (some ⟨g, 0, none⟩) t.curs.length d4) (.slice b5 t.units.length d5) (.slice a6 t.munit.length c6)) rfl rfl HTf.out.z.there size55 (tbC_one _ _ _ _ _ _ _ _ _ _ _ _ _ _ _ _ _ _ _ _) ?_
        have HPf := Lib.hid (HTf.out.z.put (tbC t.s t.grp (.slice b1 t.short.length d1) (.slice a2 t.long.length c2) (.slice a3 t.mshort.length c3) (.slice (some ⟨g, 0, none⟩) t.curs.length d4) (.slice b5 t.units.length d5) (.slice a6 t.munit.length c6)) rfl)
        have HKf := Lib.hid (setCells_kept (tbC t.s t.grp (.slice b1 t.short.length d1) (.slice a2 t.long.length c2) (.slice a3 t.mshort.length c3) (.slice (some ⟨g, 0, none⟩) t.curs.length d4) (.slice b5 t.units.length d5) (.slice a6 t.munit.length c6)).toList 0 Wf (w.heap.size + 1))
        generalize Wf.setCells (w.heap.size + 1) 0 (tbC t.s t.grp (.slice b1 t.short.length d1) (.slice a2 t.long.length c2) (.slice a3 t.mshort.length c3) (.slice (some ⟨g, 0, none⟩) t.curs.length d4) (.slice b5 t.units.length d5) (.slice a6 t.munit.length c6)).toList = wq at *
        go_wp2
        refine bodyPost_ret (res29 HPf.out rfl rfl) rfl ⟨{ t with curs := { x with d3 := x.d3 + 1 } :: r }, _, _, _, _, _, _, true, rfl, HTf.out.bel.trans (HKf.out.below HTf.out.bel.size (fun k hk e => by omega)), tbC_one _ _ _ _ _ _ _ _ _ _ _ _ _ _ _ _ _ _ _ _, (fun _ => ⟨HTn.out, HSf.out.fin HKf.out⟩)⟩
    · obtain ⟨hc1, hf1⟩ := HT1.out.tb.at 22 (.slice b1 t.short.length d1) rfl
      obtain ⟨ls, hls⟩ : ∃ l, l = t.short := ⟨_, rfl⟩
      cases ls with
      | nil =>
        have hl0 : t.short.length = 0 := by rw [← hls]; rfl
        go_upto_region 30 with fail
        refine wp_name (fun W => TP w W t.s t.grp (.slice b1 t.short.length d1) (.slice a2 t.long.length c2) (.slice a3 t.mshort.length c3) (.slice b4 t.curs.length d4) (.slice b5 t.units.length d5) (.slice a6 t.munit.length c6)) HT1.out (fun Wf hW => ?_)
        have HTf := Lib.hid hW
        clear hW
        refine wp_region_list ?_
        refine wpList_load_mid rfl 55 _ rfl w.heap.size 0 rfl (tbC t.s t.grp (.slice b1 t.short.length d1) (.slice a2 t.long.length c2) (.slice a3 t.mshort.length c3) (.slice b4 t.curs.length d4) (.slice b5 t.units.length d5) (.slice a6 t.munit.length c6)).toList _ HTf.out.tb.range Try.underlying55 rfl size55 ?_
        refine wpList_store_mid rfl 55 _ _ rfl (w.heap.size + 1) 0 (tbC t.s t.grp (.slice b1 t.short.length d1) (.slice a2 t.long.length c2) (.slice a3 t.mshort.length c3) (.slice b4 t.curs.length d4) (.slice b5 t.units.length d5) (.slice a6 t.munit.length c6)) rfl rfl HTf.out.z.there size55 (tbC_one _ _ _ _ _ _ _ _ _ _ _ _ _ _ _ _ _ _ _ _) ?_
        have HPf := Lib.hid (HTf.out.z.put (tbC t.s t.grp (.slice b1 t.short.length d1) (.slice a2 t.long.length c2) (.slice a3 t.mshort.length c3) (.slice b4 t.curs.length d4) (.slice b5 t.units.length d5) (.slice a6 t.munit.length c6)) rfl)
        have HKf := Lib.hid (setCells_kept (tbC t.s t.grp (.slice b1 t.short.length d1) (.slice a2 t.long.length c2) (.slice a3 t.mshort.length c3) (.slice b4 t.curs.length d4) (.slice b5 t.units.length d5) (.slice a6 t.munit.length c6)).toList 0 Wf (w.heap.size + 1))
        generalize Wf.setCells (w.heap.size + 1) 0 (tbC t.s t.grp (.slice b1 t.short.length d1) (.slice a2 t.long.length c2) (.slice a3 t.mshort.length c3) (.slice b4 t.curs.length d4) (.slice b5 t.units.length d5) (.slice a6 t.munit.length c6)).toList = wq at *
        go_wp2
        refine bodyPost_ret (res29 HPf.out rfl rfl) rfl ⟨t, _, _, _, _, _, _, false, rfl, HTf.out.bel.trans (HKf.out.below HTf.out.bel.size (fun k hk e => by omega)), tbC_one _ _ _ _ _ _ _ _ _ _ _ _ _ _ _ _ _ _ _ _, (fun h => by cases h)⟩
      | cons x r =>
        have hl0 : t.short.length = r.length + 1 := by rw [← hls]; rfl
        have HNx : Hid (OwnS 2 (RwAt (fun b => b < w.heap.size)) 66 (w.heap.size + 2) W6 (.slice b1 t.short.length d1) (x :: r)) := by rw [hls]; exact HN1
        obtain ⟨g, hg, hgb, hgl, hgr, _, hfz⟩ := HNx.out.head
        subst hg
        obtain ⟨h0x, hx1⟩ := HRow.out x r hls.symm
        have hwx : wrap64 (x.mag + 1) = x.mag + 1 := wrap_one _ h0x hx1
        obtain ⟨e0, tv, e1, et⟩ := hgr
        have e0' : W6.cell? ⟨g, 0, none⟩ = some (.int .i64 x.mag) := e0
        have hfz0 := hfz 0
        have HSm : Hid (Same (fun b => b < w.heap.size) W6 (W6.setCell ⟨g, 0, none⟩ (.int .i64 (x.mag + 1)))) := Lib.hid (Same.of_kept ((Kept.refl W6 (· = g)).setCell (p := ⟨g, 0, none⟩) (fun _ => rfl) _) (fun b hb e => by omega))
        have HC : Hid (RwAt (fun b => b < w.heap.size) (W6.setCell ⟨g, 0, none⟩ (.int .i64 (x.mag + 1))) g 0 { x with mag := x.mag + 1 }) := Lib.hid ⟨World.cell?_setCell_same _ _ _ e0', tv, (World.cell?_setCell_other _ _ _ _ (by simp)).trans e1, et.same HSm.out⟩
        clear e0 e1 et hfz
        go_upto_region 32 with fail
        have HX := Lib.hid (HT1.out.below ((Below.refl _ _).setCell (p := ⟨g, 0, none⟩) hgb (.int .i64 (x.mag + 1))))
        have HX1 : Hid (Rws (Live w (W6.setCell ⟨g, 0, none⟩ (.int .i64 (x.mag + 1)))) (W6.setCell ⟨g, 0, none⟩ (.int .i64 (x.mag + 1))) (.slice (some ⟨g, 0, none⟩) t.short.length d1) ({ x with mag := x.mag + 1 } :: r)) := Lib.hid (live_rws (HNx.out.first (carries_rw _) (by omega) 0 (by omega) (.int .i64 (x.mag + 1)) { x with mag := x.mag + 1 } HC.out) (fun b e => (HNx.out.lt b e).1))
        have HX4 := Lib.hid (HN4.out.kept (carries_cu _) (W' := (W6.setCell ⟨g, 0, none⟩ (.int .i64 (x.mag + 1)))) (fun b hb => Below.heap_setCell _ _ _ _ (fun e2 => HD14.out g rfl (by rw [← show b = g from e2]; exact hb))) HSm.out).cus
        have HX5 := Lib.hid (HN5.out.kept (carries_un _) (W' := (W6.setCell ⟨g, 0, none⟩ (.int .i64 (x.mag + 1)))) (fun b hb => Below.heap_setCell _ _ _ _ (fun e2 => HD15.out g rfl (by rw [← show b = g from e2]; exact hb))) HSm.out).uns
        have HTn : Hid (Turned t { t with short := { x with mag := x.mag + 1 } :: r }) := Lib.hid (Turned.row x r hls.symm)
        refine wp_name (fun W => TP w W t.s t.grp (.slice (some ⟨g, 0, none⟩) t.short.length d1) (.slice a2 t.long.length c2) (.slice a3 t.mshort.length c3) (.slice b4 t.curs.length d4) (.slice b5 t.units.length d5) (.slice a6 t.munit.length c6) ∧ TbS (Live w W) W { t with short := { x with mag := x.mag + 1 } :: r } (.slice (some ⟨g, 0, none⟩) t.short.length d1) (.slice a2 t.long.length c2) (.slice a3 t.mshort.length c3) (.slice b4 t.curs.length d4) (.slice b5 t.units.length d5) (.slice a6 t.munit.length c6)) ⟨HX.out, ⟨HX1.out, args_rws HX.out.bel HI.out.long, args_rws HX.out.bel HI.out.mshort, HX4.out, HX5.out, args_txs HX.out.bel HI.out.munit⟩⟩ (fun Wf hW => ?_)
        obtain ⟨q0, q1⟩ := hW
        have HTf := Lib.hid q0
        have HSf := Lib.hid q1
        clear q0 q1
        clear HT1 HN1 HN4 HN5 HX HX1 HX4 HX5 HNx hc1 hf1 HSm HC e0' hfz0 HD14 HD15 HD45 hls
        refine wp_region_list ?_
        refine wpList_load_mid rfl 55 _ rfl w.heap.size 0 rfl (tbC t.s t.grp (.slice (some ⟨g, 0, none⟩) t.short.length d1) (.slice a2 t.long.length c2) (.slice a3 t.mshort.length c3) (.slice b4 t.curs.length d4) (.slice b5 t.units.length d5) (.slice a6 t.munit.length c6)).toList _ HTf.out.tb.range Try.underlying55 rfl size55 ?_
        refine wpList_store_mid rfl 55 _ _ rfl (w.heap.size + 1) 0 (tbC t.s t.grp (.slice (some ⟨g, 0, none⟩) t.short.length d1) (.slice a2 t.long.length c2) (.slice a3 t.mshort.length c3) (.slice b4 t.curs.length d4) (.slice b5 t.units.length d5) (.slice a6 t.munit.length c6)) rfl rfl HTf.out.z.there size55 (tbC_one _ _ _ _ _ _ _ _ _ _ _ _ _ _ _ _ _ _ _ _) ?_
        have HPf := Lib.hid (HTf.out.z.put (tbC t.s t.grp (.slice (some ⟨g, 0, none⟩) t.short.length d1) (.slice a2 t.long.length c2) (.slice a3 t.mshort.length c3) (.slice b4 t.curs.length d4) (.slice b5 t.units.length d5) (.slice a6 t.munit.length c6)) rfl)
        have HKf := Lib.hid (setCells_kept (tbC t.s t.grp (.slice (some ⟨g, 0, none⟩) t.short.length d1) (.slice a2 t.long.length c2) (.slice a3 t.mshort.length c3) (.slice b4 t.curs.length d4) (.slice b5 t.units.length d5) (.slice a6 t.munit.length c6)).toList 0 Wf (w.heap.size + 1))
        generalize Wf.setCells (w.heap.size + 1) 0 (tbC t.s t.grp (.slice (some ⟨g, 0, none⟩) t.short.length d1) (.slice a2 t.long.length c2) (.slice a3 t.mshort.length c3) (.slice b4 t.curs.length d4) (.slice b5 t.units.length d5) (.slice a6 t.munit.length c6)).toList = wq at *
        go_wp2
        refine bodyPost_ret (res29 HPf.out rfl rfl) rfl ⟨{ t with short := { x with mag := x.mag + 1 } :: r }, _, _, _, _, _, _, true, rfl, HTf.out.bel.trans (HKf.out.below HTf.out.bel.size (fun k hk e => by omega)), tbC_one _ _ _ _ _ _ _ _ _ _ _ _ _ _ _ _ _ _ _ _, (fun _ => ⟨HTn.out, HSf.out.fin HKf.out⟩)⟩
end Go.Proofs.Ytikkakbemphdhaa
