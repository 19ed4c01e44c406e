/- The walk of TableSames. -/
import Derived.Test.YtikkakbemphdhaaTm3
import Derived.Test.YtikkakbemphdhaaTh1
import Derived.Test.YtikkakbemphdhaaTg0
set_option linter.unusedSimpArgs false
set_option linter.unusedVariables false
namespace Go.Fl
variable {P : Program} {ops : Array Oper} {Q : Exit → Act → World → Prop} {md : Region.Mode} {S : World → Prop} {late : List Nat}
/-- an operation whose guard is not met. -/
theorem kSkip (i d : Nat) {oi : Oper} {fuel : Nat} {listed : Array Bool} {tmps : Array Value} {ds : List Deferred} {w : World} (hi : ops[i]? = some oi) (hd : oi.dst = some d)
    (hs : Region.noSelect ops = true) (hf : Region.free md ops listed i = true) (hr : (Region.ready md ops listed).contains i = true)
    (hQ : ∀ c a w, Q (.panic c) (a.put (some d) undef) w → Q (.panic c) a w) (hw : Region.wanted oi (yielded ops tmps) = false)
    (h : wpAnyK P md ops Q S late fuel (listed.setIfInBounds i true) ⟨tmps.setIfInBounds d undef, ds⟩ w) : wpAnyK P md ops Q S late (fuel + 1) listed ⟨tmps, ds⟩ w :=
  wpAnyK_pure hi hs hf hr (by rw [hd]; exact hQ) (Or.inr ⟨hw, rfl⟩) (by rw [hd]; exact h)
end Go.Fl
namespace Go.Proofs.Ytikkakbemphdhaa
open Go.RowKit Go.Fl

theorem run_load_tb {W : World} {g : Nat} {s : Nat → ByteArray} {grp : Int} {v1 v2 v3 v4 v5 v6 : Value} (h : IsTb W g s grp v1 v2 v3 v4 v5 v6) {f : Operand → Value} {o : Oper} {x : Operand} (ho : o.op = .load 55 x) (hx : f x = .pointer (some ⟨g, 0, none⟩)) :
    (execOp f o).run Try.prog W = .ok (.value (tbV s grp v1 v2 v3 v4 v5 v6)) W := by
  have hld := run_loadVar_mid (P := Try.prog) W g 0 55 (tbC s grp v1 v2 v3 v4 v5 v6).toList _ h.range Try.underlying55 rfl size55
  unfold execOp
  simp only [ho, hx, Instr.loadAt, Instr.sureAddr, Sem.run_bind, Sem.run_pure, Result.andThen_ok, hld]
  rfl

theorem tbEq_turn {t u : Tb} (h : TbEq t u) : TbEq u t := ⟨fun i hi => (h.s i hi).symm, h.grp.symm, h.short.symm, h.long.symm, h.mshort.symm, h.curs.symm, h.units.symm, h.munit.symm⟩
/-- what the last region of TableSames leaves as it is. -/
def SixS (W : World) (g0 g : Nat) (t : Tb) (v1 v2 v3 v4 v5 v6 : Value) (u : Tb) (u1 u2 u3 u4 u5 u6 : Value) (W' : World) : Prop :=
  IsTb W' g0 t.s t.grp v1 v2 v3 v4 v5 v6 ∧ IsTb W' g u.s u.grp u1 u2 u3 u4 u5 u6 ∧ Below (g + 1) W W'
theorem SixS.step {W : World} {g0 g : Nat} {t : Tb} {v1 v2 v3 v4 v5 v6 : Value} {u : Tb} {u1 u2 u3 u4 u5 u6 : Value} {W1 W2 : World} (h : SixS W g0 g t v1 v2 v3 v4 v5 v6 u u1 u2 u3 u4 u5 u6 W1) (hb : Below W1.heap.size W1 W2) :
    SixS W g0 g t v1 v2 v3 v4 v5 v6 u u1 u2 u3 u4 u5 u6 W2 :=
  ⟨heapC hb h.1, heapC hb h.2.1, h.2.2.trans (hb.mono (lt_of_heap h.2.1))⟩
theorem SixS.args {P : Nat → Prop} {w W : World} {g0 g : Nat} {t : Tb} {v1 v2 v3 v4 v5 v6 : Value} {u : Tb} {u1 u2 u3 u4 u5 u6 : Value} {W1 : World} (h : SixS W g0 g t v1 v2 v3 v4 v5 v6 u u1 u2 u3 u4 u5 u6 W1) (hw : TbS P W u u1 u2 u3 u4 u5 u6) (hp : ∀ b, P b → b < g) :
    TbS P W1 u u1 u2 u3 u4 u5 u6 := hw.same (Same.of_below h.2.2 (fun b hb => by have := hp b hb; omega))
theorem SixS.below {w W : World} {g0 g : Nat} {t : Tb} {v1 v2 v3 v4 v5 v6 : Value} {u : Tb} {u1 u2 u3 u4 u5 u6 : Value} {W1 : World} (h : SixS W g0 g t v1 v2 v3 v4 v5 v6 u u1 u2 u3 u4 u5 u6 W1) (hb : Below w.heap.size w W) (hg : w.heap.size ≤ g) :
    Below w.heap.size w W1 := hb.trans (h.2.2.mono (by omega))

set_option maxRecDepth 100000 in
set_option maxHeartbeats 3200000 in
theorem tsames_any (t : Tb) (v1 v2 v3 v4 v5 v6 : Value) (which : Int) (w : World) (hI : TbS (fun b => b < w.heap.size) w t v1 v2 v3 v4 v5 v6) (hf : t.fit) :
    Calls Try.prog 8 #[tbV t.s t.grp v1 v2 v3 v4 v5 v6, .int .i64 which] w fun e w' => e = .returned (.bool true) ∧ Below w.heap.size w w' := by
  have HI := Lib.hid hI
  have HF := Lib.hid hf
  obtain ⟨a1, c1, rfl⟩ := hI.short.len
  obtain ⟨a2, c2, rfl⟩ := hI.long.len
  obtain ⟨a3, c3, rfl⟩ := hI.mshort.len
  obtain ⟨a4, c4, rfl⟩ := hI.curs.len
  obtain ⟨a5, c5, rfl⟩ := hI.units.len
  obtain ⟨a6, c6, rfl⟩ := hI.munit.len
  clear hI hf
  unfold tbV
  go_enter Try.func8, Try.ntmps8
  go_wp2_with fail
  refine (thead_any _).mono ?_
  rintro e w1 ⟨rfl, hb1⟩
  have HT1 : Hid (IsTb w1 w.heap.size t.s t.grp (.slice a1 t.short.length c1) (.slice a2 t.long.length c2) (.slice a3 t.mshort.length c3) (.slice a4 t.curs.length c4) (.slice a5 t.units.length c5) (.slice a6 t.munit.length c6)) := Lib.hid (heapC hb1 (heap_alloc_new w _))
  have HB1 : Hid (Below w.heap.size w w1) := Lib.hid (((Below.refl _ _).alloc (Nat.le_refl _) _).trans (hb1.mono (by simp)))
  clear hb1
  go_wp2_with ((with_reducible show wpList _ _ _ (Oper.mk (some _) (Op.load 55 _) _ _ _ _ :: _) _ _); refine wpList_load_mid rfl 55 _ rfl w.heap.size 0 rfl (tbC t.s t.grp (.slice a1 t.short.length c1) (.slice a2 t.long.length c2) (.slice a3 t.mshort.length c3) (.slice a4 t.curs.length c4) (.slice a5 t.units.length c5) (.slice a6 t.munit.length c6)).toList _ HT1.out.range Try.underlying55 rfl size55 ?_)
  refine (plain_any (fun b => b < w.heap.size) t (.slice a1 t.short.length c1) (.slice a2 t.long.length c2) (.slice a3 t.mshort.length c3) (.slice a4 t.curs.length c4) (.slice a5 t.units.length c5) (.slice a6 t.munit.length c6) _ (HI.out.same (Same.below HB1.out)) HF.out).mono ?_
  rintro e w2 ⟨ok, rfl, hok, hb2⟩
  have HT2 : Hid (IsTb w2 w.heap.size t.s t.grp (.slice a1 t.short.length c1) (.slice a2 t.long.length c2) (.slice a3 t.mshort.length c3) (.slice a4 t.curs.length c4) (.slice a5 t.units.length c5) (.slice a6 t.munit.length c6)) := Lib.hid (heapC hb2 HT1.out)
  have HB2 := Lib.hid (HB1.out.trans (hb2.mono HB1.out.size))
  clear hb2 HT1
  cases ok with
  | false =>
    go_wp2
    go_ret
    exact ⟨rfl, HB2.out⟩
  | true =>
    have HK := Lib.hid (hok rfl)
    clear hok
    obtain ⟨hg1, hg2⟩ := HT2.out.at 16 (.int .i64 t.grp) rfl
    obtain ⟨hs1, hs2⟩ := HT2.out.at 22 (.slice a1 t.short.length c1) rfl
    obtain ⟨hu1, hu2⟩ := HT2.out.at 25 (.slice a4 t.curs.length c4) rfl
    by_cases hgr : 1000 < t.grp
    · clear hs1 hs2 hu1 hu2
      go_wp2
      go_ret
      exact ⟨rfl, HB2.out⟩
    · obtain ⟨lc, hlc⟩ : ∃ l, l = t.curs := ⟨_, rfl⟩
      cases lc with
      | nil =>
        have hlc0 : t.curs.length = 0 := by rw [← hlc]; rfl
        have HCur : Hid (∀ c r, t.curs = c :: r → 0 ≤ c.d3 ∧ c.d3 ≤ 1000) := Lib.hid (fun x r h => by rw [h] at hlc0; simp at hlc0)
        rw [hlc0] at hu1
        clear hlc hlc0
        obtain ⟨lr, hlr⟩ : ∃ l, l = t.short := ⟨_, rfl⟩
        cases lr with
        | nil =>
          have hlr0 : t.short.length = 0 := by rw [← hlr]; rfl
          have HRow : Hid (∀ x r, t.short = x :: r → 0 ≤ x.mag ∧ x.mag ≤ 1000) := Lib.hid (fun x r h => by rw [h] at hlr0; simp at hlr0)
          rw [hlr0] at hs1
          clear hlr hlr0
          go_upto_region 5 with fail
          clear hg1 hg2 hs1 hs2 hu1 hu2 
          go_wp2_with ((with_reducible show wpList _ _ _ (Oper.mk (some _) (Op.load 55 _) _ _ _ _ :: _) _ _); refine wpList_load_mid rfl 55 _ rfl w.heap.size 0 rfl (tbC t.s t.grp (.slice a1 t.short.length c1) (.slice a2 t.long.length c2) (.slice a3 t.mshort.length c3) (.slice a4 t.curs.length c4) (.slice a5 t.units.length c5) (.slice a6 t.munit.length c6)).toList _ HT2.out.range Try.underlying55 rfl size55 ?_)
          refine (turn_any t (.slice a1 t.short.length c1) (.slice a2 t.long.length c2) (.slice a3 t.mshort.length c3) (.slice a4 t.curs.length c4) (.slice a5 t.units.length c5) (.slice a6 t.munit.length c6) which _ ((HI.out.same (Same.below HB2.out)).mono (fun b hb _ => hb)) HK.out (by omega) HCur.out HRow.out).mono ?_
          rintro e w3 ⟨u, y1, y2, y3, y4, y5, y6, b, rfl, hb3, hone, hu⟩
          have HT3 : Hid (IsTb w3 w.heap.size t.s t.grp (.slice a1 t.short.length c1) (.slice a2 t.long.length c2) (.slice a3 t.mshort.length c3) (.slice a4 t.curs.length c4) (.slice a5 t.units.length c5) (.slice a6 t.munit.length c6)) := Lib.hid (heapC hb3 HT2.out)
          have HB3 := Lib.hid (HB2.out.trans (hb3.mono HB2.out.size))
          have HZ : Hid (IsTb (w3.alloc (.cells zTb 55)) w3.heap.size (fun _ => noB) 0 nilV nilV nilV nilV nilV nilV) := Lib.hid (heap_alloc_new w3 _)
          have HU := Lib.hid hu
          have HOne := Lib.hid hone
          clear hb3 hu hone HT2 HB2
          unfold tbV
          go_upto_region 6 with ((with_reducible show wpList _ _ _ (Oper.mk none (Op.store 55 _ _) _ _ _ _ :: _) _ _); refine wpList_store_mid rfl 55 _ _ rfl w3.heap.size 0 (tbC u.s u.grp y1 y2 y3 y4 y5 y6) rfl rfl HZ.out.there size55 HOne.out ?_)
          have HKS := Lib.hid (put_kept w3 (tbC u.s u.grp y1 y2 y3 y4 y5 y6))
          have HP := Lib.hid (HZ.out.put (tbC u.s u.grp y1 y2 y3 y4 y5 y6) rfl)
          obtain ⟨g, hg⟩ : ∃ g, w3.heap.size = g := ⟨_, rfl⟩
          have hg7 : w.heap.size ≤ g := by have := HB3.out.size; omega
          have HTS := Lib.hid (fun (hb : b = true) => ((HU.out hb).2.mono (P' := fun b => b < w3.heap.size) (fun b hb _ => hb)).same (Same.of_kept HKS.out (fun b hb e => by omega)))
          refine wp_name (fun W => IsTb W w.heap.size t.s t.grp (.slice a1 t.short.length c1) (.slice a2 t.long.length c2) (.slice a3 t.mshort.length c3) (.slice a4 t.curs.length c4) (.slice a5 t.units.length c5) (.slice a6 t.munit.length c6) ∧ IsTb W w3.heap.size u.s u.grp y1 y2 y3 y4 y5 y6 ∧ (b = true → TbS (fun b => b < w3.heap.size) W u y1 y2 y3 y4 y5 y6) ∧ Below w.heap.size w W) ⟨HKS.out.heap HT3.out (fun e => by have := lt_of_heap HT3.out; omega), HP.out, HTS.out, HB3.out.trans (HKS.out.below HB3.out.size (fun k hk e => by omega))⟩ (fun W7 hW => ?_)
          rw [hg] at hW ⊢
          obtain ⟨q0, qu, qs, qb⟩ := hW
          have HT7 := Lib.hid q0
          have HU7 := Lib.hid qu
          have HS7b := Lib.hid qs
          have HB7 := Lib.hid qb
          clear q0 qu qs qb HKS HP HZ HTS HB3 HT3 hg
          cases b with
          | false =>
            clear HU HS7b
            have H0 : Hid (SixS W7 w.heap.size g t (.slice a1 t.short.length c1) (.slice a2 t.long.length c2) (.slice a3 t.mshort.length c3) (.slice a4 t.curs.length c4) (.slice a5 t.units.length c5) (.slice a6 t.munit.length c6) u y1 y2 y3 y4 y5 y6 W7.drew) := Lib.hid ⟨(show IsTb W7.drew w.heap.size t.s t.grp (.slice a1 t.short.length c1) (.slice a2 t.long.length c2) (.slice a3 t.mshort.length c3) (.slice a4 t.curs.length c4) (.slice a5 t.units.length c5) (.slice a6 t.munit.length c6) from HT7.out), (show IsTb W7.drew g u.s u.grp y1 y2 y3 y4 y5 y6 from HU7.out), (Below.refl _ _).drew⟩
            refine kBegin (SixS W7 w.heap.size g t (.slice a1 t.short.length c1) (.slice a2 t.long.length c2) (.slice a3 t.mshort.length c3) (.slice a4 t.curs.length c4) (.slice a5 t.units.length c5) (.slice a6 t.munit.length c6) u y1 y2 y3 y4 y5 y6) [] (by kernel_rfl) ?_
            change wpAnyK _ _ _ _ _ _ _ _ _ W7.drew
            refine kLoad 0 51 [] (v := (tbV t.s t.grp (.slice a1 t.short.length c1) (.slice a2 t.long.length c2) (.slice a3 t.mshort.length c3) (.slice a4 t.curs.length c4) (.slice a5 t.units.length c5) (.slice a6 t.munit.length c6))) rfl rfl (by kernel_rfl) (by kernel_rfl) (by kernel_rfl) (by kernel_rfl) (fun _ _ _ h => h) (by kernel_rfl) (fun w hSw => run_load_tb hSw.1 rfl rfl) H0.out ?_
            simp only [List.setIfInBounds_toArray, List.set_cons_zero, List.set_cons_succ]
            refine kLoad 1 52 [] (v := (tbV t.s t.grp (.slice a1 t.short.length c1) (.slice a2 t.long.length c2) (.slice a3 t.mshort.length c3) (.slice a4 t.curs.length c4) (.slice a5 t.units.length c5) (.slice a6 t.munit.length c6))) rfl rfl (by kernel_rfl) (by kernel_rfl) (by kernel_rfl) (by kernel_rfl) (fun _ _ _ h => h) (by kernel_rfl) (fun w hSw => run_load_tb hSw.1 rfl rfl) H0.out ?_
            simp only [List.setIfInBounds_toArray, List.set_cons_zero, List.set_cons_succ]
            refine kAll (rs := [2]) (by kernel_rfl) (by simp) (kCons rfl (by kernel_rfl) (fun K hK => ?s1) kNil)
            case s1 =>
              go_simp
              refine (same_any (fun b => b < w.heap.size) t t (.slice a1 t.short.length c1) (.slice a2 t.long.length c2) (.slice a3 t.mshort.length c3) (.slice a4 t.curs.length c4) (.slice a5 t.units.length c5) (.slice a6 t.munit.length c6) (.slice a1 t.short.length c1) (.slice a2 t.long.length c2) (.slice a3 t.mshort.length c3) (.slice a4 t.curs.length c4) (.slice a5 t.units.length c5) (.slice a6 t.munit.length c6) _ (HI.out.same (Same.below (H0.out.below HB7.out hg7))) (HI.out.same (Same.below (H0.out.below HB7.out hg7))) HF.out HF.out).mono ?_
              rintro e x1 ⟨b1, rfl, hbe, hbx⟩
              have H1 := Lib.hid (H0.out.step hbx)
              refine hK.out _ _ (fun _ _ => H1.out) ?_
              clear hK hbx
              obtain rfl : b1 = true := hbe.out.2 (tbEq_refl _)
              clear hbe
              (try simp only [Act.put, List.setIfInBounds_toArray, List.set_cons_zero, List.set_cons_succ])
              refine kPure 3 54 (v := ?vz2) rfl rfl (by kernel_rfl) (by kernel_rfl) (by kernel_rfl) (fun _ _ _ h => h) (by kernel_rfl) ?hz2 ?rz2
              case hz2 => (intro w; go_simp <;> with_reducible rfl)
              simp only [List.setIfInBounds_toArray, List.set_cons_zero, List.set_cons_succ]
              refine kPure 4 55 (v := ?vz3) rfl rfl (by kernel_rfl) (by kernel_rfl) (by kernel_rfl) (fun _ _ _ h => h) (by kernel_rfl) ?hz3 ?rz3
              case hz3 => (intro w; go_simp <;> with_reducible rfl)
              simp only [List.setIfInBounds_toArray, List.set_cons_zero, List.set_cons_succ]
              refine kPure 5 56 (v := ?vz4) rfl rfl (by kernel_rfl) (by kernel_rfl) (by kernel_rfl) (fun _ _ _ h => h) (by kernel_rfl) ?hz4 ?rz4
              case hz4 => (intro w; go_simp <;> with_reducible rfl)
              simp only [List.setIfInBounds_toArray, List.set_cons_zero, List.set_cons_succ]
              refine kPure 6 57 (v := ?vz5) rfl rfl (by kernel_rfl) (by kernel_rfl) (by kernel_rfl) (fun _ _ _ h => h) (by kernel_rfl) ?hz5 ?rz5
              case hz5 => (intro w; go_simp <;> with_reducible rfl)
              simp only [List.setIfInBounds_toArray, List.set_cons_zero, List.set_cons_succ]
              refine kSkip 7 58 rfl rfl (by kernel_rfl) (by kernel_rfl) (by kernel_rfl) (fun _ _ _ h => h) (by kernel_rfl) ?_
              simp only [List.setIfInBounds_toArray, List.set_cons_zero, List.set_cons_succ]
              refine kSkip 8 59 rfl rfl (by kernel_rfl) (by kernel_rfl) (by kernel_rfl) (fun _ _ _ h => h) (by kernel_rfl) ?_
              simp only [List.setIfInBounds_toArray, List.set_cons_zero, List.set_cons_succ]
              refine kSkip 9 60 rfl rfl (by kernel_rfl) (by kernel_rfl) (by kernel_rfl) (fun _ _ _ h => h) (by kernel_rfl) ?_
              simp only [List.setIfInBounds_toArray, List.set_cons_zero, List.set_cons_succ]
              refine kSkip 10 61 rfl rfl (by kernel_rfl) (by kernel_rfl) (by kernel_rfl) (fun _ _ _ h => h) (by kernel_rfl) ?_
              simp only [List.setIfInBounds_toArray, List.set_cons_zero, List.set_cons_succ]
              refine kSkip 11 62 rfl rfl (by kernel_rfl) (by kernel_rfl) (by kernel_rfl) (fun _ _ _ h => h) (by kernel_rfl) ?_
              simp only [List.setIfInBounds_toArray, List.set_cons_zero, List.set_cons_succ]
              refine kSkip 12 63 rfl rfl (by kernel_rfl) (by kernel_rfl) (by kernel_rfl) (fun _ _ _ h => h) (by kernel_rfl) ?_
              simp only [List.setIfInBounds_toArray, List.set_cons_zero, List.set_cons_succ]
              refine kSkip 13 64 rfl rfl (by kernel_rfl) (by kernel_rfl) (by kernel_rfl) (fun _ _ _ h => h) (by kernel_rfl) ?_
              simp only [List.setIfInBounds_toArray, List.set_cons_zero, List.set_cons_succ]
              refine kSkip 14 65 rfl rfl (by kernel_rfl) (by kernel_rfl) (by kernel_rfl) (fun _ _ _ h => h) (by kernel_rfl) ?_
              simp only [List.setIfInBounds_toArray, List.set_cons_zero, List.set_cons_succ]
              refine kSkip 15 66 rfl rfl (by kernel_rfl) (by kernel_rfl) (by kernel_rfl) (fun _ _ _ h => h) (by kernel_rfl) ?_
              simp only [List.setIfInBounds_toArray, List.set_cons_zero, List.set_cons_succ]
              refine kSkip 16 67 rfl rfl (by kernel_rfl) (by kernel_rfl) (by kernel_rfl) (fun _ _ _ h => h) (by kernel_rfl) ?_
              simp only [List.setIfInBounds_toArray, List.set_cons_zero, List.set_cons_succ]
              refine kSkip 17 68 rfl rfl (by kernel_rfl) (by kernel_rfl) (by kernel_rfl) (fun _ _ _ h => h) (by kernel_rfl) ?_
              simp only [List.setIfInBounds_toArray, List.set_cons_zero, List.set_cons_succ]
              refine kSkip 18 69 rfl rfl (by kernel_rfl) (by kernel_rfl) (by kernel_rfl) (fun _ _ _ h => h) (by kernel_rfl) ?_
              simp only [List.setIfInBounds_toArray, List.set_cons_zero, List.set_cons_succ]
              refine kSkip 19 70 rfl rfl (by kernel_rfl) (by kernel_rfl) (by kernel_rfl) (fun _ _ _ h => h) (by kernel_rfl) ?_
              simp only [List.setIfInBounds_toArray, List.set_cons_zero, List.set_cons_succ]
              refine kSkip 20 71 rfl rfl (by kernel_rfl) (by kernel_rfl) (by kernel_rfl) (fun _ _ _ h => h) (by kernel_rfl) ?_
              simp only [List.setIfInBounds_toArray, List.set_cons_zero, List.set_cons_succ]
              refine kSkip 21 72 rfl rfl (by kernel_rfl) (by kernel_rfl) (by kernel_rfl) (fun _ _ _ h => h) (by kernel_rfl) ?_
              simp only [List.setIfInBounds_toArray, List.set_cons_zero, List.set_cons_succ]
              refine kSkip 22 73 rfl rfl (by kernel_rfl) (by kernel_rfl) (by kernel_rfl) (fun _ _ _ h => h) (by kernel_rfl) ?_
              simp only [List.setIfInBounds_toArray, List.set_cons_zero, List.set_cons_succ]
              refine kSkip 23 74 rfl rfl (by kernel_rfl) (by kernel_rfl) (by kernel_rfl) (fun _ _ _ h => h) (by kernel_rfl) ?_
              simp only [List.setIfInBounds_toArray, List.set_cons_zero, List.set_cons_succ]
              refine kPure 24 75 (v := ?vz6) rfl rfl (by kernel_rfl) (by kernel_rfl) (by kernel_rfl) (fun _ _ _ h => h) (by kernel_rfl) ?hz6 ?rz6
              case hz6 => (intro w; go_simp <;> with_reducible rfl)
              simp only [List.setIfInBounds_toArray, List.set_cons_zero, List.set_cons_succ]
              refine kPure 25 76 (v := ?vz7) rfl rfl (by kernel_rfl) (by kernel_rfl) (by kernel_rfl) (fun _ _ _ h => h) (by kernel_rfl) ?hz7 ?rz7
              case hz7 => (intro w; go_simp <;> with_reducible rfl)
              simp only [List.setIfInBounds_toArray, List.set_cons_zero, List.set_cons_succ]
              refine kPure 26 4 (v := ?vz8) rfl rfl (by kernel_rfl) (by kernel_rfl) (by kernel_rfl) (fun _ _ _ h => h) (by kernel_rfl) ?hz8 ?rz8
              case hz8 => (intro w; go_simp <;> with_reducible rfl)
              simp only [List.setIfInBounds_toArray, List.set_cons_zero, List.set_cons_succ]
              refine kDone (by kernel_rfl) ?_ _
              have HBl := Lib.hid (H1.out.below HB7.out hg7)
              clear H0 H1
              go_wp2
              go_ret
              exact ⟨rfl, HBl.out⟩
          | true =>
            obtain ⟨hft, hfu, hne⟩ := turned_fair (HU.out rfl).1 HK.out HF.out (by omega) (fun c r h => (HCur.out c r h).2) (fun c r h => (HRow.out c r h).2)
            have FT := Lib.hid hft
            have FU := Lib.hid hfu
            have HN := Lib.hid hne
            have HS7 := Lib.hid (HS7b.out rfl)
            clear hft hfu hne HU HS7b
            have H0 : Hid (SixS W7 w.heap.size g t (.slice a1 t.short.length c1) (.slice a2 t.long.length c2) (.slice a3 t.mshort.length c3) (.slice a4 t.curs.length c4) (.slice a5 t.units.length c5) (.slice a6 t.munit.length c6) u y1 y2 y3 y4 y5 y6 W7.drew) := Lib.hid ⟨(show IsTb W7.drew w.heap.size t.s t.grp (.slice a1 t.short.length c1) (.slice a2 t.long.length c2) (.slice a3 t.mshort.length c3) (.slice a4 t.curs.length c4) (.slice a5 t.units.length c5) (.slice a6 t.munit.length c6) from HT7.out), (show IsTb W7.drew g u.s u.grp y1 y2 y3 y4 y5 y6 from HU7.out), (Below.refl _ _).drew⟩
            refine kBegin (SixS W7 w.heap.size g t (.slice a1 t.short.length c1) (.slice a2 t.long.length c2) (.slice a3 t.mshort.length c3) (.slice a4 t.curs.length c4) (.slice a5 t.units.length c5) (.slice a6 t.munit.length c6) u y1 y2 y3 y4 y5 y6) [] (by kernel_rfl) ?_
            change wpAnyK _ _ _ _ _ _ _ _ _ W7.drew
            refine kLoad 0 51 [] (v := (tbV t.s t.grp (.slice a1 t.short.length c1) (.slice a2 t.long.length c2) (.slice a3 t.mshort.length c3) (.slice a4 t.curs.length c4) (.slice a5 t.units.length c5) (.slice a6 t.munit.length c6))) rfl rfl (by kernel_rfl) (by kernel_rfl) (by kernel_rfl) (by kernel_rfl) (fun _ _ _ h => h) (by kernel_rfl) (fun w hSw => run_load_tb hSw.1 rfl rfl) H0.out ?_
            simp only [List.setIfInBounds_toArray, List.set_cons_zero, List.set_cons_succ]
            refine kLoad 1 52 [] (v := (tbV t.s t.grp (.slice a1 t.short.length c1) (.slice a2 t.long.length c2) (.slice a3 t.mshort.length c3) (.slice a4 t.curs.length c4) (.slice a5 t.units.length c5) (.slice a6 t.munit.length c6))) rfl rfl (by kernel_rfl) (by kernel_rfl) (by kernel_rfl) (by kernel_rfl) (fun _ _ _ h => h) (by kernel_rfl) (fun w hSw => run_load_tb hSw.1 rfl rfl) H0.out ?_
            simp only [List.setIfInBounds_toArray, List.set_cons_zero, List.set_cons_succ]
            refine kAll (rs := [2]) (by kernel_rfl) (by simp) (kCons rfl (by kernel_rfl) (fun K hK => ?s9) kNil)
            case s9 =>
              go_simp
              refine (same_any (fun b => b < w.heap.size) t t (.slice a1 t.short.length c1) (.slice a2 t.long.length c2) (.slice a3 t.mshort.length c3) (.slice a4 t.curs.length c4) (.slice a5 t.units.length c5) (.slice a6 t.munit.length c6) (.slice a1 t.short.length c1) (.slice a2 t.long.length c2) (.slice a3 t.mshort.length c3) (.slice a4 t.curs.length c4) (.slice a5 t.units.length c5) (.slice a6 t.munit.length c6) _ (HI.out.same (Same.below (H0.out.below HB7.out hg7))) (HI.out.same (Same.below (H0.out.below HB7.out hg7))) HF.out HF.out).mono ?_
              rintro e x1 ⟨b1, rfl, hbe, hbx⟩
              have H1 := Lib.hid (H0.out.step hbx)
              refine hK.out _ _ (fun _ _ => H1.out) ?_
              clear hK hbx
              obtain rfl : b1 = true := hbe.out.2 (tbEq_refl _)
              clear hbe
              (try simp only [Act.put, List.setIfInBounds_toArray, List.set_cons_zero, List.set_cons_succ])
              refine kPure 3 54 (v := ?vz10) rfl rfl (by kernel_rfl) (by kernel_rfl) (by kernel_rfl) (fun _ _ _ h => h) (by kernel_rfl) ?hz10 ?rz10
              case hz10 => (intro w; go_simp <;> with_reducible rfl)
              simp only [List.setIfInBounds_toArray, List.set_cons_zero, List.set_cons_succ]
              refine kPure 4 55 (v := ?vz11) rfl rfl (by kernel_rfl) (by kernel_rfl) (by kernel_rfl) (fun _ _ _ h => h) (by kernel_rfl) ?hz11 ?rz11
              case hz11 => (intro w; go_simp <;> with_reducible rfl)
              simp only [List.setIfInBounds_toArray, List.set_cons_zero, List.set_cons_succ]
              refine kPure 5 56 (v := ?vz12) rfl rfl (by kernel_rfl) (by kernel_rfl) (by kernel_rfl) (fun _ _ _ h => h) (by kernel_rfl) ?hz12 ?rz12
              case hz12 => (intro w; go_simp <;> with_reducible rfl)
              simp only [List.setIfInBounds_toArray, List.set_cons_zero, List.set_cons_succ]
              refine kPure 6 57 (v := ?vz13) rfl rfl (by kernel_rfl) (by kernel_rfl) (by kernel_rfl) (fun _ _ _ h => h) (by kernel_rfl) ?hz13 ?rz13
              case hz13 => (intro w; go_simp <;> with_reducible rfl)
              simp only [List.setIfInBounds_toArray, List.set_cons_zero, List.set_cons_succ]
              refine kLoad 7 58 [] (v := (tbV t.s t.grp (.slice a1 t.short.length c1) (.slice a2 t.long.length c2) (.slice a3 t.mshort.length c3) (.slice a4 t.curs.length c4) (.slice a5 t.units.length c5) (.slice a6 t.munit.length c6))) rfl rfl (by kernel_rfl) (by kernel_rfl) (by kernel_rfl) (by kernel_rfl) (fun _ _ _ h => h) (by kernel_rfl) (fun w hSw => run_load_tb hSw.1 rfl rfl) H1.out ?_
              simp only [List.setIfInBounds_toArray, List.set_cons_zero, List.set_cons_succ]
              refine kLoad 8 59 [] (v := (tbV u.s u.grp y1 y2 y3 y4 y5 y6)) rfl rfl (by kernel_rfl) (by kernel_rfl) (by kernel_rfl) (by kernel_rfl) (fun _ _ _ h => h) (by kernel_rfl) (fun w hSw => run_load_tb hSw.2.1 rfl rfl) H1.out ?_
              simp only [List.setIfInBounds_toArray, List.set_cons_zero, List.set_cons_succ]
              refine kAll (rs := [9]) (by kernel_rfl) (by simp) (kCons rfl (by kernel_rfl) (fun K hK => ?s14) kNil)
              case s14 =>
                go_simp
                refine (same_any (fun b => b < g) t u (.slice a1 t.short.length c1) (.slice a2 t.long.length c2) (.slice a3 t.mshort.length c3) (.slice a4 t.curs.length c4) (.slice a5 t.units.length c5) (.slice a6 t.munit.length c6) y1 y2 y3 y4 y5 y6 _ ((HI.out.same (Same.below (H1.out.below HB7.out hg7))).mono (fun b _ hb => by omega)) (H1.out.args (w := w) HS7.out (fun b hb => hb)) HF.out FU.out.fit).mono ?_
                rintro e x2 ⟨b2, rfl, hbe, hbx⟩
                have H2 := Lib.hid (H1.out.step hbx)
                refine hK.out _ _ (fun _ _ => H2.out) ?_
                clear hK hbx
                obtain rfl : b2 = false := by
                  cases b2 with
                  | false => rfl
                  | true => exact absurd (hbe.out.1 rfl) HN.out
                clear hbe
                (try simp only [Act.put, List.setIfInBounds_toArray, List.set_cons_zero, List.set_cons_succ])
                refine kPure 10 61 (v := ?vz15) rfl rfl (by kernel_rfl) (by kernel_rfl) (by kernel_rfl) (fun _ _ _ h => h) (by kernel_rfl) ?hz15 ?rz15
                case hz15 => (intro w; go_simp <;> with_reducible rfl)
                simp only [List.setIfInBounds_toArray, List.set_cons_zero, List.set_cons_succ]
                refine kPure 11 62 (v := ?vz16) rfl rfl (by kernel_rfl) (by kernel_rfl) (by kernel_rfl) (fun _ _ _ h => h) (by kernel_rfl) ?hz16 ?rz16
                case hz16 => (intro w; go_simp <;> with_reducible rfl)
                simp only [List.setIfInBounds_toArray, List.set_cons_zero, List.set_cons_succ]
                refine kLoad 12 63 [] (v := (tbV u.s u.grp y1 y2 y3 y4 y5 y6)) rfl rfl (by kernel_rfl) (by kernel_rfl) (by kernel_rfl) (by kernel_rfl) (fun _ _ _ h => h) (by kernel_rfl) (fun w hSw => run_load_tb hSw.2.1 rfl rfl) H2.out ?_
                simp only [List.setIfInBounds_toArray, List.set_cons_zero, List.set_cons_succ]
                refine kLoad 13 64 [] (v := (tbV t.s t.grp (.slice a1 t.short.length c1) (.slice a2 t.long.length c2) (.slice a3 t.mshort.length c3) (.slice a4 t.curs.length c4) (.slice a5 t.units.length c5) (.slice a6 t.munit.length c6))) rfl rfl (by kernel_rfl) (by kernel_rfl) (by kernel_rfl) (by kernel_rfl) (fun _ _ _ h => h) (by kernel_rfl) (fun w hSw => run_load_tb hSw.1 rfl rfl) H2.out ?_
                simp only [List.setIfInBounds_toArray, List.set_cons_zero, List.set_cons_succ]
                refine kAll (rs := [14]) (by kernel_rfl) (by simp) (kCons rfl (by kernel_rfl) (fun K hK => ?s17) kNil)
                case s17 =>
                  go_simp
                  refine (same_any (fun b => b < g) u t y1 y2 y3 y4 y5 y6 (.slice a1 t.short.length c1) (.slice a2 t.long.length c2) (.slice a3 t.mshort.length c3) (.slice a4 t.curs.length c4) (.slice a5 t.units.length c5) (.slice a6 t.munit.length c6) _ (H2.out.args (w := w) HS7.out (fun b hb => hb)) ((HI.out.same (Same.below (H2.out.below HB7.out hg7))).mono (fun b _ hb => by omega)) FU.out.fit HF.out).mono ?_
                  rintro e x3 ⟨b3, rfl, hbe, hbx⟩
                  have H3 := Lib.hid (H2.out.step hbx)
                  refine hK.out _ _ (fun _ _ => H3.out) ?_
                  clear hK hbx
                  obtain rfl : b3 = false := by
                    cases b3 with
                    | false => rfl
                    | true => exact absurd (tbEq_turn (hbe.out.1 rfl)) HN.out
                  clear hbe
                  (try simp only [Act.put, List.setIfInBounds_toArray, List.set_cons_zero, List.set_cons_succ])
                  refine kPure 15 66 (v := ?vz18) rfl rfl (by kernel_rfl) (by kernel_rfl) (by kernel_rfl) (fun _ _ _ h => h) (by kernel_rfl) ?hz18 ?rz18
                  case hz18 => (intro w; go_simp <;> with_reducible rfl)
                  simp only [List.setIfInBounds_toArray, List.set_cons_zero, List.set_cons_succ]
                  refine kPure 16 67 (v := ?vz19) rfl rfl (by kernel_rfl) (by kernel_rfl) (by kernel_rfl) (fun _ _ _ h => h) (by kernel_rfl) ?hz19 ?rz19
                  case hz19 => (intro w; go_simp <;> with_reducible rfl)
                  simp only [List.setIfInBounds_toArray, List.set_cons_zero, List.set_cons_succ]
                  refine kPure 17 68 (v := ?vz20) rfl rfl (by kernel_rfl) (by kernel_rfl) (by kernel_rfl) (fun _ _ _ h => h) (by kernel_rfl) ?hz20 ?rz20
                  case hz20 => (intro w; go_simp <;> with_reducible rfl)
                  simp only [List.setIfInBounds_toArray, List.set_cons_zero, List.set_cons_succ]
                  refine kLoad 18 69 [] (v := (tbV t.s t.grp (.slice a1 t.short.length c1) (.slice a2 t.long.length c2) (.slice a3 t.mshort.length c3) (.slice a4 t.curs.length c4) (.slice a5 t.units.length c5) (.slice a6 t.munit.length c6))) rfl rfl (by kernel_rfl) (by kernel_rfl) (by kernel_rfl) (by kernel_rfl) (fun _ _ _ h => h) (by kernel_rfl) (fun w hSw => run_load_tb hSw.1 rfl rfl) H3.out ?_
                  simp only [List.setIfInBounds_toArray, List.set_cons_zero, List.set_cons_succ]
                  refine kLoad 20 71 [] (v := (tbV u.s u.grp y1 y2 y3 y4 y5 y6)) rfl rfl (by kernel_rfl) (by kernel_rfl) (by kernel_rfl) (by kernel_rfl) (fun _ _ _ h => h) (by kernel_rfl) (fun w hSw => run_load_tb hSw.2.1 rfl rfl) H3.out ?_
                  simp only [List.setIfInBounds_toArray, List.set_cons_zero, List.set_cons_succ]
                  refine kAll (rs := [19]) (by kernel_rfl) (by simp) (kCons rfl (by kernel_rfl) (fun K hK => ?s21) kNil)
                  case s21 =>
                    go_simp
                    refine (encode_any (fun b => b < w.heap.size) t (.slice a1 t.short.length c1) (.slice a2 t.long.length c2) (.slice a3 t.mshort.length c3) (.slice a4 t.curs.length c4) (.slice a5 t.units.length c5) (.slice a6 t.munit.length c6) _ (HI.out.same (Same.below (H3.out.below HB7.out hg7))) (fun b hb => Nat.lt_of_lt_of_le hb (H3.out.below HB7.out hg7).size) HF.out (by have := FT.out.len; omega)).mono ?_
                    rintro e x4 ⟨S1, rfl, hS1, hz1, hbx⟩
                    have H4 := Lib.hid (H3.out.step hbx)
                    refine hK.out _ _ (fun _ _ => H4.out) ?_
                    clear hK hbx
                    clear hz1
                    (try simp only [Act.put, List.setIfInBounds_toArray, List.set_cons_zero, List.set_cons_succ])
                    refine kAll (rs := [21]) (by kernel_rfl) (by simp) (kCons rfl (by kernel_rfl) (fun K hK => ?s22) kNil)
                    case s22 =>
                      go_simp
                      refine (encode_any (fun b => b < g) u y1 y2 y3 y4 y5 y6 _ (H4.out.args (w := w) HS7.out (fun b hb => hb)) (fun b hb => by have := lt_of_heap H4.out.2.1; omega) FU.out.fit (by have := FU.out.len; omega)).mono ?_
                      rintro e x5 ⟨S2, rfl, hS2, hz2, hbx⟩
                      have H5 := Lib.hid (H4.out.step hbx)
                      refine hK.out _ _ (fun _ _ => H5.out) ?_
                      clear hK hbx
                      have hq : (S1.toList == S2.toList) = false := by
                        rw [Bool.eq_false_iff]
                        intro e
                        rw [beq_iff_eq, Lib.toList_data, Lib.toList_data, hS1.out, hS2.out] at e
                        exact HN.out (inj_tb FT.out.good FU.out.good e)
                      have hq2 : (S1.toList != S2.toList) = true := by rw [bne, hq]; rfl
                      clear hz2 hS1 hS2
                      (try simp only [Act.put, List.setIfInBounds_toArray, List.set_cons_zero, List.set_cons_succ])
                      refine kPure 22 73 (v := ?vz23) rfl rfl (by kernel_rfl) (by kernel_rfl) (by kernel_rfl) (fun _ _ _ h => h) (by kernel_rfl) ?hz23 ?rz23
                      case hz23 => (intro w; go_simp <;> with_reducible rfl)
                      simp only [List.setIfInBounds_toArray, List.set_cons_zero, List.set_cons_succ]
                      refine kPure 23 74 (v := ?vz24) rfl rfl (by kernel_rfl) (by kernel_rfl) (by kernel_rfl) (fun _ _ _ h => h) (by kernel_rfl) ?hz24 ?rz24
                      case hz24 => (intro w; go_simp <;> with_reducible rfl)
                      simp only [List.setIfInBounds_toArray, List.set_cons_zero, List.set_cons_succ]
                      refine kPure 24 75 (v := ?vz25) rfl rfl (by kernel_rfl) (by kernel_rfl) (by kernel_rfl) (fun _ _ _ h => h) (by kernel_rfl) ?hz25 ?rz25
                      case hz25 => (intro w; go_simp <;> with_reducible rfl)
                      simp only [List.setIfInBounds_toArray, List.set_cons_zero, List.set_cons_succ]
                      refine kPure 25 76 (v := ?vz26) rfl rfl (by kernel_rfl) (by kernel_rfl) (by kernel_rfl) (fun _ _ _ h => h) (by kernel_rfl) ?hz26 ?rz26
                      case hz26 => (intro w; go_simp <;> with_reducible rfl)
                      simp only [List.setIfInBounds_toArray, List.set_cons_zero, List.set_cons_succ]
                      refine kPure 26 4 (v := ?vz27) rfl rfl (by kernel_rfl) (by kernel_rfl) (by kernel_rfl) (fun _ _ _ h => h) (by kernel_rfl) ?hz27 ?rz27
                      case hz27 => (intro w; go_simp <;> with_reducible rfl)
                      simp only [List.setIfInBounds_toArray, List.set_cons_zero, List.set_cons_succ]
                      refine kDone (by kernel_rfl) ?_ _
                      have HBl := Lib.hid (H5.out.below HB7.out hg7)
                      clear H0 H1 H2 H3 H4 H5
                      go_wp2
                      go_ret
                      exact ⟨rfl, HBl.out⟩
        | cons x r =>
          have hlr0 : t.short.length = r.length + 1 := by rw [← hlr]; rfl
          obtain ⟨m, hm, hmc⟩ : ∃ m : Int, x.mag = m ∧ ∃ b off, a1 = some ⟨b, off, none⟩ ∧ w2.cell? ⟨b, off, none⟩ = some (.int .i64 x.mag) := by
            have h : Rws (fun b => b < w.heap.size) w2 (.slice a1 t.short.length c1) t.short := HI.out.short.same (Same.below HB2.out)
            rw [← hlr] at h
            obtain ⟨b, off, h1, _, _, h2⟩ := SliceOf.el h 0 (by simp)
            exact ⟨_, rfl, b, off, h1, by have := h2.1; simpa using this⟩
          obtain ⟨bs, os, ha1, hms⟩ := hmc
          rw [hm] at hms
          rw [hlr0, ha1] at hs1
          clear ha1 hlr0
          by_cases hmx : 1000 < m
          · clear hlr hm
            go_wp2
            go_ret
            exact ⟨rfl, HB2.out⟩
          · have HRow : Hid (∀ x r, t.short = x :: r → 0 ≤ x.mag ∧ x.mag ≤ 1000) := Lib.hid (fun y q h => by
              have h3 := (HK.out.short.2 y (by rw [h]; simp)).1
              rw [← hlr] at h
              injection h with h1 h2
              subst h1
              omega)
            clear hlr hm
            go_upto_region 5 with fail
            clear hg1 hg2 hs1 hs2 hu1 hu2 hms hmx 
            go_wp2_with ((with_reducible show wpList _ _ _ (Oper.mk (some _) (Op.load 55 _) _ _ _ _ :: _) _ _); refine wpList_load_mid rfl 55 _ rfl w.heap.size 0 rfl (tbC t.s t.grp (.slice a1 t.short.length c1) (.slice a2 t.long.length c2) (.slice a3 t.mshort.length c3) (.slice a4 t.curs.length c4) (.slice a5 t.units.length c5) (.slice a6 t.munit.length c6)).toList _ HT2.out.range Try.underlying55 rfl size55 ?_)
            refine (turn_any t (.slice a1 t.short.length c1) (.slice a2 t.long.length c2) (.slice a3 t.mshort.length c3) (.slice a4 t.curs.length c4) (.slice a5 t.units.length c5) (.slice a6 t.munit.length c6) which _ ((HI.out.same (Same.below HB2.out)).mono (fun b hb _ => hb)) HK.out (by omega) HCur.out HRow.out).mono ?_
            rintro e w3 ⟨u, y1, y2, y3, y4, y5, y6, b, rfl, hb3, hone, hu⟩
            have HT3 : Hid (IsTb w3 w.heap.size t.s t.grp (.slice a1 t.short.length c1) (.slice a2 t.long.length c2) (.slice a3 t.mshort.length c3) (.slice a4 t.curs.length c4) (.slice a5 t.units.length c5) (.slice a6 t.munit.length c6)) := Lib.hid (heapC hb3 HT2.out)
            have HB3 := Lib.hid (HB2.out.trans (hb3.mono HB2.out.size))
            have HZ : Hid (IsTb (w3.alloc (.cells zTb 55)) w3.heap.size (fun _ => noB) 0 nilV nilV nilV nilV nilV nilV) := Lib.hid (heap_alloc_new w3 _)
            have HU := Lib.hid hu
            have HOne := Lib.hid hone
            clear hb3 hu hone HT2 HB2
            unfold tbV
            go_upto_region 6 with ((with_reducible show wpList _ _ _ (Oper.mk none (Op.store 55 _ _) _ _ _ _ :: _) _ _); refine wpList_store_mid rfl 55 _ _ rfl w3.heap.size 0 (tbC u.s u.grp y1 y2 y3 y4 y5 y6) rfl rfl HZ.out.there size55 HOne.out ?_)
            have HKS := Lib.hid (put_kept w3 (tbC u.s u.grp y1 y2 y3 y4 y5 y6))
            have HP := Lib.hid (HZ.out.put (tbC u.s u.grp y1 y2 y3 y4 y5 y6) rfl)
            obtain ⟨g, hg⟩ : ∃ g, w3.heap.size = g := ⟨_, rfl⟩
            have hg7 : w.heap.size ≤ g := by have := HB3.out.size; omega
            have HTS := Lib.hid (fun (hb : b = true) => ((HU.out hb).2.mono (P' := fun b => b < w3.heap.size) (fun b hb _ => hb)).same (Same.of_kept HKS.out (fun b hb e => by omega)))
            refine wp_name (fun W => IsTb W w.heap.size t.s t.grp (.slice a1 t.short.length c1) (.slice a2 t.long.length c2) (.slice a3 t.mshort.length c3) (.slice a4 t.curs.length c4) (.slice a5 t.units.length c5) (.slice a6 t.munit.length c6) ∧ IsTb W w3.heap.size u.s u.grp y1 y2 y3 y4 y5 y6 ∧ (b = true → TbS (fun b => b < w3.heap.size) W u y1 y2 y3 y4 y5 y6) ∧ Below w.heap.size w W) ⟨HKS.out.heap HT3.out (fun e => by have := lt_of_heap HT3.out; omega), HP.out, HTS.out, HB3.out.trans (HKS.out.below HB3.out.size (fun k hk e => by omega))⟩ (fun W7 hW => ?_)
            rw [hg] at hW ⊢
            obtain ⟨q0, qu, qs, qb⟩ := hW
            have HT7 := Lib.hid q0
            have HU7 := Lib.hid qu
            have HS7b := Lib.hid qs
            have HB7 := Lib.hid qb
            clear q0 qu qs qb HKS HP HZ HTS HB3 HT3 hg
            cases b with
            | false =>
              clear HU HS7b
              have H0 : Hid (SixS W7 w.heap.size g t (.slice a1 t.short.length c1) (.slice a2 t.long.length c2) (.slice a3 t.mshort.length c3) (.slice a4 t.curs.length c4) (.slice a5 t.units.length c5) (.slice a6 t.munit.length c6) u y1 y2 y3 y4 y5 y6 W7.drew) := Lib.hid ⟨(show IsTb W7.drew w.heap.size t.s t.grp (.slice a1 t.short.length c1) (.slice a2 t.long.length c2) (.slice a3 t.mshort.length c3) (.slice a4 t.curs.length c4) (.slice a5 t.units.length c5) (.slice a6 t.munit.length c6) from HT7.out), (show IsTb W7.drew g u.s u.grp y1 y2 y3 y4 y5 y6 from HU7.out), (Below.refl _ _).drew⟩
              refine kBegin (SixS W7 w.heap.size g t (.slice a1 t.short.length c1) (.slice a2 t.long.length c2) (.slice a3 t.mshort.length c3) (.slice a4 t.curs.length c4) (.slice a5 t.units.length c5) (.slice a6 t.munit.length c6) u y1 y2 y3 y4 y5 y6) [] (by kernel_rfl) ?_
              change wpAnyK _ _ _ _ _ _ _ _ _ W7.drew
              refine kLoad 0 51 [] (v := (tbV t.s t.grp (.slice a1 t.short.length c1) (.slice a2 t.long.length c2) (.slice a3 t.mshort.length c3) (.slice a4 t.curs.length c4) (.slice a5 t.units.length c5) (.slice a6 t.munit.length c6))) rfl rfl (by kernel_rfl) (by kernel_rfl) (by kernel_rfl) (by kernel_rfl) (fun _ _ _ h => h) (by kernel_rfl) (fun w hSw => run_load_tb hSw.1 rfl rfl) H0.out ?_
              simp only [List.setIfInBounds_toArray, List.set_cons_zero, List.set_cons_succ]
              refine kLoad 1 52 [] (v := (tbV t.s t.grp (.slice a1 t.short.length c1) (.slice a2 t.long.length c2) (.slice a3 t.mshort.length c3) (.slice a4 t.curs.length c4) (.slice a5 t.units.length c5) (.slice a6 t.munit.length c6))) rfl rfl (by kernel_rfl) (by kernel_rfl) (by kernel_rfl) (by kernel_rfl) (fun _ _ _ h => h) (by kernel_rfl) (fun w hSw => run_load_tb hSw.1 rfl rfl) H0.out ?_
              simp only [List.setIfInBounds_toArray, List.set_cons_zero, List.set_cons_succ]
              refine kAll (rs := [2]) (by kernel_rfl) (by simp) (kCons rfl (by kernel_rfl) (fun K hK => ?s28) kNil)
              case s28 =>
                go_simp
                refine (same_any (fun b => b < w.heap.size) t t (.slice a1 t.short.length c1) (.slice a2 t.long.length c2) (.slice a3 t.mshort.length c3) (.slice a4 t.curs.length c4) (.slice a5 t.units.length c5) (.slice a6 t.munit.length c6) (.slice a1 t.short.length c1) (.slice a2 t.long.length c2) (.slice a3 t.mshort.length c3) (.slice a4 t.curs.length c4) (.slice a5 t.units.length c5) (.slice a6 t.munit.length c6) _ (HI.out.same (Same.below (H0.out.below HB7.out hg7))) (HI.out.same (Same.below (H0.out.below HB7.out hg7))) HF.out HF.out).mono ?_
                rintro e x1 ⟨b1, rfl, hbe, hbx⟩
                have H1 := Lib.hid (H0.out.step hbx)
                refine hK.out _ _ (fun _ _ => H1.out) ?_
                clear hK hbx
                obtain rfl : b1 = true := hbe.out.2 (tbEq_refl _)
                clear hbe
                (try simp only [Act.put, List.setIfInBounds_toArray, List.set_cons_zero, List.set_cons_succ])
                refine kPure 3 54 (v := ?vz29) rfl rfl (by kernel_rfl) (by kernel_rfl) (by kernel_rfl) (fun _ _ _ h => h) (by kernel_rfl) ?hz29 ?rz29
                case hz29 => (intro w; go_simp <;> with_reducible rfl)
                simp only [List.setIfInBounds_toArray, List.set_cons_zero, List.set_cons_succ]
                refine kPure 4 55 (v := ?vz30) rfl rfl (by kernel_rfl) (by kernel_rfl) (by kernel_rfl) (fun _ _ _ h => h) (by kernel_rfl) ?hz30 ?rz30
                case hz30 => (intro w; go_simp <;> with_reducible rfl)
                simp only [List.setIfInBounds_toArray, List.set_cons_zero, List.set_cons_succ]
                refine kPure 5 56 (v := ?vz31) rfl rfl (by kernel_rfl) (by kernel_rfl) (by kernel_rfl) (fun _ _ _ h => h) (by kernel_rfl) ?hz31 ?rz31
                case hz31 => (intro w; go_simp <;> with_reducible rfl)
                simp only [List.setIfInBounds_toArray, List.set_cons_zero, List.set_cons_succ]
                refine kPure 6 57 (v := ?vz32) rfl rfl (by kernel_rfl) (by kernel_rfl) (by kernel_rfl) (fun _ _ _ h => h) (by kernel_rfl) ?hz32 ?rz32
                case hz32 => (intro w; go_simp <;> with_reducible rfl)
                simp only [List.setIfInBounds_toArray, List.set_cons_zero, List.set_cons_succ]
                refine kSkip 7 58 rfl rfl (by kernel_rfl) (by kernel_rfl) (by kernel_rfl) (fun _ _ _ h => h) (by kernel_rfl) ?_
                simp only [List.setIfInBounds_toArray, List.set_cons_zero, List.set_cons_succ]
                refine kSkip 8 59 rfl rfl (by kernel_rfl) (by kernel_rfl) (by kernel_rfl) (fun _ _ _ h => h) (by kernel_rfl) ?_
                simp only [List.setIfInBounds_toArray, List.set_cons_zero, List.set_cons_succ]
                refine kSkip 9 60 rfl rfl (by kernel_rfl) (by kernel_rfl) (by kernel_rfl) (fun _ _ _ h => h) (by kernel_rfl) ?_
                simp only [List.setIfInBounds_toArray, List.set_cons_zero, List.set_cons_succ]
                refine kSkip 10 61 rfl rfl (by kernel_rfl) (by kernel_rfl) (by kernel_rfl) (fun _ _ _ h => h) (by kernel_rfl) ?_
                simp only [List.setIfInBounds_toArray, List.set_cons_zero, List.set_cons_succ]
                refine kSkip 11 62 rfl rfl (by kernel_rfl) (by kernel_rfl) (by kernel_rfl) (fun _ _ _ h => h) (by kernel_rfl) ?_
                simp only [List.setIfInBounds_toArray, List.set_cons_zero, List.set_cons_succ]
                refine kSkip 12 63 rfl rfl (by kernel_rfl) (by kernel_rfl) (by kernel_rfl) (fun _ _ _ h => h) (by kernel_rfl) ?_
                simp only [List.setIfInBounds_toArray, List.set_cons_zero, List.set_cons_succ]
                refine kSkip 13 64 rfl rfl (by kernel_rfl) (by kernel_rfl) (by kernel_rfl) (fun _ _ _ h => h) (by kernel_rfl) ?_
                simp only [List.setIfInBounds_toArray, List.set_cons_zero, List.set_cons_succ]
                refine kSkip 14 65 rfl rfl (by kernel_rfl) (by kernel_rfl) (by kernel_rfl) (fun _ _ _ h => h) (by kernel_rfl) ?_
                simp only [List.setIfInBounds_toArray, List.set_cons_zero, List.set_cons_succ]
                refine kSkip 15 66 rfl rfl (by kernel_rfl) (by kernel_rfl) (by kernel_rfl) (fun _ _ _ h => h) (by kernel_rfl) ?_
                simp only [List.setIfInBounds_toArray, List.set_cons_zero, List.set_cons_succ]
                refine kSkip 16 67 rfl rfl (by kernel_rfl) (by kernel_rfl) (by kernel_rfl) (fun _ _ _ h => h) (by kernel_rfl) ?_
                simp only [List.setIfInBounds_toArray, List.set_cons_zero, List.set_cons_succ]
                refine kSkip 17 68 rfl rfl (by kernel_rfl) (by kernel_rfl) (by kernel_rfl) (fun _ _ _ h => h) (by kernel_rfl) ?_
                simp only [List.setIfInBounds_toArray, List.set_cons_zero, List.set_cons_succ]
                refine kSkip 18 69 rfl rfl (by kernel_rfl) (by kernel_rfl) (by kernel_rfl) (fun _ _ _ h => h) (by kernel_rfl) ?_
                simp only [List.setIfInBounds_toArray, List.set_cons_zero, List.set_cons_succ]
                refine kSkip 19 70 rfl rfl (by kernel_rfl) (by kernel_rfl) (by kernel_rfl) (fun _ _ _ h => h) (by kernel_rfl) ?_
                simp only [List.setIfInBounds_toArray, List.set_cons_zero, List.set_cons_succ]
                refine kSkip 20 71 rfl rfl (by kernel_rfl) (by kernel_rfl) (by kernel_rfl) (fun _ _ _ h => h) (by kernel_rfl) ?_
                simp only [List.setIfInBounds_toArray, List.set_cons_zero, List.set_cons_succ]
                refine kSkip 21 72 rfl rfl (by kernel_rfl) (by kernel_rfl) (by kernel_rfl) (fun _ _ _ h => h) (by kernel_rfl) ?_
                simp only [List.setIfInBounds_toArray, List.set_cons_zero, List.set_cons_succ]
                refine kSkip 22 73 rfl rfl (by kernel_rfl) (by kernel_rfl) (by kernel_rfl) (fun _ _ _ h => h) (by kernel_rfl) ?_
                simp only [List.setIfInBounds_toArray, List.set_cons_zero, List.set_cons_succ]
                refine kSkip 23 74 rfl rfl (by kernel_rfl) (by kernel_rfl) (by kernel_rfl) (fun _ _ _ h => h) (by kernel_rfl) ?_
                simp only [List.setIfInBounds_toArray, List.set_cons_zero, List.set_cons_succ]
                refine kPure 24 75 (v := ?vz33) rfl rfl (by kernel_rfl) (by kernel_rfl) (by kernel_rfl) (fun _ _ _ h => h) (by kernel_rfl) ?hz33 ?rz33
                case hz33 => (intro w; go_simp <;> with_reducible rfl)
                simp only [List.setIfInBounds_toArray, List.set_cons_zero, List.set_cons_succ]
                refine kPure 25 76 (v := ?vz34) rfl rfl (by kernel_rfl) (by kernel_rfl) (by kernel_rfl) (fun _ _ _ h => h) (by kernel_rfl) ?hz34 ?rz34
                case hz34 => (intro w; go_simp <;> with_reducible rfl)
                simp only [List.setIfInBounds_toArray, List.set_cons_zero, List.set_cons_succ]
                refine kPure 26 4 (v := ?vz35) rfl rfl (by kernel_rfl) (by kernel_rfl) (by kernel_rfl) (fun _ _ _ h => h) (by kernel_rfl) ?hz35 ?rz35
                case hz35 => (intro w; go_simp <;> with_reducible rfl)
                simp only [List.setIfInBounds_toArray, List.set_cons_zero, List.set_cons_succ]
                refine kDone (by kernel_rfl) ?_ _
                have HBl := Lib.hid (H1.out.below HB7.out hg7)
                clear H0 H1
                go_wp2
                go_ret
                exact ⟨rfl, HBl.out⟩
            | true =>
              obtain ⟨hft, hfu, hne⟩ := turned_fair (HU.out rfl).1 HK.out HF.out (by omega) (fun c r h => (HCur.out c r h).2) (fun c r h => (HRow.out c r h).2)
              have FT := Lib.hid hft
              have FU := Lib.hid hfu
              have HN := Lib.hid hne
              have HS7 := Lib.hid (HS7b.out rfl)
              clear hft hfu hne HU HS7b
              have H0 : Hid (SixS W7 w.heap.size g t (.slice a1 t.short.length c1) (.slice a2 t.long.length c2) (.slice a3 t.mshort.length c3) (.slice a4 t.curs.length c4) (.slice a5 t.units.length c5) (.slice a6 t.munit.length c6) u y1 y2 y3 y4 y5 y6 W7.drew) := Lib.hid ⟨(show IsTb W7.drew w.heap.size t.s t.grp (.slice a1 t.short.length c1) (.slice a2 t.long.length c2) (.slice a3 t.mshort.length c3) (.slice a4 t.curs.length c4) (.slice a5 t.units.length c5) (.slice a6 t.munit.length c6) from HT7.out), (show IsTb W7.drew g u.s u.grp y1 y2 y3 y4 y5 y6 from HU7.out), (Below.refl _ _).drew⟩
              refine kBegin (SixS W7 w.heap.size g t (.slice a1 t.short.length c1) (.slice a2 t.long.length c2) (.slice a3 t.mshort.length c3) (.slice a4 t.curs.length c4) (.slice a5 t.units.length c5) (.slice a6 t.munit.length c6) u y1 y2 y3 y4 y5 y6) [] (by kernel_rfl) ?_
              change wpAnyK _ _ _ _ _ _ _ _ _ W7.drew
              refine kLoad 0 51 [] (v := (tbV t.s t.grp (.slice a1 t.short.length c1) (.slice a2 t.long.length c2) (.slice a3 t.mshort.length c3) (.slice a4 t.curs.length c4) (.slice a5 t.units.length c5) (.slice a6 t.munit.length c6))) rfl rfl (by kernel_rfl) (by kernel_rfl) (by kernel_rfl) (by kernel_rfl) (fun _ _ _ h => h) (by kernel_rfl) (fun w hSw => run_load_tb hSw.1 rfl rfl) H0.out ?_
              simp only [List.setIfInBounds_toArray, List.set_cons_zero, List.set_cons_succ]
              refine kLoad 1 52 [] (v := (tbV t.s t.grp (.slice a1 t.short.length c1) (.slice a2 t.long.length c2) (.slice a3 t.mshort.length c3) (.slice a4 t.curs.length c4) (.slice a5 t.units.length c5) (.slice a6 t.munit.length c6))) rfl rfl (by kernel_rfl) (by kernel_rfl) (by kernel_rfl) (by kernel_rfl) (fun _ _ _ h => h) (by kernel_rfl) (fun w hSw => run_load_tb hSw.1 rfl rfl) H0.out ?_
              simp only [List.setIfInBounds_toArray, List.set_cons_zero, List.set_cons_succ]
              refine kAll (rs := [2]) (by kernel_rfl) (by simp) (kCons rfl (by kernel_rfl) (fun K hK => ?s36) kNil)
              case s36 =>
                go_simp
                refine (same_any (fun b => b < w.heap.size) t t (.slice a1 t.short.length c1) (.slice a2 t.long.length c2) (.slice a3 t.mshort.length c3) (.slice a4 t.curs.length c4) (.slice a5 t.units.length c5) (.slice a6 t.munit.length c6) (.slice a1 t.short.length c1) (.slice a2 t.long.length c2) (.slice a3 t.mshort.length c3) (.slice a4 t.curs.length c4) (.slice a5 t.units.length c5) (.slice a6 t.munit.length c6) _ (HI.out.same (Same.below (H0.out.below HB7.out hg7))) (HI.out.same (Same.below (H0.out.below HB7.out hg7))) HF.out HF.out).mono ?_
                rintro e x1 ⟨b1, rfl, hbe, hbx⟩
                have H1 := Lib.hid (H0.out.step hbx)
                refine hK.out _ _ (fun _ _ => H1.out) ?_
                clear hK hbx
                obtain rfl : b1 = true := hbe.out.2 (tbEq_refl _)
                clear hbe
                (try simp only [Act.put, List.setIfInBounds_toArray, List.set_cons_zero, List.set_cons_succ])
                refine kPure 3 54 (v := ?vz37) rfl rfl (by kernel_rfl) (by kernel_rfl) (by kernel_rfl) (fun _ _ _ h => h) (by kernel_rfl) ?hz37 ?rz37
                case hz37 => (intro w; go_simp <;> with_reducible rfl)
                simp only [List.setIfInBounds_toArray, List.set_cons_zero, List.set_cons_succ]
                refine kPure 4 55 (v := ?vz38) rfl rfl (by kernel_rfl) (by kernel_rfl) (by kernel_rfl) (fun _ _ _ h => h) (by kernel_rfl) ?hz38 ?rz38
                case hz38 => (intro w; go_simp <;> with_reducible rfl)
                simp only [List.setIfInBounds_toArray, List.set_cons_zero, List.set_cons_succ]
                refine kPure 5 56 (v := ?vz39) rfl rfl (by kernel_rfl) (by kernel_rfl) (by kernel_rfl) (fun _ _ _ h => h) (by kernel_rfl) ?hz39 ?rz39
                case hz39 => (intro w; go_simp <;> with_reducible rfl)
                simp only [List.setIfInBounds_toArray, List.set_cons_zero, List.set_cons_succ]
                refine kPure 6 57 (v := ?vz40) rfl rfl (by kernel_rfl) (by kernel_rfl) (by kernel_rfl) (fun _ _ _ h => h) (by kernel_rfl) ?hz40 ?rz40
                case hz40 => (intro w; go_simp <;> with_reducible rfl)
                simp only [List.setIfInBounds_toArray, List.set_cons_zero, List.set_cons_succ]
                refine kLoad 7 58 [] (v := (tbV t.s t.grp (.slice a1 t.short.length c1) (.slice a2 t.long.length c2) (.slice a3 t.mshort.length c3) (.slice a4 t.curs.length c4) (.slice a5 t.units.length c5) (.slice a6 t.munit.length c6))) rfl rfl (by kernel_rfl) (by kernel_rfl) (by kernel_rfl) (by kernel_rfl) (fun _ _ _ h => h) (by kernel_rfl) (fun w hSw => run_load_tb hSw.1 rfl rfl) H1.out ?_
                simp only [List.setIfInBounds_toArray, List.set_cons_zero, List.set_cons_succ]
                refine kLoad 8 59 [] (v := (tbV u.s u.grp y1 y2 y3 y4 y5 y6)) rfl rfl (by kernel_rfl) (by kernel_rfl) (by kernel_rfl) (by kernel_rfl) (fun _ _ _ h => h) (by kernel_rfl) (fun w hSw => run_load_tb hSw.2.1 rfl rfl) H1.out ?_
                simp only [List.setIfInBounds_toArray, List.set_cons_zero, List.set_cons_succ]
                refine kAll (rs := [9]) (by kernel_rfl) (by simp) (kCons rfl (by kernel_rfl) (fun K hK => ?s41) kNil)
                case s41 =>
                  go_simp
                  refine (same_any (fun b => b < g) t u (.slice a1 t.short.length c1) (.slice a2 t.long.length c2) (.slice a3 t.mshort.length c3) (.slice a4 t.curs.length c4) (.slice a5 t.units.length c5) (.slice a6 t.munit.length c6) y1 y2 y3 y4 y5 y6 _ ((HI.out.same (Same.below (H1.out.below HB7.out hg7))).mono (fun b _ hb => by omega)) (H1.out.args (w := w) HS7.out (fun b hb => hb)) HF.out FU.out.fit).mono ?_
                  rintro e x2 ⟨b2, rfl, hbe, hbx⟩
                  have H2 := Lib.hid (H1.out.step hbx)
                  refine hK.out _ _ (fun _ _ => H2.out) ?_
                  clear hK hbx
                  obtain rfl : b2 = false := by
                    cases b2 with
                    | false => rfl
                    | true => exact absurd (hbe.out.1 rfl) HN.out
                  clear hbe
                  (try simp only [Act.put, List.setIfInBounds_toArray, List.set_cons_zero, List.set_cons_succ])
                  refine kPure 10 61 (v := ?vz42) rfl rfl (by kernel_rfl) (by kernel_rfl) (by kernel_rfl) (fun _ _ _ h => h) (by kernel_rfl) ?hz42 ?rz42
                  case hz42 => (intro w; go_simp <;> with_reducible rfl)
                  simp only [List.setIfInBounds_toArray, List.set_cons_zero, List.set_cons_succ]
                  refine kPure 11 62 (v := ?vz43) rfl rfl (by kernel_rfl) (by kernel_rfl) (by kernel_rfl) (fun _ _ _ h => h) (by kernel_rfl) ?hz43 ?rz43
                  case hz43 => (intro w; go_simp <;> with_reducible rfl)
                  simp only [List.setIfInBounds_toArray, List.set_cons_zero, List.set_cons_succ]
                  refine kLoad 12 63 [] (v := (tbV u.s u.grp y1 y2 y3 y4 y5 y6)) rfl rfl (by kernel_rfl) (by kernel_rfl) (by kernel_rfl) (by kernel_rfl) (fun _ _ _ h => h) (by kernel_rfl) (fun w hSw => run_load_tb hSw.2.1 rfl rfl) H2.out ?_
                  simp only [List.setIfInBounds_toArray, List.set_cons_zero, List.set_cons_succ]
                  refine kLoad 13 64 [] (v := (tbV t.s t.grp (.slice a1 t.short.length c1) (.slice a2 t.long.length c2) (.slice a3 t.mshort.length c3) (.slice a4 t.curs.length c4) (.slice a5 t.units.length c5) (.slice a6 t.munit.length c6))) rfl rfl (by kernel_rfl) (by kernel_rfl) (by kernel_rfl) (by kernel_rfl) (fun _ _ _ h => h) (by kernel_rfl) (fun w hSw => run_load_tb hSw.1 rfl rfl) H2.out ?_
                  simp only [List.setIfInBounds_toArray, List.set_cons_zero, List.set_cons_succ]
                  refine kAll (rs := [14]) (by kernel_rfl) (by simp) (kCons rfl (by kernel_rfl) (fun K hK => ?s44) kNil)
                  case s44 =>
                    go_simp
                    refine (same_any (fun b => b < g) u t y1 y2 y3 y4 y5 y6 (.slice a1 t.short.length c1) (.slice a2 t.long.length c2) (.slice a3 t.mshort.length c3) (.slice a4 t.curs.length c4) (.slice a5 t.units.length c5) (.slice a6 t.munit.length c6) _ (H2.out.args (w := w) HS7.out (fun b hb => hb)) ((HI.out.same (Same.below (H2.out.below HB7.out hg7))).mono (fun b _ hb => by omega)) FU.out.fit HF.out).mono ?_
                    rintro e x3 ⟨b3, rfl, hbe, hbx⟩
                    have H3 := Lib.hid (H2.out.step hbx)
                    refine hK.out _ _ (fun _ _ => H3.out) ?_
                    clear hK hbx
                    obtain rfl : b3 = false := by
                      cases b3 with
                      | false => rfl
                      | true => exact absurd (tbEq_turn (hbe.out.1 rfl)) HN.out
                    clear hbe
                    (try simp only [Act.put, List.setIfInBounds_toArray, List.set_cons_zero, List.set_cons_succ])
                    refine kPure 15 66 (v := ?vz45) rfl rfl (by kernel_rfl) (by kernel_rfl) (by kernel_rfl) (fun _ _ _ h => h) (by kernel_rfl) ?hz45 ?rz45
                    case hz45 => (intro w; go_simp <;> with_reducible rfl)
                    simp only [List.setIfInBounds_toArray, List.set_cons_zero, List.set_cons_succ]
                    refine kPure 16 67 (v := ?vz46) rfl rfl (by kernel_rfl) (by kernel_rfl) (by kernel_rfl) (fun _ _ _ h => h) (by kernel_rfl) ?hz46 ?rz46
                    case hz46 => (intro w; go_simp <;> with_reducible rfl)
                    simp only [List.setIfInBounds_toArray, List.set_cons_zero, List.set_cons_succ]
                    refine kPure 17 68 (v := ?vz47) rfl rfl (by kernel_rfl) (by kernel_rfl) (by kernel_rfl) (fun _ _ _ h => h) (by kernel_rfl) ?hz47 ?rz47
                    case hz47 => (intro w; go_simp <;> with_reducible rfl)
                    simp only [List.setIfInBounds_toArray, List.set_cons_zero, List.set_cons_succ]
                    refine kLoad 18 69 [] (v := (tbV t.s t.grp (.slice a1 t.short.length c1) (.slice a2 t.long.length c2) (.slice a3 t.mshort.length c3) (.slice a4 t.curs.length c4) (.slice a5 t.units.length c5) (.slice a6 t.munit.length c6))) rfl rfl (by kernel_rfl) (by kernel_rfl) (by kernel_rfl) (by kernel_rfl) (fun _ _ _ h => h) (by kernel_rfl) (fun w hSw => run_load_tb hSw.1 rfl rfl) H3.out ?_
                    simp only [List.setIfInBounds_toArray, List.set_cons_zero, List.set_cons_succ]
                    refine kLoad 20 71 [] (v := (tbV u.s u.grp y1 y2 y3 y4 y5 y6)) rfl rfl (by kernel_rfl) (by kernel_rfl) (by kernel_rfl) (by kernel_rfl) (fun _ _ _ h => h) (by kernel_rfl) (fun w hSw => run_load_tb hSw.2.1 rfl rfl) H3.out ?_
                    simp only [List.setIfInBounds_toArray, List.set_cons_zero, List.set_cons_succ]
                    refine kAll (rs := [19]) (by kernel_rfl) (by simp) (kCons rfl (by kernel_rfl) (fun K hK => ?s48) kNil)
                    case s48 =>
                      go_simp
                      refine (encode_any (fun b => b < w.heap.size) t (.slice a1 t.short.length c1) (.slice a2 t.long.length c2) (.slice a3 t.mshort.length c3) (.slice a4 t.curs.length c4) (.slice a5 t.units.length c5) (.slice a6 t.munit.length c6) _ (HI.out.same (Same.below (H3.out.below HB7.out hg7))) (fun b hb => Nat.lt_of_lt_of_le hb (H3.out.below HB7.out hg7).size) HF.out (by have := FT.out.len; omega)).mono ?_
                      rintro e x4 ⟨S1, rfl, hS1, hz1, hbx⟩
                      have H4 := Lib.hid (H3.out.step hbx)
                      refine hK.out _ _ (fun _ _ => H4.out) ?_
                      clear hK hbx
                      clear hz1
                      (try simp only [Act.put, List.setIfInBounds_toArray, List.set_cons_zero, List.set_cons_succ])
                      refine kAll (rs := [21]) (by kernel_rfl) (by simp) (kCons rfl (by kernel_rfl) (fun K hK => ?s49) kNil)
                      case s49 =>
                        go_simp
                        refine (encode_any (fun b => b < g) u y1 y2 y3 y4 y5 y6 _ (H4.out.args (w := w) HS7.out (fun b hb => hb)) (fun b hb => by have := lt_of_heap H4.out.2.1; omega) FU.out.fit (by have := FU.out.len; omega)).mono ?_
                        rintro e x5 ⟨S2, rfl, hS2, hz2, hbx⟩
                        have H5 := Lib.hid (H4.out.step hbx)
                        refine hK.out _ _ (fun _ _ => H5.out) ?_
                        clear hK hbx
                        have hq : (S1.toList == S2.toList) = false := by
                          rw [Bool.eq_false_iff]
                          intro e
                          rw [beq_iff_eq, Lib.toList_data, Lib.toList_data, hS1.out, hS2.out] at e
                          exact HN.out (inj_tb FT.out.good FU.out.good e)
                        have hq2 : (S1.toList != S2.toList) = true := by rw [bne, hq]; rfl
                        clear hz2 hS1 hS2
                        (try simp only [Act.put, List.setIfInBounds_toArray, List.set_cons_zero, List.set_cons_succ])
                        refine kPure 22 73 (v := ?vz50) rfl rfl (by kernel_rfl) (by kernel_rfl) (by kernel_rfl) (fun _ _ _ h => h) (by kernel_rfl) ?hz50 ?rz50
                        case hz50 => (intro w; go_simp <;> with_reducible rfl)
                        simp only [List.setIfInBounds_toArray, List.set_cons_zero, List.set_cons_succ]
                        refine kPure 23 74 (v := ?vz51) rfl rfl (by kernel_rfl) (by kernel_rfl) (by kernel_rfl) (fun _ _ _ h => h) (by kernel_rfl) ?hz51 ?rz51
                        case hz51 => (intro w; go_simp <;> with_reducible rfl)
                        simp only [List.setIfInBounds_toArray, List.set_cons_zero, List.set_cons_succ]
                        refine kPure 24 75 (v := ?vz52) rfl rfl (by kernel_rfl) (by kernel_rfl) (by kernel_rfl) (fun _ _ _ h => h) (by kernel_rfl) ?hz52 ?rz52
                        case hz52 => (intro w; go_simp <;> with_reducible rfl)
                        simp only [List.setIfInBounds_toArray, List.set_cons_zero, List.set_cons_succ]
                        refine kPure 25 76 (v := ?vz53) rfl rfl (by kernel_rfl) (by kernel_rfl) (by kernel_rfl) (fun _ _ _ h => h) (by kernel_rfl) ?hz53 ?rz53
                        case hz53 => (intro w; go_simp <;> with_reducible rfl)
                        simp only [List.setIfInBounds_toArray, List.set_cons_zero, List.set_cons_succ]
                        refine kPure 26 4 (v := ?vz54) rfl rfl (by kernel_rfl) (by kernel_rfl) (by kernel_rfl) (fun _ _ _ h => h) (by kernel_rfl) ?hz54 ?rz54
                        case hz54 => (intro w; go_simp <;> with_reducible rfl)
                        simp only [List.setIfInBounds_toArray, List.set_cons_zero, List.set_cons_succ]
                        refine kDone (by kernel_rfl) ?_ _
                        have HBl := Lib.hid (H5.out.below HB7.out hg7)
                        clear H0 H1 H2 H3 H4 H5
                        go_wp2
                        go_ret
                        exact ⟨rfl, HBl.out⟩
      | cons c rr =>
        have hlc0 : t.curs.length = rr.length + 1 := by rw [← hlc]; rfl
        obtain ⟨m4, hm4, hmc4⟩ : ∃ m : Int, c.d3 = m ∧ ∃ b off, a4 = some ⟨b, off, none⟩ ∧ w2.cell? ⟨b, off + 7, none⟩ = some (.int .i64 c.d3) := by
          have h : Cus (fun b => b < w.heap.size) w2 (.slice a4 t.curs.length c4) t.curs := HI.out.curs.same (Same.below HB2.out)
          rw [← hlc] at h
          obtain ⟨b, off, h1, _, _, h2⟩ := SliceOf.el h 0 (by simp)
          exact ⟨_, rfl, b, off, h1, by have := h2.2.2.2.2.2.2.1; simpa using this⟩
        obtain ⟨bc, oc, ha4, hmc4⟩ := hmc4
        rw [hm4] at hmc4
        rw [hlc0, ha4] at hu1
        clear ha4 hlc0
        by_cases hm4x : 1000 < m4
        · clear hlc hm4
          go_wp2
          go_ret
          exact ⟨rfl, HB2.out⟩
        · have HCur : Hid (∀ c r, t.curs = c :: r → 0 ≤ c.d3 ∧ c.d3 ≤ 1000) := Lib.hid (fun y q h => by
            have h3 := (HK.out.curs.2 y (by rw [h]; simp)).2.2.2.2.2
            rw [← hlc] at h
            injection h with h1 h2
            subst h1
            omega)
          clear hlc hm4
          obtain ⟨lr, hlr⟩ : ∃ l, l = t.short := ⟨_, rfl⟩
          cases lr with
          | nil =>
            have hlr0 : t.short.length = 0 := by rw [← hlr]; rfl
            have HRow : Hid (∀ x r, t.short = x :: r → 0 ≤ x.mag ∧ x.mag ≤ 1000) := Lib.hid (fun x r h => by rw [h] at hlr0; simp at hlr0)
            rw [hlr0] at hs1
            clear hlr hlr0
            go_upto_region 5 with fail
            clear hg1 hg2 hs1 hs2 hu1 hu2 hmc4 hm4x
            go_wp2_with ((with_reducible show wpList _ _ _ (Oper.mk (some _) (Op.load 55 _) _ _ _ _ :: _) _ _); refine wpList_load_mid rfl 55 _ rfl w.heap.size 0 rfl (tbC t.s t.grp (.slice a1 t.short.length c1) (.slice a2 t.long.length c2) (.slice a3 t.mshort.length c3) (.slice a4 t.curs.length c4) (.slice a5 t.units.length c5) (.slice a6 t.munit.length c6)).toList _ HT2.out.range Try.underlying55 rfl size55 ?_)
            refine (turn_any t (.slice a1 t.short.length c1) (.slice a2 t.long.length c2) (.slice a3 t.mshort.length c3) (.slice a4 t.curs.length c4) (.slice a5 t.units.length c5) (.slice a6 t.munit.length c6) which _ ((HI.out.same (Same.below HB2.out)).mono (fun b hb _ => hb)) HK.out (by omega) HCur.out HRow.out).mono ?_
            rintro e w3 ⟨u, y1, y2, y3, y4, y5, y6, b, rfl, hb3, hone, hu⟩
            have HT3 : Hid (IsTb w3 w.heap.size t.s t.grp (.slice a1 t.short.length c1) (.slice a2 t.long.length c2) (.slice a3 t.mshort.length c3) (.slice a4 t.curs.length c4) (.slice a5 t.units.length c5) (.slice a6 t.munit.length c6)) := Lib.hid (heapC hb3 HT2.out)
            have HB3 := Lib.hid (HB2.out.trans (hb3.mono HB2.out.size))
            have HZ : Hid (IsTb (w3.alloc (.cells zTb 55)) w3.heap.size (fun _ => noB) 0 nilV nilV nilV nilV nilV nilV) := Lib.hid (heap_alloc_new w3 _)
            have HU := Lib.hid hu
            have HOne := Lib.hid hone
            clear hb3 hu hone HT2 HB2
            unfold tbV
            go_upto_region 6 with ((with_reducible show wpList _ _ _ (Oper.mk none (Op.store 55 _ _) _ _ _ _ :: _) _ _); refine wpList_store_mid rfl 55 _ _ rfl w3.heap.size 0 (tbC u.s u.grp y1 y2 y3 y4 y5 y6) rfl rfl HZ.out.there size55 HOne.out ?_)
            have HKS := Lib.hid (put_kept w3 (tbC u.s u.grp y1 y2 y3 y4 y5 y6))
            have HP := Lib.hid (HZ.out.put (tbC u.s u.grp y1 y2 y3 y4 y5 y6) rfl)
            obtain ⟨g, hg⟩ : ∃ g, w3.heap.size = g := ⟨_, rfl⟩
            have hg7 : w.heap.size ≤ g := by have := HB3.out.size; omega
            have HTS := Lib.hid (fun (hb : b = true) => ((HU.out hb).2.mono (P' := fun b => b < w3.heap.size) (fun b hb _ => hb)).same (Same.of_kept HKS.out (fun b hb e => by omega)))
            refine wp_name (fun W => IsTb W w.heap.size t.s t.grp (.slice a1 t.short.length c1) (.slice a2 t.long.length c2) (.slice a3 t.mshort.length c3) (.slice a4 t.curs.length c4) (.slice a5 t.units.length c5) (.slice a6 t.munit.length c6) ∧ IsTb W w3.heap.size u.s u.grp y1 y2 y3 y4 y5 y6 ∧ (b = true → TbS (fun b => b < w3.heap.size) W u y1 y2 y3 y4 y5 y6) ∧ Below w.heap.size w W) ⟨HKS.out.heap HT3.out (fun e => by have := lt_of_heap HT3.out; omega), HP.out, HTS.out, HB3.out.trans (HKS.out.below HB3.out.size (fun k hk e => by omega))⟩ (fun W7 hW => ?_)
            rw [hg] at hW ⊢
            obtain ⟨q0, qu, qs, qb⟩ := hW
            have HT7 := Lib.hid q0
            have HU7 := Lib.hid qu
            have HS7b := Lib.hid qs
            have HB7 := Lib.hid qb
            clear q0 qu qs qb HKS HP HZ HTS HB3 HT3 hg
            cases b with
            | false =>
              clear HU HS7b
              have H0 : Hid (SixS W7 w.heap.size g t (.slice a1 t.short.length c1) (.slice a2 t.long.length c2) (.slice a3 t.mshort.length c3) (.slice a4 t.curs.length c4) (.slice a5 t.units.length c5) (.slice a6 t.munit.length c6) u y1 y2 y3 y4 y5 y6 W7.drew) := Lib.hid ⟨(show IsTb W7.drew w.heap.size t.s t.grp (.slice a1 t.short.length c1) (.slice a2 t.long.length c2) (.slice a3 t.mshort.length c3) (.slice a4 t.curs.length c4) (.slice a5 t.units.length c5) (.slice a6 t.munit.length c6) from HT7.out), (show IsTb W7.drew g u.s u.grp y1 y2 y3 y4 y5 y6 from HU7.out), (Below.refl _ _).drew⟩
              refine kBegin (SixS W7 w.heap.size g t (.slice a1 t.short.length c1) (.slice a2 t.long.length c2) (.slice a3 t.mshort.length c3) (.slice a4 t.curs.length c4) (.slice a5 t.units.length c5) (.slice a6 t.munit.length c6) u y1 y2 y3 y4 y5 y6) [] (by kernel_rfl) ?_
              change wpAnyK _ _ _ _ _ _ _ _ _ W7.drew
              refine kLoad 0 51 [] (v := (tbV t.s t.grp (.slice a1 t.short.length c1) (.slice a2 t.long.length c2) (.slice a3 t.mshort.length c3) (.slice a4 t.curs.length c4) (.slice a5 t.units.length c5) (.slice a6 t.munit.length c6))) rfl rfl (by kernel_rfl) (by kernel_rfl) (by kernel_rfl) (by kernel_rfl) (fun _ _ _ h => h) (by kernel_rfl) (fun w hSw => run_load_tb hSw.1 rfl rfl) H0.out ?_
              simp only [List.setIfInBounds_toArray, List.set_cons_zero, List.set_cons_succ]
              refine kLoad 1 52 [] (v := (tbV t.s t.grp (.slice a1 t.short.length c1) (.slice a2 t.long.length c2) (.slice a3 t.mshort.length c3) (.slice a4 t.curs.length c4) (.slice a5 t.units.length c5) (.slice a6 t.munit.length c6))) rfl rfl (by kernel_rfl) (by kernel_rfl) (by kernel_rfl) (by kernel_rfl) (fun _ _ _ h => h) (by kernel_rfl) (fun w hSw => run_load_tb hSw.1 rfl rfl) H0.out ?_
              simp only [List.setIfInBounds_toArray, List.set_cons_zero, List.set_cons_succ]
              refine kAll (rs := [2]) (by kernel_rfl) (by simp) (kCons rfl (by kernel_rfl) (fun K hK => ?s55) kNil)
              case s55 =>
                go_simp
                refine (same_any (fun b => b < w.heap.size) t t (.slice a1 t.short.length c1) (.slice a2 t.long.length c2) (.slice a3 t.mshort.length c3) (.slice a4 t.curs.length c4) (.slice a5 t.units.length c5) (.slice a6 t.munit.length c6) (.slice a1 t.short.length c1) (.slice a2 t.long.length c2) (.slice a3 t.mshort.length c3) (.slice a4 t.curs.length c4) (.slice a5 t.units.length c5) (.slice a6 t.munit.length c6) _ (HI.out.same (Same.below (H0.out.below HB7.out hg7))) (HI.out.same (Same.below (H0.out.below HB7.out hg7))) HF.out HF.out).mono ?_
                rintro e x1 ⟨b1, rfl, hbe, hbx⟩
                have H1 := Lib.hid (H0.out.step hbx)
                refine hK.out _ _ (fun _ _ => H1.out) ?_
                clear hK hbx
                obtain rfl : b1 = true := hbe.out.2 (tbEq_refl _)
                clear hbe
                (try simp only [Act.put, List.setIfInBounds_toArray, List.set_cons_zero, List.set_cons_succ])
                refine kPure 3 54 (v := ?vz56) rfl rfl (by kernel_rfl) (by kernel_rfl) (by kernel_rfl) (fun _ _ _ h => h) (by kernel_rfl) ?hz56 ?rz56
                case hz56 => (intro w; go_simp <;> with_reducible rfl)
                simp only [List.setIfInBounds_toArray, List.set_cons_zero, List.set_cons_succ]
                refine kPure 4 55 (v := ?vz57) rfl rfl (by kernel_rfl) (by kernel_rfl) (by kernel_rfl) (fun _ _ _ h => h) (by kernel_rfl) ?hz57 ?rz57
                case hz57 => (intro w; go_simp <;> with_reducible rfl)
                simp only [List.setIfInBounds_toArray, List.set_cons_zero, List.set_cons_succ]
                refine kPure 5 56 (v := ?vz58) rfl rfl (by kernel_rfl) (by kernel_rfl) (by kernel_rfl) (fun _ _ _ h => h) (by kernel_rfl) ?hz58 ?rz58
                case hz58 => (intro w; go_simp <;> with_reducible rfl)
                simp only [List.setIfInBounds_toArray, List.set_cons_zero, List.set_cons_succ]
                refine kPure 6 57 (v := ?vz59) rfl rfl (by kernel_rfl) (by kernel_rfl) (by kernel_rfl) (fun _ _ _ h => h) (by kernel_rfl) ?hz59 ?rz59
                case hz59 => (intro w; go_simp <;> with_reducible rfl)
                simp only [List.setIfInBounds_toArray, List.set_cons_zero, List.set_cons_succ]
                refine kSkip 7 58 rfl rfl (by kernel_rfl) (by kernel_rfl) (by kernel_rfl) (fun _ _ _ h => h) (by kernel_rfl) ?_
                simp only [List.setIfInBounds_toArray, List.set_cons_zero, List.set_cons_succ]
                refine kSkip 8 59 rfl rfl (by kernel_rfl) (by kernel_rfl) (by kernel_rfl) (fun _ _ _ h => h) (by kernel_rfl) ?_
                simp only [List.setIfInBounds_toArray, List.set_cons_zero, List.set_cons_succ]
                refine kSkip 9 60 rfl rfl (by kernel_rfl) (by kernel_rfl) (by kernel_rfl) (fun _ _ _ h => h) (by kernel_rfl) ?_
                simp only [List.setIfInBounds_toArray, List.set_cons_zero, List.set_cons_succ]
                refine kSkip 10 61 rfl rfl (by kernel_rfl) (by kernel_rfl) (by kernel_rfl) (fun _ _ _ h => h) (by kernel_rfl) ?_
                simp only [List.setIfInBounds_toArray, List.set_cons_zero, List.set_cons_succ]
                refine kSkip 11 62 rfl rfl (by kernel_rfl) (by kernel_rfl) (by kernel_rfl) (fun _ _ _ h => h) (by kernel_rfl) ?_
                simp only [List.setIfInBounds_toArray, List.set_cons_zero, List.set_cons_succ]
                refine kSkip 12 63 rfl rfl (by kernel_rfl) (by kernel_rfl) (by kernel_rfl) (fun _ _ _ h => h) (by kernel_rfl) ?_
                simp only [List.setIfInBounds_toArray, List.set_cons_zero, List.set_cons_succ]
                refine kSkip 13 64 rfl rfl (by kernel_rfl) (by kernel_rfl) (by kernel_rfl) (fun _ _ _ h => h) (by kernel_rfl) ?_
                simp only [List.setIfInBounds_toArray, List.set_cons_zero, List.set_cons_succ]
                refine kSkip 14 65 rfl rfl (by kernel_rfl) (by kernel_rfl) (by kernel_rfl) (fun _ _ _ h => h) (by kernel_rfl) ?_
                simp only [List.setIfInBounds_toArray, List.set_cons_zero, List.set_cons_succ]
                refine kSkip 15 66 rfl rfl (by kernel_rfl) (by kernel_rfl) (by kernel_rfl) (fun _ _ _ h => h) (by kernel_rfl) ?_
                simp only [List.setIfInBounds_toArray, List.set_cons_zero, List.set_cons_succ]
                refine kSkip 16 67 rfl rfl (by kernel_rfl) (by kernel_rfl) (by kernel_rfl) (fun _ _ _ h => h) (by kernel_rfl) ?_
                simp only [List.setIfInBounds_toArray, List.set_cons_zero, List.set_cons_succ]
                refine kSkip 17 68 rfl rfl (by kernel_rfl) (by kernel_rfl) (by kernel_rfl) (fun _ _ _ h => h) (by kernel_rfl) ?_
                simp only [List.setIfInBounds_toArray, List.set_cons_zero, List.set_cons_succ]
                refine kSkip 18 69 rfl rfl (by kernel_rfl) (by kernel_rfl) (by kernel_rfl) (fun _ _ _ h => h) (by kernel_rfl) ?_
                simp only [List.setIfInBounds_toArray, List.set_cons_zero, List.set_cons_succ]
                refine kSkip 19 70 rfl rfl (by kernel_rfl) (by kernel_rfl) (by kernel_rfl) (fun _ _ _ h => h) (by kernel_rfl) ?_
                simp only [List.setIfInBounds_toArray, List.set_cons_zero, List.set_cons_succ]
                refine kSkip 20 71 rfl rfl (by kernel_rfl) (by kernel_rfl) (by kernel_rfl) (fun _ _ _ h => h) (by kernel_rfl) ?_
                simp only [List.setIfInBounds_toArray, List.set_cons_zero, List.set_cons_succ]
                refine kSkip 21 72 rfl rfl (by kernel_rfl) (by kernel_rfl) (by kernel_rfl) (fun _ _ _ h => h) (by kernel_rfl) ?_
                simp only [List.setIfInBounds_toArray, List.set_cons_zero, List.set_cons_succ]
                refine kSkip 22 73 rfl rfl (by kernel_rfl) (by kernel_rfl) (by kernel_rfl) (fun _ _ _ h => h) (by kernel_rfl) ?_
                simp only [List.setIfInBounds_toArray, List.set_cons_zero, List.set_cons_succ]
                refine kSkip 23 74 rfl rfl (by kernel_rfl) (by kernel_rfl) (by kernel_rfl) (fun _ _ _ h => h) (by kernel_rfl) ?_
                simp only [List.setIfInBounds_toArray, List.set_cons_zero, List.set_cons_succ]
                refine kPure 24 75 (v := ?vz60) rfl rfl (by kernel_rfl) (by kernel_rfl) (by kernel_rfl) (fun _ _ _ h => h) (by kernel_rfl) ?hz60 ?rz60
                case hz60 => (intro w; go_simp <;> with_reducible rfl)
                simp only [List.setIfInBounds_toArray, List.set_cons_zero, List.set_cons_succ]
                refine kPure 25 76 (v := ?vz61) rfl rfl (by kernel_rfl) (by kernel_rfl) (by kernel_rfl) (fun _ _ _ h => h) (by kernel_rfl) ?hz61 ?rz61
                case hz61 => (intro w; go_simp <;> with_reducible rfl)
                simp only [List.setIfInBounds_toArray, List.set_cons_zero, List.set_cons_succ]
                refine kPure 26 4 (v := ?vz62) rfl rfl (by kernel_rfl) (by kernel_rfl) (by kernel_rfl) (fun _ _ _ h => h) (by kernel_rfl) ?hz62 ?rz62
                case hz62 => (intro w; go_simp <;> with_reducible rfl)
                simp only [List.setIfInBounds_toArray, List.set_cons_zero, List.set_cons_succ]
                refine kDone (by kernel_rfl) ?_ _
                have HBl := Lib.hid (H1.out.below HB7.out hg7)
                clear H0 H1
                go_wp2
                go_ret
                exact ⟨rfl, HBl.out⟩
            | true =>
              obtain ⟨hft, hfu, hne⟩ := turned_fair (HU.out rfl).1 HK.out HF.out (by omega) (fun c r h => (HCur.out c r h).2) (fun c r h => (HRow.out c r h).2)
              have FT := Lib.hid hft
              have FU := Lib.hid hfu
              have HN := Lib.hid hne
              have HS7 := Lib.hid (HS7b.out rfl)
              clear hft hfu hne HU HS7b
              have H0 : Hid (SixS W7 w.heap.size g t (.slice a1 t.short.length c1) (.slice a2 t.long.length c2) (.slice a3 t.mshort.length c3) (.slice a4 t.curs.length c4) (.slice a5 t.units.length c5) (.slice a6 t.munit.length c6) u y1 y2 y3 y4 y5 y6 W7.drew) := Lib.hid ⟨(show IsTb W7.drew w.heap.size t.s t.grp (.slice a1 t.short.length c1) (.slice a2 t.long.length c2) (.slice a3 t.mshort.length c3) (.slice a4 t.curs.length c4) (.slice a5 t.units.length c5) (.slice a6 t.munit.length c6) from HT7.out), (show IsTb W7.drew g u.s u.grp y1 y2 y3 y4 y5 y6 from HU7.out), (Below.refl _ _).drew⟩
              refine kBegin (SixS W7 w.heap.size g t (.slice a1 t.short.length c1) (.slice a2 t.long.length c2) (.slice a3 t.mshort.length c3) (.slice a4 t.curs.length c4) (.slice a5 t.units.length c5) (.slice a6 t.munit.length c6) u y1 y2 y3 y4 y5 y6) [] (by kernel_rfl) ?_
              change wpAnyK _ _ _ _ _ _ _ _ _ W7.drew
              refine kLoad 0 51 [] (v := (tbV t.s t.grp (.slice a1 t.short.length c1) (.slice a2 t.long.length c2) (.slice a3 t.mshort.length c3) (.slice a4 t.curs.length c4) (.slice a5 t.units.length c5) (.slice a6 t.munit.length c6))) rfl rfl (by kernel_rfl) (by kernel_rfl) (by kernel_rfl) (by kernel_rfl) (fun _ _ _ h => h) (by kernel_rfl) (fun w hSw => run_load_tb hSw.1 rfl rfl) H0.out ?_
              simp only [List.setIfInBounds_toArray, List.set_cons_zero, List.set_cons_succ]
              refine kLoad 1 52 [] (v := (tbV t.s t.grp (.slice a1 t.short.length c1) (.slice a2 t.long.length c2) (.slice a3 t.mshort.length c3) (.slice a4 t.curs.length c4) (.slice a5 t.units.length c5) (.slice a6 t.munit.length c6))) rfl rfl (by kernel_rfl) (by kernel_rfl) (by kernel_rfl) (by kernel_rfl) (fun _ _ _ h => h) (by kernel_rfl) (fun w hSw => run_load_tb hSw.1 rfl rfl) H0.out ?_
              simp only [List.setIfInBounds_toArray, List.set_cons_zero, List.set_cons_succ]
              refine kAll (rs := [2]) (by kernel_rfl) (by simp) (kCons rfl (by kernel_rfl) (fun K hK => ?s63) kNil)
              case s63 =>
                go_simp
                refine (same_any (fun b => b < w.heap.size) t t (.slice a1 t.short.length c1) (.slice a2 t.long.length c2) (.slice a3 t.mshort.length c3) (.slice a4 t.curs.length c4) (.slice a5 t.units.length c5) (.slice a6 t.munit.length c6) (.slice a1 t.short.length c1) (.slice a2 t.long.length c2) (.slice a3 t.mshort.length c3) (.slice a4 t.curs.length c4) (.slice a5 t.units.length c5) (.slice a6 t.munit.length c6) _ (HI.out.same (Same.below (H0.out.below HB7.out hg7))) (HI.out.same (Same.below (H0.out.below HB7.out hg7))) HF.out HF.out).mono ?_
                rintro e x1 ⟨b1, rfl, hbe, hbx⟩
                have H1 := Lib.hid (H0.out.step hbx)
                refine hK.out _ _ (fun _ _ => H1.out) ?_
                clear hK hbx
                obtain rfl : b1 = true := hbe.out.2 (tbEq_refl _)
                clear hbe
                (try simp only [Act.put, List.setIfInBounds_toArray, List.set_cons_zero, List.set_cons_succ])
                refine kPure 3 54 (v := ?vz64) rfl rfl (by kernel_rfl) (by kernel_rfl) (by kernel_rfl) (fun _ _ _ h => h) (by kernel_rfl) ?hz64 ?rz64
                case hz64 => (intro w; go_simp <;> with_reducible rfl)
                simp only [List.setIfInBounds_toArray, List.set_cons_zero, List.set_cons_succ]
                refine kPure 4 55 (v := ?vz65) rfl rfl (by kernel_rfl) (by kernel_rfl) (by kernel_rfl) (fun _ _ _ h => h) (by kernel_rfl) ?hz65 ?rz65
                case hz65 => (intro w; go_simp <;> with_reducible rfl)
                simp only [List.setIfInBounds_toArray, List.set_cons_zero, List.set_cons_succ]
                refine kPure 5 56 (v := ?vz66) rfl rfl (by kernel_rfl) (by kernel_rfl) (by kernel_rfl) (fun _ _ _ h => h) (by kernel_rfl) ?hz66 ?rz66
                case hz66 => (intro w; go_simp <;> with_reducible rfl)
                simp only [List.setIfInBounds_toArray, List.set_cons_zero, List.set_cons_succ]
                refine kPure 6 57 (v := ?vz67) rfl rfl (by kernel_rfl) (by kernel_rfl) (by kernel_rfl) (fun _ _ _ h => h) (by kernel_rfl) ?hz67 ?rz67
                case hz67 => (intro w; go_simp <;> with_reducible rfl)
                simp only [List.setIfInBounds_toArray, List.set_cons_zero, List.set_cons_succ]
                refine kLoad 7 58 [] (v := (tbV t.s t.grp (.slice a1 t.short.length c1) (.slice a2 t.long.length c2) (.slice a3 t.mshort.length c3) (.slice a4 t.curs.length c4) (.slice a5 t.units.length c5) (.slice a6 t.munit.length c6))) rfl rfl (by kernel_rfl) (by kernel_rfl) (by kernel_rfl) (by kernel_rfl) (fun _ _ _ h => h) (by kernel_rfl) (fun w hSw => run_load_tb hSw.1 rfl rfl) H1.out ?_
                simp only [List.setIfInBounds_toArray, List.set_cons_zero, List.set_cons_succ]
                refine kLoad 8 59 [] (v := (tbV u.s u.grp y1 y2 y3 y4 y5 y6)) rfl rfl (by kernel_rfl) (by kernel_rfl) (by kernel_rfl) (by kernel_rfl) (fun _ _ _ h => h) (by kernel_rfl) (fun w hSw => run_load_tb hSw.2.1 rfl rfl) H1.out ?_
                simp only [List.setIfInBounds_toArray, List.set_cons_zero, List.set_cons_succ]
                refine kAll (rs := [9]) (by kernel_rfl) (by simp) (kCons rfl (by kernel_rfl) (fun K hK => ?s68) kNil)
                case s68 =>
                  go_simp
                  refine (same_any (fun b => b < g) t u (.slice a1 t.short.length c1) (.slice a2 t.long.length c2) (.slice a3 t.mshort.length c3) (.slice a4 t.curs.length c4) (.slice a5 t.units.length c5) (.slice a6 t.munit.length c6) y1 y2 y3 y4 y5 y6 _ ((HI.out.same (Same.below (H1.out.below HB7.out hg7))).mono (fun b _ hb => by omega)) (H1.out.args (w := w) HS7.out (fun b hb => hb)) HF.out FU.out.fit).mono ?_
                  rintro e x2 ⟨b2, rfl, hbe, hbx⟩
                  have H2 := Lib.hid (H1.out.step hbx)
                  refine hK.out _ _ (fun _ _ => H2.out) ?_
                  clear hK hbx
                  obtain rfl : b2 = false := by
                    cases b2 with
                    | false => rfl
                    | true => exact absurd (hbe.out.1 rfl) HN.out
                  clear hbe
                  (try simp only [Act.put, List.setIfInBounds_toArray, List.set_cons_zero, List.set_cons_succ])
                  refine kPure 10 61 (v := ?vz69) rfl rfl (by kernel_rfl) (by kernel_rfl) (by kernel_rfl) (fun _ _ _ h => h) (by kernel_rfl) ?hz69 ?rz69
                  case hz69 => (intro w; go_simp <;> with_reducible rfl)
                  simp only [List.setIfInBounds_toArray, List.set_cons_zero, List.set_cons_succ]
                  refine kPure 11 62 (v := ?vz70) rfl rfl (by kernel_rfl) (by kernel_rfl) (by kernel_rfl) (fun _ _ _ h => h) (by kernel_rfl) ?hz70 ?rz70
                  case hz70 => (intro w; go_simp <;> with_reducible rfl)
                  simp only [List.setIfInBounds_toArray, List.set_cons_zero, List.set_cons_succ]
                  refine kLoad 12 63 [] (v := (tbV u.s u.grp y1 y2 y3 y4 y5 y6)) rfl rfl (by kernel_rfl) (by kernel_rfl) (by kernel_rfl) (by kernel_rfl) (fun _ _ _ h => h) (by kernel_rfl) (fun w hSw => run_load_tb hSw.2.1 rfl rfl) H2.out ?_
                  simp only [List.setIfInBounds_toArray, List.set_cons_zero, List.set_cons_succ]
                  refine kLoad 13 64 [] (v := (tbV t.s t.grp (.slice a1 t.short.length c1) (.slice a2 t.long.length c2) (.slice a3 t.mshort.length c3) (.slice a4 t.curs.length c4) (.slice a5 t.units.length c5) (.slice a6 t.munit.length c6))) rfl rfl (by kernel_rfl) (by kernel_rfl) (by kernel_rfl) (by kernel_rfl) (fun _ _ _ h => h) (by kernel_rfl) (fun w hSw => run_load_tb hSw.1 rfl rfl) H2.out ?_
                  simp only [List.setIfInBounds_toArray, List.set_cons_zero, List.set_cons_succ]
                  refine kAll (rs := [14]) (by kernel_rfl) (by simp) (kCons rfl (by kernel_rfl) (fun K hK => ?s71) kNil)
                  case s71 =>
                    go_simp
                    refine (same_any (fun b => b < g) u t y1 y2 y3 y4 y5 y6 (.slice a1 t.short.length c1) (.slice a2 t.long.length c2) (.slice a3 t.mshort.length c3) (.slice a4 t.curs.length c4) (.slice a5 t.units.length c5) (.slice a6 t.munit.length c6) _ (H2.out.args (w := w) HS7.out (fun b hb => hb)) ((HI.out.same (Same.below (H2.out.below HB7.out hg7))).mono (fun b _ hb => by omega)) FU.out.fit HF.out).mono ?_
                    rintro e x3 ⟨b3, rfl, hbe, hbx⟩
                    have H3 := Lib.hid (H2.out.step hbx)
                    refine hK.out _ _ (fun _ _ => H3.out) ?_
                    clear hK hbx
                    obtain rfl : b3 = false := by
                      cases b3 with
                      | false => rfl
                      | true => exact absurd (tbEq_turn (hbe.out.1 rfl)) HN.out
                    clear hbe
                    (try simp only [Act.put, List.setIfInBounds_toArray, List.set_cons_zero, List.set_cons_succ])
                    refine kPure 15 66 (v := ?vz72) rfl rfl (by kernel_rfl) (by kernel_rfl) (by kernel_rfl) (fun _ _ _ h => h) (by kernel_rfl) ?hz72 ?rz72
                    case hz72 => (intro w; go_simp <;> with_reducible rfl)
                    simp only [List.setIfInBounds_toArray, List.set_cons_zero, List.set_cons_succ]
                    refine kPure 16 67 (v := ?vz73) rfl rfl (by kernel_rfl) (by kernel_rfl) (by kernel_rfl) (fun _ _ _ h => h) (by kernel_rfl) ?hz73 ?rz73
                    case hz73 => (intro w; go_simp <;> with_reducible rfl)
                    simp only [List.setIfInBounds_toArray, List.set_cons_zero, List.set_cons_succ]
                    refine kPure 17 68 (v := ?vz74) rfl rfl (by kernel_rfl) (by kernel_rfl) (by kernel_rfl) (fun _ _ _ h => h) (by kernel_rfl) ?hz74 ?rz74
                    case hz74 => (intro w; go_simp <;> with_reducible rfl)
                    simp only [List.setIfInBounds_toArray, List.set_cons_zero, List.set_cons_succ]
                    refine kLoad 18 69 [] (v := (tbV t.s t.grp (.slice a1 t.short.length c1) (.slice a2 t.long.length c2) (.slice a3 t.mshort.length c3) (.slice a4 t.curs.length c4) (.slice a5 t.units.length c5) (.slice a6 t.munit.length c6))) rfl rfl (by kernel_rfl) (by kernel_rfl) (by kernel_rfl) (by kernel_rfl) (fun _ _ _ h => h) (by kernel_rfl) (fun w hSw => run_load_tb hSw.1 rfl rfl) H3.out ?_
                    simp only [List.setIfInBounds_toArray, List.set_cons_zero, List.set_cons_succ]
                    refine kLoad 20 71 [] (v := (tbV u.s u.grp y1 y2 y3 y4 y5 y6)) rfl rfl (by kernel_rfl) (by kernel_rfl) (by kernel_rfl) (by kernel_rfl) (fun _ _ _ h => h) (by kernel_rfl) (fun w hSw => run_load_tb hSw.2.1 rfl rfl) H3.out ?_
                    simp only [List.setIfInBounds_toArray, List.set_cons_zero, List.set_cons_succ]
                    refine kAll (rs := [19]) (by kernel_rfl) (by simp) (kCons rfl (by kernel_rfl) (fun K hK => ?s75) kNil)
                    case s75 =>
                      go_simp
                      refine (encode_any (fun b => b < w.heap.size) t (.slice a1 t.short.length c1) (.slice a2 t.long.length c2) (.slice a3 t.mshort.length c3) (.slice a4 t.curs.length c4) (.slice a5 t.units.length c5) (.slice a6 t.munit.length c6) _ (HI.out.same (Same.below (H3.out.below HB7.out hg7))) (fun b hb => Nat.lt_of_lt_of_le hb (H3.out.below HB7.out hg7).size) HF.out (by have := FT.out.len; omega)).mono ?_
                      rintro e x4 ⟨S1, rfl, hS1, hz1, hbx⟩
                      have H4 := Lib.hid (H3.out.step hbx)
                      refine hK.out _ _ (fun _ _ => H4.out) ?_
                      clear hK hbx
                      clear hz1
                      (try simp only [Act.put, List.setIfInBounds_toArray, List.set_cons_zero, List.set_cons_succ])
                      refine kAll (rs := [21]) (by kernel_rfl) (by simp) (kCons rfl (by kernel_rfl) (fun K hK => ?s76) kNil)
                      case s76 =>
                        go_simp
                        refine (encode_any (fun b => b < g) u y1 y2 y3 y4 y5 y6 _ (H4.out.args (w := w) HS7.out (fun b hb => hb)) (fun b hb => by have := lt_of_heap H4.out.2.1; omega) FU.out.fit (by have := FU.out.len; omega)).mono ?_
                        rintro e x5 ⟨S2, rfl, hS2, hz2, hbx⟩
                        have H5 := Lib.hid (H4.out.step hbx)
                        refine hK.out _ _ (fun _ _ => H5.out) ?_
                        clear hK hbx
                        have hq : (S1.toList == S2.toList) = false := by
                          rw [Bool.eq_false_iff]
                          intro e
                          rw [beq_iff_eq, Lib.toList_data, Lib.toList_data, hS1.out, hS2.out] at e
                          exact HN.out (inj_tb FT.out.good FU.out.good e)
                        have hq2 : (S1.toList != S2.toList) = true := by rw [bne, hq]; rfl
                        clear hz2 hS1 hS2
                        (try simp only [Act.put, List.setIfInBounds_toArray, List.set_cons_zero, List.set_cons_succ])
                        refine kPure 22 73 (v := ?vz77) rfl rfl (by kernel_rfl) (by kernel_rfl) (by kernel_rfl) (fun _ _ _ h => h) (by kernel_rfl) ?hz77 ?rz77
                        case hz77 => (intro w; go_simp <;> with_reducible rfl)
                        simp only [List.setIfInBounds_toArray, List.set_cons_zero, List.set_cons_succ]
                        refine kPure 23 74 (v := ?vz78) rfl rfl (by kernel_rfl) (by kernel_rfl) (by kernel_rfl) (fun _ _ _ h => h) (by kernel_rfl) ?hz78 ?rz78
                        case hz78 => (intro w; go_simp <;> with_reducible rfl)
                        simp only [List.setIfInBounds_toArray, List.set_cons_zero, List.set_cons_succ]
                        refine kPure 24 75 (v := ?vz79) rfl rfl (by kernel_rfl) (by kernel_rfl) (by kernel_rfl) (fun _ _ _ h => h) (by kernel_rfl) ?hz79 ?rz79
                        case hz79 => (intro w; go_simp <;> with_reducible rfl)
                        simp only [List.setIfInBounds_toArray, List.set_cons_zero, List.set_cons_succ]
                        refine kPure 25 76 (v := ?vz80) rfl rfl (by kernel_rfl) (by kernel_rfl) (by kernel_rfl) (fun _ _ _ h => h) (by kernel_rfl) ?hz80 ?rz80
                        case hz80 => (intro w; go_simp <;> with_reducible rfl)
                        simp only [List.setIfInBounds_toArray, List.set_cons_zero, List.set_cons_succ]
                        refine kPure 26 4 (v := ?vz81) rfl rfl (by kernel_rfl) (by kernel_rfl) (by kernel_rfl) (fun _ _ _ h => h) (by kernel_rfl) ?hz81 ?rz81
                        case hz81 => (intro w; go_simp <;> with_reducible rfl)
                        simp only [List.setIfInBounds_toArray, List.set_cons_zero, List.set_cons_succ]
                        refine kDone (by kernel_rfl) ?_ _
                        have HBl := Lib.hid (H5.out.below HB7.out hg7)
                        clear H0 H1 H2 H3 H4 H5
                        go_wp2
                        go_ret
                        exact ⟨rfl, HBl.out⟩
          | cons x r =>
            have hlr0 : t.short.length = r.length + 1 := by rw [← hlr]; rfl
            obtain ⟨m, hm, hmc⟩ : ∃ m : Int, x.mag = m ∧ ∃ b off, a1 = some ⟨b, off, none⟩ ∧ w2.cell? ⟨b, off, none⟩ = some (.int .i64 x.mag) := by
              have h : Rws (fun b => b < w.heap.size) w2 (.slice a1 t.short.length c1) t.short := HI.out.short.same (Same.below HB2.out)
              rw [← hlr] at h
              obtain ⟨b, off, h1, _, _, h2⟩ := SliceOf.el h 0 (by simp)
              exact ⟨_, rfl, b, off, h1, by have := h2.1; simpa using this⟩
            obtain ⟨bs, os, ha1, hms⟩ := hmc
            rw [hm] at hms
            rw [hlr0, ha1] at hs1
            clear ha1 hlr0
            by_cases hmx : 1000 < m
            · clear hlr hm
              go_wp2
              go_ret
              exact ⟨rfl, HB2.out⟩
            · have HRow : Hid (∀ x r, t.short = x :: r → 0 ≤ x.mag ∧ x.mag ≤ 1000) := Lib.hid (fun y q h => by
                have h3 := (HK.out.short.2 y (by rw [h]; simp)).1
                rw [← hlr] at h
                injection h with h1 h2
                subst h1
                omega)
              clear hlr hm
              go_upto_region 5 with fail
              clear hg1 hg2 hs1 hs2 hu1 hu2 hms hmx hmc4 hm4x
              go_wp2_with ((with_reducible show wpList _ _ _ (Oper.mk (some _) (Op.load 55 _) _ _ _ _ :: _) _ _); refine wpList_load_mid rfl 55 _ rfl w.heap.size 0 rfl (tbC t.s t.grp (.slice a1 t.short.length c1) (.slice a2 t.long.length c2) (.slice a3 t.mshort.length c3) (.slice a4 t.curs.length c4) (.slice a5 t.units.length c5) (.slice a6 t.munit.length c6)).toList _ HT2.out.range Try.underlying55 rfl size55 ?_)
              refine (turn_any t (.slice a1 t.short.length c1) (.slice a2 t.long.length c2) (.slice a3 t.mshort.length c3) (.slice a4 t.curs.length c4) (.slice a5 t.units.length c5) (.slice a6 t.munit.length c6) which _ ((HI.out.same (Same.below HB2.out)).mono (fun b hb _ => hb)) HK.out (by omega) HCur.out HRow.out).mono ?_
              rintro e w3 ⟨u, y1, y2, y3, y4, y5, y6, b, rfl, hb3, hone, hu⟩
              have HT3 : Hid (IsTb w3 w.heap.size t.s t.grp (.slice a1 t.short.length c1) (.slice a2 t.long.length c2) (.slice a3 t.mshort.length c3) (.slice a4 t.curs.length c4) (.slice a5 t.units.length c5) (.slice a6 t.munit.length c6)) := Lib.hid (heapC hb3 HT2.out)
              have HB3 := Lib.hid (HB2.out.trans (hb3.mono HB2.out.size))
              have HZ : Hid (IsTb (w3.alloc (.cells zTb 55)) w3.heap.size (fun _ => noB) 0 nilV nilV nilV nilV nilV nilV) := Lib.hid (heap_alloc_new w3 _)
              have HU := Lib.hid hu
              have HOne := Lib.hid hone
              clear hb3 hu hone HT2 HB2
              unfold tbV
              go_upto_region 6 with ((with_reducible show wpList _ _ _ (Oper.mk none (Op.store 55 _ _) _ _ _ _ :: _) _ _); refine wpList_store_mid rfl 55 _ _ rfl w3.heap.size 0 (tbC u.s u.grp y1 y2 y3 y4 y5 y6) rfl rfl HZ.out.there size55 HOne.out ?_)
              have HKS := Lib.hid (put_kept w3 (tbC u.s u.grp y1 y2 y3 y4 y5 y6))
              have HP := Lib.hid (HZ.out.put (tbC u.s u.grp y1 y2 y3 y4 y5 y6) rfl)
              obtain ⟨g, hg⟩ : ∃ g, w3.heap.size = g := ⟨_, rfl⟩
              have hg7 : w.heap.size ≤ g := by have := HB3.out.size; omega
              have HTS := Lib.hid (fun (hb : b = true) => ((HU.out hb).2.mono (P' := fun b => b < w3.heap.size) (fun b hb _ => hb)).same (Same.of_kept HKS.out (fun b hb e => by omega)))
              refine wp_name (fun W => IsTb W w.heap.size t.s t.grp (.slice a1 t.short.length c1) (.slice a2 t.long.length c2) (.slice a3 t.mshort.length c3) (.slice a4 t.curs.length c4) (.slice a5 t.units.length c5) (.slice a6 t.munit.length c6) ∧ IsTb W w3.heap.size u.s u.grp y1 y2 y3 y4 y5 y6 ∧ (b = true → TbS (fun b => b < w3.heap.size) W u y1 y2 y3 y4 y5 y6) ∧ Below w.heap.size w W) ⟨HKS.out.heap HT3.out (fun e => by have := lt_of_heap HT3.out; omega), HP.out, HTS.out, HB3.out.trans (HKS.out.below HB3.out.size (fun k hk e => by omega))⟩ (fun W7 hW => ?_)
              rw [hg] at hW ⊢
              obtain ⟨q0, qu, qs, qb⟩ := hW
              have HT7 := Lib.hid q0
              have HU7 := Lib.hid qu
              have HS7b := Lib.hid qs
              have HB7 := Lib.hid qb
              clear q0 qu qs qb HKS HP HZ HTS HB3 HT3 hg
              cases b with
              | false =>
                clear HU HS7b
                have H0 : Hid (SixS W7 w.heap.size g t (.slice a1 t.short.length c1) (.slice a2 t.long.length c2) (.slice a3 t.mshort.length c3) (.slice a4 t.curs.length c4) (.slice a5 t.units.length c5) (.slice a6 t.munit.length c6) u y1 y2 y3 y4 y5 y6 W7.drew) := Lib.hid ⟨(show IsTb W7.drew w.heap.size t.s t.grp (.slice a1 t.short.length c1) (.slice a2 t.long.length c2) (.slice a3 t.mshort.length c3) (.slice a4 t.curs.length c4) (.slice a5 t.units.length c5) (.slice a6 t.munit.length c6) from HT7.out), (show IsTb W7.drew g u.s u.grp y1 y2 y3 y4 y5 y6 from HU7.out), (Below.refl _ _).drew⟩
                refine kBegin (SixS W7 w.heap.size g t (.slice a1 t.short.length c1) (.slice a2 t.long.length c2) (.slice a3 t.mshort.length c3) (.slice a4 t.curs.length c4) (.slice a5 t.units.length c5) (.slice a6 t.munit.length c6) u y1 y2 y3 y4 y5 y6) [] (by kernel_rfl) ?_
                change wpAnyK _ _ _ _ _ _ _ _ _ W7.drew
                refine kLoad 0 51 [] (v := (tbV t.s t.grp (.slice a1 t.short.length c1) (.slice a2 t.long.length c2) (.slice a3 t.mshort.length c3) (.slice a4 t.curs.length c4) (.slice a5 t.units.length c5) (.slice a6 t.munit.length c6))) rfl rfl (by kernel_rfl) (by kernel_rfl) (by kernel_rfl) (by kernel_rfl) (fun _ _ _ h => h) (by kernel_rfl) (fun w hSw => run_load_tb hSw.1 rfl rfl) H0.out ?_
                simp only [List.setIfInBounds_toArray, List.set_cons_zero, List.set_cons_succ]
                refine kLoad 1 52 [] (v := (tbV t.s t.grp (.slice a1 t.short.length c1) (.slice a2 t.long.length c2) (.slice a3 t.mshort.length c3) (.slice a4 t.curs.length c4) (.slice a5 t.units.length c5) (.slice a6 t.munit.length c6))) rfl rfl (by kernel_rfl) (by kernel_rfl) (by kernel_rfl) (by kernel_rfl) (fun _ _ _ h => h) (by kernel_rfl) (fun w hSw => run_load_tb hSw.1 rfl rfl) H0.out ?_
                simp only [List.setIfInBounds_toArray, List.set_cons_zero, List.set_cons_succ]
                refine kAll (rs := [2]) (by kernel_rfl) (by simp) (kCons rfl (by kernel_rfl) (fun K hK => ?s82) kNil)
                case s82 =>
                  go_simp
                  refine (same_any (fun b => b < w.heap.size) t t (.slice a1 t.short.length c1) (.slice a2 t.long.length c2) (.slice a3 t.mshort.length c3) (.slice a4 t.curs.length c4) (.slice a5 t.units.length c5) (.slice a6 t.munit.length c6) (.slice a1 t.short.length c1) (.slice a2 t.long.length c2) (.slice a3 t.mshort.length c3) (.slice a4 t.curs.length c4) (.slice a5 t.units.length c5) (.slice a6 t.munit.length c6) _ (HI.out.same (Same.below (H0.out.below HB7.out hg7))) (HI.out.same (Same.below (H0.out.below HB7.out hg7))) HF.out HF.out).mono ?_
                  rintro e x1 ⟨b1, rfl, hbe, hbx⟩
                  have H1 := Lib.hid (H0.out.step hbx)
                  refine hK.out _ _ (fun _ _ => H1.out) ?_
                  clear hK hbx
                  obtain rfl : b1 = true := hbe.out.2 (tbEq_refl _)
                  clear hbe
                  (try simp only [Act.put, List.setIfInBounds_toArray, List.set_cons_zero, List.set_cons_succ])
                  refine kPure 3 54 (v := ?vz83) rfl rfl (by kernel_rfl) (by kernel_rfl) (by kernel_rfl) (fun _ _ _ h => h) (by kernel_rfl) ?hz83 ?rz83
                  case hz83 => (intro w; go_simp <;> with_reducible rfl)
                  simp only [List.setIfInBounds_toArray, List.set_cons_zero, List.set_cons_succ]
                  refine kPure 4 55 (v := ?vz84) rfl rfl (by kernel_rfl) (by kernel_rfl) (by kernel_rfl) (fun _ _ _ h => h) (by kernel_rfl) ?hz84 ?rz84
                  case hz84 => (intro w; go_simp <;> with_reducible rfl)
                  simp only [List.setIfInBounds_toArray, List.set_cons_zero, List.set_cons_succ]
                  refine kPure 5 56 (v := ?vz85) rfl rfl (by kernel_rfl) (by kernel_rfl) (by kernel_rfl) (fun _ _ _ h => h) (by kernel_rfl) ?hz85 ?rz85
                  case hz85 => (intro w; go_simp <;> with_reducible rfl)
                  simp only [List.setIfInBounds_toArray, List.set_cons_zero, List.set_cons_succ]
                  refine kPure 6 57 (v := ?vz86) rfl rfl (by kernel_rfl) (by kernel_rfl) (by kernel_rfl) (fun _ _ _ h => h) (by kernel_rfl) ?hz86 ?rz86
                  case hz86 => (intro w; go_simp <;> with_reducible rfl)
                  simp only [List.setIfInBounds_toArray, List.set_cons_zero, List.set_cons_succ]
                  refine kSkip 7 58 rfl rfl (by kernel_rfl) (by kernel_rfl) (by kernel_rfl) (fun _ _ _ h => h) (by kernel_rfl) ?_
                  simp only [List.setIfInBounds_toArray, List.set_cons_zero, List.set_cons_succ]
                  refine kSkip 8 59 rfl rfl (by kernel_rfl) (by kernel_rfl) (by kernel_rfl) (fun _ _ _ h => h) (by kernel_rfl) ?_
                  simp only [List.setIfInBounds_toArray, List.set_cons_zero, List.set_cons_succ]
                  refine kSkip 9 60 rfl rfl (by kernel_rfl) (by kernel_rfl) (by kernel_rfl) (fun _ _ _ h => h) (by kernel_rfl) ?_
                  simp only [List.setIfInBounds_toArray, List.set_cons_zero, List.set_cons_succ]
                  refine kSkip 10 61 rfl rfl (by kernel_rfl) (by kernel_rfl) (by kernel_rfl) (fun _ _ _ h => h) (by kernel_rfl) ?_
                  simp only [List.setIfInBounds_toArray, List.set_cons_zero, List.set_cons_succ]
                  refine kSkip 11 62 rfl rfl (by kernel_rfl) (by kernel_rfl) (by kernel_rfl) (fun _ _ _ h => h) (by kernel_rfl) ?_
                  simp only [List.setIfInBounds_toArray, List.set_cons_zero, List.set_cons_succ]
                  refine kSkip 12 63 rfl rfl (by kernel_rfl) (by kernel_rfl) (by kernel_rfl) (fun _ _ _ h => h) (by kernel_rfl) ?_
                  simp only [List.setIfInBounds_toArray, List.set_cons_zero, List.set_cons_succ]
                  refine kSkip 13 64 rfl rfl (by kernel_rfl) (by kernel_rfl) (by kernel_rfl) (fun _ _ _ h => h) (by kernel_rfl) ?_
                  simp only [List.setIfInBounds_toArray, List.set_cons_zero, List.set_cons_succ]
                  refine kSkip 14 65 rfl rfl (by kernel_rfl) (by kernel_rfl) (by kernel_rfl) (fun _ _ _ h => h) (by kernel_rfl) ?_
                  simp only [List.setIfInBounds_toArray, List.set_cons_zero, List.set_cons_succ]
                  refine kSkip 15 66 rfl rfl (by kernel_rfl) (by kernel_rfl) (by kernel_rfl) (fun _ _ _ h => h) (by kernel_rfl) ?_
                  simp only [List.setIfInBounds_toArray, List.set_cons_zero, List.set_cons_succ]
                  refine kSkip 16 67 rfl rfl (by kernel_rfl) (by kernel_rfl) (by kernel_rfl) (fun _ _ _ h => h) (by kernel_rfl) ?_
                  simp only [List.setIfInBounds_toArray, List.set_cons_zero, List.set_cons_succ]
                  refine kSkip 17 68 rfl rfl (by kernel_rfl) (by kernel_rfl) (by kernel_rfl) (fun _ _ _ h => h) (by kernel_rfl) ?_
                  simp only [List.setIfInBounds_toArray, List.set_cons_zero, List.set_cons_succ]
                  refine kSkip 18 69 rfl rfl (by kernel_rfl) (by kernel_rfl) (by kernel_rfl) (fun _ _ _ h => h) (by kernel_rfl) ?_
                  simp only [List.setIfInBounds_toArray, List.set_cons_zero, List.set_cons_succ]
                  refine kSkip 19 70 rfl rfl (by kernel_rfl) (by kernel_rfl) (by kernel_rfl) (fun _ _ _ h => h) (by kernel_rfl) ?_
                  simp only [List.setIfInBounds_toArray, List.set_cons_zero, List.set_cons_succ]
                  refine kSkip 20 71 rfl rfl (by kernel_rfl) (by kernel_rfl) (by kernel_rfl) (fun _ _ _ h => h) (by kernel_rfl) ?_
                  simp only [List.setIfInBounds_toArray, List.set_cons_zero, List.set_cons_succ]
                  refine kSkip 21 72 rfl rfl (by kernel_rfl) (by kernel_rfl) (by kernel_rfl) (fun _ _ _ h => h) (by kernel_rfl) ?_
                  simp only [List.setIfInBounds_toArray, List.set_cons_zero, List.set_cons_succ]
                  refine kSkip 22 73 rfl rfl (by kernel_rfl) (by kernel_rfl) (by kernel_rfl) (fun _ _ _ h => h) (by kernel_rfl) ?_
                  simp only [List.setIfInBounds_toArray, List.set_cons_zero, List.set_cons_succ]
                  refine kSkip 23 74 rfl rfl (by kernel_rfl) (by kernel_rfl) (by kernel_rfl) (fun _ _ _ h => h) (by kernel_rfl) ?_
                  simp only [List.setIfInBounds_toArray, List.set_cons_zero, List.set_cons_succ]
                  refine kPure 24 75 (v := ?vz87) rfl rfl (by kernel_rfl) (by kernel_rfl) (by kernel_rfl) (fun _ _ _ h => h) (by kernel_rfl) ?hz87 ?rz87
                  case hz87 => (intro w; go_simp <;> with_reducible rfl)
                  simp only [List.setIfInBounds_toArray, List.set_cons_zero, List.set_cons_succ]
                  refine kPure 25 76 (v := ?vz88) rfl rfl (by kernel_rfl) (by kernel_rfl) (by kernel_rfl) (fun _ _ _ h => h) (by kernel_rfl) ?hz88 ?rz88
                  case hz88 => (intro w; go_simp <;> with_reducible rfl)
                  simp only [List.setIfInBounds_toArray, List.set_cons_zero, List.set_cons_succ]
                  refine kPure 26 4 (v := ?vz89) rfl rfl (by kernel_rfl) (by kernel_rfl) (by kernel_rfl) (fun _ _ _ h => h) (by kernel_rfl) ?hz89 ?rz89
                  case hz89 => (intro w; go_simp <;> with_reducible rfl)
                  simp only [List.setIfInBounds_toArray, List.set_cons_zero, List.set_cons_succ]
                  refine kDone (by kernel_rfl) ?_ _
                  have HBl := Lib.hid (H1.out.below HB7.out hg7)
                  clear H0 H1
                  go_wp2
                  go_ret
                  exact ⟨rfl, HBl.out⟩
              | true =>
                obtain ⟨hft, hfu, hne⟩ := turned_fair (HU.out rfl).1 HK.out HF.out (by omega) (fun c r h => (HCur.out c r h).2) (fun c r h => (HRow.out c r h).2)
                have FT := Lib.hid hft
                have FU := Lib.hid hfu
                have HN := Lib.hid hne
                have HS7 := Lib.hid (HS7b.out rfl)
                clear hft hfu hne HU HS7b
                have H0 : Hid (SixS W7 w.heap.size g t (.slice a1 t.short.length c1) (.slice a2 t.long.length c2) (.slice a3 t.mshort.length c3) (.slice a4 t.curs.length c4) (.slice a5 t.units.length c5) (.slice a6 t.munit.length c6) u y1 y2 y3 y4 y5 y6 W7.drew) := Lib.hid ⟨(show IsTb W7.drew w.heap.size t.s t.grp (.slice a1 t.short.length c1) (.slice a2 t.long.length c2) (.slice a3 t.mshort.length c3) (.slice a4 t.curs.length c4) (.slice a5 t.units.length c5) (.slice a6 t.munit.length c6) from HT7.out), (show IsTb W7.drew g u.s u.grp y1 y2 y3 y4 y5 y6 from HU7.out), (Below.refl _ _).drew⟩
                refine kBegin (SixS W7 w.heap.size g t (.slice a1 t.short.length c1) (.slice a2 t.long.length c2) (.slice a3 t.mshort.length c3) (.slice a4 t.curs.length c4) (.slice a5 t.units.length c5) (.slice a6 t.munit.length c6) u y1 y2 y3 y4 y5 y6) [] (by kernel_rfl) ?_
                change wpAnyK _ _ _ _ _ _ _ _ _ W7.drew
                refine kLoad 0 51 [] (v := (tbV t.s t.grp (.slice a1 t.short.length c1) (.slice a2 t.long.length c2) (.slice a3 t.mshort.length c3) (.slice a4 t.curs.length c4) (.slice a5 t.units.length c5) (.slice a6 t.munit.length c6))) rfl rfl (by kernel_rfl) (by kernel_rfl) (by kernel_rfl) (by kernel_rfl) (fun _ _ _ h => h) (by kernel_rfl) (fun w hSw => run_load_tb hSw.1 rfl rfl) H0.out ?_
                simp only [List.setIfInBounds_toArray, List.set_cons_zero, List.set_cons_succ]
                refine kLoad 1 52 [] (v := (tbV t.s t.grp (.slice a1 t.short.length c1) (.slice a2 t.long.length c2) (.slice a3 t.mshort.length c3) (.slice a4 t.curs.length c4) (.slice a5 t.units.length c5) (.slice a6 t.munit.length c6))) rfl rfl (by kernel_rfl) (by kernel_rfl) (by kernel_rfl) (by kernel_rfl) (fun _ _ _ h => h) (by kernel_rfl) (fun w hSw => run_load_tb hSw.1 rfl rfl) H0.out ?_
                simp only [List.setIfInBounds_toArray, List.set_cons_zero, List.set_cons_succ]
                refine kAll (rs := [2]) (by kernel_rfl) (by simp) (kCons rfl (by kernel_rfl) (fun K hK => ?s90) kNil)
                case s90 =>
                  go_simp
                  refine (same_any (fun b => b < w.heap.size) t t (.slice a1 t.short.length c1) (.slice a2 t.long.length c2) (.slice a3 t.mshort.length c3) (.slice a4 t.curs.length c4) (.slice a5 t.units.length c5) (.slice a6 t.munit.length c6) (.slice a1 t.short.length c1) (.slice a2 t.long.length c2) (.slice a3 t.mshort.length c3) (.slice a4 t.curs.length c4) (.slice a5 t.units.length c5) (.slice a6 t.munit.length c6) _ (HI.out.same (Same.below (H0.out.below HB7.out hg7))) (HI.out.same (Same.below (H0.out.below HB7.out hg7))) HF.out HF.out).mono ?_
                  rintro e x1 ⟨b1, rfl, hbe, hbx⟩
                  have H1 := Lib.hid (H0.out.step hbx)
                  refine hK.out _ _ (fun _ _ => H1.out) ?_
                  clear hK hbx
                  obtain rfl : b1 = true := hbe.out.2 (tbEq_refl _)
                  clear hbe
                  (try simp only [Act.put, List.setIfInBounds_toArray, List.set_cons_zero, List.set_cons_succ])
                  refine kPure 3 54 (v := ?vz91) rfl rfl (by kernel_rfl) (by kernel_rfl) (by kernel_rfl) (fun _ _ _ h => h) (by kernel_rfl) ?hz91 ?rz91
                  case hz91 => (intro w; go_simp <;> with_reducible rfl)
                  simp only [List.setIfInBounds_toArray, List.set_cons_zero, List.set_cons_succ]
                  refine kPure 4 55 (v := ?vz92) rfl rfl (by kernel_rfl) (by kernel_rfl) (by kernel_rfl) (fun _ _ _ h => h) (by kernel_rfl) ?hz92 ?rz92
                  case hz92 => (intro w; go_simp <;> with_reducible rfl)
                  simp only [List.setIfInBounds_toArray, List.set_cons_zero, List.set_cons_succ]
                  refine kPure 5 56 (v := ?vz93) rfl rfl (by kernel_rfl) (by kernel_rfl) (by kernel_rfl) (fun _ _ _ h => h) (by kernel_rfl) ?hz93 ?rz93
                  case hz93 => (intro w; go_simp <;> with_reducible rfl)
                  simp only [List.setIfInBounds_toArray, List.set_cons_zero, List.set_cons_succ]
                  refine kPure 6 57 (v := ?vz94) rfl rfl (by kernel_rfl) (by kernel_rfl) (by kernel_rfl) (fun _ _ _ h => h) (by kernel_rfl) ?hz94 ?rz94
                  case hz94 => (intro w; go_simp <;> with_reducible rfl)
                  simp only [List.setIfInBounds_toArray, List.set_cons_zero, List.set_cons_succ]
                  refine kLoad 7 58 [] (v := (tbV t.s t.grp (.slice a1 t.short.length c1) (.slice a2 t.long.length c2) (.slice a3 t.mshort.length c3) (.slice a4 t.curs.length c4) (.slice a5 t.units.length c5) (.slice a6 t.munit.length c6))) rfl rfl (by kernel_rfl) (by kernel_rfl) (by kernel_rfl) (by kernel_rfl) (fun _ _ _ h => h) (by kernel_rfl) (fun w hSw => run_load_tb hSw.1 rfl rfl) H1.out ?_
                  simp only [List.setIfInBounds_toArray, List.set_cons_zero, List.set_cons_succ]
                  refine kLoad 8 59 [] (v := (tbV u.s u.grp y1 y2 y3 y4 y5 y6)) rfl rfl (by kernel_rfl) (by kernel_rfl) (by kernel_rfl) (by kernel_rfl) (fun _ _ _ h => h) (by kernel_rfl) (fun w hSw => run_load_tb hSw.2.1 rfl rfl) H1.out ?_
                  simp only [List.setIfInBounds_toArray, List.set_cons_zero, List.set_cons_succ]
                  refine kAll (rs := [9]) (by kernel_rfl) (by simp) (kCons rfl (by kernel_rfl) (fun K hK => ?s95) kNil)
                  case s95 =>
                    go_simp
                    refine (same_any (fun b => b < g) t u (.slice a1 t.short.length c1) (.slice a2 t.long.length c2) (.slice a3 t.mshort.length c3) (.slice a4 t.curs.length c4) (.slice a5 t.units.length c5) (.slice a6 t.munit.length c6) y1 y2 y3 y4 y5 y6 _ ((HI.out.same (Same.below (H1.out.below HB7.out hg7))).mono (fun b _ hb => by omega)) (H1.out.args (w := w) HS7.out (fun b hb => hb)) HF.out FU.out.fit).mono ?_
                    rintro e x2 ⟨b2, rfl, hbe, hbx⟩
                    have H2 := Lib.hid (H1.out.step hbx)
                    refine hK.out _ _ (fun _ _ => H2.out) ?_
                    clear hK hbx
                    obtain rfl : b2 = false := by
                      cases b2 with
                      | false => rfl
                      | true => exact absurd (hbe.out.1 rfl) HN.out
                    clear hbe
                    (try simp only [Act.put, List.setIfInBounds_toArray, List.set_cons_zero, List.set_cons_succ])
                    refine kPure 10 61 (v := ?vz96) rfl rfl (by kernel_rfl) (by kernel_rfl) (by kernel_rfl) (fun _ _ _ h => h) (by kernel_rfl) ?hz96 ?rz96
                    case hz96 => (intro w; go_simp <;> with_reducible rfl)
                    simp only [List.setIfInBounds_toArray, List.set_cons_zero, List.set_cons_succ]
                    refine kPure 11 62 (v := ?vz97) rfl rfl (by kernel_rfl) (by kernel_rfl) (by kernel_rfl) (fun _ _ _ h => h) (by kernel_rfl) ?hz97 ?rz97
                    case hz97 => (intro w; go_simp <;> with_reducible rfl)
                    simp only [List.setIfInBounds_toArray, List.set_cons_zero, List.set_cons_succ]
                    refine kLoad 12 63 [] (v := (tbV u.s u.grp y1 y2 y3 y4 y5 y6)) rfl rfl (by kernel_rfl) (by kernel_rfl) (by kernel_rfl) (by kernel_rfl) (fun _ _ _ h => h) (by kernel_rfl) (fun w hSw => run_load_tb hSw.2.1 rfl rfl) H2.out ?_
                    simp only [List.setIfInBounds_toArray, List.set_cons_zero, List.set_cons_succ]
                    refine kLoad 13 64 [] (v := (tbV t.s t.grp (.slice a1 t.short.length c1) (.slice a2 t.long.length c2) (.slice a3 t.mshort.length c3) (.slice a4 t.curs.length c4) (.slice a5 t.units.length c5) (.slice a6 t.munit.length c6))) rfl rfl (by kernel_rfl) (by kernel_rfl) (by kernel_rfl) (by kernel_rfl) (fun _ _ _ h => h) (by kernel_rfl) (fun w hSw => run_load_tb hSw.1 rfl rfl) H2.out ?_
                    simp only [List.setIfInBounds_toArray, List.set_cons_zero, List.set_cons_succ]
                    refine kAll (rs := [14]) (by kernel_rfl) (by simp) (kCons rfl (by kernel_rfl) (fun K hK => ?s98) kNil)
                    case s98 =>
                      go_simp
                      refine (same_any (fun b => b < g) u t y1 y2 y3 y4 y5 y6 (.slice a1 t.short.length c1) (.slice a2 t.long.length c2) (.slice a3 t.mshort.length c3) (.slice a4 t.curs.length c4) (.slice a5 t.units.length c5) (.slice a6 t.munit.length c6) _ (H2.out.args (w := w) HS7.out (fun b hb => hb)) ((HI.out.same (Same.below (H2.out.below HB7.out hg7))).mono (fun b _ hb => by omega)) FU.out.fit HF.out).mono ?_
                      rintro e x3 ⟨b3, rfl, hbe, hbx⟩
                      have H3 := Lib.hid (H2.out.step hbx)
                      refine hK.out _ _ (fun _ _ => H3.out) ?_
                      clear hK hbx
                      obtain rfl : b3 = false := by
                        cases b3 with
                        | false => rfl
                        | true => exact absurd (tbEq_turn (hbe.out.1 rfl)) HN.out
                      clear hbe
                      (try simp only [Act.put, List.setIfInBounds_toArray, List.set_cons_zero, List.set_cons_succ])
                      refine kPure 15 66 (v := ?vz99) rfl rfl (by kernel_rfl) (by kernel_rfl) (by kernel_rfl) (fun _ _ _ h => h) (by kernel_rfl) ?hz99 ?rz99
                      case hz99 => (intro w; go_simp <;> with_reducible rfl)
                      simp only [List.setIfInBounds_toArray, List.set_cons_zero, List.set_cons_succ]
                      refine kPure 16 67 (v := ?vz100) rfl rfl (by kernel_rfl) (by kernel_rfl) (by kernel_rfl) (fun _ _ _ h => h) (by kernel_rfl) ?hz100 ?rz100
                      case hz100 => (intro w; go_simp <;> with_reducible rfl)
                      simp only [List.setIfInBounds_toArray, List.set_cons_zero, List.set_cons_succ]
                      refine kPure 17 68 (v := ?vz101) rfl rfl (by kernel_rfl) (by kernel_rfl) (by kernel_rfl) (fun _ _ _ h => h) (by kernel_rfl) ?hz101 ?rz101
                      case hz101 => (intro w; go_simp <;> with_reducible rfl)
                      simp only [List.setIfInBounds_toArray, List.set_cons_zero, List.set_cons_succ]
                      refine kLoad 18 69 [] (v := (tbV t.s t.grp (.slice a1 t.short.length c1) (.slice a2 t.long.length c2) (.slice a3 t.mshort.length c3) (.slice a4 t.curs.length c4) (.slice a5 t.units.length c5) (.slice a6 t.munit.length c6))) rfl rfl (by kernel_rfl) (by kernel_rfl) (by kernel_rfl) (by kernel_rfl) (fun _ _ _ h => h) (by kernel_rfl) (fun w hSw => run_load_tb hSw.1 rfl rfl) H3.out ?_
                      simp only [List.setIfInBounds_toArray, List.set_cons_zero, List.set_cons_succ]
                      refine kLoad 20 71 [] (v := (tbV u.s u.grp y1 y2 y3 y4 y5 y6)) rfl rfl (by kernel_rfl) (by kernel_rfl) (by kernel_rfl) (by kernel_rfl) (fun _ _ _ h => h) (by kernel_rfl) (fun w hSw => run_load_tb hSw.2.1 rfl rfl) H3.out ?_
                      simp only [List.setIfInBounds_toArray, List.set_cons_zero, List.set_cons_succ]
                      refine kAll (rs := [19]) (by kernel_rfl) (by simp) (kCons rfl (by kernel_rfl) (fun K hK => ?s102) kNil)
                      case s102 =>
                        go_simp
                        refine (encode_any (fun b => b < w.heap.size) t (.slice a1 t.short.length c1) (.slice a2 t.long.length c2) (.slice a3 t.mshort.length c3) (.slice a4 t.curs.length c4) (.slice a5 t.units.length c5) (.slice a6 t.munit.length c6) _ (HI.out.same (Same.below (H3.out.below HB7.out hg7))) (fun b hb => Nat.lt_of_lt_of_le hb (H3.out.below HB7.out hg7).size) HF.out (by have := FT.out.len; omega)).mono ?_
                        rintro e x4 ⟨S1, rfl, hS1, hz1, hbx⟩
                        have H4 := Lib.hid (H3.out.step hbx)
                        refine hK.out _ _ (fun _ _ => H4.out) ?_
                        clear hK hbx
                        clear hz1
                        (try simp only [Act.put, List.setIfInBounds_toArray, List.set_cons_zero, List.set_cons_succ])
                        refine kAll (rs := [21]) (by kernel_rfl) (by simp) (kCons rfl (by kernel_rfl) (fun K hK => ?s103) kNil)
                        case s103 =>
                          go_simp
                          refine (encode_any (fun b => b < g) u y1 y2 y3 y4 y5 y6 _ (H4.out.args (w := w) HS7.out (fun b hb => hb)) (fun b hb => by have := lt_of_heap H4.out.2.1; omega) FU.out.fit (by have := FU.out.len; omega)).mono ?_
                          rintro e x5 ⟨S2, rfl, hS2, hz2, hbx⟩
                          have H5 := Lib.hid (H4.out.step hbx)
                          refine hK.out _ _ (fun _ _ => H5.out) ?_
                          clear hK hbx
                          have hq : (S1.toList == S2.toList) = false := by
                            rw [Bool.eq_false_iff]
                            intro e
                            rw [beq_iff_eq, Lib.toList_data, Lib.toList_data, hS1.out, hS2.out] at e
                            exact HN.out (inj_tb FT.out.good FU.out.good e)
                          have hq2 : (S1.toList != S2.toList) = true := by rw [bne, hq]; rfl
                          clear hz2 hS1 hS2
                          (try simp only [Act.put, List.setIfInBounds_toArray, List.set_cons_zero, List.set_cons_succ])
                          refine kPure 22 73 (v := ?vz104) rfl rfl (by kernel_rfl) (by kernel_rfl) (by kernel_rfl) (fun _ _ _ h => h) (by kernel_rfl) ?hz104 ?rz104
                          case hz104 => (intro w; go_simp <;> with_reducible rfl)
                          simp only [List.setIfInBounds_toArray, List.set_cons_zero, List.set_cons_succ]
                          refine kPure 23 74 (v := ?vz105) rfl rfl (by kernel_rfl) (by kernel_rfl) (by kernel_rfl) (fun _ _ _ h => h) (by kernel_rfl) ?hz105 ?rz105
                          case hz105 => (intro w; go_simp <;> with_reducible rfl)
                          simp only [List.setIfInBounds_toArray, List.set_cons_zero, List.set_cons_succ]
                          refine kPure 24 75 (v := ?vz106) rfl rfl (by kernel_rfl) (by kernel_rfl) (by kernel_rfl) (fun _ _ _ h => h) (by kernel_rfl) ?hz106 ?rz106
                          case hz106 => (intro w; go_simp <;> with_reducible rfl)
                          simp only [List.setIfInBounds_toArray, List.set_cons_zero, List.set_cons_succ]
                          refine kPure 25 76 (v := ?vz107) rfl rfl (by kernel_rfl) (by kernel_rfl) (by kernel_rfl) (fun _ _ _ h => h) (by kernel_rfl) ?hz107 ?rz107
                          case hz107 => (intro w; go_simp <;> with_reducible rfl)
                          simp only [List.setIfInBounds_toArray, List.set_cons_zero, List.set_cons_succ]
                          refine kPure 26 4 (v := ?vz108) rfl rfl (by kernel_rfl) (by kernel_rfl) (by kernel_rfl) (fun _ _ _ h => h) (by kernel_rfl) ?hz108 ?rz108
                          case hz108 => (intro w; go_simp <;> with_reducible rfl)
                          simp only [List.setIfInBounds_toArray, List.set_cons_zero, List.set_cons_succ]
                          refine kDone (by kernel_rfl) ?_ _
                          have HBl := Lib.hid (H5.out.below HB7.out hg7)
                          clear H0 H1 H2 H3 H4 H5
                          go_wp2
                          go_ret
                          exact ⟨rfl, HBl.out⟩
end Go.Proofs.Ytikkakbemphdhaa
