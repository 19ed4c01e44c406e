/- The walks of the comparison of units and currencies. -/
import Derived.Test.YtikkakbemphdhaaTc2
set_option linter.unusedSimpArgs false
set_option linter.unusedVariables false
namespace Go.Proofs.Ytikkakbemphdhaa
open Go.RowKit Go.Fl

theorem un_ext (x y : Un) : x = y ↔ x.name = y.name ∧ x.texts = y.texts := by
  cases x; cases y; simp

set_option maxRecDepth 100000 in
set_option maxHeartbeats 800000 in
theorem sameUnit_any (P : Nat → Prop) (x y : Un) (tv uv : Value) (w : World) (hx : Txs P w tv x.texts) (hy : Txs P w uv y.texts) (lx : x.texts.length ≤ 9223372036854775807) (ly : y.texts.length ≤ 9223372036854775807) :
    Calls Try.prog 52 #[.agg #[.string x.name, tv], .agg #[.string y.name, uv]] w (EqPost (IsEq x y) w) := by
  obtain ⟨ta, tc, rfl⟩ := hx.len
  obtain ⟨ua, uc, rfl⟩ := hy.len
  have HX := Lib.hid hx
  have HY := Lib.hid hy
  clear hx hy
  by_cases hm : x.name = y.name
  · have HM := Lib.hid hm
    have hb : (x.name.toList == y.name.toList) = true := by simp [hm]
    clear hm
    go_enter Try.func52, Try.ntmps52
    go_wp2_with fail
    have hal := ((Below.refl w.heap.size w).alloc (Nat.le_refl _) (.cells #[.string x.name, .slice ta x.texts.length tc] 76)).alloc (by simp) (.cells #[.string y.name, .slice ua y.texts.length uc] 76)
    refine (eqTexts_any P _ _ _ _ _ (HX.out.same (Same.below hal)) (HY.out.same (Same.below hal)) lx ly).mono ?_
    rintro e w1 ⟨b, rfl, hbb, hb1⟩
    have hb2 := hal.trans (hb1.mono hal.size)
    clear hb1 hal
    go_wp2
    go_ret
    exact ⟨_, rfl, Lib.hid (by unfold IsEq; rw [un_ext]; exact ⟨fun h => ⟨HM.out, hbb.out.1 h⟩, fun h => hbb.out.2 h.2⟩), hb2⟩
  · have HM := Lib.hid hm
    have hb : (x.name.toList == y.name.toList) = false := by rw [beq_eq_false_iff_ne]; exact fun h => hm (bytes_ext h)
    clear hm
    go_enter Try.func52, Try.ntmps52
    go_wp2
    go_ret
    exact ⟨_, rfl, Lib.hid (by unfold IsEq; rw [un_ext]; exact ⟨(fun h => by cases h), fun h => absurd h.1 HM.out⟩), ((Below.refl w.heap.size w).alloc (Nat.le_refl _) _).alloc (by simp) _⟩

set_option maxRecDepth 100000 in
set_option maxHeartbeats 800000 in
theorem eqUnits_any (P : Nat → Prop) (v u : Value) (xs ys : List Un) (w : World) (hI : Uns P w v xs) (hJ : Uns P w u ys) (hx : Fits Un.fit xs) (hy : Fits Un.fit ys) :
    Calls Try.prog 51 #[v, u, .func (.func 52) #[] #[]] w (EqPost (IsEq xs ys) w) := by
  obtain ⟨a, cap, rfl, hI⟩ := hI
  obtain ⟨b, cbp, rfl, hJ⟩ := hJ
  have HI := Lib.hid hI
  have HJ := Lib.hid hJ
  obtain ⟨lx, fx⟩ := hx
  obtain ⟨ly, fy⟩ := hy
  have FX := Lib.hid fx
  have FY := Lib.hid fy
  clear hI hJ fx fy
  by_cases hne : xs.length = ys.length
  · have HN := Lib.hid hne
    have hb : ((xs.length : Int) == (ys.length : Int)) = true := by simp [hne]
    have hb2 : ((xs.length : Int) != (ys.length : Int)) = false := by simp [hne]
    clear hne
    go_enter Try.func51, Try.ntmps51
    go_wp2
    go_loopg [17] xs.length (fun gk v wr => ∃ (j : Nat), v = .int .i64 j ∧ j + gk = xs.length ∧ Hid (∀ i, (h : i < xs.length) → (h' : i < ys.length) → i < j → xs[i] = ys[i]) ∧ Below w.heap.size w wr)
    case atStart => exact ⟨0, rfl, by omega, Lib.hid (fun i _ _ h => by omega), Below.refl _ _⟩
    case round =>
      obtain ⟨j, rfl, hj, HL, hbr⟩ := hrel
      by_cases hjl : j < xs.length
      · have hjy : j < ys.length := by have := HN.out; omega
        obtain ⟨b1, o1, rfl, hp, hbb, hc0, tv, hc1, hT⟩ := HI.out j hjl
        obtain ⟨b2, o2, rfl, hp', hbb', hd0, uv, hd1, hU⟩ := HJ.out j hjy
        have hw0 := (hbr.cell (p := ⟨b1, o1 + j * 2, none⟩) hbb).trans hc0
        have hw1 := (hbr.cell (p := ⟨b1, o1 + j * 2 + 1, none⟩) hbb).trans hc1
        have hw2 := (hbr.cell (p := ⟨b2, o2 + j * 2, none⟩) hbb').trans hd0
        have hw3 := (hbr.cell (p := ⟨b2, o2 + j * 2 + 1, none⟩) hbb').trans hd1
        have lT := (FX.out xs[j] (List.getElem_mem _)).2.1
        have lU := (FY.out ys[j] (List.getElem_mem _)).2.1
        clear hc0 hc1 hd0 hd1
        obtain ⟨ta, tc, rfl⟩ := hT.len
        obtain ⟨ua, uc, rfl⟩ := hU.len
        obtain ⟨x, hxe⟩ : ∃ x, xs[j] = x := ⟨_, rfl⟩
        obtain ⟨y, hye⟩ : ∃ y, ys[j] = y := ⟨_, rfl⟩
        rw [hxe] at hw0 hw1 hT lT
        rw [hye] at hw2 hw3 hU lU
        have HX := Lib.hid hxe
        have HY := Lib.hid hye
        have HT := Lib.hid hT
        have HU := Lib.hid hU
        clear hxe hye hT hU
        have hw4 : (wr.alloc (.cells #[.string x.name, .slice ta x.texts.length tc] 76)).cell? ⟨b2, o2 + j * 2, none⟩ = some (.string y.name) := (((Below.refl wr.heap.size wr).alloc (Nat.le_refl _) _).cell (p := ⟨b2, o2 + j * 2, none⟩) (by have := hbr.size; simp; omega)).trans hw2
        have hw5 : (wr.alloc (.cells #[.string x.name, .slice ta x.texts.length tc] 76)).cell? ⟨b2, o2 + j * 2 + 1, none⟩ = some (.slice ua y.texts.length uc) := (((Below.refl wr.heap.size wr).alloc (Nat.le_refl _) _).cell (p := ⟨b2, o2 + j * 2 + 1, none⟩) (by have := hbr.size; simp; omega)).trans hw3
        go_wp2_with fail
        have hal := (hbr.alloc hbr.size (.cells #[.string x.name, .slice ta x.texts.length tc] 76)).alloc (by have := hbr.size; simp; omega) (.cells #[.string y.name, .slice ua y.texts.length uc] 76)
        refine (sameUnit_any P x y _ _ _ (HT.out.same (Same.below hal)) (HU.out.same (Same.below hal)) lT lU).mono ?_
        rintro e w1 ⟨b, rfl, hbe, hb1⟩
        have hb3 := hal.trans (hb1.mono hal.size)
        clear hb1 hal hw4 hw5
        cases b with
        | true =>
          have HXY := Lib.hid (hbe.out.1 rfl)
          clear hbe
          go_wp2
          go_roundg (gk - 1)
          case measure => omega
          case rel => exact ⟨j + 1, rfl, by omega, Lib.hid (fun i hi hi' hij => by
              by_cases e : i = j
              · subst e; rw [HX.out, HY.out]; exact HXY.out
              · exact HL.out i hi hi' (by omega)), hb3⟩
        | false =>
          go_wp2
          go_ret
          exact ⟨_, rfl, Lib.hid ⟨(fun h => by cases h), fun h => hbe.out.2 (by unfold IsEq; rw [← HX.out, ← HY.out]; exact (eq_take xs ys HN.out).2 h j hjl hjy)⟩, hb3⟩
      · obtain rfl : j = xs.length := by omega
        go_wp2
        go_ret
        exact ⟨_, rfl, Lib.hid ⟨fun _ => (eq_take xs ys HN.out).1 (fun i h h' => HL.out i h h' h), fun _ => rfl⟩, hbr⟩
  · have hb : ((xs.length : Int) == (ys.length : Int)) = false := by simp; omega
    have HN := Lib.hid hne
    clear hne
    go_enter Try.func51, Try.ntmps51
    go_wp2
    go_ret
    exact ⟨_, rfl, Lib.hid ⟨(fun h => by cases h), fun h => absurd (congrArg List.length h) HN.out⟩, Below.refl _ _⟩

theorem cu_ext (x y : Cu) : x = y ↔ x.code = y.code ∧ x.sym = y.sym ∧ x.nar = y.nar ∧ x.names = y.names ∧ x.d0 = y.d0 ∧ x.d1 = y.d1 ∧ x.d2 = y.d2 ∧ x.d3 = y.d3 := by
  cases x; cases y; simp
theorem toList_ne {s r : ByteArray} (h : ¬ s = r) : (s.toList == r.toList) = false := by
  rw [beq_eq_false_iff_ne]
  exact fun h2 => h (bytes_ext h2)

set_option maxRecDepth 100000 in
set_option maxHeartbeats 1600000 in
theorem sameCur_any (P : Nat → Prop) (x y : Cu) (tv uv : Value) (w : World) (hx : Txs P w tv x.names) (hy : Txs P w uv y.names) (lx : x.names.length ≤ 9223372036854775807) (ly : y.names.length ≤ 9223372036854775807) :
    Calls Try.prog 49 #[.agg #[.string x.code, .string x.sym, .string x.nar, tv, .int .i64 x.d0, .int .i64 x.d1, .int .i64 x.d2, .int .i64 x.d3], .agg #[.string y.code, .string y.sym, .string y.nar, uv, .int .i64 y.d0, .int .i64 y.d1, .int .i64 y.d2, .int .i64 y.d3]] w (EqPost (IsEq x y) w) := by
  obtain ⟨ta, tc, rfl⟩ := hx.len
  obtain ⟨ua, uc, rfl⟩ := hy.len
  have HX := Lib.hid hx
  have HY := Lib.hid hy
  clear hx hy
  by_cases h0 : ¬ x.code = y.code
  · have H0 := Lib.hid h0
    have e0 := toList_ne h0
    clear h0
    go_enter Try.func49, Try.ntmps49
    go_wp2
    go_ret
    exact ⟨_, rfl, Lib.hid (by unfold IsEq; rw [cu_ext]; exact ⟨(fun h => by cases h), fun h => absurd h.1 H0.out⟩), ((Below.refl w.heap.size w).alloc (Nat.le_refl _) (.cells #[.string x.code, .string x.sym, .string x.nar, .slice ta x.names.length tc, .int .i64 x.d0, .int .i64 x.d1, .int .i64 x.d2, .int .i64 x.d3] 64)).alloc (by simp) (.cells #[.string y.code, .string y.sym, .string y.nar, .slice ua y.names.length uc, .int .i64 y.d0, .int .i64 y.d1, .int .i64 y.d2, .int .i64 y.d3] 64)⟩
  have h0 := Classical.not_not.1 h0
  have H0 := Lib.hid h0
  have e0 : (x.code.toList == y.code.toList) = true := by simp [h0]
  clear h0
  by_cases h1 : ¬ x.sym = y.sym
  · have H1 := Lib.hid h1
    have e1 := toList_ne h1
    clear h1
    go_enter Try.func49, Try.ntmps49
    go_wp2
    go_ret
    exact ⟨_, rfl, Lib.hid (by unfold IsEq; rw [cu_ext]; exact ⟨(fun h => by cases h), fun h => absurd h.2.1 H1.out⟩), ((Below.refl w.heap.size w).alloc (Nat.le_refl _) (.cells #[.string x.code, .string x.sym, .string x.nar, .slice ta x.names.length tc, .int .i64 x.d0, .int .i64 x.d1, .int .i64 x.d2, .int .i64 x.d3] 64)).alloc (by simp) (.cells #[.string y.code, .string y.sym, .string y.nar, .slice ua y.names.length uc, .int .i64 y.d0, .int .i64 y.d1, .int .i64 y.d2, .int .i64 y.d3] 64)⟩
  have h1 := Classical.not_not.1 h1
  have H1 := Lib.hid h1
  have e1 : (x.sym.toList == y.sym.toList) = true := by simp [h1]
  clear h1
  by_cases h2 : ¬ x.nar = y.nar
  · have H2 := Lib.hid h2
    have e2 := toList_ne h2
    clear h2
    go_enter Try.func49, Try.ntmps49
    go_wp2
    go_ret
    exact ⟨_, rfl, Lib.hid (by unfold IsEq; rw [cu_ext]; exact ⟨(fun h => by cases h), fun h => absurd h.2.2.1 H2.out⟩), ((Below.refl w.heap.size w).alloc (Nat.le_refl _) (.cells #[.string x.code, .string x.sym, .string x.nar, .slice ta x.names.length tc, .int .i64 x.d0, .int .i64 x.d1, .int .i64 x.d2, .int .i64 x.d3] 64)).alloc (by simp) (.cells #[.string y.code, .string y.sym, .string y.nar, .slice ua y.names.length uc, .int .i64 y.d0, .int .i64 y.d1, .int .i64 y.d2, .int .i64 y.d3] 64)⟩
  have h2 := Classical.not_not.1 h2
  have H2 := Lib.hid h2
  have e2 : (x.nar.toList == y.nar.toList) = true := by simp [h2]
  clear h2
  go_enter Try.func49, Try.ntmps49
  go_wp2_with fail
  have hal := ((Below.refl w.heap.size w).alloc (Nat.le_refl _) (.cells #[.string x.code, .string x.sym, .string x.nar, .slice ta x.names.length tc, .int .i64 x.d0, .int .i64 x.d1, .int .i64 x.d2, .int .i64 x.d3] 64)).alloc (by simp) (.cells #[.string y.code, .string y.sym, .string y.nar, .slice ua y.names.length uc, .int .i64 y.d0, .int .i64 y.d1, .int .i64 y.d2, .int .i64 y.d3] 64)
  refine (eqTexts_any P _ _ _ _ _ (HX.out.same (Same.below hal)) (HY.out.same (Same.below hal)) lx ly).mono ?_
  rintro e w1 ⟨b, rfl, hbb, hb1⟩
  have hn1 := hb1.block w.heap.size (by simp; omega)
  have hn2 := hb1.block (w.heap.size + 1) (by simp)
  have hn1' := hn1.trans (heap_two w _ _)
  have hy1 := heap_alloc_new (w.alloc (.cells #[.string x.code, .string x.sym, .string x.nar, .slice ta x.names.length tc, .int .i64 x.d0, .int .i64 x.d1, .int .i64 x.d2, .int .i64 x.d3] 64)) (.cells #[.string y.code, .string y.sym, .string y.nar, .slice ua y.names.length uc, .int .i64 y.d0, .int .i64 y.d1, .int .i64 y.d2, .int .i64 y.d3] 64)
  rw [show (w.alloc (.cells #[.string x.code, .string x.sym, .string x.nar, .slice ta x.names.length tc, .int .i64 x.d0, .int .i64 x.d1, .int .i64 x.d2, .int .i64 x.d3] 64)).heap.size = w.heap.size + 1 by simp] at hy1
  have hn2' := hn2.trans hy1
  have x0 : w1.cell? ⟨w.heap.size, 4, none⟩ = some (.int .i64 x.d0) := cell_of hn1' rfl
  have y0 : w1.cell? ⟨w.heap.size + 1, 4, none⟩ = some (.int .i64 y.d0) := cell_of hn2' rfl
  have x1 : w1.cell? ⟨w.heap.size, 5, none⟩ = some (.int .i64 x.d1) := cell_of hn1' rfl
  have y1 : w1.cell? ⟨w.heap.size + 1, 5, none⟩ = some (.int .i64 y.d1) := cell_of hn2' rfl
  have x2 : w1.cell? ⟨w.heap.size, 6, none⟩ = some (.int .i64 x.d2) := cell_of hn1' rfl
  have y2 : w1.cell? ⟨w.heap.size + 1, 6, none⟩ = some (.int .i64 y.d2) := cell_of hn2' rfl
  have x3 : w1.cell? ⟨w.heap.size, 7, none⟩ = some (.int .i64 x.d3) := cell_of hn1' rfl
  have y3 : w1.cell? ⟨w.heap.size + 1, 7, none⟩ = some (.int .i64 y.d3) := cell_of hn2' rfl
  have hb2 := hal.trans (hb1.mono hal.size)
  clear hb1 hal hn1 hn2 hn1' hn2' hy1
  cases b with
  | false =>
    go_wp2
    go_ret
    exact ⟨_, rfl, Lib.hid (by unfold IsEq; rw [cu_ext]; exact ⟨(fun h => by cases h), fun h => hbb.out.2 h.2.2.2.1⟩), hb2⟩
  | true =>
    have H3 := Lib.hid (hbb.out.1 rfl)
    clear hbb
    by_cases h4 : ¬ x.d0 = y.d0
    · have H4 := Lib.hid h4
      have e4 : (x.d0 == y.d0) = false := by simp [h4]
      clear h4
      go_wp2
      go_ret
      exact ⟨_, rfl, Lib.hid (by unfold IsEq; rw [cu_ext]; exact ⟨(fun h => by cases h), fun h => absurd h.2.2.2.2.1 H4.out⟩), hb2⟩
    have h4 := Classical.not_not.1 h4
    have H4 := Lib.hid h4
    have e4 : (x.d0 == y.d0) = true := by simp [h4]
    clear h4
    by_cases h5 : ¬ x.d1 = y.d1
    · have H5 := Lib.hid h5
      have e5 : (x.d1 == y.d1) = false := by simp [h5]
      clear h5
      go_wp2
      go_ret
      exact ⟨_, rfl, Lib.hid (by unfold IsEq; rw [cu_ext]; exact ⟨(fun h => by cases h), fun h => absurd h.2.2.2.2.2.1 H5.out⟩), hb2⟩
    have h5 := Classical.not_not.1 h5
    have H5 := Lib.hid h5
    have e5 : (x.d1 == y.d1) = true := by simp [h5]
    clear h5
    by_cases h6 : ¬ x.d2 = y.d2
    · have H6 := Lib.hid h6
      have e6 : (x.d2 == y.d2) = false := by simp [h6]
      clear h6
      go_wp2
      go_ret
      exact ⟨_, rfl, Lib.hid (by unfold IsEq; rw [cu_ext]; exact ⟨(fun h => by cases h), fun h => absurd h.2.2.2.2.2.2.1 H6.out⟩), hb2⟩
    have h6 := Classical.not_not.1 h6
    have H6 := Lib.hid h6
    have e6 : (x.d2 == y.d2) = true := by simp [h6]
    clear h6
    by_cases h7 : ¬ x.d3 = y.d3
    · have H7 := Lib.hid h7
      have e7 : (x.d3 == y.d3) = false := by simp [h7]
      clear h7
      go_wp2
      go_ret
      exact ⟨_, rfl, Lib.hid (by unfold IsEq; rw [cu_ext]; exact ⟨(fun h => by cases h), fun h => absurd h.2.2.2.2.2.2.2 H7.out⟩), hb2⟩
    have h7 := Classical.not_not.1 h7
    have H7 := Lib.hid h7
    have e7 : (x.d3 == y.d3) = true := by simp [h7]
    clear h7
    go_wp2
    go_ret
    exact ⟨_, rfl, Lib.hid (by unfold IsEq; rw [cu_ext]; exact ⟨fun _ => ⟨H0.out, H1.out, H2.out, H3.out, H4.out, H5.out, H6.out, H7.out⟩, fun _ => rfl⟩), hb2⟩

set_option maxRecDepth 100000 in
set_option maxHeartbeats 800000 in
theorem eqCurs_any (P : Nat → Prop) (v u : Value) (xs ys : List Cu) (w : World) (hI : Cus P w v xs) (hJ : Cus P w u ys) (hx : Fits Cu.fit xs) (hy : Fits Cu.fit ys) :
    Calls Try.prog 50 #[v, u, .func (.func 49) #[] #[]] w (EqPost (IsEq xs ys) w) := by
  obtain ⟨a, cap, rfl, hI⟩ := hI
  obtain ⟨b, cbp, rfl, hJ⟩ := hJ
  have HI := Lib.hid hI
  have HJ := Lib.hid hJ
  obtain ⟨lx, fx⟩ := hx
  obtain ⟨ly, fy⟩ := hy
  have FX := Lib.hid fx
  have FY := Lib.hid fy
  clear hI hJ fx fy
  by_cases hne : xs.length = ys.length
  · have HN := Lib.hid hne
    have hb : ((xs.length : Int) == (ys.length : Int)) = true := by simp [hne]
    have hb2 : ((xs.length : Int) != (ys.length : Int)) = false := by simp [hne]
    clear hne
    go_enter Try.func50, Try.ntmps50
    go_wp2
    go_loopg [17] xs.length (fun gk v wr => ∃ (j : Nat), v = .int .i64 j ∧ j + gk = xs.length ∧ Hid (∀ i, (h : i < xs.length) → (h' : i < ys.length) → i < j → xs[i] = ys[i]) ∧ Below w.heap.size w wr)
    case atStart => exact ⟨0, rfl, by omega, Lib.hid (fun i _ _ h => by omega), Below.refl _ _⟩
    case round =>
      obtain ⟨j, rfl, hj, HL, hbr⟩ := hrel
      by_cases hjl : j < xs.length
      · have hjy : j < ys.length := by have := HN.out; omega
        obtain ⟨b1, o1, rfl, hp, hbb, hc0, hc1, hc2, hc4, hc5, hc6, hc7, tv, hc3, hT⟩ := HI.out j hjl
        obtain ⟨b2, o2, rfl, hp', hbb', hd0, hd1, hd2, hd4, hd5, hd6, hd7, uv, hd3, hU⟩ := HJ.out j hjy
        have hw0 := (hbr.cell (p := ⟨b1, o1 + j * 8, none⟩) hbb).trans hc0
        have hv0 := (hbr.cell (p := ⟨b2, o2 + j * 8, none⟩) hbb').trans hd0
        have hw1 := (hbr.cell (p := ⟨b1, o1 + j * 8 + 1, none⟩) hbb).trans hc1
        have hv1 := (hbr.cell (p := ⟨b2, o2 + j * 8 + 1, none⟩) hbb').trans hd1
        have hw2 := (hbr.cell (p := ⟨b1, o1 + j * 8 + 2, none⟩) hbb).trans hc2
        have hv2 := (hbr.cell (p := ⟨b2, o2 + j * 8 + 2, none⟩) hbb').trans hd2
        have hw3 := (hbr.cell (p := ⟨b1, o1 + j * 8 + 3, none⟩) hbb).trans hc3
        have hv3 := (hbr.cell (p := ⟨b2, o2 + j * 8 + 3, none⟩) hbb').trans hd3
        have hw4 := (hbr.cell (p := ⟨b1, o1 + j * 8 + 4, none⟩) hbb).trans hc4
        have hv4 := (hbr.cell (p := ⟨b2, o2 + j * 8 + 4, none⟩) hbb').trans hd4
        have hw5 := (hbr.cell (p := ⟨b1, o1 + j * 8 + 5, none⟩) hbb).trans hc5
        have hv5 := (hbr.cell (p := ⟨b2, o2 + j * 8 + 5, none⟩) hbb').trans hd5
        have hw6 := (hbr.cell (p := ⟨b1, o1 + j * 8 + 6, none⟩) hbb).trans hc6
        have hv6 := (hbr.cell (p := ⟨b2, o2 + j * 8 + 6, none⟩) hbb').trans hd6
        have hw7 := (hbr.cell (p := ⟨b1, o1 + j * 8 + 7, none⟩) hbb).trans hc7
        have hv7 := (hbr.cell (p := ⟨b2, o2 + j * 8 + 7, none⟩) hbb').trans hd7
        have lT := (FX.out xs[j] (List.getElem_mem _)).2.2.2.1.1
        have lU := (FY.out ys[j] (List.getElem_mem _)).2.2.2.1.1
        clear hc0 hd0 hc1 hd1 hc2 hd2 hc3 hd3 hc4 hd4 hc5 hd5 hc6 hd6 hc7 hd7
        obtain ⟨ta, tc, rfl⟩ := hT.len
        obtain ⟨ua, uc, rfl⟩ := hU.len
        obtain ⟨x, hxe⟩ : ∃ x, xs[j] = x := ⟨_, rfl⟩
        obtain ⟨y, hye⟩ : ∃ y, ys[j] = y := ⟨_, rfl⟩
        rw [hxe] at hw0 hw1 hw2 hw3 hw4 hw5 hw6 hw7 hT lT
        rw [hye] at hv0 hv1 hv2 hv3 hv4 hv5 hv6 hv7 hU lU
        have HX := Lib.hid hxe
        have HY := Lib.hid hye
        have HT := Lib.hid hT
        have HU := Lib.hid hU
        clear hxe hye hT hU
        have hu0 : (wr.alloc (.cells #[.string x.code, .string x.sym, .string x.nar, .slice ta x.names.length tc, .int .i64 x.d0, .int .i64 x.d1, .int .i64 x.d2, .int .i64 x.d3] 64)).cell? ⟨b2, o2 + j * 8, none⟩ = some (.string y.code) := (((Below.refl wr.heap.size wr).alloc (Nat.le_refl _) _).cell (p := ⟨b2, o2 + j * 8, none⟩) (by have := hbr.size; simp; omega)).trans hv0
        have hu1 : (wr.alloc (.cells #[.string x.code, .string x.sym, .string x.nar, .slice ta x.names.length tc, .int .i64 x.d0, .int .i64 x.d1, .int .i64 x.d2, .int .i64 x.d3] 64)).cell? ⟨b2, o2 + j * 8 + 1, none⟩ = some (.string y.sym) := (((Below.refl wr.heap.size wr).alloc (Nat.le_refl _) _).cell (p := ⟨b2, o2 + j * 8 + 1, none⟩) (by have := hbr.size; simp; omega)).trans hv1
        have hu2 : (wr.alloc (.cells #[.string x.code, .string x.sym, .string x.nar, .slice ta x.names.length tc, .int .i64 x.d0, .int .i64 x.d1, .int .i64 x.d2, .int .i64 x.d3] 64)).cell? ⟨b2, o2 + j * 8 + 2, none⟩ = some (.string y.nar) := (((Below.refl wr.heap.size wr).alloc (Nat.le_refl _) _).cell (p := ⟨b2, o2 + j * 8 + 2, none⟩) (by have := hbr.size; simp; omega)).trans hv2
        have hu3 : (wr.alloc (.cells #[.string x.code, .string x.sym, .string x.nar, .slice ta x.names.length tc, .int .i64 x.d0, .int .i64 x.d1, .int .i64 x.d2, .int .i64 x.d3] 64)).cell? ⟨b2, o2 + j * 8 + 3, none⟩ = some (.slice ua y.names.length uc) := (((Below.refl wr.heap.size wr).alloc (Nat.le_refl _) _).cell (p := ⟨b2, o2 + j * 8 + 3, none⟩) (by have := hbr.size; simp; omega)).trans hv3
        have hu4 : (wr.alloc (.cells #[.string x.code, .string x.sym, .string x.nar, .slice ta x.names.length tc, .int .i64 x.d0, .int .i64 x.d1, .int .i64 x.d2, .int .i64 x.d3] 64)).cell? ⟨b2, o2 + j * 8 + 4, none⟩ = some (.int .i64 y.d0) := (((Below.refl wr.heap.size wr).alloc (Nat.le_refl _) _).cell (p := ⟨b2, o2 + j * 8 + 4, none⟩) (by have := hbr.size; simp; omega)).trans hv4
        have hu5 : (wr.alloc (.cells #[.string x.code, .string x.sym, .string x.nar, .slice ta x.names.length tc, .int .i64 x.d0, .int .i64 x.d1, .int .i64 x.d2, .int .i64 x.d3] 64)).cell? ⟨b2, o2 + j * 8 + 5, none⟩ = some (.int .i64 y.d1) := (((Below.refl wr.heap.size wr).alloc (Nat.le_refl _) _).cell (p := ⟨b2, o2 + j * 8 + 5, none⟩) (by have := hbr.size; simp; omega)).trans hv5
        have hu6 : (wr.alloc (.cells #[.string x.code, .string x.sym, .string x.nar, .slice ta x.names.length tc, .int .i64 x.d0, .int .i64 x.d1, .int .i64 x.d2, .int .i64 x.d3] 64)).cell? ⟨b2, o2 + j * 8 + 6, none⟩ = some (.int .i64 y.d2) := (((Below.refl wr.heap.size wr).alloc (Nat.le_refl _) _).cell (p := ⟨b2, o2 + j * 8 + 6, none⟩) (by have := hbr.size; simp; omega)).trans hv6
        have hu7 : (wr.alloc (.cells #[.string x.code, .string x.sym, .string x.nar, .slice ta x.names.length tc, .int .i64 x.d0, .int .i64 x.d1, .int .i64 x.d2, .int .i64 x.d3] 64)).cell? ⟨b2, o2 + j * 8 + 7, none⟩ = some (.int .i64 y.d3) := (((Below.refl wr.heap.size wr).alloc (Nat.le_refl _) _).cell (p := ⟨b2, o2 + j * 8 + 7, none⟩) (by have := hbr.size; simp; omega)).trans hv7
        go_wp2_with fail
        have hal := (hbr.alloc hbr.size (.cells #[.string x.code, .string x.sym, .string x.nar, .slice ta x.names.length tc, .int .i64 x.d0, .int .i64 x.d1, .int .i64 x.d2, .int .i64 x.d3] 64)).alloc (by have := hbr.size; simp; omega) (.cells #[.string y.code, .string y.sym, .string y.nar, .slice ua y.names.length uc, .int .i64 y.d0, .int .i64 y.d1, .int .i64 y.d2, .int .i64 y.d3] 64)
        refine (sameCur_any P x y _ _ _ (HT.out.same (Same.below hal)) (HU.out.same (Same.below hal)) lT lU).mono ?_
        rintro e w1 ⟨b, rfl, hbe, hb1⟩
        have hb3 := hal.trans (hb1.mono hal.size)
        clear hb1 hal hu0 hu1 hu2 hu3 hu4 hu5 hu6 hu7
        cases b with
        | true =>
          have HXY := Lib.hid (hbe.out.1 rfl)
          clear hbe
          go_wp2
          go_roundg (gk - 1)
          case measure => omega
          case rel => exact ⟨j + 1, rfl, by omega, Lib.hid (fun i hi hi' hij => by
              by_cases e : i = j
              · subst e; rw [HX.out, HY.out]; exact HXY.out
              · exact HL.out i hi hi' (by omega)), hb3⟩
        | false =>
          go_wp2
          go_ret
          exact ⟨_, rfl, Lib.hid ⟨(fun h => by cases h), fun h => hbe.out.2 (by unfold IsEq; rw [← HX.out, ← HY.out]; exact (eq_take xs ys HN.out).2 h j hjl hjy)⟩, hb3⟩
      · obtain rfl : j = xs.length := by omega
        go_wp2
        go_ret
        exact ⟨_, rfl, Lib.hid ⟨fun _ => (eq_take xs ys HN.out).1 (fun i h h' => HL.out i h h' h), fun _ => rfl⟩, hbr⟩
  · have hb : ((xs.length : Int) == (ys.length : Int)) = false := by simp; omega
    have HN := Lib.hid hne
    clear hne
    go_enter Try.func50, Try.ntmps50
    go_wp2
    go_ret
    exact ⟨_, rfl, Lib.hid ⟨(fun h => by cases h), fun h => absurd (congrArg List.length h) HN.out⟩, Below.refl _ _⟩

end Go.Proofs.Ytikkakbemphdhaa
