/- The walks of sameRows. -/
import Derived.Test.YtikkakbemphdhaaTc1
set_option linter.unusedSimpArgs false
set_option linter.unusedVariables false
namespace Go.Proofs.Ytikkakbemphdhaa
open Go.RowKit Go.Fl

theorem rw_ext (x y : Rw) : x = y ↔ x.mag = y.mag ∧ x.texts = y.texts := by
  cases x; cases y; simp

set_option maxRecDepth 100000 in
set_option maxHeartbeats 800000 in
theorem sameRow_any (P : Nat → Prop) (x y : Rw) (tv uv : Value) (w : World) (hx : Txs P w tv x.texts) (hy : Txs P w uv y.texts) (lx : x.texts.length ≤ 9223372036854775807) (ly : y.texts.length ≤ 9223372036854775807) :
    Calls Try.prog 61 #[.agg #[.int .i64 x.mag, tv], .agg #[.int .i64 y.mag, uv]] w (EqPost (IsEq x y) w) := by
  obtain ⟨ta, tc, rfl⟩ := hx.len
  obtain ⟨ua, uc, rfl⟩ := hy.len
  have HX := Lib.hid hx
  have HY := Lib.hid hy
  clear hx hy
  by_cases hm : x.mag = y.mag
  · have HM := Lib.hid hm
    have hb : (x.mag == y.mag) = true := by simp [hm]
    clear hm
    go_enter Try.func61, Try.ntmps61
    go_wp2_with fail
    have hal := ((Below.refl w.heap.size w).alloc (Nat.le_refl _) (.cells #[.int .i64 x.mag, .slice ta x.texts.length tc] 66)).alloc (by simp) (.cells #[.int .i64 y.mag, .slice ua y.texts.length uc] 66)
    refine (eqTexts_any P _ _ _ _ _ (HX.out.same (Same.below hal)) (HY.out.same (Same.below hal)) lx ly).mono ?_
    rintro e w1 ⟨b, rfl, hbb, hb1⟩
    have hb2 := hal.trans (hb1.mono hal.size)
    clear hb1 hal
    go_wp2
    go_ret
    exact ⟨_, rfl, Lib.hid (by unfold IsEq; rw [rw_ext]; exact ⟨fun h => ⟨HM.out, hbb.out.1 h⟩, fun h => hbb.out.2 h.2⟩), hb2⟩
  · have HM := Lib.hid hm
    have hb : (x.mag == y.mag) = false := by simp [hm]
    clear hm
    go_enter Try.func61, Try.ntmps61
    go_wp2
    go_ret
    exact ⟨_, rfl, Lib.hid (by unfold IsEq; rw [rw_ext]; exact ⟨(fun h => by cases h), fun h => absurd h.1 HM.out⟩), ((Below.refl w.heap.size w).alloc (Nat.le_refl _) _).alloc (by simp) _⟩

set_option maxRecDepth 100000 in
set_option maxHeartbeats 800000 in
theorem eqRows_any (P : Nat → Prop) (v u : Value) (xs ys : List Rw) (w : World) (hI : Rws P w v xs) (hJ : Rws P w u ys) (hx : Fits Rw.fit xs) (hy : Fits Rw.fit ys) :
    Calls Try.prog 60 #[v, u, .func (.func 61) #[] #[]] w (EqPost (IsEq xs ys) w) := by
  obtain ⟨a, cap, rfl, hI⟩ := hI
  obtain ⟨b, cbp, rfl, hJ⟩ := hJ
  have HI := Lib.hid hI
  have HJ := Lib.hid hJ
  obtain ⟨lx, fx⟩ := hx
  obtain ⟨ly, fy⟩ := hy
  have FX := Lib.hid fx
  have FY := Lib.hid fy
  clear hI hJ fx fy
  by_cases hne : xs.length = ys.length
  · have HN := Lib.hid hne
    have hb : ((xs.length : Int) == (ys.length : Int)) = true := by simp [hne]
    have hb2 : ((xs.length : Int) != (ys.length : Int)) = false := by simp [hne]
    clear hne
    go_enter Try.func60, Try.ntmps60
    go_wp2
    go_loopg [17] xs.length (fun gk v wr => ∃ (j : Nat), v = .int .i64 j ∧ j + gk = xs.length ∧ Hid (∀ i, (h : i < xs.length) → (h' : i < ys.length) → i < j → xs[i] = ys[i]) ∧ Below w.heap.size w wr)
    case atStart => exact ⟨0, rfl, by omega, Lib.hid (fun i _ _ h => by omega), Below.refl _ _⟩
    case round =>
      obtain ⟨j, rfl, hj, HL, hbr⟩ := hrel
      by_cases hjl : j < xs.length
      · have hjy : j < ys.length := by have := HN.out; omega
        obtain ⟨b1, o1, rfl, hp, hbb, hc0, tv, hc1, hT⟩ := HI.out j hjl
        obtain ⟨b2, o2, rfl, hp', hbb', hd0, uv, hd1, hU⟩ := HJ.out j hjy
        have hw0 := (hbr.cell (p := ⟨b1, o1 + j * 2, none⟩) hbb).trans hc0
        have hw1 := (hbr.cell (p := ⟨b1, o1 + j * 2 + 1, none⟩) hbb).trans hc1
        have hw2 := (hbr.cell (p := ⟨b2, o2 + j * 2, none⟩) hbb').trans hd0
        have hw3 := (hbr.cell (p := ⟨b2, o2 + j * 2 + 1, none⟩) hbb').trans hd1
        have lT := (FX.out xs[j] (List.getElem_mem _)).2.1
        have lU := (FY.out ys[j] (List.getElem_mem _)).2.1
        clear hc0 hc1 hd0 hd1
        obtain ⟨ta, tc, rfl⟩ := hT.len
        obtain ⟨ua, uc, rfl⟩ := hU.len
        obtain ⟨x, hxe⟩ : ∃ x, xs[j] = x := ⟨_, rfl⟩
        obtain ⟨y, hye⟩ : ∃ y, ys[j] = y := ⟨_, rfl⟩
        rw [hxe] at hw0 hw1 hT lT
        rw [hye] at hw2 hw3 hU lU
        have HX := Lib.hid hxe
        have HY := Lib.hid hye
        have HT := Lib.hid hT
        have HU := Lib.hid hU
        clear hxe hye hT hU
        have hw4 : (wr.alloc (.cells #[.int .i64 x.mag, .slice ta x.texts.length tc] 66)).cell? ⟨b2, o2 + j * 2, none⟩ = some (.int .i64 y.mag) := (((Below.refl wr.heap.size wr).alloc (Nat.le_refl _) _).cell (p := ⟨b2, o2 + j * 2, none⟩) (by have := hbr.size; simp; omega)).trans hw2
        have hw5 : (wr.alloc (.cells #[.int .i64 x.mag, .slice ta x.texts.length tc] 66)).cell? ⟨b2, o2 + j * 2 + 1, none⟩ = some (.slice ua y.texts.length uc) := (((Below.refl wr.heap.size wr).alloc (Nat.le_refl _) _).cell (p := ⟨b2, o2 + j * 2 + 1, none⟩) (by have := hbr.size; simp; omega)).trans hw3
        go_wp2_with fail
        have hal := (hbr.alloc hbr.size (.cells #[.int .i64 x.mag, .slice ta x.texts.length tc] 66)).alloc (by have := hbr.size; simp; omega) (.cells #[.int .i64 y.mag, .slice ua y.texts.length uc] 66)
        refine (sameRow_any P x y _ _ _ (HT.out.same (Same.below hal)) (HU.out.same (Same.below hal)) lT lU).mono ?_
        rintro e w1 ⟨b, rfl, hbe, hb1⟩
        have hb3 := hal.trans (hb1.mono hal.size)
        clear hb1 hal hw4 hw5
        cases b with
        | true =>
          have HXY := Lib.hid (hbe.out.1 rfl)
          clear hbe
          go_wp2
          go_roundg (gk - 1)
          case measure => omega
          case rel => exact ⟨j + 1, rfl, by omega, Lib.hid (fun i hi hi' hij => by
              by_cases e : i = j
              · subst e; rw [HX.out, HY.out]; exact HXY.out
              · exact HL.out i hi hi' (by omega)), hb3⟩
        | false =>
          go_wp2
          go_ret
          exact ⟨_, rfl, Lib.hid ⟨(fun h => by cases h), fun h => hbe.out.2 (by unfold IsEq; rw [← HX.out, ← HY.out]; exact (eq_take xs ys HN.out).2 h j hjl hjy)⟩, hb3⟩
      · obtain rfl : j = xs.length := by omega
        go_wp2
        go_ret
        exact ⟨_, rfl, Lib.hid ⟨fun _ => (eq_take xs ys HN.out).1 (fun i h h' => HL.out i h h' h), fun _ => rfl⟩, hbr⟩
  · have hb : ((xs.length : Int) == (ys.length : Int)) = false := by simp; omega
    have HN := Lib.hid hne
    clear hne
    go_enter Try.func60, Try.ntmps60
    go_wp2
    go_ret
    exact ⟨_, rfl, Lib.hid ⟨(fun h => by cases h), fun h => absurd (congrArg List.length h) HN.out⟩, Below.refl _ _⟩

set_option maxRecDepth 100000 in
set_option maxHeartbeats 800000 in
theorem sameRows_any (P : Nat → Prop) (v u : Value) (xs ys : List Rw) (w : World) (hI : Rws P w v xs) (hJ : Rws P w u ys) (hx : Fits Rw.fit xs) (hy : Fits Rw.fit ys) :
    Calls Try.prog 47 #[v, u] w (EqPost (IsEq xs ys) w) := by
  have HI := Lib.hid hI
  have HJ := Lib.hid hJ
  have FX := Lib.hid hx
  have FY := Lib.hid hy
  clear hI hJ hx hy
  go_enter Try.func47, Try.ntmps47
  go_wp2_with fail
  refine (eqRows_any P _ _ _ _ _ HI.out HJ.out FX.out FY.out).mono ?_
  rintro e w1 ⟨b, rfl, hb, hb1⟩
  go_wp2
  go_ret
  exact ⟨_, rfl, hb, hb1⟩
end Go.Proofs.Ytikkakbemphdhaa
