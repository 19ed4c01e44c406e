/- The walk of GlyphSigns. -/
import Derived.Test.YtajioajigpneoaaDoorSign
set_option linter.unusedSimpArgs false
set_option linter.unusedVariables false
namespace Go.Proofs.YtajioajigpneoaaDoor
open Go.RowKit Go.Fl Go.Shelf

theorem none_first : okP (Lib.decodeGo ⟨#[]⟩) = false ∧ ptP (Lib.decodeGo ⟨#[]⟩) = 0 := by decide +kernel
theorem none_last : okP (Lib.decodeLastL (⟨#[]⟩ : ByteArray).data.toList) = false ∧ ptP (Lib.decodeLastL (⟨#[]⟩ : ByteArray).data.toList) = 0 := by decide +kernel
theorem size_of_list {X : ByteArray} {l : List UInt8} (h : X.data.toList = l) : X.size = l.length := by
  rw [← h, Array.length_toList]; rfl
theorem app_list (X Y : ByteArray) : (X ++ Y).data.toList = X.data.toList ++ Y.data.toList := by rw [ByteArray.data_append, Array.toList_append]

set_option maxRecDepth 100000 in
set_option maxHeartbeats 3000000 in
theorem signs_law (a b : Int) (s : ByteArray) (w : World) (hs : s.size ≤ 9223372036854775807) (hT : Tabs w) : Calls Tryd.prog 4 #[.int .i64 a, .int .i64 b, .string s] w fun e w' => e = .returned (.bool true) ∧ Below w.heap.size w w' := by
  have HT := Lib.hid hT
  clear hT
  go_enter Tryd.func4, Tryd.ntmps4
  go_wp2_with fail
  refine (head_any w HT.out).mono ?_
  rintro e w1 ⟨rfl, hb1⟩
  have HB1 := Lib.hid hb1
  clear hb1
  by_cases hsz : s.size ≤ 100
  · go_wp2_with fail
    obtain ⟨p, hp, C⟩ := point_any a w1
    refine C.mono ?_
    rintro e w2 ⟨rfl, rfl⟩
    have Hp := Lib.hid hp
    have hp1 : (p : Int) ≤ 1114111 := by have := hp.1; omega
    clear hp C
    go_wp2_with fail
    obtain ⟨q, hq, C⟩ := point_any b w1
    refine C.mono ?_
    rintro e w2 ⟨rfl, rfl⟩
    have Hq := Lib.hid hq
    have hq1 : (q : Int) ≤ 1114111 := by have := hq.1; omega
    clear hq C
    go_wp2_with fail
    refine (sign_any p w1 Hp.out).mono ?_
    obtain ⟨X, hX⟩ : ∃ X : ByteArray, ⟨(signL p).toArray⟩ = X := ⟨_, rfl⟩
    rw [hX]
    have HX : Hid (X.data.toList = signL p) := Lib.hid (by rw [← hX])
    clear hX
    rintro e w2 ⟨rfl, hb2⟩
    have HB2 := Lib.hid (bt HB1.out hb2)
    clear hb2
    go_wp2_with fail
    refine (sign_any q w2 Hq.out).mono ?_
    obtain ⟨Y, hY⟩ : ∃ Y : ByteArray, ⟨(signL q).toArray⟩ = Y := ⟨_, rfl⟩
    rw [hY]
    have HY : Hid (Y.data.toList = signL q) := Lib.hid (by rw [← hY])
    clear hY
    rintro e w3 ⟨rfl, hb3⟩
    have HB3 := Lib.hid (bt HB2.out hb3)
    clear hb3
    have hXs : X.size ≤ 4 := by rw [size_of_list HX.out]; exact (sign_len p).2.1
    have hYs : Y.size ≤ 4 := by rw [size_of_list HY.out]; exact (sign_len q).2.1
    go_wp2_with fail
    obtain ⟨U, hU⟩ : ∃ U : ByteArray, X ++ s = U := ⟨_, rfl⟩
    have hUl : U.data.toList = signL p ++ s.data.toList := by rw [← hU, app_list, HX.out]
    rw [hU]
    obtain ⟨f1, f2⟩ := sign_first Hp.out hUl
    refine (first_any U w3 (HT.out.below HB3.out)).mono ?_
    rw [f1, f2]
    rintro e w4 ⟨rfl, hb4⟩
    have HB4 := Lib.hid (bt HB3.out hb4)
    clear hb4 f1 f2 hUl hU
    go_wp2_with fail
    obtain ⟨V, hV⟩ : ∃ V : ByteArray, s ++ Y = V := ⟨_, rfl⟩
    have hVl : V.data.toList = s.data.toList ++ signL q := by rw [← hV, app_list, HY.out]
    have hVs : V.size ≤ 9223372036854775807 := by rw [← hV, ByteArray.size_append]; omega
    rw [hV]
    obtain ⟨f1, f2⟩ := sign_last Hq.out s.data.toList
    rw [← hVl] at f1 f2
    refine (last_any V w4 hVs (HT.out.below HB4.out)).mono ?_
    rw [f1, f2]
    rintro e w5 ⟨rfl, hb5⟩
    have HB5 := Lib.hid (bt HB4.out hb5)
    clear hb5 f1 f2 hVl hV hVs
    go_wp2_with fail
    refine (first_any ⟨#[]⟩ w5 (HT.out.below HB5.out)).mono ?_
    rw [none_first.1, none_first.2]
    rintro e w6 ⟨rfl, hb6⟩
    have HB6 := Lib.hid (bt HB5.out hb6)
    clear hb6
    go_wp2_with fail
    refine (last_any ⟨#[]⟩ w6 (by decide) (HT.out.below HB6.out)).mono ?_
    rw [none_last.1, none_last.2]
    rintro e w7 ⟨rfl, hb7⟩
    have HB7 := Lib.hid (bt HB6.out hb7)
    clear hb7
    go_wp2_with fail
    obtain ⟨g1, g2⟩ := sign_one Hp.out HX.out
    refine (one_any X w7 (by omega) (HT.out.below HB7.out)).mono ?_
    rw [g1, g2]
    rintro e w8 ⟨rfl, hb8⟩
    have HB8 := Lib.hid (bt HB7.out hb8)
    clear hb8 g1 g2
    go_wp2_with fail
    obtain ⟨Z, hZ⟩ : ∃ Z : ByteArray, X ++ Y = Z := ⟨_, rfl⟩
    have hZl : Z.data.toList = signL p ++ signL q := by rw [← hZ, app_list, HX.out, HY.out]
    have hZs : Z.size ≤ 8 := by rw [← hZ, ByteArray.size_append]; omega
    obtain ⟨g1, g2⟩ := sign_two Hp.out Hq.out hZl
    have HZ := Lib.hid hZ
    have G := Lib.hid (And.intro g1 g2)
    rw [hZ]
    clear hZ hZl g1 g2
    refine (right_any Z w8 (by omega) (HT.out.below HB8.out)).mono ?_
    rw [G.out.1]
    rintro e w9 ⟨rfl, hb9⟩
    have HB9 := Lib.hid (bt HB8.out hb9)
    clear hb9
    go_wp2_with fail
    rw [HZ.out]
    refine (one_any Z w9 (by omega) (HT.out.below HB9.out)).mono ?_
    rw [G.out.1, G.out.2]
    rintro e w10 ⟨rfl, hb10⟩
    have HB10 := Lib.hid (bt HB9.out hb10)
    clear hb10
    go_wp2_with fail
    go_ret
    exact ⟨rfl, HB10.out⟩
  · go_wp2_with fail
    go_ret
    exact ⟨rfl, HB1.out⟩
end Go.Proofs.YtajioajigpneoaaDoor
