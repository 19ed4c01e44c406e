/- An argument that is a table by value. -/
import Derived.Test.YtikkakbemphdhaaTi0
set_option linter.unusedSimpArgs false
set_option linter.unusedVariables false
namespace Go.Proofs.Ytikkakbemphdhaa
open Go.ChangeShapes Go.WideShapes Go.Deep Go.RowKit Go.Fl
section
variable {H : Type} {enc : TypeId × Value → H} {W : World} {base : Nat} {spare : Nat → Bool} {held : Bool}
theorem cells55 : Try.prog.cellsOf 55 = 34 := by kernel_rfl
theorem cells47 : Try.prog.cellsOf 47 = 10 := by kernel_rfl
theorem cells53 : Try.prog.cellsOf 53 = 3 := by kernel_rfl
theorem cells9 : Try.prog.cellsOf 9 = 1 := by kernel_rfl
theorem cells3 : Try.prog.cellsOf 3 = 1 := by kernel_rfl
theorem cells48 : Try.prog.cellsOf 48 = 1 := by kernel_rfl
theorem cells49 : Try.prog.cellsOf 49 = 1 := by kernel_rfl
theorem cells50 : Try.prog.cellsOf 50 = 1 := by kernel_rfl
theorem cells51 : Try.prog.cellsOf 51 = 1 := by kernel_rfl
theorem list34 {α : Type} (l : List α) (h : l.length = 34) : ∃ c0 c1 c2 c3 c4 c5 c6 c7 c8 c9 c10 c11 c12 c13 c14 c15 c16 c17 c18 c19 c20 c21 c22 c23 c24 c25 c26 c27 c28 c29 c30 c31 c32 c33 : α, l = [c0, c1, c2, c3, c4, c5, c6, c7, c8, c9, c10, c11, c12, c13, c14, c15, c16, c17, c18, c19, c20, c21, c22, c23, c24, c25, c26, c27, c28, c29, c30, c31, c32, c33] := by
  obtain ⟨c0, l0, rfl⟩ := List.exists_cons_of_length_eq_add_one (l := l) (n := 33) (by simpa using h)
  obtain ⟨c1, l1, rfl⟩ := List.exists_cons_of_length_eq_add_one (l := l0) (n := 32) (by simpa using h)
  obtain ⟨c2, l2, rfl⟩ := List.exists_cons_of_length_eq_add_one (l := l1) (n := 31) (by simpa using h)
  obtain ⟨c3, l3, rfl⟩ := List.exists_cons_of_length_eq_add_one (l := l2) (n := 30) (by simpa using h)
  obtain ⟨c4, l4, rfl⟩ := List.exists_cons_of_length_eq_add_one (l := l3) (n := 29) (by simpa using h)
  obtain ⟨c5, l5, rfl⟩ := List.exists_cons_of_length_eq_add_one (l := l4) (n := 28) (by simpa using h)
  obtain ⟨c6, l6, rfl⟩ := List.exists_cons_of_length_eq_add_one (l := l5) (n := 27) (by simpa using h)
  obtain ⟨c7, l7, rfl⟩ := List.exists_cons_of_length_eq_add_one (l := l6) (n := 26) (by simpa using h)
  obtain ⟨c8, l8, rfl⟩ := List.exists_cons_of_length_eq_add_one (l := l7) (n := 25) (by simpa using h)
  obtain ⟨c9, l9, rfl⟩ := List.exists_cons_of_length_eq_add_one (l := l8) (n := 24) (by simpa using h)
  obtain ⟨c10, l10, rfl⟩ := List.exists_cons_of_length_eq_add_one (l := l9) (n := 23) (by simpa using h)
  obtain ⟨c11, l11, rfl⟩ := List.exists_cons_of_length_eq_add_one (l := l10) (n := 22) (by simpa using h)
  obtain ⟨c12, l12, rfl⟩ := List.exists_cons_of_length_eq_add_one (l := l11) (n := 21) (by simpa using h)
  obtain ⟨c13, l13, rfl⟩ := List.exists_cons_of_length_eq_add_one (l := l12) (n := 20) (by simpa using h)
  obtain ⟨c14, l14, rfl⟩ := List.exists_cons_of_length_eq_add_one (l := l13) (n := 19) (by simpa using h)
  obtain ⟨c15, l15, rfl⟩ := List.exists_cons_of_length_eq_add_one (l := l14) (n := 18) (by simpa using h)
  obtain ⟨c16, l16, rfl⟩ := List.exists_cons_of_length_eq_add_one (l := l15) (n := 17) (by simpa using h)
  obtain ⟨c17, l17, rfl⟩ := List.exists_cons_of_length_eq_add_one (l := l16) (n := 16) (by simpa using h)
  obtain ⟨c18, l18, rfl⟩ := List.exists_cons_of_length_eq_add_one (l := l17) (n := 15) (by simpa using h)
  obtain ⟨c19, l19, rfl⟩ := List.exists_cons_of_length_eq_add_one (l := l18) (n := 14) (by simpa using h)
  obtain ⟨c20, l20, rfl⟩ := List.exists_cons_of_length_eq_add_one (l := l19) (n := 13) (by simpa using h)
  obtain ⟨c21, l21, rfl⟩ := List.exists_cons_of_length_eq_add_one (l := l20) (n := 12) (by simpa using h)
  obtain ⟨c22, l22, rfl⟩ := List.exists_cons_of_length_eq_add_one (l := l21) (n := 11) (by simpa using h)
  obtain ⟨c23, l23, rfl⟩ := List.exists_cons_of_length_eq_add_one (l := l22) (n := 10) (by simpa using h)
  obtain ⟨c24, l24, rfl⟩ := List.exists_cons_of_length_eq_add_one (l := l23) (n := 9) (by simpa using h)
  obtain ⟨c25, l25, rfl⟩ := List.exists_cons_of_length_eq_add_one (l := l24) (n := 8) (by simpa using h)
  obtain ⟨c26, l26, rfl⟩ := List.exists_cons_of_length_eq_add_one (l := l25) (n := 7) (by simpa using h)
  obtain ⟨c27, l27, rfl⟩ := List.exists_cons_of_length_eq_add_one (l := l26) (n := 6) (by simpa using h)
  obtain ⟨c28, l28, rfl⟩ := List.exists_cons_of_length_eq_add_one (l := l27) (n := 5) (by simpa using h)
  obtain ⟨c29, l29, rfl⟩ := List.exists_cons_of_length_eq_add_one (l := l28) (n := 4) (by simpa using h)
  obtain ⟨c30, l30, rfl⟩ := List.exists_cons_of_length_eq_add_one (l := l29) (n := 3) (by simpa using h)
  obtain ⟨c31, l31, rfl⟩ := List.exists_cons_of_length_eq_add_one (l := l30) (n := 2) (by simpa using h)
  obtain ⟨c32, l32, rfl⟩ := List.exists_cons_of_length_eq_add_one (l := l31) (n := 1) (by simpa using h)
  obtain ⟨c33, l33, rfl⟩ := List.exists_cons_of_length_eq_add_one (l := l32) (n := 0) (by simpa using h)
  have e : l33 = [] := by simpa using h
  subst e
  exact ⟨c0, c1, c2, c3, c4, c5, c6, c7, c8, c9, c10, c11, c12, c13, c14, c15, c16, c17, c18, c19, c20, c21, c22, c23, c24, c25, c26, c27, c28, c29, c30, c31, c32, c33, rfl⟩
theorem open_field {t : TypeId} {fs : Array Field} {fuel : Nat} {cs : List Value} {y : DataW H × List MemPlace} (ht : Try.prog.underlying t = some (.struct fs)) (h : DataW.trod enc Try.prog W base spare held fuel t cs = some y) (hw : Light t y.1)
    (i : Nat) (f : Field) (hf : fs[i]? = some f) : ∃ n z, DataW.trod enc Try.prog W base spare held n f.type ((cs.drop f.offset).take (Try.prog.cellsOf f.type)) = some z ∧ Light f.type z.1 := by
  obtain ⟨xs, n, _, hy, _, hlen, hfld⟩ := DataW.trod_struct ht h
  have hi : i < xs.length := by rw [hlen]; exact (Array.getElem?_eq_some_iff.1 hf).1
  refine ⟨n, xs[i], (hfld i f hf).trans (List.getElem?_eq_getElem hi), ?_⟩
  rw [hy] at hw
  exact hw.field ht hf (by rw [List.getElem?_map, List.getElem?_eq_getElem hi]; rfl)
theorem open_arr {t e : TypeId} {k fuel : Nat} {cs : List Value} {y : DataW H × List MemPlace} (ht : Try.prog.underlying t = some (.array k e)) (h : DataW.trod enc Try.prog W base spare held fuel t cs = some y) (hw : Light t y.1)
    (i : Nat) (hi : i < k) : ∃ n z, DataW.trod enc Try.prog W base spare held n e ((cs.drop (i * Try.prog.cellsOf e)).take (Try.prog.cellsOf e)) = some z ∧ Light e z.1 := by
  obtain ⟨xs, n, _, hy, _, hlen, hfld⟩ := DataW.trod_array ht h
  refine ⟨n, xs[i], (hfld i hi).trans (List.getElem?_eq_getElem (by omega)), ?_⟩
  rw [hy] at hw
  exact hw.part ht (List.mem_map.2 ⟨xs[i], List.getElem_mem _, rfl⟩)

theorem open_tb {fuel : Nat} {cs : List Value} {y : DataW H × List MemPlace} (h : DataW.trod enc Try.prog W base spare held fuel 55 cs = some y) (hw : Light 55 y.1) :
    ∃ (t : Tb) (v1 v2 v3 v4 v5 v6 : Value), cs = (tbC t.s t.grp v1 v2 v3 v4 v5 v6).toList ∧ TbS (fun b => b < W.heap.size) W t v1 v2 v3 v4 v5 v6 ∧ t.fit := by
  obtain ⟨_, _, _, _, hl, _, _⟩ := DataW.trod_struct Try.underlying55 h
  rw [cells55] at hl
  obtain ⟨c0, c1, c2, c3, c4, c5, c6, c7, c8, c9, c10, c11, c12, c13, c14, c15, c16, c17, c18, c19, c20, c21, c22, c23, c24, c25, c26, c27, c28, c29, c30, c31, c32, c33, rfl⟩ := list34 cs hl
  obtain ⟨n0, z0, t0, w0⟩ := open_field Try.underlying55 h hw 0 _ rfl
  obtain ⟨m0, y0, r0, l0⟩ := open_arr Try.underlying47 t0 w0 0 (by omega)
  obtain ⟨s0, e0, g0⟩ := open_s (v := c0) Try.underlying9 (by simpa [cells47, cells9] using r0) l0
  obtain ⟨m1, y1, r1, l1⟩ := open_arr Try.underlying47 t0 w0 1 (by omega)
  obtain ⟨s1, e1, g1⟩ := open_s (v := c1) Try.underlying9 (by simpa [cells47, cells9] using r1) l1
  obtain ⟨m2, y2, r2, l2⟩ := open_arr Try.underlying47 t0 w0 2 (by omega)
  obtain ⟨s2, e2, g2⟩ := open_s (v := c2) Try.underlying9 (by simpa [cells47, cells9] using r2) l2
  obtain ⟨m3, y3, r3, l3⟩ := open_arr Try.underlying47 t0 w0 3 (by omega)
  obtain ⟨s3, e3, g3⟩ := open_s (v := c3) Try.underlying9 (by simpa [cells47, cells9] using r3) l3
  obtain ⟨m4, y4, r4, l4⟩ := open_arr Try.underlying47 t0 w0 4 (by omega)
  obtain ⟨s4, e4, g4⟩ := open_s (v := c4) Try.underlying9 (by simpa [cells47, cells9] using r4) l4
  obtain ⟨m5, y5, r5, l5⟩ := open_arr Try.underlying47 t0 w0 5 (by omega)
  obtain ⟨s5, e5, g5⟩ := open_s (v := c5) Try.underlying9 (by simpa [cells47, cells9] using r5) l5
  obtain ⟨m6, y6, r6, l6⟩ := open_arr Try.underlying47 t0 w0 6 (by omega)
  obtain ⟨s6, e6, g6⟩ := open_s (v := c6) Try.underlying9 (by simpa [cells47, cells9] using r6) l6
  obtain ⟨m7, y7, r7, l7⟩ := open_arr Try.underlying47 t0 w0 7 (by omega)
  obtain ⟨s7, e7, g7⟩ := open_s (v := c7) Try.underlying9 (by simpa [cells47, cells9] using r7) l7
  obtain ⟨m8, y8, r8, l8⟩ := open_arr Try.underlying47 t0 w0 8 (by omega)
  obtain ⟨s8, e8, g8⟩ := open_s (v := c8) Try.underlying9 (by simpa [cells47, cells9] using r8) l8
  obtain ⟨m9, y9, r9, l9⟩ := open_arr Try.underlying47 t0 w0 9 (by omega)
  obtain ⟨s9, e9, g9⟩ := open_s (v := c9) Try.underlying9 (by simpa [cells47, cells9] using r9) l9
  obtain ⟨k1, x1, t1, w1⟩ := open_field Try.underlying55 h hw 1 _ rfl
  obtain ⟨s10, e10, g10⟩ := open_s (v := c10) Try.underlying9 (by simpa [cells9] using t1) w1
  obtain ⟨k2, x2, t2, w2⟩ := open_field Try.underlying55 h hw 2 _ rfl
  obtain ⟨s11, e11, g11⟩ := open_s (v := c11) Try.underlying9 (by simpa [cells9] using t2) w2
  obtain ⟨k3, x3, t3, w3⟩ := open_field Try.underlying55 h hw 3 _ rfl
  obtain ⟨s12, e12, g12⟩ := open_s (v := c12) Try.underlying9 (by simpa [cells9] using t3) w3
  obtain ⟨k4, x4, t4, w4⟩ := open_field Try.underlying55 h hw 4 _ rfl
  obtain ⟨s13, e13, g13⟩ := open_s (v := c13) Try.underlying9 (by simpa [cells9] using t4) w4
  obtain ⟨k5, x5, t5, w5⟩ := open_field Try.underlying55 h hw 5 _ rfl
  obtain ⟨s14, e14, g14⟩ := open_s (v := c14) Try.underlying9 (by simpa [cells9] using t5) w5
  obtain ⟨k6, x6, t6, w6⟩ := open_field Try.underlying55 h hw 6 _ rfl
  obtain ⟨s15, e15, g15⟩ := open_s (v := c15) Try.underlying9 (by simpa [cells9] using t6) w6
  obtain ⟨k7, x7, t7, w7⟩ := open_field Try.underlying55 h hw 7 _ rfl
  obtain ⟨grp, e16, hgrp⟩ := open_i (v := c16) Try.underlying3 (by simpa [cells3] using t7)
  obtain ⟨k8, x8, t8, w8⟩ := open_field Try.underlying55 h hw 8 _ rfl
  obtain ⟨s16, e17, g16⟩ := open_s (v := c17) Try.underlying9 (by simpa [cells9] using t8) w8
  obtain ⟨k9, x9, t9, w9⟩ := open_field Try.underlying55 h hw 9 _ rfl
  obtain ⟨s17, e18, g17⟩ := open_s (v := c18) Try.underlying9 (by simpa [cells9] using t9) w9
  obtain ⟨k10, x10, t10, w10⟩ := open_field Try.underlying55 h hw 10 _ rfl
  obtain ⟨s18, e19, g18⟩ := open_s (v := c19) Try.underlying9 (by simpa [cells9] using t10) w10
  obtain ⟨k11, x11, t11, w11⟩ := open_field Try.underlying55 h hw 11 _ rfl
  obtain ⟨s19, e20, g19⟩ := open_s (v := c20) Try.underlying9 (by simpa [cells9] using t11) w11
  obtain ⟨k12, x12, t12, w12⟩ := open_field Try.underlying55 h hw 12 _ rfl
  obtain ⟨s20, e21, g20⟩ := open_s (v := c21) Try.underlying9 (by simpa [cells9] using t12) w12
  obtain ⟨k13, x13, t13, w13⟩ := open_field Try.underlying55 h hw 13 _ rfl
  obtain ⟨q_short, h_short, f_short⟩ := open_rws (v := c22) (by simpa [cells48] using t13) w13
  obtain ⟨k14, x14, t14, w14⟩ := open_field Try.underlying55 h hw 14 _ rfl
  obtain ⟨q_long, h_long, f_long⟩ := open_rws (v := c23) (by simpa [cells48] using t14) w14
  obtain ⟨k15, x15, t15, w15⟩ := open_field Try.underlying55 h hw 15 _ rfl
  obtain ⟨q_mshort, h_mshort, f_mshort⟩ := open_rws (v := c24) (by simpa [cells48] using t15) w15
  obtain ⟨k16, x16, t16, w16⟩ := open_field Try.underlying55 h hw 16 _ rfl
  obtain ⟨q_curs, h_curs, f_curs⟩ := open_cus (v := c25) (by simpa [cells49] using t16) w16
  obtain ⟨k17, x17, t17, w17⟩ := open_field Try.underlying55 h hw 17 _ rfl
  obtain ⟨q_units, h_units, f_units⟩ := open_uns (v := c26) (by simpa [cells50] using t17) w17
  obtain ⟨k18, x18, t18, w18⟩ := open_field Try.underlying55 h hw 18 _ rfl
  obtain ⟨q_munit, h_munit, f_munit⟩ := open_txs (v := c27) (by simpa [cells51] using t18) w18
  obtain ⟨k19, x19, t19, w19⟩ := open_field Try.underlying55 h hw 19 _ rfl
  obtain ⟨k190, x190, t190, w190⟩ := open_field Try.underlying53 t19 w19 0 _ rfl
  obtain ⟨s21, e28, g21⟩ := open_s (v := c28) Try.underlying9 (by simpa [cells53, cells9] using t190) w190
  obtain ⟨k191, x191, t191, w191⟩ := open_field Try.underlying53 t19 w19 1 _ rfl
  obtain ⟨s22, e29, g22⟩ := open_s (v := c29) Try.underlying9 (by simpa [cells53, cells9] using t191) w191
  obtain ⟨k192, x192, t192, w192⟩ := open_field Try.underlying53 t19 w19 2 _ rfl
  obtain ⟨s23, e30, g23⟩ := open_s (v := c30) Try.underlying9 (by simpa [cells53, cells9] using t192) w192
  obtain ⟨k20, x20, t20, w20⟩ := open_field Try.underlying55 h hw 20 _ rfl
  obtain ⟨k200, x200, t200, w200⟩ := open_field Try.underlying53 t20 w20 0 _ rfl
  obtain ⟨s24, e31, g24⟩ := open_s (v := c31) Try.underlying9 (by simpa [cells53, cells9] using t200) w200
  obtain ⟨k201, x201, t201, w201⟩ := open_field Try.underlying53 t20 w20 1 _ rfl
  obtain ⟨s25, e32, g25⟩ := open_s (v := c32) Try.underlying9 (by simpa [cells53, cells9] using t201) w201
  obtain ⟨k202, x202, t202, w202⟩ := open_field Try.underlying53 t20 w20 2 _ rfl
  obtain ⟨s26, e33, g26⟩ := open_s (v := c33) Try.underlying9 (by simpa [cells53, cells9] using t202) w202
  subst e0 e1 e2 e3 e4 e5 e6 e7 e8 e9 e10 e11 e12 e13 e14 e15 e16 e17 e18 e19 e20 e21 e28 e29 e30 e31 e32 e33
  refine ⟨⟨fun i => (([s0, s1, s2, s3, s4, s5, s6, s7, s8, s9, s10, s11, s12, s13, s14, s15, s16, s17, s18, s19, s20, s21, s22, s23, s24, s25, s26] : List ByteArray)[i]?).getD ⟨#[]⟩, grp, q_short, q_long, q_mshort, q_curs, q_units, q_munit⟩, c22, c23, c24, c25, c26, c27, rfl, ⟨h_short, h_long, h_mshort, h_curs, h_units, h_munit⟩, ⟨fun i => ?_, hgrp, f_short, f_long, f_mshort, f_curs, f_units, f_munit⟩⟩
  have hall : ∀ s ∈ ([s0, s1, s2, s3, s4, s5, s6, s7, s8, s9, s10, s11, s12, s13, s14, s15, s16, s17, s18, s19, s20, s21, s22, s23, s24, s25, s26] : List ByteArray), s.size ≤ 9223372036854775807 := by
    intro s hs
    simp only [List.mem_cons, List.not_mem_nil, or_false] at hs
    rcases hs with rfl|rfl|rfl|rfl|rfl|rfl|rfl|rfl|rfl|rfl|rfl|rfl|rfl|rfl|rfl|rfl|rfl|rfl|rfl|rfl|rfl|rfl|rfl|rfl|rfl|rfl|rfl <;> omega
  show ((([s0, s1, s2, s3, s4, s5, s6, s7, s8, s9, s10, s11, s12, s13, s14, s15, s16, s17, s18, s19, s20, s21, s22, s23, s24, s25, s26] : List ByteArray)[i]?).getD ⟨#[]⟩).size ≤ _
  cases hi : ([s0, s1, s2, s3, s4, s5, s6, s7, s8, s9, s10, s11, s12, s13, s14, s15, s16, s17, s18, s19, s20, s21, s22, s23, s24, s25, s26] : List ByteArray)[i]? with
  | none => exact Nat.zero_le _
  | some s => exact hall s (List.mem_of_getElem? hi)
end
end Go.Proofs.Ytikkakbemphdhaa
