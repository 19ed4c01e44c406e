/- The walks of the list of currencies. -/
import Derived.Test.YtikkakbemphdhaaTd4
set_option linter.unusedSimpArgs false
set_option linter.unusedVariables false
namespace Go.Proofs.Ytikkakbemphdhaa
open Go.RowKit Go.Fl

theorem Try.info64 : (Try.prog.info? 64).map (fun i => (i.zero, i.size, i.bytes)) = some (some (.agg #[.string ⟨#[]⟩, .string ⟨#[]⟩, .string ⟨#[]⟩, .slice none 0 0, .int .i64 0, .int .i64 0, .int .i64 0, .int .i64 0]), 8, 104) := by kernel_rfl
theorem cus_of {base : Nat} {W : World} {v : Value} {xs : List Cu} (h : OwnOf 8 64 CuR base W v xs) : Cus (fun b => base ≤ b) W v xs := by
  refine h.slice fun g o x c hc hl hr => ?_
  obtain ⟨tv, rfl, ht⟩ := hr
  exact ⟨hc 0 (by omega), hc 1 (by omega), hc 2 (by omega), hc 4 (by omega), hc 5 (by omega), hc 6 (by omega), hc 7 (by omega), tv, hc 3 (by omega), ht.mono (fun b _ h => h.1)⟩
set_option maxRecDepth 100000 in
set_option maxHeartbeats 800000 in
theorem listCu_any (g gb : Nat) (s : ByteArray) (st : Option Nat) (w : World) (hR : IsRd w g s st) (hs : s.size ≤ 140737488355328) (hb : w.heap[gb]? = some (.cells #[.pointer (some ⟨g, 0, none⟩)] 35 (0, 0))) (hbg : gb ≠ g) (hg : g < w.heap.size) :
    Calls Try.prog 40 #[.pointer (some ⟨g, 0, none⟩), .func (.func 41) #[] #[.pointer (some ⟨gb, 0, none⟩)]] w (ListPost Cus g s (rdCus s.data.toList st) w) := by
  obtain ⟨i0, hi, hz0, hz1, hz2⟩ := info_parts Try.info64
  have HR := Lib.hid hR
  have HB := Lib.hid hb
  clear hR hb
  go_enter Try.func40, Try.ntmps40
  go_wp2_with fail
  refine (rCount_any g s st 65536 _ HR.out hs).mono ?_
  rintro e w1 ⟨rfl, hR1, hK1⟩
  have HR1 := Lib.hid hR1
  have HK1 := Lib.hid hK1
  have hn0 := count_le s.data.toList st
  have HQ : Hid (rdCus s.data.toList st = rdList (rdCu s.data.toList) (Rd.count s.data.toList st 65536).1 (Rd.count s.data.toList st 65536).2) := Lib.hid rfl
  clear hR1 hK1
  generalize rdCus s.data.toList st = Q at *
  generalize (Rd.count s.data.toList st 65536).1 = n0 at *
  generalize (Rd.count s.data.toList st 65536).2 = st1 at *
  go_wp2
  go_loopg [5, 6] n0 (fun gk v u wr => ∃ (acc : List Cu) (stc : Option Nat), u = .int .i64 gk ∧ acc.length + gk ≤ 65536 ∧ Hid (Q = (acc ++ (rdList (rdCu s.data.toList) gk stc).1, (rdList (rdCu s.data.toList) gk stc).2)) ∧
    Hid (OwnOf 8 64 CuR w.heap.size wr v acc) ∧ Hid (IsRd wr g s stc) ∧ Hid (Kept w wr (· = g)))
  case atStart => exact ⟨[], st1, rfl, by simp; omega, HQ, Lib.hid OwnOf.nil, HR1, HK1⟩
  case round =>
    clear HQ HR1 HK1
    obtain ⟨acc, stc, rfl, hle, HQ, HO, HR1, HK1⟩ := hrel
    by_cases hj : 0 < gk
    · obtain ⟨k, rfl⟩ : ∃ k, gk = k + 1 := ⟨gk - 1, by omega⟩
      cases stc with
      | none =>
        go_wp2_with fail
        refine (rOK_any g s none _ HR1.out).mono ?_
        rintro e w2 ⟨rfl, rfl⟩
        rw [show (none : Option Nat).isSome = false by rfl]
        rw [rdList_none, List.append_nil] at HQ
        go_wp2
        go_ret
        exact ⟨_, rfl, Lib.hid (by rw [HQ.out]; exact cus_of HO.out), Lib.hid (by rw [HQ.out]; exact HR1.out), HK1⟩
      | some a =>
        go_wp2_with fail
        refine (rOK_any g s (some a) _ HR1.out).mono ?_
        rintro e w2 ⟨rfl, rfl⟩
        rw [show (some a).isSome = true by rfl]
        go_wp2_with fail
        refine (oneCu_any g gb s (some a) _ HR1.out hs (HK1.out.heap HB.out hbg) hbg (Nat.lt_of_lt_of_le hg HK1.out.size)).mono ?_
        rintro e w2 ⟨ta, tc, rfl, hT2, hR2, hK2⟩
        have hbs : w.heap.size ≤ w2.heap.size := Nat.le_trans HK1.out.size hK2.size
        have hT3 := hT2.mono (P' := fun b => w.heap.size ≤ b ∧ some b ≠ u5.ownBlock) (fun b _ h => ⟨Nat.le_trans HK1.out.size h, fun e => by have h2 := HO.out.lt b e.symm; omega⟩)
        have HO2 := Lib.hid (HO.out.kept CuR.stable hK2 (fun b hb e => by omega))
        have HR2 := Lib.hid hR2
        have HK2 := Lib.hid (HK1.out.trans hK2 (fun _ _ h => h))
        have HQ2 : Hid (Q = (acc ++ [(rdCu s.data.toList (some a)).1] ++ (rdList (rdCu s.data.toList) k (rdCu s.data.toList (some a)).2).1, (rdList (rdCu s.data.toList) k (rdCu s.data.toList (some a)).2).2)) :=
          Lib.hid (HQ.out.trans (by rw [List.append_assoc]; rfl))
        clear hR2 hK2 HO HQ HR1 HK1 hT2
        generalize (rdCu s.data.toList (some a)).2 = st2 at *
        generalize (rdCu s.data.toList (some a)).1 = x at *
        obtain ⟨cs, hl, hown, hc⟩ := HO2.out
        have HC := Lib.hid hc
        have HW := Lib.hid hown
        have HL := Lib.hid hl
        clear hc hown hl HO2
        have HT := Lib.hid hT3
        clear hT3
        go_wp2_with (at_builtin; (refine wpList_append_own_at _ rfl _ _ 49 rfl w.heap.size 64 i0 (.agg #[.string ⟨#[]⟩, .string ⟨#[]⟩, .string ⟨#[]⟩, .slice none 0 0, .int .i64 0, .int .i64 0, .int .i64 0, .int .i64 0]) 8 104 Try.underlying49 hi hz0 hz1 hz2 rfl (by omega) _ _ _ rfl (HW.out.alloc _) ⟨w2.heap.size, 0, none⟩ 1 1 [.string x.code, .string x.sym, .string x.nar, .slice ta x.names.length tc, .int .i64 x.d0, .int .i64 x.d1, .int .i64 x.d2, .int .i64 x.d3] rfl rfl (cells_news (heap_alloc_new w2 (.cells #[.string x.code, .string x.sym, .string x.nar, .slice ta x.names.length tc, .int .i64 x.d0, .int .i64 x.d1, .int .i64 x.d2, .int .i64 x.d3] 64)) rfl) (by intro u hu; simp at hu; rcases hu with h|h|h|h|h|h|h|h <;> subst h <;> rfl) (by unfold maxLen; omega) (by omega) (by simp; omega) ?_); intro v' w3 hown' hgrow hnil hat; have HOW := Lib.hid hown'; have HG := Lib.hid hgrow; have HA := Lib.hid hat; clear hown' hgrow hat hnil)
        go_roundg k
        case measure => omega
        case rel =>
          refine ⟨acc ++ [x], st2, by go_num, by rw [List.length_append]; simp only [List.length_cons, List.length_nil]; omega, HQ2, Lib.hid ?_, Lib.hid ?_, Lib.hid ?_⟩
          · exact OwnOf.push (W := w2.alloc (.cells #[.string x.code, .string x.sym, .string x.nar, .slice ta x.names.length tc, .int .i64 x.d0, .int .i64 x.d1, .int .i64 x.d2, .int .i64 x.d3] 64)) CuR.stable HL.out (fun i h h' => ⟨(HC.out i h h').1, CuR.stable.same _ _ _ _ _ (Same.below ((Below.refl _ _).alloc (Nat.le_refl _) _)) (HC.out i h h').2⟩) rfl ⟨_, rfl, HT.out.same (Same.below ((Below.refl _ _).alloc (Nat.le_refl _) _))⟩ HOW.out HG.out HA.out
          · exact (HR2.out.kept ((Kept.refl w2 (fun _ => False)).alloc _) id).kept (grown_kept HG.out) (fun e => by have := (HW.out.lt g e.symm).1; omega)
          · exact (HK2.out.trans ((Kept.refl w2 (fun _ => False)).alloc _) (fun _ _ h => h.elim)).trans (grown_kept HG.out) (fun k hk e => by have := (HW.out.lt k e.symm).1; omega)
    · obtain rfl : gk = 0 := by omega
      rw [rdList_zero, List.append_nil] at HQ
      go_wp2
      go_ret
      exact ⟨_, rfl, Lib.hid (by rw [HQ.out]; exact cus_of HO.out), Lib.hid (by rw [HQ.out]; exact HR1.out), HK1⟩
end Go.Proofs.Ytikkakbemphdhaa
