/- The walk of readTexts and its list. -/
import Derived.Test.YtikkakbemphdhaaTd1
set_option linter.unusedSimpArgs false
set_option linter.unusedVariables false
namespace Go.Proofs.Ytikkakbemphdhaa
open Go.RowKit Go.Fl

theorem Try.info98 : (Try.prog.info? 98).map (fun i => (i.zero, i.size, i.bytes)) = some (some (.agg #[.int .i64 0, .string ⟨#[]⟩]), 2, 24) := by kernel_rfl

theorem txs_of {base : Nat} {W : World} {v : Value} {xs : List Tx} (h : OwnOf 2 98 TxR base W v xs) : Txs (fun b => base ≤ b) W v xs := by
  refine h.slice fun g o x c hc hl hr => ?_
  have hr' : c = [.int .i64 x.cat, .string x.s] := hr
  subst hr'
  exact ⟨hc 0 (by omega), hc 1 (by omega)⟩
theorem count_le (l : List UInt8) (st : Option Nat) : (Rd.count l st 65536).1 ≤ 65536 := by
  unfold Rd.count
  split
  · rename_i h; omega
  · omega
theorem cells_news {W : World} {g : Nat} {cs : Array Value} {ty : TypeId} {fr : Nat × Nat} (h : W.heap[g]? = some (.cells cs ty fr)) {l : List Value} (hl : l = cs.toList) :
    ∀ j u, l[j]? = some u → W.cell? ((⟨g, 0, none⟩ : Addr).add j) = some u := by
  intro j u hu
  subst hl
  have ha : (⟨g, 0, none⟩ : Addr).add j = ⟨g, j, none⟩ := by unfold Addr.add; split <;> simp_all
  rw [ha]
  exact cell_of h (by rw [← Array.getElem?_toList]; exact hu)

theorem grown_kept {w w' : World} {r : Option Nat} (h : w.grownBy w' r) : Kept w w' (fun k => some k = r) := ⟨h.os, h.tape, h.output, h.size, fun k hk hn => h.block k hk hn⟩
def ListPost {α : Type} (T : (Nat → Prop) → World → Value → List α → Prop) (g : Nat) (s : ByteArray) (q : List α × Option Nat) (w : World) (e : Ending) (w' : World) : Prop :=
  ∃ v, e = .returned v ∧ Hid (T (fun b => w.heap.size ≤ b) w' v q.1) ∧ Hid (IsRd w' g s q.2) ∧ Hid (Kept w w' (· = g))

set_option maxRecDepth 100000 in
set_option maxHeartbeats 800000 in
theorem listTx_any (g gb : Nat) (s : ByteArray) (st : Option Nat) (w : World) (hR : IsRd w g s st) (hs : s.size ≤ 140737488355328) (hb : w.heap[gb]? = some (.cells #[.pointer (some ⟨g, 0, none⟩)] 35 (0, 0))) (hbg : gb ≠ g) (hg : g < w.heap.size) :
    Calls Try.prog 58 #[.pointer (some ⟨g, 0, none⟩), .func (.func 59) #[] #[.pointer (some ⟨gb, 0, none⟩)]] w (ListPost Txs g s (rdTxs s.data.toList st) w) := by
  obtain ⟨i0, hi, hz0, hz1, hz2⟩ := info_parts Try.info98
  have HR := Lib.hid hR
  have HB := Lib.hid hb
  clear hR hb
  go_enter Try.func58, Try.ntmps58
  go_wp2_with fail
  refine (rCount_any g s st 65536 _ HR.out hs).mono ?_
  rintro e w1 ⟨rfl, hR1, hK1⟩
  have HR1 := Lib.hid hR1
  have HK1 := Lib.hid hK1
  have hn0 := count_le s.data.toList st
  have HQ : Hid (rdTxs s.data.toList st = rdList (rdTx s.data.toList) (Rd.count s.data.toList st 65536).1 (Rd.count s.data.toList st 65536).2) := Lib.hid rfl
  clear hR1 hK1
  generalize rdTxs s.data.toList st = Q at *
  generalize (Rd.count s.data.toList st 65536).1 = n0 at *
  generalize (Rd.count s.data.toList st 65536).2 = st1 at *
  go_wp2
  go_loopg [5, 6] n0 (fun gk v u wr => ∃ (acc : List Tx) (stc : Option Nat), u = .int .i64 gk ∧ acc.length + gk ≤ 65536 ∧ Hid (Q = (acc ++ (rdList (rdTx s.data.toList) gk stc).1, (rdList (rdTx s.data.toList) gk stc).2)) ∧
    Hid (OwnOf 2 98 TxR w.heap.size wr v acc) ∧ Hid (IsRd wr g s stc) ∧ Hid (Kept w wr (· = g)))
  case atStart => exact ⟨[], st1, rfl, by simp; omega, HQ, Lib.hid OwnOf.nil, HR1, HK1⟩
  case round =>
    clear HQ HR1 HK1
    obtain ⟨acc, stc, rfl, hle, HQ, HO, HR1, HK1⟩ := hrel
    by_cases hj : 0 < gk
    · obtain ⟨k, rfl⟩ : ∃ k, gk = k + 1 := ⟨gk - 1, by omega⟩
      cases stc with
      | none =>
        go_wp2_with fail
        refine (rOK_any g s none _ HR1.out).mono ?_
        rintro e w2 ⟨rfl, rfl⟩
        rw [show (none : Option Nat).isSome = false by rfl]
        rw [rdList_none, List.append_nil] at HQ
        go_wp2
        go_ret
        exact ⟨_, rfl, Lib.hid (by rw [HQ.out]; exact txs_of HO.out), Lib.hid (by rw [HQ.out]; exact HR1.out), HK1⟩
      | some a =>
        go_wp2_with fail
        refine (rOK_any g s (some a) _ HR1.out).mono ?_
        rintro e w2 ⟨rfl, rfl⟩
        rw [show (some a).isSome = true by rfl]
        go_wp2_with fail
        refine (oneTx_any g gb s (some a) _ HR1.out hs (HK1.out.heap HB.out hbg) hbg (Nat.lt_of_lt_of_le hg HK1.out.size)).mono ?_
        rintro e w2 ⟨rfl, hR2, hK2⟩
        have hbs : w.heap.size ≤ w2.heap.size := Nat.le_trans HK1.out.size hK2.size
        have HO2 := Lib.hid (HO.out.kept TxR.stable hK2 (fun b hb e => by omega))
        have HR2 := Lib.hid hR2
        have HK2 := Lib.hid (HK1.out.trans hK2 (fun _ _ h => h))
        have HQ2 : Hid (Q = (acc ++ [(rdTx s.data.toList (some a)).1] ++ (rdList (rdTx s.data.toList) k (rdTx s.data.toList (some a)).2).1, (rdList (rdTx s.data.toList) k (rdTx s.data.toList (some a)).2).2)) :=
          Lib.hid (HQ.out.trans (by rw [List.append_assoc]; rfl))
        clear hR2 hK2 HO HQ HR1 HK1
        generalize (rdTx s.data.toList (some a)).2 = st2 at *
        generalize (rdTx s.data.toList (some a)).1 = x at *
        obtain ⟨cs, hl, hown, hc⟩ := HO2.out
        have HC := Lib.hid hc
        have HW := Lib.hid hown
        have HL := Lib.hid hl
        clear hc hown hl HO2
        go_wp2_with (at_builtin; (refine wpList_append_own_at _ rfl _ _ 51 rfl w.heap.size 98 i0 (.agg #[.int .i64 0, .string ⟨#[]⟩]) 2 24 Try.underlying51 hi hz0 hz1 hz2 rfl (by omega) _ _ _ rfl (HW.out.alloc _) ⟨w2.heap.size, 0, none⟩ 1 1 [.int .i64 x.cat, .string x.s] rfl rfl (cells_news (heap_alloc_new w2 (.cells #[.int .i64 x.cat, .string x.s] 98)) rfl) (by intro u hu; simp at hu; rcases hu with h|h <;> subst h <;> rfl) (by unfold maxLen; omega) (by omega) (by simp; omega) ?_); intro v' w3 hown' hgrow hnil hat; have HOW := Lib.hid hown'; have HG := Lib.hid hgrow; have HA := Lib.hid hat; clear hown' hgrow hat hnil)
        go_roundg k
        case measure => omega
        case rel =>
          refine ⟨acc ++ [x], st2, by go_num, by rw [List.length_append]; simp only [List.length_cons, List.length_nil]; omega, HQ2, Lib.hid ?_, Lib.hid ?_, Lib.hid ?_⟩
          · exact OwnOf.push (W := w2.alloc (.cells #[.int .i64 x.cat, .string x.s] 98)) TxR.stable HL.out (fun i h h' => HC.out i h h') rfl rfl HOW.out HG.out HA.out
          · exact (HR2.out.kept ((Kept.refl w2 (fun _ => False)).alloc _) id).kept (grown_kept HG.out) (fun e => by have := (HW.out.lt g e.symm).1; omega)
          · exact (HK2.out.trans ((Kept.refl w2 (fun _ => False)).alloc _) (fun _ _ h => h.elim)).trans (grown_kept HG.out) (fun k hk e => by have := (HW.out.lt k e.symm).1; omega)
    · obtain rfl : gk = 0 := by omega
      rw [rdList_zero, List.append_nil] at HQ
      go_wp2
      go_ret
      exact ⟨_, rfl, Lib.hid (by rw [HQ.out]; exact txs_of HO.out), Lib.hid (by rw [HQ.out]; exact HR1.out), HK1⟩

set_option maxRecDepth 100000 in
set_option maxHeartbeats 800000 in
theorem readTexts_any (g : Nat) (s : ByteArray) (st : Option Nat) (w : World) (hR : IsRd w g s st) (hs : s.size ≤ 140737488355328) (hg : g < w.heap.size) :
    Calls Try.prog 42 #[.pointer (some ⟨g, 0, none⟩)] w (ListPost Txs g s (rdTxs s.data.toList st) w) := by
  have HR := Lib.hid hR
  clear hR
  go_enter Try.func42, Try.ntmps42
  go_wp2_with fail
  refine (listTx_any g w.heap.size s st _ (HR.out.kept ((Kept.refl w (fun _ => False)).alloc _) id) hs (heap_alloc_new w _) (by omega) (by simp; omega)).mono ?_
  rintro e w1 ⟨v, rfl, hT, hR1, hK1⟩
  go_wp2
  go_ret
  exact ⟨v, rfl, Lib.hid (hT.out.mono (fun b _ h => by simp at h; omega)), hR1, Lib.hid (((Kept.refl w (· = g)).alloc _).trans hK1.out (fun _ _ h => h))⟩
end Go.Proofs.Ytikkakbemphdhaa
