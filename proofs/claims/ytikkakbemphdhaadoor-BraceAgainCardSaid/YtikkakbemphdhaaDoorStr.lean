/- The walk of Brace.String. -/
import Derived.Test.YtikkakbemphdhaaDoorOrder
import Derived.Test.YtikkakbemphdhaaDoorPure2
import Derived.Deep.LoopGhost
set_option linter.unusedSimpArgs false
set_option linter.unusedVariables false
namespace Go.Proofs.YtikkakbemphdhaaDoor
open Go.RowKit Go.Fl Go.Shelf

def strV (t : List UInt8) : Value := .string ⟨t.toArray⟩
/-- the texts of a slice, in a world. -/
def Strs (W : World) (a : Option Addr) (l : List (List UInt8)) : Prop :=
  ∀ i, (h : i < l.length) → ∃ b off, a = some ⟨b, off, none⟩ ∧ b < W.heap.size ∧ W.cell? ⟨b, off + i, none⟩ = some (strV l[i])
/-- the numbers of a slice, in a world. -/
def Nats (W : World) (a : Option Addr) (l : List Nat) : Prop :=
  ∀ i, (h : i < l.length) → ∃ b off, a = some ⟨b, off, none⟩ ∧ b < W.heap.size ∧ W.cell? ⟨b, off + i, none⟩ = some (.int .i64 (l[i] : Nat))
theorem Strs.below {w w' : World} {a : Option Addr} {l : List (List UInt8)} (h : Strs w a l) (hb : Below w.heap.size w w') : Strs w' a l := fun i hi => by
  obtain ⟨b, off, rfl, hlt, hc⟩ := h i hi
  exact ⟨b, off, rfl, Nat.lt_of_lt_of_le hlt hb.size, (hb.cell (p := ⟨b, off + i, none⟩) hlt).trans hc⟩
theorem Nats.below {w w' : World} {a : Option Addr} {l : List Nat} (h : Nats w a l) (hb : Below w.heap.size w w') : Nats w' a l := fun i hi => by
  obtain ⟨b, off, rfl, hlt, hc⟩ := h i hi
  exact ⟨b, off, rfl, Nat.lt_of_lt_of_le hlt hb.size, (hb.cell (p := ⟨b, off + i, none⟩) hlt).trans hc⟩

theorem enc_dig (k : Nat) (hk : k < 10) : Utf8.encode (48 + (k : Int)) = ⟨#[dg k]⟩ := by
  match k, hk with
  | 0, _ => rfl
  | 1, _ => rfl
  | 2, _ => rfl
  | 3, _ => rfl
  | 4, _ => rfl
  | 5, _ => rfl
  | 6, _ => rfl
  | 7, _ => rfl
  | 8, _ => rfl
  | 9, _ => rfl
  | n + 10, h => omega


theorem pl_text (k : Nat) : ((⟨#[123]⟩ : ByteArray) ++ ⟨#[dg k]⟩ ++ ⟨#[125]⟩).data.toList = Br.pl k := by
  rw [ByteArray.data_append, ByteArray.data_append]
  rfl
theorem two2 {W : World} {b t : Nat} {x y : Value} (h : W.heap[b]? = some (.cells #[x, y] t (0, 0))) :
    W.cell? ⟨b, 0, none⟩ = some x ∧ W.cell? ⟨b, 1, none⟩ = some y ∧ W.frozen? ⟨b, 0, none⟩ = false ∧ W.frozen? ⟨b, 1, none⟩ = false := by
  refine ⟨?_, ?_, ?_, ?_⟩
  · simp [World.cell?, h]
  · simp [World.cell?, h]
  · simp [World.frozen?, h]
  · simp [World.frozen?, h]

theorem IsB.ge {W : World} {base b : Nat} {r : Option Nat} {l : List UInt8} (h : IsB W base b r l) : base ≤ W.heap.size ∧ ∀ k, k < base → ¬ (k = b ∨ some k = r) := by
  obtain ⟨hbg, p, v, hg, hp, hv, hown, hnil⟩ := h
  have := lt_of_heap hg
  refine ⟨by omega, fun k hk h => ?_⟩
  rcases h with h | h
  · omega
  · have := (hown.lt k (hv.trans h.symm)).1
    omega
/-- what stands below a Builder stays. -/
theorem IsB.keeps {W W' : World} {base b : Nat} {r : Option Nat} {l : List UInt8} (h : IsB W base b r l) (hK : Kept W W' (fun k => k = b ∨ some k = r)) : Below base W W' := hK.below h.ge.1 h.ge.2

set_option maxRecDepth 100000 in
set_option maxHeartbeats 800000 in
theorem string_any (ta pa : Option Addr) (tc pc : Nat) (ts : List (List UInt8)) (ps : List Nat) (w : World) (ht : Strs w ta ts) (hp : Nats w pa ps) (h10 : ∀ p ∈ ps, p < 10) (hsz : (Br.disp ts ps).length ≤ 1000000) (htl : ts.length ≤ 1000000) (hpl : ps.length ≤ 1000000) :
    Calls Tryd.prog 11 #[.agg #[.slice ta ts.length tc, .slice pa ps.length pc]] w fun e w' => e = .returned (strV (Br.disp ts ps)) ∧ Below w.heap.size w w' := by
  have HT := Lib.hid ht
  have HP := Lib.hid hp
  have H10 := Lib.hid h10
  clear ht hp h10
  go_enter Tryd.func11, Tryd.ntmps11
  go_wp2
  go_loopg [4, 5, 9] ts.length (fun gk a b v wr => ∃ (i : Nat) (acc : List UInt8) (r : Option Nat), v = .int .i64 i ∧ Hid (i + gk = ts.length) ∧ i ≤ ts.length ∧ Hid (acc ++ Br.disp (ts.drop i) (ps.drop i) = Br.disp ts ps) ∧ Hid (IsB wr (w.heap.size + 1) (w.heap.size + 1) r acc) ∧ Hid (wr.heap[w.heap.size]? = some (.cells #[.slice ta ts.length tc, .slice pa ps.length pc] 29 (0, 0))) ∧ Hid (Below w.heap.size w wr))
  case atStart =>
    refine ⟨0, [], none, rfl, Lib.hid (by omega), by omega, Lib.hid (by simp), Lib.hid ?_, Lib.hid ?_, Lib.hid ?_⟩
    · have h := isB_new (w.alloc (.cells #[.slice ta ts.length tc, .slice pa ps.length pc] 29))
      simpa using h
    · rw [Below.heap_alloc _ _ _ (by simp)]; exact heap_alloc_new w _
    · exact ((Below.refl _ _).alloc (Nat.le_refl _) _).alloc (by simp) _
  case round =>
    obtain ⟨i, acc, r, rfl, hig, hil, hd, hB, hbx, hbr⟩ := hrel
    by_cases hi : i < ts.length
    · obtain ⟨tb, tf, rfl, htlt, htc⟩ := HT.out i hi
      have Hbr := hbr
      have ht2 : wr.cell? ⟨tb, tf + i, none⟩ = some (strV ts[i]) := (hbr.out.cell (p := ⟨tb, tf + i, none⟩) htlt).trans htc
      obtain ⟨hb0, hb1, hb2, hb3⟩ := two2 hbx.out
      unfold strV at ht2
      by_cases hip : i < ps.length
      · have H := Lib.hid (Br.disp_step_p hi hip)
        obtain ⟨pb, pf, rfl, hplt, hpc⟩ := HP.out i hip
        have hpl : ps[i] < 10 := H10.out _ (List.getElem_mem hip)
        have hlen : acc.length + (ts[i].length + (3 + (Br.disp (ts.drop (i + 1)) (ps.drop (i + 1))).length)) ≤ 1000000 := by
          have h := congrArg List.length hd.out
          rw [H.out] at h
          simp only [List.length_append, Br.pl, List.length_cons, List.length_nil] at h
          omega
        go_wp2_with fail
        refine (bWrite_any (w.heap.size + 1) (w.heap.size + 1) r acc ⟨ts[i].toArray⟩ wr hB.out hB.out.ge.1 (by show acc.length + ts[i].toArray.size ≤ _; simp; omega)).mono ?_
        rintro e w1 ⟨rfl, r1, hB1, hK1, hN1⟩
        have HB1 := Lib.hid hB1
        have hbk := hB.out.keeps hK1
        have Hbx1 := Lib.hid ((hbk.block w.heap.size (by omega)).trans hbx.out)
        have Hbr1 := Lib.hid (hbr.out.trans (hbk.mono (by omega)))
        have hp2 : w1.cell? ⟨pb, pf + i, none⟩ = some (.int .i64 (ps[i] : Nat)) := (Hbr1.out.cell (p := ⟨pb, pf + i, none⟩) hplt).trans hpc
        obtain ⟨hb0, hb1, hb2, hb3⟩ := two2 Hbx1.out
        clear hB1 hK1 hbk htc hpc
        generalize hpe : ps[i] = pk at hp2 hpl
        have Hpe := Lib.hid hpe
        clear hpe
        have henc := enc_dig pk hpl
        go_wp2_with fail
        have hpt := pl_text pk
        have hps : ((⟨#[123]⟩ : ByteArray) ++ ⟨#[dg pk]⟩ ++ ⟨#[125]⟩).size = 3 := by
          show (((⟨#[123]⟩ : ByteArray) ++ ⟨#[dg pk]⟩ ++ ⟨#[125]⟩).data.size = 3)
          rw [← Array.length_toList, hpt]; rfl
        generalize (⟨#[123]⟩ : ByteArray) ++ ⟨#[dg pk]⟩ ++ ⟨#[125]⟩ = X at hpt hps ⊢
        have HX := Lib.hid hpt
        clear hpt
        refine (bWrite_any (w.heap.size + 1) (w.heap.size + 1) r1 (acc ++ ts[i]) X w1 HB1.out HB1.out.ge.1 (by rw [List.length_append]; omega)).mono ?_
        rintro e w2 ⟨rfl, r2, hB2, hK2, hN2⟩
        have HB2 := Lib.hid hB2
        have hbk2 := Lib.hid (HB1.out.keeps hK2)
        clear hB2 hK2 hps
        go_wp2_with fail
        go_roundg (gk - 1)
        case measure => have := hig.out; omega
        case rel =>
          refine ⟨i + 1, acc ++ ts[i] ++ Br.pl pk, r2, rfl, Lib.hid (by have := hig.out; omega), by omega, Lib.hid ?_, Lib.hid ?_, Lib.hid ?_, Lib.hid ?_⟩
          · rw [← hd.out, H.out, Hpe.out]
            simp only [List.append_assoc]
          · rw [← HX.out]; exact HB2.out
          · exact (hbk2.out.block w.heap.size (by omega)).trans Hbx1.out
          · exact Hbr1.out.trans (hbk2.out.mono (by omega))
      · have H := Lib.hid (Br.disp_step_n hi (by omega : ps.length ≤ i))
        have hlen : acc.length + ts[i].length ≤ 1000000 := by
          have h := congrArg List.length hd.out
          rw [H.out] at h
          simp only [List.length_append] at h
          omega
        go_wp2_with fail
        refine (bWrite_any (w.heap.size + 1) (w.heap.size + 1) r acc ⟨ts[i].toArray⟩ wr hB.out hB.out.ge.1 (by show acc.length + ts[i].toArray.size ≤ _; simp; omega)).mono ?_
        rintro e w1 ⟨rfl, r1, hB1, hK1, hN1⟩
        have HB1 := Lib.hid hB1
        have hbk := Lib.hid (hB.out.keeps hK1)
        have Hbx1 := Lib.hid ((hbk.out.block w.heap.size (by omega)).trans hbx.out)
        obtain ⟨hb0, hb1, hb2, hb3⟩ := two2 Hbx1.out
        clear hB1 hK1 htc
        go_wp2_with fail
        go_roundg (gk - 1)
        case measure => have := hig.out; omega
        case rel =>
          refine ⟨i + 1, acc ++ ts[i], r1, rfl, Lib.hid (by have := hig.out; omega), by omega, Lib.hid ?_, HB1, Hbx1, Lib.hid (hbr.out.trans (hbk.out.mono (by omega)))⟩
          rw [← hd.out, H.out]
          simp only [List.append_assoc]
    · obtain rfl : i = ts.length := by omega
      have hd2 : Hid (acc = Br.disp ts ps) := Lib.hid (by rw [← hd.out, List.drop_length, Br.disp]; simp)
      go_wp2_with fail
      refine (bString_any (w.heap.size + 1) (w.heap.size + 1) r acc wr hB.out).mono ?_
      rintro e w1 ⟨rfl, hK1⟩
      go_wp2_with fail
      go_ret
      refine ⟨by rw [← hd2.out]; rfl, hbr.out.trans ((hB.out.keeps (hK1.mono (fun k _ h => .inr h))).mono (by omega))⟩
end Go.Proofs.YtikkakbemphdhaaDoor
