/- num.Is, Digits, (Set).Write. -/
import Derived.Test.YtajioajigpneoaaDoorSigns
set_option linter.unusedSimpArgs false
set_option linter.unusedVariables false
namespace Go.Proofs.YtajioajigpneoaaDoor
open Go.RowKit Go.Fl Go.Shelf

/-- digits alone. -/
def isNum (l : List UInt8) : Bool := l.all fun b => decide (48 ≤ b.toNat ∧ b.toNat ≤ 57)

theorem isNum_false {s : ByteArray} {i : Nat} (hi : i < s.size) (h : s[i].toNat < 48 ∨ 57 < s[i].toNat) : isNum s.data.toList = false := by
  unfold isNum
  have h' : i < s.data.toList.length := by rw [Array.length_toList]; exact hi
  have hm : s[i] ∈ s.data.toList := List.getElem_mem h'
  rw [List.all_eq_false]
  exact ⟨_, hm, by simp; omega⟩
theorem isNum_true {s : ByteArray} (h : ∀ i, (hi : i < s.size) → ¬ s[i].toNat < 48 ∧ ¬ 57 < s[i].toNat) : isNum s.data.toList = true := by
  unfold isNum
  rw [List.all_eq_true]
  intro b hb
  obtain ⟨i, hi, rfl⟩ := List.mem_iff_getElem.1 hb
  have hi' : i < s.size := by rw [Array.length_toList] at hi; exact hi
  have := h i hi'
  have e : s.data.toList[i] = s[i] := rfl
  rw [e]
  simp
  omega

set_option maxRecDepth 100000 in
set_option maxHeartbeats 800000 in
theorem is_any (s : ByteArray) (w : World) (hs : s.size ≤ 9223372036854775807) : Calls Tryd.prog 27 #[.string s] w fun e w' => e = .returned (.bool (isNum s.data.toList)) ∧ w = w' := by
  obtain ⟨R, hR⟩ : ∃ R, isNum s.data.toList = R := ⟨_, rfl⟩
  rw [hR]
  have HR := Lib.hid hR
  clear hR
  go_enter Tryd.func27, Tryd.ntmps27
  go_wp2
  go_loopg [3, 6] s.size (fun gk a v wr => ∃ i : Nat, v = .int .i64 i ∧ Hid (i + gk = s.size) ∧ Hid (∀ j, (hj : j < s.size) → j < i → ¬ s[j].toNat < 48 ∧ ¬ 57 < s[j].toNat) ∧ w = wr)
  case atStart => exact ⟨0, rfl, Lib.hid (by omega), Lib.hid (fun j _ h => by omega), rfl⟩
  case round =>
    obtain ⟨i, rfl, hig, hal, rfl⟩ := hrel
    by_cases hi : i < s.size
    · by_cases h1 : s[i].toNat < 48
      · obtain rfl : R = false := by rw [← HR.out, isNum_false hi (.inl h1)]
        go_wp2
        go_ret
        exact ⟨rfl, rfl⟩
      · by_cases h2 : 57 < s[i].toNat
        · obtain rfl : R = false := by rw [← HR.out, isNum_false hi (.inr h2)]
          go_wp2
          go_ret
          exact ⟨rfl, rfl⟩
        · go_wp2
          go_roundg (gk - 1)
          case measure => have := hig.out; omega
          case rel =>
            refine ⟨i + 1, rfl, Lib.hid (by have := hig.out; omega), Lib.hid (fun j hj h => ?_), rfl⟩
            by_cases e : j = i
            · subst e; exact ⟨h1, h2⟩
            · exact hal.out j hj (by omega)
    · obtain rfl : i = s.size := by have := hig.out; omega
      obtain rfl : R = true := by rw [← HR.out, isNum_true (fun j hj => hal.out j hj hj)]
      go_wp2
      go_ret
      exact ⟨rfl, rfl⟩

/-- the bytes of a slice, in a world. -/
def Bs (W : World) (a : Option Addr) (l : List UInt8) : Prop :=
  ∀ i, (h : i < l.length) → ∃ b off, a = some ⟨b, off, none⟩ ∧ b < W.heap.size ∧ W.cell? ⟨b, off + i, none⟩ = some (.int .u8 (l[i].toNat : Int))
theorem Bs.below {w w' : World} {a : Option Addr} {l : List UInt8} (h : Bs w a l) (hb : Below w.heap.size w w') : Bs w' a l := fun i hi => by
  obtain ⟨b, off, rfl, hlt, hc⟩ := h i hi
  exact ⟨b, off, rfl, Nat.lt_of_lt_of_le hlt hb.size, (hb.cell (p := ⟨b, off + i, none⟩) hlt).trans hc⟩
/-- digits of bytes. -/
def digB (l : List UInt8) : List UInt8 := l.map fun b => dg (b.toNat % 10)

set_option maxRecDepth 100000 in
set_option maxHeartbeats 800000 in
theorem digits_any (a : Option Addr) (l : List UInt8) (c : Nat) (w : World) (hB : Bs w a l) (hl : l.length ≤ 1000) : Calls Tryd.prog 17 #[.slice a l.length c] w fun e w' => e = .returned (.string ⟨(digB l).toArray⟩) ∧ Below w.heap.size w w' := by
  have HB := Lib.hid hB
  clear hB
  go_enter Tryd.func17, Tryd.ntmps17
  go_wp2
  go_loopg [3, 5, 8] l.length (fun gk u x v wr => ∃ (i : Nat) (S : ByteArray), u = .string S ∧ v = .int .i64 i ∧ Hid (i + gk = l.length) ∧ i ≤ l.length ∧ S.size = i ∧ Hid (S.data.toList = digB (l.take i)) ∧ Hid (Below w.heap.size w wr))
  case atStart => exact ⟨0, ByteArray.empty, rfl, rfl, Lib.hid (by omega), by omega, rfl, Lib.hid rfl, Lib.hid (Below.refl _ _)⟩
  case round =>
    obtain ⟨i, S, rfl, rfl, hig, hil, hSs, hS, hbr⟩ := hrel
    by_cases hi : i < l.length
    · obtain ⟨b, off, rfl, hlt, hc⟩ := HB.out i hi
      have hc2 : wr.cell? ⟨b, off + i, none⟩ = some (.int .u8 (l[i].toNat : Int)) := (hbr.out.cell (p := ⟨b, off + i, none⟩) hlt).trans hc
      have hcv := conv_new wr [dg (l[i].toNat % 10)] (by simp)
      rw [show (bytesV [dg (l[i].toNat % 10)]).toArray = #[.int .u8 (48 + (l[i].toNat : Int) % 10)] by
        simp only [bytesV, List.map_cons, List.map_nil]
        unfold dg
        rw [byteV_of (by omega)]
        rw [show ((48 + l[i].toNat % 10 : Nat) : Int) = 48 + (l[i].toNat : Int) % 10 by omega]] at hcv
      simp only [List.length_cons, List.length_nil] at hcv
      have hst : Hid ((S ++ ⟨#[dg (l[i].toNat % 10)]⟩).data.toList = digB (l.take (i + 1))) := Lib.hid (by
        rw [app_list, hS.out, List.take_succ_eq_append_getElem hi, digB, digB, List.map_append]
        rfl)
      generalize dg (l[i].toNat % 10) = d at hcv hst
      have hx := l[i].toNat_lt
      generalize l[i].toNat = x at hc2 hcv hx
      have HSs := Lib.hid hSs
      have hSb : S.size ≤ 1000 := by omega
      clear hc hSs
      go_wp2
      go_roundg (gk - 1)
      case measure => have := hig.out; omega
      case rel =>
        refine ⟨i + 1, S ++ ⟨#[d]⟩, rfl, rfl, Lib.hid (by have := hig.out; omega), by omega, ?_, hst, Lib.hid (hbr.out.alloc hbr.out.size _)⟩
        rw [ByteArray.size_append]
        have := HSs.out
        show S.size + 1 = i + 1
        omega
    · obtain rfl : i = l.length := by omega
      have HE : Hid (S = ⟨(digB l).toArray⟩) := Lib.hid (by
        have h := hS.out
        rw [List.take_length] at h
        rw [← h])
      clear hSs
      go_wp2
      go_ret
      exact ⟨by rw [← HE.out]; rfl, hbr.out⟩

/-- digits by their signs. -/
def signsOf (G : Nat → ByteArray) (l : List UInt8) : List UInt8 := l.flatMap fun b => (G (b.toNat - 48)).data.toList
def writeRes (G : Nat → ByteArray) (l : List UInt8) : List UInt8 := if isNum l = true then signsOf G l else []
theorem signs_snoc (G : Nat → ByteArray) (l : List UInt8) (b : UInt8) : signsOf G (l ++ [b]) = signsOf G l ++ (G (b.toNat - 48)).data.toList := by
  unfold signsOf
  rw [List.flatMap_append]
  simp

theorem IsB.ge {W : World} {base b : Nat} {r : Option Nat} {l : List UInt8} (h : IsB W base b r l) : base ≤ W.heap.size ∧ ∀ k, k < base → ¬ (k = b ∨ some k = r) := by
  obtain ⟨hbg, p, v, hg, hp, hv, hown, hnil⟩ := h
  have := lt_of_heap hg
  refine ⟨by omega, fun k hk h => ?_⟩
  rcases h with h | h
  · omega
  · have := (hown.lt k (hv.trans h.symm)).1
    omega
theorem IsB.keeps {W W' : World} {base b : Nat} {r : Option Nat} {l : List UInt8} (h : IsB W base b r l) (hK : Kept W W' (fun k => k = b ∨ some k = r)) : Below base W W' := hK.below h.ge.1 h.ge.2

theorem isNum_at {s : ByteArray} (h : isNum s.data.toList = true) {i : Nat} (hi : i < s.size) : ∃ d, d < 10 ∧ s[i].toNat = 48 + d := by
  unfold isNum at h
  rw [List.all_eq_true] at h
  have h' : i < s.data.toList.length := by rw [Array.length_toList]; exact hi
  have := h s[i] (List.getElem_mem h')
  simp only [decide_eq_true_eq] at this
  exact ⟨s[i].toNat - 48, by omega, by omega⟩

set_option maxRecDepth 100000 in
set_option maxHeartbeats 1600000 in
theorem gwrite_any (G : Nat → ByteArray) (s : ByteArray) (w : World) (hs : s.size ≤ 1000) (hG : ∀ i, i < 10 → (G i).size ≤ 1000) :
    Calls Tryd.prog 18 #[.agg (arr G), .string s] w fun e w' => e = .returned (.string ⟨(writeRes G s.data.toList).toArray⟩) ∧ Below w.heap.size w w' := by
  have HG := Lib.hid hG
  clear hG
  obtain ⟨R, hR⟩ : ∃ R, writeRes G s.data.toList = R := ⟨_, rfl⟩
  rw [hR]
  have HR := Lib.hid hR
  have HX := Lib.hid (heap_alloc_new w (.cells (arr G) 33))
  clear hR
  unfold arr
  go_enter Tryd.func18, Tryd.ntmps18
  go_wp2_with fail
  have c0 := is_any s (w.alloc (.cells (arr G) 33)) (by omega)
  cases hn : isNum s.data.toList with
  | false =>
    rw [hn] at c0
    have hRe : R = [] := by rw [← HR.out]; unfold writeRes; rw [hn]; rfl
    subst hRe
    refine c0.mono ?_
    rintro e w1 ⟨rfl, rfl⟩
    clear c0
    go_wp2_with fail
    go_ret
    exact ⟨rfl, (Below.refl _ _).alloc (Nat.le_refl _) _⟩
  | true =>
    rw [hn] at c0
    have HN := Lib.hid hn
    have hRe : Hid (R = signsOf G s.data.toList) := Lib.hid (by rw [← HR.out]; unfold writeRes; rw [hn]; rfl)
    refine c0.mono ?_
    rintro e w1 ⟨rfl, rfl⟩
    clear c0 hn
    have HX1 : Hid ((w.alloc (.cells (arr G) 33)).heap[w.heap.size]? = some (.cells (arr G) 33 (0, 0))) := HX
    obtain ⟨w1, hw1⟩ : ∃ w1, w.alloc (.cells (arr G) 33) = w1 := ⟨_, rfl⟩
    have hs1 : w1.heap.size = w.heap.size + 1 := by rw [← hw1]; simp
    have hb1 : Below w.heap.size w w1 := by rw [← hw1]; exact (Below.refl _ _).alloc (Nat.le_refl _) _
    rw [hw1] at HX1
    change _ at hw1
    have hB0 := isB_new w1
    have hbn : Below w.heap.size w (w1.alloc (.cells #[.pointer none, .slice none 0 0] 50)) := hb1.alloc hb1.size _
    have hxn : (w1.alloc (.cells #[.pointer none, .slice none 0 0] 50)).heap[w.heap.size]? = some (.cells (arr G) 33 (0, 0)) := (Below.heap_alloc _ _ _ (lt_of_heap HX1.out)).trans HX1.out
    rw [hs1] at hB0
    rw [← hw1] at hB0 hbn hxn
    have HB0 := Lib.hid hB0
    have HBn := Lib.hid hbn
    have HXn := Lib.hid hxn
    clear hB0 hbn hxn hb1 hs1 HX1 hw1
    go_wp2
    go_loopg [6, 12] s.size (fun gk a v wr => ∃ (i : Nat) (acc : List UInt8) (r : Option Nat), v = .int .i64 i ∧ Hid (i + gk = s.size) ∧ i ≤ s.size ∧ acc.length ≤ i * 1000 ∧ Hid (acc = signsOf G (s.data.toList.take i)) ∧ Hid (IsB wr (w.heap.size + 1) (w.heap.size + 1) r acc) ∧
        Hid (wr.heap[w.heap.size]? = some (.cells (arr G) 33 (0, 0))) ∧ Hid (Below w.heap.size w wr))
    case atStart => exact ⟨0, [], none, rfl, Lib.hid (by omega), by omega, by simp, Lib.hid rfl, HB0, HXn, HBn⟩
    case round =>
      obtain ⟨i, acc, r, rfl, hig, hil, hal, hac, hB, hX, hbr⟩ := hrel
      by_cases hi : i < s.size
      · obtain ⟨d, hd, hde⟩ := isNum_at HN.out hi
        have hcd := (arr_cell hX.out hd).1
        have hGd := HG.out d hd
        have hst : Hid (signsOf G (s.data.toList.take (i + 1)) = acc ++ (G d).data.toList) := Lib.hid (by
          have h' : i < s.data.toList.length := by rw [Array.length_toList]; exact hi
          rw [List.take_succ_eq_append_getElem h', signs_snoc, ← hac.out]
          have e : s.data.toList[i].toNat - 48 = d := by
            have : s.data.toList[i].toNat = 48 + d := hde
            omega
          rw [e])
        generalize G d = g at hcd hGd hst
        go_wp2_with fail
        refine (bWrite_any (w.heap.size + 1) (w.heap.size + 1) r acc g wr hB.out hB.out.ge.1 (by omega)).mono ?_
        rintro e w2 ⟨rfl, r2, hB2, hK2, hN2⟩
        have HB2 := Lib.hid hB2
        have hbk := Lib.hid (hB.out.keeps hK2)
        have hgl : g.data.toList.length ≤ 1000 := by rw [Array.length_toList]; exact hGd
        clear hB2 hK2
        go_wp2_with fail
        go_roundg (gk - 1)
        case measure => have := hig.out; omega
        case rel =>
          exact ⟨i + 1, acc ++ g.data.toList, r2, rfl, Lib.hid (by have := hig.out; omega), by omega, by rw [List.length_append]; omega, Lib.hid hst.out.symm, HB2, Lib.hid ((hbk.out.block w.heap.size (by omega)).trans hX.out), Lib.hid (hbr.out.trans (hbk.out.mono (by omega)))⟩
      · obtain rfl : i = s.size := by omega
        have HE : Hid (acc = R) := Lib.hid (by rw [hac.out, hRe.out, List.take_of_length_le (by rw [Array.length_toList]; exact Nat.le_refl _)])
        go_wp2_with fail
        refine (bString_any (w.heap.size + 1) (w.heap.size + 1) r acc wr hB.out).mono ?_
        rintro e w2 ⟨rfl, hK2⟩
        have hbk := Lib.hid (hB.out.keeps (hK2.mono (fun k _ h => .inr h)))
        clear hK2
        go_wp2_with fail
        go_ret
        exact ⟨by rw [← HE.out]; rfl, hbr.out.trans (hbk.out.mono (by omega))⟩
end Go.Proofs.YtajioajigpneoaaDoor
