import Derived.Test.YtikkakbemphdhaaProg
import Derived.Test.YtikkakbemphdhaaLib1
namespace Go.Proofs.Ytikkakbemphdhaa
open Go.RowKit Go.Fl

theorem Try.info5 : (Try.prog.info? 5).map (fun i => (i.zero, i.size, i.bytes)) = some (some (.int .u8 0), 1, 1) := by kernel_rfl

/-- a Writer at block g: it has laid l; its bytes lie in the block r. -/
def IsW (W : World) (base g : Nat) (r : Option Nat) (l : List UInt8) : Prop :=
  base ≤ g ∧ ∃ v, W.heap[g]? = some (.cells #[v] 28 (0, 0)) ∧ v.ownBlock = r ∧ W.ownsRow base 5 1 v l.length (bytesV l)

/-- what a call on the Writer at g turns: g, its row r, new blocks. -/
structure KeptW (w w' : World) (g : Nat) (r r' : Option Nat) : Prop where
  os : w'.os = w.os
  tape : w'.tape = w.tape
  output : w'.output = w.output
  size : w.heap.size ≤ w'.heap.size
  block : ∀ k, k < w.heap.size → k ≠ g → some k ≠ r → w'.heap[k]? = w.heap[k]?
  row : r' = r ∨ ∃ k, r' = some k ∧ w.heap.size ≤ k

theorem KeptW.refl (w : World) (g : Nat) (r : Option Nat) : KeptW w w g r r := ⟨rfl, rfl, rfl, Nat.le_refl _, fun _ _ _ _ => rfl, .inl rfl⟩

theorem KeptW.trans {w w1 w2 : World} {g : Nat} {r r1 r2 : Option Nat} (h : KeptW w w1 g r r1) (h' : KeptW w1 w2 g r1 r2) : KeptW w w2 g r r2 := by
  refine ⟨h'.os.trans h.os, h'.tape.trans h.tape, h'.output.trans h.output, Nat.le_trans h.size h'.size, ?_, ?_⟩
  · intro k hk hg hr
    have hr1 : some k ≠ r1 := by
      rcases h.row with e | ⟨j, e, hj⟩
      · rw [e]; exact hr
      · rw [e]; intro e2; injection e2 with e2; omega
    rw [h'.block k (Nat.lt_of_lt_of_le hk h.size) hg hr1, h.block k hk hg hr]
  · rcases h'.row with e | ⟨j, e, hj⟩
    · rw [e]; exact h.row
    · exact .inr ⟨j, e, Nat.le_trans h.size hj⟩

theorem ofInt_i64 (a : Nat) (ha : a < 9223372036854775808) : (BitVec.ofInt 64 (a : Int)).toNat = a := by
  rw [BitVec.ofInt_natCast, BitVec.toNat_ofNat]; exact Nat.mod_eq_of_lt (by omega)
theorem and127 (m : Nat) (h : m < 9223372036854775808) : bits .and .i64 (m : Int) 127 = ((m % 128 : Nat) : Int) := by
  have e : m &&& 127 = m % 128 := Nat.and_two_pow_sub_one_eq_mod m 7
  show IntKind.i64.wrap ((BitVec.ofInt 64 (m : Int) &&& BitVec.ofInt 64 ((127 : Nat) : Int)).toNat : Int) = _
  rw [BitVec.toNat_and, ofInt_i64 m h, ofInt_i64 127 (by omega), e, IntKind.wrap_i64]
  omega
theorem or128 (m : Nat) (h : m < 128) : bits .or .i64 (m : Int) 128 = ((m + 128 : Nat) : Int) := by
  have e : m ||| 128 = m + 128 := by
    have h2 := Nat.two_pow_add_eq_or_of_lt (i := 7) (b := m) h 1
    have h3 : (2 ^ 7 * 1 : Nat) = 128 := rfl
    rw [h3] at h2
    rw [Nat.or_comm]; omega
  show IntKind.i64.wrap ((BitVec.ofInt 64 (m : Int) ||| BitVec.ofInt 64 ((128 : Nat) : Int)).toNat : Int) = _
  rw [BitVec.toNat_or, ofInt_i64 m (by omega), ofInt_i64 128 (by omega), e, IntKind.wrap_i64]
  omega
theorem lowByte (m : Nat) (h : m < 9223372036854775808) : bits .or .i64 (bits .and .i64 (m : Int) 127) 128 % 256 = ((UInt8.ofNat (m % 128 + 128)).toNat : Int) := by
  rw [and127 m h, or128 _ (by omega)]
  simp
/-- the store of a longer row into the Writer's field. -/
theorem w_put {w w1 : World} {base g : Nat} {l news : List UInt8} {v v' : Value} (hbg : base ≤ g) (hg : w.heap[g]? = some (.cells #[v] 28 (0, 0))) (hown : w.ownsRow base 5 1 v l.length (bytesV l))
    (hgrow : w.grownBy w1 v.ownBlock) (hown' : w1.ownsRow base 5 1 v' (l.length + news.length) (bytesV l ++ bytesV news))
    (hat : v'.ownBlock = v.ownBlock ∨ ∃ k, v'.ownBlock = some k ∧ w.heap.size ≤ k) :
    IsW (w1.setCell ⟨g, 0, none⟩ v') base g v'.ownBlock (l ++ news) ∧ KeptW w (w1.setCell ⟨g, 0, none⟩ v') g v.ownBlock v'.ownBlock := by
  have hgs : g < w.heap.size := by
    rcases Nat.lt_or_ge g w.heap.size with h | h
    · exact h
    · rw [Array.getElem?_eq_none h] at hg; cases hg
  have hne : some g ≠ v.ownBlock := by
    intro e
    rcases hown.2 with ⟨rfl, _⟩ | ⟨g', cap, cur, rfl, _, hg', _⟩
    · cases e
    · simp only [Value.ownBlock, Option.some.injEq] at e
      subst e
      rw [hg] at hg'
      injection hg' with hg'
      injection hg' with _ ht
      cases ht
  have hg1 : w1.heap[g]? = some (.cells #[v] 28 (0, 0)) := by
    rw [hgrow.block g hgs hne, hg]
  have hne' : some g ≠ v'.ownBlock := by
    rcases hat with e | ⟨k, e, hk⟩
    · rw [e]; exact hne
    · rw [e]; intro h; injection h with h; omega
  have hset : ∀ k, k ≠ g → (w1.setCell ⟨g, 0, none⟩ v').heap[k]? = w1.heap[k]? := by
    intro k hk
    simp only [World.setCell, Array.getElem?_modify]
    rw [if_neg (fun e => hk e.symm)]
  have hg2 : (w1.setCell ⟨g, 0, none⟩ v').heap[g]? = some (.cells #[v'] 28 (0, 0)) := by
    simp only [World.setCell, Array.getElem?_modify, hg1]
    simp
  refine ⟨⟨hbg, v', hg2, rfl, ?_⟩, ⟨hgrow.os, hgrow.tape, hgrow.output, ?_, ?_, hat⟩⟩
  · rw [bytesV, List.map_append, List.length_append]
    refine ⟨hown'.1, ?_⟩
    rcases hown'.2 with h | ⟨g', cap, cur, rfl, h1, h2, h3⟩
    · exact .inl h
    · refine .inr ⟨g', cap, cur, rfl, h1, ?_, h3⟩
      rw [hset g' (fun e => hne' (by rw [e]; rfl))]
      exact h2
  · have := hgrow.size
    simp [World.setCell]
    omega
  · intro k hk hkg hkr
    rw [hset k hkg, hgrow.block k hk hkr]

theorem own_slice {w : World} {base e size n : Nat} {v : Value} {xs : List Value} (h : w.ownsRow base e size v n xs) : ∃ a c, v = .slice a n c := by
  rcases h.2 with ⟨rfl, rfl⟩ | ⟨g, cap, cur, rfl, _⟩
  · exact ⟨_, _, rfl⟩
  · exact ⟨_, _, rfl⟩

theorem w_still {w w1 : World} {base g n : Nat} {v : Value} {xs : List Value} (hg : w.heap[g]? = some (.cells #[v] 28 (0, 0))) (hown : w.ownsRow base 5 1 v n xs)
    (hgrow : w.grownBy w1 v.ownBlock) : w1.cell? ⟨g, 0, none⟩ = some v ∧ w1.frozen? ⟨g, 0, none⟩ = false := by
  have hgs : g < w.heap.size := by
    rcases Nat.lt_or_ge g w.heap.size with h | h
    · exact h
    · rw [Array.getElem?_eq_none h] at hg; cases hg
  have hne : some g ≠ v.ownBlock := by
    intro e
    rcases hown.2 with ⟨rfl, _⟩ | ⟨g', cap, cur, rfl, _, hg', _⟩
    · cases e
    · simp only [Value.ownBlock, Option.some.injEq] at e
      subst e
      rw [hg] at hg'
      injection hg' with hg'
      injection hg' with _ ht
      cases ht
  have hg1 : w1.heap[g]? = some (.cells #[v] 28 (0, 0)) := by
    rw [hgrow.block g hgs hne, hg]
  exact ⟨by simp [World.cell?, hg1], by simp [World.frozen?, hg1]⟩

/-- a number's bytes. -/
def numB (n : Nat) : List UInt8 := if n < 128 then [UInt8.ofNat n] else UInt8.ofNat (n % 128 + 128) :: numB (n / 128)
termination_by n
decreasing_by omega

theorem numB_len_le (k : Nat) : ∀ n, n < 128 ^ (k + 1) → (numB n).length ≤ k + 1 := by
  induction k with
  | zero => intro n hn; rw [numB, if_pos (by simpa using hn)]; simp
  | succ k ih =>
    intro n hn
    rw [numB]
    split
    · simp
    · have := ih (n / 128) (by rw [Nat.div_lt_iff_lt_mul (by omega)]; rw [Nat.pow_succ] at hn; exact hn)
      simp only [List.length_cons]
      omega
theorem numB_len9 (n : Nat) (h : n < 9223372036854775808) : (numB n).length ≤ 9 := numB_len_le 8 n (by simpa using h)
theorem numB_pos (n : Nat) : 0 < (numB n).length := by
  rw [numB]
  split <;> simp

set_option maxRecDepth 100000 in
set_option maxHeartbeats 400000 in
theorem wNum_any (base g : Nat) (r : Option Nat) (l : List UInt8) (n : Int) (w : World) (hn : n ≤ 9223372036854775807) (hW : IsW w base g r l) (hbase : base ≤ w.heap.size) (hl : l.length ≤ 140737488355300) :
    Calls Try.prog 13 #[.pointer (some ⟨g, 0, none⟩), .int .i64 n] w fun e w' => e = .returned (.pointer (some ⟨g, 0, none⟩)) ∧ ∃ r', IsW w' base g r' (l ++ numB n.toNat) ∧ KeptW w w' g r r' := by
  obtain ⟨i0, hi, hz0, hz1, hz2⟩ := info_parts Try.info5
  obtain ⟨n0, hn0, hn1⟩ : ∃ n0 : Int, 0 ≤ n0 ∧ n0.toNat = n.toNat ∧ n0 ≤ 9223372036854775807 ∧ (n = n0 ∨ n < 0 ∧ 0 = n0) := by
    by_cases h : 0 ≤ n
    · exact ⟨n, h, rfl, hn, .inl rfl⟩
    · exact ⟨0, by omega, by omega, by omega, .inr ⟨by omega, rfl⟩⟩
  obtain ⟨hn2, hn1, hnc⟩ := hn1
  have Hn2 := Lib.hid hn2
  clear hn2
  rcases hnc with rfl | ⟨hneg, rfl⟩
  all_goals
    go_enter Try.func13, Try.ntmps13
    go_wp2
    go_loopw [1] (fun u wr => ∃ (m : Nat) (r' : Option Nat) (l' : List UInt8), u = .int .i64 m ∧ m < 9223372036854775808 ∧ IsW wr base g r' l' ∧ l' ++ numB m = l ++ numB n.toNat ∧ KeptW w wr g r r') (fun u _ => (intOf u).toNat)
    case atStart => exact ⟨n.toNat, r, l, by first | rw [Int.toNat_of_nonneg hn0] | (rw [← Hn2.out]; rfl), by omega, hW, rfl, KeptW.refl _ _ _⟩
    case round =>
      obtain ⟨m, r', l', rfl, hm63, hI, hl', hK⟩ := hrel
      have hlen : l'.length ≤ 140737488355310 := by
        have h1 := congrArg List.length hl'
        rw [List.length_append, List.length_append] at h1
        have h2 := numB_len9 n.toNat (by omega)
        omega
      have Hl := Lib.hid hl'
      clear hl'
      obtain ⟨hbg, v, hg, hv, hown⟩ := hI
      have hc : wr.cell? ⟨g, 0, none⟩ = some v := by simp [World.cell?, hg]
      have hf : wr.frozen? ⟨g, 0, none⟩ = false := by simp [World.frozen?, hg]
      have hbs : base ≤ wr.heap.size := Nat.le_trans hbase hK.size
      subst hv
      have Hg := Lib.hid hg
      clear hg
      by_cases hm : 127 < m
      · have hlb := lowByte m hm63
        have Hx : Hid (numB m = UInt8.ofNat (m % 128 + 128) :: numB (m / 128)) := Lib.hid (by rw [numB, if_neg (by omega)])
        generalize UInt8.ofNat (m % 128 + 128) = x at hlb Hx
        go_wp2_with (at_builtin; (refine wpList_append_own_at _ rfl _ _ 26 rfl base 5 i0 (.int .u8 0) 1 1 Try.underlying26 hi hz0 hz1 hz2 rfl (by decide) _ _ _ rfl (hown.alloc _) ⟨wr.heap.size, 0, none⟩ 1 1 (bytesV [x]) rfl rfl (cell_one_new _ (byteV x) _) (bytesV_one _) (by unfold maxLen; omega) (by omega) (by simp; omega) ?_); intro v' w1 hown' hgrow1 _ hat; have hgrow := (World.grownBy_alloc wr _ _).trans hgrow1; clear hgrow1; obtain ⟨a', c', rfl⟩ := own_slice hown'; obtain ⟨hc1, hf1⟩ := w_still Hg.out hown hgrow; have hp := w_put (news := [x]) hbg Hg.out hown hgrow hown' (by rcases hat with h | h; exact .inl h; exact .inr ⟨_, h, by simp⟩); clear hown' hgrow hat)
        refine ⟨⟨m / 128, _, l' ++ [x], rfl, by omega, hp.1, ?_, hK.trans hp.2⟩, by simp [intOf]; omega⟩
        rw [← Hl.out, Hx.out]; simp
      · obtain ⟨x, rfl⟩ : ∃ x : UInt8, m = x.toNat := ⟨UInt8.ofNat m, by simp; omega⟩
        have Hx : Hid (numB x.toNat = [x]) := Lib.hid (by rw [numB, if_pos (by omega)]; simp)
        go_wp2_with (at_builtin; (refine wpList_append_own_at _ rfl _ _ 26 rfl base 5 i0 (.int .u8 0) 1 1 Try.underlying26 hi hz0 hz1 hz2 rfl (by decide) _ _ _ rfl (hown.alloc _) ⟨wr.heap.size, 0, none⟩ 1 1 (bytesV [x]) rfl rfl (cell_one_new _ (byteV x) _) (bytesV_one _) (by unfold maxLen; omega) (by omega) (by simp; omega) ?_); intro v' w1 hown' hgrow1 _ hat; have hgrow := (World.grownBy_alloc wr _ _).trans hgrow1; clear hgrow1; obtain ⟨a', c', rfl⟩ := own_slice hown'; obtain ⟨hc1, hf1⟩ := w_still Hg.out hown hgrow; have hp := w_put (news := [x]) hbg Hg.out hown hgrow hown' (by rcases hat with h | h; exact .inl h; exact .inr ⟨_, h, by simp⟩); clear hown' hgrow hat)
        go_ret
        exact ⟨rfl, _, by rw [← Hl.out, Hx.out]; exact hp.1, hK.trans hp.2⟩
end Go.Proofs.Ytikkakbemphdhaa
