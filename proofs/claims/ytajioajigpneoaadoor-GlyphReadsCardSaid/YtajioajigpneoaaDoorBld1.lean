/- A strings.Builder that the call made: copyCheck, WriteString, Len. -/
import Derived.Test.YtajioajigpneoaaDoorProg
import Derived.Test.YtajioajigpneoaaDoorLib1
import Derived.Lib.Builder
import Derived.Test.YtajioajigpneoaaDoorShelf
set_option linter.unusedSimpArgs false
set_option linter.unusedVariables false
namespace Go.Proofs.YtajioajigpneoaaDoor
open Go.RowKit Go.Fl Go.Shelf

theorem Tryd.info5 : (Tryd.prog.info? 5).map (fun i => (i.zero, i.size, i.bytes)) = some (some (.int .u8 0), 1, 1) := by kernel_rfl
theorem Tryd.info50 : (Tryd.prog.info? 50).map (·.size) = some 2 := by kernel_rfl
theorem Tryd.lies50 : liesAt Tryd.prog Tryd.prog.depth 50 (2 / Tryd.prog.cellsOf 50) 0 50 1 = true := by kernel_rfl

/-- a Builder at block b: it holds l; its bytes lie in the block r; p: its own address, or nil. -/
def IsB (W : World) (base b : Nat) (r : Option Nat) (l : List UInt8) : Prop :=
  base ≤ b ∧ ∃ p v, W.heap[b]? = some (.cells #[.pointer p, v] 50 (0, 0)) ∧ (p = none ∨ p = some ⟨b, 0, none⟩) ∧ v.ownBlock = r ∧ W.ownsRow base 5 1 v l.length (bytesV l) ∧ (l = [] → v = .slice none 0 0)

set_option maxRecDepth 100000 in
set_option maxHeartbeats 400000 in
theorem copyCheck_used (b : Nat) (v : Value) (w : World) (h : w.heap[b]? = some (.cells #[.pointer (some ⟨b, 0, none⟩), v] 50 (0, 0))) :
    Calls Tryd.prog 34 #[.pointer (some ⟨b, 0, none⟩)] w fun e w' => e = .returned (.tuple #[]) ∧ w = w' := by
  obtain ⟨j, hj, hjs⟩ := Option.map_eq_some_iff.1 Tryd.info50
  have h0 : w.cell? ⟨b, 0, none⟩ = some (.pointer (some ⟨b, 0, none⟩)) := by simp [World.cell?, h]
  have hne := fun (W : World) => Lib.run_neq_ptr_same (P := Tryd.prog) W ⟨b, 0, none⟩ Tryd.underlying48 hj
  clear h
  go_enter Tryd.func34, Tryd.ntmps34
  go_wp2
  go_end0
  exact ⟨rfl, rfl⟩

set_option maxRecDepth 100000 in
set_option maxHeartbeats 400000 in
theorem copyCheck_fresh (b : Nat) (v : Value) (w : World) (h : w.heap[b]? = some (.cells #[.pointer none, v] 50 (0, 0))) :
    Calls Tryd.prog 34 #[.pointer (some ⟨b, 0, none⟩)] w fun e w' => e = .returned (.tuple #[]) ∧ w.setCell ⟨b, 0, none⟩ (.pointer (some ⟨b, 0, none⟩)) = w' := by
  obtain ⟨j, hj, hjs⟩ := Option.map_eq_some_iff.1 Tryd.info50
  have h0 : w.cell? ⟨b, 0, none⟩ = some (.pointer none) := by simp [World.cell?, h]
  have hf : w.frozen? ⟨b, 0, none⟩ = false := by simp [World.frozen?, h]
  have hsh : w.shape? b = some (50, 2) := by simp [World.shape?, h]
  have r1 := Lib.run_to_unsafe (P := Tryd.prog) (dst := 66) w ⟨b, 0, none⟩ Tryd.underlying48 Tryd.underlying66 hj (by rw [hjs]; decide) hsh (Nat.zero_lt_succ 1)
  have r2 := Lib.run_from_unsafe (P := Tryd.prog) (src := 66) w ⟨b, 0, none⟩ Tryd.underlying66 Tryd.underlying48 hj hsh Tryd.lies50
  clear h hsh
  go_enter Tryd.func34, Tryd.ntmps34
  go_wp2
  rw [run_callFunc_extern Tryd.func36 (by kernel_rfl) (by kernel_rfl) (by kernel_rfl) (e := Extern.AbiNoEscape.same) (by kernel_rfl)]
  rw [Lib.run_noEscape]
  simp only [Result.andThen]
  rw [Oper.upon_value]
  go_wp2
  go_end0
  exact ⟨rfl, rfl⟩

theorem b_put {w w1 : World} {base b : Nat} {l news : List UInt8} {p : Option Addr} {v v' : Value} (hbg : base ≤ b) (hp : p = none ∨ p = some ⟨b, 0, none⟩) (hg : w.heap[b]? = some (.cells #[.pointer p, v] 50 (0, 0)))
    (hown : w.ownsRow base 5 1 v l.length (bytesV l)) (hgrow : w.grownBy w1 v.ownBlock) (hown' : w1.ownsRow base 5 1 v' (l.length + news.length) (bytesV l ++ bytesV news))
    (hat : v'.ownBlock = v.ownBlock ∨ ∃ k, v'.ownBlock = some k ∧ w.heap.size ≤ k) (hnil : l ++ news = [] → v' = .slice none 0 0) :
    w1.heap[b]? = some (.cells #[.pointer p, v] 50 (0, 0)) ∧ IsB (w1.setCell ⟨b, 1, none⟩ v') base b v'.ownBlock (l ++ news) ∧ Kept w (w1.setCell ⟨b, 1, none⟩ v') (fun k => k = b ∨ some k = v.ownBlock) := by
  have hgs := lt_of_heap hg
  have hne : some b ≠ v.ownBlock := by
    intro e
    rcases hown.2 with ⟨rfl, _⟩ | ⟨g', cap, cur, rfl, _, hg', _⟩
    · cases e
    · simp only [Value.ownBlock, Option.some.injEq] at e
      subst e
      rw [hg] at hg'
      injection hg' with hg'
      injection hg' with _ ht
      cases ht
  have hg1 : w1.heap[b]? = some (.cells #[.pointer p, v] 50 (0, 0)) := by rw [hgrow.block b hgs hne, hg]
  have hne' : some b ≠ v'.ownBlock := by
    rcases hat with e | ⟨k, e, hk⟩
    · rw [e]; exact hne
    · rw [e]; intro h; injection h with h; omega
  have hset : ∀ k, k ≠ b → (w1.setCell ⟨b, 1, none⟩ v').heap[k]? = w1.heap[k]? := fun k hk => Below.heap_setCell w1 _ _ k hk
  refine ⟨hg1, ⟨hbg, p, v', (heap_set_same hg1 1 v').trans rfl, hp, rfl, ?_, hnil⟩, ?_⟩
  · rw [bytesV_append, List.length_append]
    refine ⟨hown'.1, ?_⟩
    rcases hown'.2 with h | ⟨g', cap, cur, rfl, h1, h2, h3⟩
    · exact .inl h
    · refine .inr ⟨g', cap, cur, rfl, h1, ?_, h3⟩
      rw [hset g' (fun e => hne' (by rw [e]; rfl))]
      exact h2
  · exact ((Kept.refl w (fun k => k = b ∨ some k = v.ownBlock)).grown hgrow (fun k hk _ => .inr hk.symm)).setCell (fun _ => .inl rfl) _

/-- what a call on the Builder at b turns. -/
def RowNew (w : World) (r r' : Option Nat) : Prop := r' = r ∨ ∃ k, r' = some k ∧ w.heap.size ≤ k

set_option maxRecDepth 100000 in
set_option maxHeartbeats 400000 in
theorem bWrite_any (base b : Nat) (r : Option Nat) (l : List UInt8) (s : ByteArray) (w : World) (hB : IsB w base b r l) (hbase : base ≤ w.heap.size) (hl : l.length + s.size ≤ 140737488355300) :
    Calls Tryd.prog 28 #[.pointer (some ⟨b, 0, none⟩), .string s] w fun e w' => e = .returned (.tuple #[.int .i64 s.size, .nilIface]) ∧ ∃ r', IsB w' base b r' (l ++ s.data.toList) ∧ Kept w w' (fun k => k = b ∨ some k = r) ∧ RowNew w r r' := by
  obtain ⟨i0, hi, hz0, hz1, hz2⟩ := info_parts Tryd.info5
  obtain ⟨hbg, p, v, hg, hp, hv, hown, hnil⟩ := hB
  subst hv
  have Hnil := Lib.hid hnil
  obtain ⟨w0, hcc, hg0, hown0, hk0, hs0⟩ : ∃ w0, Hid (Calls Tryd.prog 34 #[.pointer (some ⟨b, 0, none⟩)] w fun e w' => e = .returned (.tuple #[]) ∧ w0 = w') ∧ w0.heap[b]? = some (.cells #[.pointer (some ⟨b, 0, none⟩), v] 50 (0, 0)) ∧
      w0.ownsRow base 5 1 v l.length (bytesV l) ∧ Hid (Kept w w0 (fun k => k = b ∨ some k = v.ownBlock)) ∧ w0.heap.size = w.heap.size := by
    rcases hp with rfl | rfl
    · refine ⟨_, Lib.hid (copyCheck_fresh b v w hg), (heap_set_same hg 0 _).trans rfl, ?_, Lib.hid ((Kept.refl w (fun k => k = b ∨ some k = v.ownBlock)).setCell (fun _ => .inl rfl) _), by simp [World.setCell]⟩
      refine ⟨hown.1, ?_⟩
      rcases hown.2 with h | ⟨g', cap, cur, rfl, h1, h2, h3⟩
      · exact .inl h
      · refine .inr ⟨g', cap, cur, rfl, h1, ?_, h3⟩
        rw [Below.heap_setCell w _ _ g' (fun e => by
          simp only at e
          subst e
          rw [hg] at h2
          injection h2 with h2
          injection h2 with _ ht
          cases ht)]
        exact h2
    · exact ⟨w, Lib.hid (copyCheck_used b v w hg), hg, hown, Lib.hid (Kept.refl _ _), rfl⟩
  have hc : w0.cell? ⟨b, 1, none⟩ = some v := by simp [World.cell?, hg0]
  have hf : w0.frozen? ⟨b, 1, none⟩ = false := by simp [World.frozen?, hg0]
  have Hg := Lib.hid hg0
  have Hs0 := Lib.hid hs0
  have hb0 : base ≤ w0.heap.size := by omega
  clear hg hp hown hg0 hs0 hnil
  go_enter Tryd.func28, Tryd.ntmps28
  go_wp2_with fail
  refine hcc.out.mono ?_
  rintro e w1 ⟨rfl, rfl⟩
  go_wp2_with (at_builtin; (refine wpList_append_own_string_at _ rfl _ _ 31 9 rfl base 5 i0 Tryd.underlying31 Tryd.underlying9 hi hz0 hz1 hz2 _ _ _ rfl hown0 s rfl (by unfold maxLen; omega) (by omega) hb0 ?_); intro v' w2 hown' hgrow hiff hat; obtain ⟨a', c', rfl⟩ := own_sl hown'; obtain ⟨h1, h2, h3⟩ := b_put (news := s.data.toList) hbg (.inr rfl) Hg.out hown0 hgrow hown' hat (fun h => hiff.2 ⟨Hnil.out (List.append_eq_nil_iff.1 h).1, by have := (List.append_eq_nil_iff.1 h).2; show s.data.size = 0; rw [← Array.length_toList, this]; rfl⟩); clear hiff; have hc1 : w2.cell? ⟨b, 1, none⟩ = some v := (by simp [World.cell?, h1]); have hf1 : w2.frozen? ⟨b, 1, none⟩ = false := (by simp [World.frozen?, h1]); have Ha := Lib.hid hat; clear h1 hown' hgrow hat)
  go_ret2
  refine ⟨rfl, _, h2, hk0.out.trans h3 (fun k _ h => h), ?_⟩
  rcases Ha.out with h | ⟨k, h, hk⟩
  · exact .inl h
  · exact .inr ⟨k, h, by rw [← Hs0.out]; exact hk⟩

theorem isB_new (w : World) : IsB (w.alloc (.cells #[.pointer none, .slice none 0 0] 50)) w.heap.size w.heap.size none [] :=
  ⟨Nat.le_refl _, none, _, heap_alloc_new w _, .inl rfl, rfl, World.ownsRow_nil _ _ _ _, fun _ => rfl⟩

set_option maxRecDepth 100000 in
set_option maxHeartbeats 2000000 in
theorem bString_any (base b : Nat) (r : Option Nat) (l : List UInt8) (w : World) (hB : IsB w base b r l) :
    Calls Tryd.prog 29 #[.pointer (some ⟨b, 0, none⟩)] w fun e w' => e = .returned (.string ⟨l.toArray⟩) ∧ Kept w w' (fun k => some k = r) := by
  obtain ⟨hbg, p, v, hg, hp, hv, hown, hnil⟩ := hB
  subst hv
  have c1 : w.drew.cell? ⟨b, 1, none⟩ = some v := by
    have : w.drew.heap[b]? = some (.cells #[.pointer p, v] 50 (0, 0)) := hg
    simp [World.cell?, this]
  by_cases h0 : l = []
  · subst h0
    obtain rfl := hnil rfl
    have hUS : (Builtin.unsafeString_ #[64, 3] 9 #[.pointer none, .int .i64 0]).run Tryd.prog w.drew = .ok (.string ⟨#[]⟩) w.drew := Lib.run_unsafeString_none _ _ _ _ none
    have hSD : (Builtin.unsafeSliceData_ #[31] 64 #[.slice none 0 0]).run Tryd.prog w.drew = .ok (.pointer none) w.drew := rfl
    clear hg hp hown hnil
    go_enter Tryd.func29, Tryd.ntmps29
    go_wp2
    go_region
    all_goals
      go_wp2
      go_ret
      exact ⟨rfl, (Kept.refl _ _).drew⟩
  · have hl0 : l.length ≠ 0 := by simpa using h0
    obtain ⟨g, cap, cur, rfl, hbg2, hg2, hnc, hcm, hcs, htake⟩ : ∃ g cap cur, v = .slice (some ⟨g, 0, none⟩) l.length cap ∧ base ≤ g ∧ w.heap[g]? = some (.cells cur 5 (0, 0)) ∧ l.length ≤ cap ∧ cap ≤ maxLen ∧ cur.size = cap * 1 ∧ cur.toList.take (l.length * 1) = bytesV l := by
      rcases hown.2 with ⟨_, hz⟩ | ⟨g, cap, cur, hv, r⟩
      · exact absurd hz hl0
      · exact ⟨g, cap, cur, hv, r⟩
    have hSD : (Builtin.unsafeSliceData_ #[31] 64 #[.slice (some ⟨g, 0, none⟩) l.length cap]).run Tryd.prog w.drew = .ok (.pointer (some ⟨g, 0, none⟩)) w.drew :=
      Lib.run_unsafeSliceData_row _ _ _ _ _ _ (by omega)
    have hUS : (Builtin.unsafeString_ #[64, 3] 9 #[.pointer (some ⟨g, 0, none⟩), .int .i64 l.length]).run Tryd.prog w.drew = .ok (.string ⟨l.toArray⟩) (w.drew.freeze ⟨g, 0, none⟩ l.length) := by
      refine Lib.run_unsafeString_row w.drew 64 3 9 5 Tryd.underlying64 Tryd.Builder_Extra_169.cellsByte g cur.size (by have hg' : w.drew.heap[g]? = some (.cells cur 5 (0, 0)) := hg2; simp [World.shape?, hg']) l h0 (by omega) (by unfold maxLen at hcm; omega) ?_
      intro j x hx
      exact hown.cells (g := g) rfl j (.int .u8 x.toNat) (by simp [bytesV, byteV, hx])
    have hk : Hid (Kept w (w.drew.freeze ⟨g, 0, none⟩ l.length) (fun k => some k = (Value.slice (some ⟨g, 0, none⟩) l.length cap).ownBlock)) := Lib.hid (by
      have hb := fun (B : Nat) (h : B ≤ g) => Lib.below_freeze (Below.drew (Below.refl B w)) (p := ⟨g, 0, none⟩) h l.length
      have h1 := hb 0 (Nat.zero_le _)
      refine ⟨h1.os, h1.tape, h1.output, h1.size, fun k hk hn => ?_⟩
      have hne : k ≠ g := fun e => hn (by rw [e]; rfl)
      unfold World.freeze
      rw [if_neg hl0]
      simp only [Array.getElem?_modify]
      rw [if_neg (fun e => hne e.symm)]
      rfl)
    clear hg hp hown hnil hg2 hcs htake hcm hnc
    go_enter Tryd.func29, Tryd.ntmps29
    go_wp2
    go_region
    all_goals
      go_wp2
      go_ret
      exact ⟨rfl, hk.out⟩
end Go.Proofs.YtajioajigpneoaaDoor
