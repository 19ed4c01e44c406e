/- GlyphWrites: digits by their signs, and back, with something behind them; for every input, no condition but the two tables of unicode/utf8 as the library's text lays them (the card ties them). -/
import Derived.Test.YtajioajigpneoaaDoorWrites
import Derived.Test.YtajioajigpneoaaDoorLaid
import Derived.Test.YtajioajigpneoaaDoorCards
import Derived.Test.YtajioajigpneoaaDoorTie
import Derived.ProofKit
import Derived.OpenShut
import Derived.ShutString
import Derived.Carry
import Derived.ChangeSlices
import Derived.SevenTiedAt
namespace Go.Proofs.YtajioajigpneoaaDoor.glyphWrites
open Go.ChangeShapes Go.WideShapes Go.ChangeAt Go.RowKit Go.Fl
open Go.ChangeMaps (open_string shut_string)
set_option linter.unusedVariables false

theorem laidOut : laidOutB Tryd.prog = true := by kernel_rfl
theorem cells3 : Tryd.prog.cellsOf 3 = 1 := by kernel_rfl
theorem cells5 : Tryd.prog.cellsOf 5 = 1 := by kernel_rfl
theorem cells30 : Tryd.prog.cellsOf 30 = 10 := by kernel_rfl

theorem okWide_ten {W : World} {r : Reach} {b0 : Nat} {v : Value} (h : Value.okWide Tryd.prog W r b0 30 v) : ∃ cs : Array Value, v = .agg cs ∧ cs.size = 10 := by
  simp only [Value.okWide, Tryd.underlying30] at h
  obtain ⟨cs, h1, h2, _⟩ := h
  exact ⟨cs, h1, by rw [h2, cells30]⟩

theorem ten_of {W : World} {H : Type} {enc : TypeId × Value → H} {base : Nat} {spare : Nat → Bool} {held : Bool} {fuel : Nat} {cs : Array Value} {y : DataW H × List MemPlace} (hn : cs.size = 10)
    (hf : DataW.trod enc Tryd.prog W base spare held fuel 30 cs.toList = some y) : ∃ N, cs = arrI N := by
  obtain ⟨xs, m, _, _, _, hxl, hx⟩ := DataW.trod_array Tryd.underlying30 hf
  rw [cells3] at hx
  obtain ⟨l⟩ := cs
  match l, hn with
  | [x0, x1, x2, x3, x4, x5, x6, x7, x8, x9], _ =>
    have key : ∀ i v, i < 10 → ([x0, x1, x2, x3, x4, x5, x6, x7, x8, x9].drop (i * 1)).take 1 = [v] → ∃ a : Int, v = .int .i64 a := by
      intro i v hi hv
      have h := hx i hi
      rw [hv, List.getElem?_eq_getElem (by omega)] at h
      obtain ⟨a, e, _⟩ := DataW.trod_int Tryd.underlying3 h
      exact ⟨a, by simpa using e⟩
    obtain ⟨a0, rfl⟩ := key 0 x0 (by decide) rfl
    obtain ⟨a1, rfl⟩ := key 1 x1 (by decide) rfl
    obtain ⟨a2, rfl⟩ := key 2 x2 (by decide) rfl
    obtain ⟨a3, rfl⟩ := key 3 x3 (by decide) rfl
    obtain ⟨a4, rfl⟩ := key 4 x4 (by decide) rfl
    obtain ⟨a5, rfl⟩ := key 5 x5 (by decide) rfl
    obtain ⟨a6, rfl⟩ := key 6 x6 (by decide) rfl
    obtain ⟨a7, rfl⟩ := key 7 x7 (by decide) rfl
    obtain ⟨a8, rfl⟩ := key 8 x8 (by decide) rfl
    obtain ⟨a9, rfl⟩ := key 9 x9 (by decide) rfl
    exact ⟨fun | 0 => a0 | 1 => a1 | 2 => a2 | 3 => a3 | 4 => a4 | 5 => a5 | 6 => a6 | 7 => a7 | 8 => a8 | _ => a9, rfl⟩

theorem bytes_of {W : World} {H : Type} {enc : TypeId × Value → H} {base : Nat} {spare : Nat → Bool} {held : Bool} {fuel : Nat} {a : Option Addr} {len cap : Nat} {y : DataW H × List MemPlace}
    (hf : DataW.trod enc Tryd.prog W base spare held fuel 31 [.slice a len cap] = some y) :
    ∃ l : List UInt8, l.length = len ∧ len ≤ 9223372036854775807 ∧ Bs W a l := by
  rcases open_ints Tryd.underlying31 Tryd.underlying5 cells5 hf with ⟨hcs, _⟩ | ⟨x, n, c, zs, hcs, _, hl, hm, hz, _, hcell, hwf⟩
  · simp at hcs
    obtain ⟨rfl, rfl, rfl⟩ := hcs
    exact ⟨[], rfl, by omega, fun i h => absurd h (Nat.not_lt_zero i)⟩
  · simp only [List.cons.injEq, Value.slice.injEq, and_true] at hcs
    obtain ⟨rfl, rfl, rfl⟩ := hcs
    unfold maxLen at hm
    have hml : len ≤ zs.length := by rw [hz]; split <;> omega
    refine ⟨(zs.take len).map fun z => UInt8.ofNat z.toNat, by simp; omega, by omega, fun i h => ?_⟩
    have hil : i < len := by simp at h; omega
    have hci := hcell i (by omega)
    obtain ⟨b, off, sp⟩ := x
    have hsp : sp = none := by simpa [Addr.add] using World.cell?_spot (hcell 0 (by omega))
    subst hsp
    rw [Addr.add_lit] at hci
    refine ⟨b, off, rfl, World.block_lt_of_cell? W _ hci, ?_⟩
    rw [hci]
    have e : zs.getD i 0 = zs[i]'(by omega) := by simp [List.getD_eq_getElem?_getD, List.getElem?_eq_getElem (show i < zs.length by omega)]
    have hb := bounds_u8 (hwf _ (List.getElem_mem (show i < zs.length by omega)))
    rw [e]
    have e2 : ((zs.take len).map fun z => UInt8.ofNat z.toNat)[i] = UInt8.ofNat (zs[i]'(by omega)).toNat := by simp
    rw [e2, byte_of (by omega)]
    rw [show (((zs[i]'(by omega)).toNat : Nat) : Int) = zs[i]'(by omega) by omega]

set_option maxRecDepth 100000 in
theorem lifted (os : Os) (started : os.Started) (H : Type) (enc : TypeId × Value → H) :
    ReturnsInHanded {} Tryd.checked os 5 .any (fun w args => (Rows.glyphWritesSpec.pre enc Tryd.prog Tryd.f5 [] false w args ∧ laidMetH Tryd.prog Rows.glyphWritesRow.laid w) ∧ sizedMet enc Tryd.prog Tryd.f5 (OpenSpec.ofChange Rows.glyphWritesSpec) false w args)
      (Rows.glyphWritesSpec.post enc Tryd.prog Tryd.f5 false true false false) := by
  refine returnsInHanded_of_change_and (C := Tryd.checked) (X := fun w _ => laidMetH Tryd.prog Rows.glyphWritesRow.laid w) (fun _ _ _ hh h => h.of_heap hh) own started (by kernel_rfl) Tryd.func5
    (ChangeSpec.witness_shaped (enc := enc) (C := Tryd.checked) (os := os) (X := fun w _ => laidMetH Tryd.prog Rows.glyphWritesRow.laid w) false (World.laidAll Tryd.prog os Rows.glyphWritesRow.laid) #[.agg (arrI fun _ => 0), .slice none 0 0, .int .i64 0] 8 (World.laidAll_os _ _ _)
      (World.shaped_of_ZipB (by kernel_rfl) (by kernel_rfl)) (by kernel_rfl) (by kernel_rfl) (by kernel_rfl)
      (by rw [MakeChecks.laidMetH_plain _ _ _ (by kernel_rfl)]; exact laidMet_laidAll _ (by kernel_rfl) (by kernel_rfl))) ?_
  intro W base args ds gs before hval0 hW _ _ hL _
  have hval : ∀ (j : Nat) t v, Tryd.f5.params[j]? = some t → args[j]? = some v → Value.okWide Tryd.prog W .any base t v := hval0
  have hW' := hW
  obtain ⟨p, q, hA0, hV, rfl, _, _⟩ := hW
  have hA : DataW.TrodAll enc Tryd.prog W 0 (fun _ => true) true Tryd.f5.params.toList args.toList ds p := hA0
  rw [Tryd.params5] at hA hval
  obtain ⟨v0, vs0, d0, ds0, p0, q0, hargs, rfl, rfl, h0, r0⟩ := trodAll_cons hA
  obtain ⟨v1, vs1, d1, ds1, p1, q1, rfl, rfl, rfl, h1, r1⟩ := trodAll_cons r0
  obtain ⟨v2, vs2, d2, ds2, p2, q2, rfl, rfl, rfl, h2, r2⟩ := trodAll_cons r1
  obtain ⟨rfl, rfl, rfl⟩ := trodAll_nil r2
  obtain rfl : args = #[v0, v1, v2] := by cases args; simp_all
  obtain ⟨rfl, rfl⟩ := trodVars_none hV
  obtain ⟨cs0, rfl, hcs0⟩ := okWide_ten (hval 0 30 v0 rfl rfl)
  obtain ⟨a1, len1, cap1, rfl⟩ := okWide_slice Tryd.underlying31 (hval 1 31 v1 rfl rfl)
  obtain ⟨a2, rfl, rfl, rfl, w2⟩ := open_int Tryd.underlying3 (hval 2 3 v2 rfl rfl) h2
  have k0 := h0
  have k1 := h1
  have lt0 : ∀ x ∈ p0, x.block < W.heap.size := by obtain ⟨m, hm⟩ := k0; exact DataW.trod_lt m _ _ _ hm
  have lt1 : ∀ x ∈ p1, x.block < W.heap.size := by obtain ⟨m, hm⟩ := k1; exact DataW.trod_lt m _ _ _ hm
  obtain ⟨N, rfl⟩ : ∃ N, cs0 = arrI N := by
    obtain ⟨fuel, hf⟩ := h0
    exact ten_of hcs0 (by simpa [Value.cells] using hf)
  obtain ⟨l1, hl1, hb1, hB1⟩ : ∃ l : List UInt8, l.length = len1 ∧ len1 ≤ 9223372036854775807 ∧ Bs W a1 l := by
    obtain ⟨fuel, hf⟩ := h1
    exact bytes_of (by simpa [Value.cells] using hf)
  clear hA0 hval0
  rw [MakeChecks.laidMetH_plain _ _ _ (by kernel_rfl)] at hL
  have hT : Tabs W := tabs_of_laid rfl hL
  have hwalk := writes_law N a1 l1 cap1 a2 W hB1 (by omega) hT
  rw [hl1] at hwalk
  refine hwalk.mono fun e W' ⟨he, bel⟩ => ?_
  subst he
  exact ⟨_, rfl, _, _, _, [], _, [], hW', trodAll_mk1 (shut_bool Tryd.underlying4 _), (trodAll_cons_mk (Below.trod laidOut (by kernel_rfl) (of_decide_eq_true (by kernel_rfl)) k0 bel lt0) (trodAll_cons_mk (Below.trod laidOut (by kernel_rfl) (of_decide_eq_true (by kernel_rfl)) k1 bel lt1) (trodAll_cons_mk (shut_int Tryd.underlying3 w2) trodAll_mk0))), rfl, bel.frame _, fun h => by cases h⟩

theorem over : Rows.glyphWritesRow.holds Tryd.pinned (OpenSpec.ofChange Rows.glyphWritesSpec) :=
  OpenClaim.holds_of_wide 5 Tryd.f5 rfl rfl rfl rfl rfl rfl rfl ⟨rfl, rfl, rfl, rfl, rfl⟩ rfl rfl rfl rfl rfl (by kernel_rfl) Tryd.func5 (by kernel_rfl)
    (of_decide_eq_true (by kernel_rfl)) (by unfold Func.isWrapper; first | (rw [if_pos (by decide +kernel)]; kernel_rfl) | (rw [if_neg (by decide +kernel)]; exact ⟨rfl, rfl⟩))
    (fun os started H enc _ => lifted os started H enc)

/-- THE STATEMENT. -/
theorem proved : Rows.GlyphWritesCardSaid :=
  Claim7.holds_tied_plain_at .later [] [.data, .pinned] true (true, "2668dfd7882ed33087c5461d0ed3f8f1541e091d34b2494f718517da85b5768e") false
    over (fun _ h => by cases h) (by kernel_rfl) (fun _ h => by cases h) glyphWrites_row_tie rfl ⟨rfl, rfl⟩ (by kernel_rfl) rfl
    (fun f fn hf hfn => by
      obtain rfl : f = 5 := Option.some.inj ((show Tryd.prog.funcNamed "florin/florinlaw09.GlyphWrites" = some 5 by kernel_rfl).symm.trans hf) |>.symm
      obtain rfl : fn = Tryd.f5 := (Option.some.inj (Tryd.func5.symm.trans hfn)).symm
      exact ⟨by kernel_rfl, fun j t ht => by
        rw [Tryd.params5] at ht
        have hm : t ∈ [30, 31, 3] := by
          have h := Array.mem_of_getElem? ht
          simp at h
          simp
          first | (rcases h with h | h | h <;> simp [h]) | exact h | exact h.symm | (rcases h with h | h | h <;> simp [h]) | (rcases h with h | h <;> simp [h])
        have hall : ([30, 31, 3].all fun u => !Tryd.prog.wantsStandIn u) = true := by kernel_rfl
        exact (show Tryd.prog.wantsStandIn t = false by simpa using List.all_eq_true.1 hall t hm)⟩)
    (by kernel_rfl)
#print axioms proved
end Go.Proofs.YtajioajigpneoaaDoor.glyphWrites
