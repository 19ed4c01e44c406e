/- GlyphReads: whatever texts stand for digits, whatever text: from its beginning on the least digit whose text is there; for every input, no condition but the two tables of unicode/utf8 as the library's text lays them (the card ties them). -/
import Derived.Test.YtajioajigpneoaaDoorReads
import Derived.Test.YtajioajigpneoaaDoorLaid
import Derived.Test.YtajioajigpneoaaDoorCards
import Derived.Test.YtajioajigpneoaaDoorTie
import Derived.ProofKit
import Derived.OpenShut
import Derived.ShutString
import Derived.Carry
import Derived.ChangeSlices
import Derived.SevenTiedAt
namespace Go.Proofs.YtajioajigpneoaaDoor.glyphReads
open Go.ChangeShapes Go.WideShapes Go.ChangeAt Go.RowKit Go.Fl
open Go.ChangeMaps (open_string shut_string)
set_option linter.unusedVariables false

theorem laidOut : laidOutB Tryd.prog = true := by kernel_rfl
theorem cells9 : Tryd.prog.cellsOf 9 = 1 := by kernel_rfl
theorem cells33 : Tryd.prog.cellsOf 33 = 10 := by kernel_rfl

theorem okWide_ten {W : World} {r : Reach} {b0 : Nat} {v : Value} (h : Value.okWide Tryd.prog W r b0 33 v) : ∃ cs : Array Value, v = .agg cs ∧ cs.size = 10 := by
  simp only [Value.okWide, Tryd.underlying33] at h
  obtain ⟨cs, h1, h2, _⟩ := h
  exact ⟨cs, h1, by rw [h2, cells33]⟩

theorem ten_of {W : World} {H : Type} {enc : TypeId × Value → H} {base : Nat} {spare : Nat → Bool} {held : Bool} {fuel : Nat} {cs : Array Value} {y : DataW H × List MemPlace} (hn : cs.size = 10)
    (hf : DataW.trod enc Tryd.prog W base spare held fuel 33 cs.toList = some y) : ∃ G, cs = arr G ∧ ∀ i, i < 10 → (G i).size ≤ 9223372036854775807 := by
  obtain ⟨xs, m, _, _, _, hxl, hx⟩ := DataW.trod_array Tryd.underlying33 hf
  rw [cells9] at hx
  obtain ⟨l⟩ := cs
  match l, hn with
  | [x0, x1, x2, x3, x4, x5, x6, x7, x8, x9], _ =>
    have key : ∀ i v, i < 10 → ([x0, x1, x2, x3, x4, x5, x6, x7, x8, x9].drop (i * 1)).take 1 = [v] → ∃ a : ByteArray, v = .string a ∧ a.size ≤ 9223372036854775807 := by
      intro i v hi hv
      have h := hx i hi
      rw [hv, List.getElem?_eq_getElem (by omega)] at h
      obtain ⟨a, e, _, hs⟩ := DataW.trod_string Tryd.underlying9 h
      exact ⟨a, by simpa using e, hs⟩
    obtain ⟨a0, rfl, b0⟩ := key 0 x0 (by decide) rfl
    obtain ⟨a1, rfl, b1⟩ := key 1 x1 (by decide) rfl
    obtain ⟨a2, rfl, b2⟩ := key 2 x2 (by decide) rfl
    obtain ⟨a3, rfl, b3⟩ := key 3 x3 (by decide) rfl
    obtain ⟨a4, rfl, b4⟩ := key 4 x4 (by decide) rfl
    obtain ⟨a5, rfl, b5⟩ := key 5 x5 (by decide) rfl
    obtain ⟨a6, rfl, b6⟩ := key 6 x6 (by decide) rfl
    obtain ⟨a7, rfl, b7⟩ := key 7 x7 (by decide) rfl
    obtain ⟨a8, rfl, b8⟩ := key 8 x8 (by decide) rfl
    obtain ⟨a9, rfl, b9⟩ := key 9 x9 (by decide) rfl
    exact ⟨fun | 0 => a0 | 1 => a1 | 2 => a2 | 3 => a3 | 4 => a4 | 5 => a5 | 6 => a6 | 7 => a7 | 8 => a8 | _ => a9, rfl, fun
      | 0, _ => b0 | 1, _ => b1 | 2, _ => b2 | 3, _ => b3 | 4, _ => b4 | 5, _ => b5 | 6, _ => b6 | 7, _ => b7 | 8, _ => b8 | 9, _ => b9
      | _ + 10, h => absurd h (by omega)⟩

set_option maxRecDepth 100000 in
theorem lifted (os : Os) (started : os.Started) (H : Type) (enc : TypeId × Value → H) :
    ReturnsInHanded {} Tryd.checked os 6 .any (fun w args => (Rows.glyphReadsSpec.pre enc Tryd.prog Tryd.f6 [] false w args ∧ laidMetH Tryd.prog Rows.glyphReadsRow.laid w) ∧ sizedMet enc Tryd.prog Tryd.f6 (OpenSpec.ofChange Rows.glyphReadsSpec) false w args)
      (Rows.glyphReadsSpec.post enc Tryd.prog Tryd.f6 false true false false) := by
  refine returnsInHanded_of_change_and (C := Tryd.checked) (X := fun w _ => laidMetH Tryd.prog Rows.glyphReadsRow.laid w) (fun _ _ _ hh h => h.of_heap hh) own started (by kernel_rfl) Tryd.func6
    (ChangeSpec.witness_shaped (enc := enc) (C := Tryd.checked) (os := os) (X := fun w _ => laidMetH Tryd.prog Rows.glyphReadsRow.laid w) false (World.laidAll Tryd.prog os Rows.glyphReadsRow.laid) #[.agg (arr fun _ => ⟨#[]⟩), .string ⟨#[]⟩] 8 (World.laidAll_os _ _ _)
      (World.shaped_of_ZipB (by kernel_rfl) (by kernel_rfl)) (by kernel_rfl) (by kernel_rfl) (by kernel_rfl)
      (by rw [MakeChecks.laidMetH_plain _ _ _ (by kernel_rfl)]; exact laidMet_laidAll _ (by kernel_rfl) (by kernel_rfl))) ?_
  intro W base args ds gs before hval0 hW _ _ hL _
  have hval : ∀ (j : Nat) t v, Tryd.f6.params[j]? = some t → args[j]? = some v → Value.okWide Tryd.prog W .any base t v := hval0
  have hW' := hW
  obtain ⟨p, q, hA0, hV, rfl, _, _⟩ := hW
  have hA : DataW.TrodAll enc Tryd.prog W 0 (fun _ => true) true Tryd.f6.params.toList args.toList ds p := hA0
  rw [Tryd.params6] at hA hval
  obtain ⟨v0, vs0, d0, ds0, p0, q0, hargs, rfl, rfl, h0, r0⟩ := trodAll_cons hA
  obtain ⟨v1, vs1, d1, ds1, p1, q1, rfl, rfl, rfl, h1, r1⟩ := trodAll_cons r0
  obtain ⟨rfl, rfl, rfl⟩ := trodAll_nil r1
  obtain rfl : args = #[v0, v1] := by cases args; simp_all
  obtain ⟨rfl, rfl⟩ := trodVars_none hV
  obtain ⟨cs0, rfl, hcs0⟩ := okWide_ten (hval 0 33 v0 rfl rfl)
  have k0 := h0
  have lt0 : ∀ x ∈ p0, x.block < W.heap.size := by obtain ⟨m, hm⟩ := k0; exact DataW.trod_lt m _ _ _ hm
  obtain ⟨a1, rfl, rfl, rfl, w1⟩ := open_string Tryd.underlying9 (hval 1 9 v1 rfl rfl) h1
  obtain ⟨G, rfl, hG⟩ : ∃ G, cs0 = arr G ∧ ∀ i, i < 10 → (G i).size ≤ 9223372036854775807 := by
    obtain ⟨fuel, hf⟩ := h0
    exact ten_of hcs0 (by simpa [Value.cells] using hf)
  clear hA0 hval0
  rw [MakeChecks.laidMetH_plain _ _ _ (by kernel_rfl)] at hL
  have hT : Tabs W := tabs_of_laid rfl hL
  have hwalk := reads_law G a1 W (by unfold maxLen at w1; omega) hG hT
  refine hwalk.mono fun e W' ⟨he, bel⟩ => ?_
  subst he
  exact ⟨_, rfl, _, _, _, [], _, [], hW', trodAll_mk1 (shut_bool Tryd.underlying4 _), (trodAll_cons_mk (Below.trod laidOut (by kernel_rfl) (of_decide_eq_true (by kernel_rfl)) k0 bel lt0) (trodAll_cons_mk (shut_string Tryd.underlying9 w1) trodAll_mk0)), rfl, bel.frame _, fun h => by cases h⟩

theorem over : Rows.glyphReadsRow.holds Tryd.pinned (OpenSpec.ofChange Rows.glyphReadsSpec) :=
  OpenClaim.holds_of_wide 6 Tryd.f6 rfl rfl rfl rfl rfl rfl rfl ⟨rfl, rfl, rfl, rfl, rfl⟩ rfl rfl rfl rfl rfl (by kernel_rfl) Tryd.func6 (by kernel_rfl)
    (of_decide_eq_true (by kernel_rfl)) (by unfold Func.isWrapper; first | (rw [if_pos (by decide +kernel)]; kernel_rfl) | (rw [if_neg (by decide +kernel)]; exact ⟨rfl, rfl⟩))
    (fun os started H enc _ => lifted os started H enc)

/-- THE STATEMENT. -/
theorem proved : Rows.GlyphReadsCardSaid :=
  Claim7.holds_tied_plain_at .later [] [.data, .pinned] true (true, "2668dfd7882ed33087c5461d0ed3f8f1541e091d34b2494f718517da85b5768e") false
    over (fun _ h => by cases h) (by kernel_rfl) (fun _ h => by cases h) glyphReads_row_tie rfl ⟨rfl, rfl⟩ (by kernel_rfl) rfl
    (fun f fn hf hfn => by
      obtain rfl : f = 6 := Option.some.inj ((show Tryd.prog.funcNamed "florin/florinlaw09.GlyphReads" = some 6 by kernel_rfl).symm.trans hf) |>.symm
      obtain rfl : fn = Tryd.f6 := (Option.some.inj (Tryd.func6.symm.trans hfn)).symm
      exact ⟨by kernel_rfl, fun j t ht => by
        rw [Tryd.params6] at ht
        have hm : t ∈ [33, 9] := by
          have h := Array.mem_of_getElem? ht
          simp at h
          simp
          first | exact h | exact h.symm | (rcases h with h | h | h <;> simp [h]) | (rcases h with h | h <;> simp [h])
        have hall : ([33, 9].all fun u => !Tryd.prog.wantsStandIn u) = true := by kernel_rfl
        exact (show Tryd.prog.wantsStandIn t = false by simpa using List.all_eq_true.1 hall t hm)⟩)
    (by kernel_rfl)
#print axioms proved
end Go.Proofs.YtajioajigpneoaaDoor.glyphReads
