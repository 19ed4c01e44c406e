/- Parse in one law; the head. -/
import Derived.Test.YtikkakbemphdhaaDoorParse
import Derived.Test.YtikkakbemphdhaaDoorFill
import Derived.Test.YtikkakbemphdhaaDoorPure3
set_option linter.unusedSimpArgs false
set_option linter.unusedVariables false
namespace Go.Proofs.YtikkakbemphdhaaDoor
open Go.RowKit Go.Fl Go.Shelf

theorem bt {w w1 w2 : World} (h : Below w.heap.size w w1) (k : Below w1.heap.size w1 w2) : Below w.heap.size w w2 := h.trans (k.mono h.size)
theorem Strs.of_own {W : World} {base : Nat} {v : Value} {ts : List (List UInt8)} (h : W.ownsRow base 9 1 v ts.length (strsV ts)) : ∃ a c, v = .slice a ts.length c ∧ Strs W a ts := by
  obtain ⟨a, c, rfl⟩ := own_sl h
  refine ⟨a, c, rfl, fun i hi => ?_⟩
  obtain ⟨g, c', he⟩ := own_ne h (by omega)
  injection he with he _ _
  subst he
  have := h.cells (g := g) rfl i (strV ts[i]) (by simp [strsV, strV, hi])
  rw [Addr.add_lit] at this
  exact ⟨g, 0, rfl, (h.lt g rfl).2, this⟩
theorem Nats.of_own {W : World} {base : Nat} {v : Value} {ps : List Nat} (h : W.ownsRow base 3 1 v ps.length (intsV ps)) : ∃ a c, v = .slice a ps.length c ∧ Nats W a ps := by
  obtain ⟨a, c, rfl⟩ := own_sl h
  refine ⟨a, c, rfl, fun i hi => ?_⟩
  obtain ⟨g, c', he⟩ := own_ne h (by omega)
  injection he with he _ _
  subst he
  have := h.cells (g := g) rfl i (.int .i64 (ps[i] : Nat)) (by simp [intsV, hi])
  rw [Addr.add_lit] at this
  exact ⟨g, 0, rfl, (h.lt g rfl).2, this⟩

def PPost (R : Br.Res) (w : World) (e : Ending) (w' : World) : Prop :=
  Below w.heap.size w w' ∧
  match R with
  | .err c p => e = .returned (.tuple #[.agg #[.slice none 0 0, .slice none 0 0], .int .i64 c, .int .i64 p])
  | .ok ts ps => ∃ ta tc pa pc, e = .returned (.tuple #[.agg #[.slice ta ts.length tc, .slice pa ps.length pc], .int .i64 0, .int .i64 0]) ∧ Strs w' ta ts ∧ Nats w' pa ps

theorem parse_any (s : ByteArray) (n : Int) (w : World) (hs : s.size ≤ 1000) (hT : Tabs w) : Calls Tryd.prog 10 #[.string s, .int .i64 n] w (PPost (parseRes s n) w) := by
  have h : Calls Tryd.prog 10 #[.string s, .int .i64 n] w (ParsePost s n w) := by
    cases hv : valid s with
    | true => exact parse_good s n w hs hT hv
    | false => exact parse_bad s n w hs hT hv
  refine h.mono fun e w' h => ?_
  unfold ParsePost at h
  unfold PPost
  cases hr : parseRes s n with
  | err c p =>
    rw [hr] at h
    exact ⟨h.2, h.1⟩
  | ok ts ps =>
    rw [hr] at h
    obtain ⟨tv, pv, rfl, ht, hp, hb⟩ := h
    obtain ⟨ta, tc, rfl, hS⟩ := Strs.of_own ht
    obtain ⟨pa, pc, rfl, hN⟩ := Nats.of_own hp
    exact ⟨hb, ta, tc, pa, pc, rfl, hS, hN⟩

/-- of what is read, all that the page says. -/
theorem parse_facts {s : ByteArray} {n : Int} {ts : List (List UInt8)} {ps : List Nat} (h : parseRes s n = .ok ts ps) :
    valid s = true ∧ Br.disp ts ps = s.data.toList ∧ ts.length = ps.length + 1 ∧ Br.Good n ps ∧ min n 10 ≤ (ps.length : Int) := by
  unfold parseRes at h
  split at h
  · rename_i hv
    exact ⟨hv, Br.parse_ok h⟩
  · cases h

theorem ex_res : parseRes ⟨#[123, 48, 125, 32, 107, 109]⟩ 1 = .ok [[], [32, 107, 109]] [0] := by
  have hv : valid ⟨#[123, 48, 125, 32, 107, 109]⟩ = true := by unfold valid; decide
  unfold parseRes
  rw [if_pos hv]
  rw [Br.scan_open_ok 1 123 [48, 125, 32, 107, 109] [32, 107, 109] 0 0 [] [] [] rfl rfl (by simp)]
  rw [Br.scan_byte _ _ _ _ _ _ _ (by decide) (by decide), Br.scan_byte _ _ _ _ _ _ _ (by decide) (by decide), Br.scan_byte _ _ _ _ _ _ _ (by decide) (by decide), Br.scan_nil]
  rfl

theorem ex_fill : Br.fill [[53]] [[], [32, 107, 109]] [0] [] (List.replicate [[(53 : UInt8)]].length 0) = ([53, 32, 107, 109], [0]) := by
  simp [Br.fill]

set_option maxRecDepth 100000 in
set_option maxHeartbeats 2000000 in
theorem head_any (w : World) (hT : Tabs w) : Calls Tryd.prog 6 #[] w fun e w' => e = .returned (.bool true) ∧ Below w.heap.size w w' := by
  have HT := Lib.hid hT
  clear hT
  go_enter Tryd.func6, Tryd.ntmps6
  go_wp2_with fail
  refine (parse_any ⟨#[123, 48, 125, 32, 107, 109]⟩ 1 w (by decide) HT.out).mono ?_
  intro e w1 hP
  unfold PPost at hP
  rw [ex_res] at hP
  obtain ⟨hb, ta, tc, pa, pc, rfl, hS, hN⟩ := hP
  have HS := Lib.hid hS
  have HN := Lib.hid hN
  have HB := Lib.hid hb
  clear hS hN hb
  go_wp2_with fail
  obtain ⟨w2, hw2⟩ : ∃ w2, (w1.alloc (.cells #[.slice ta 2 tc, .slice pa 1 pc] 29)).alloc (.cells #[.string ⟨#[53]⟩] 9) = w2 := ⟨_, rfl⟩
  have hb2 : Below w1.heap.size w1 w2 := by rw [← hw2]; exact ((Below.refl _ _).alloc (Nat.le_refl _) _).alloc (by simp) _
  have hx2 : Hid (w2.heap[w1.heap.size]? = some (.cells #[.slice ta 2 tc, .slice pa 1 pc] 29 (0, 0))) := Lib.hid (by
    rw [← hw2, Below.heap_alloc _ _ _ (by simp)]; exact heap_alloc_new w1 _)
  have hq2 : Hid (w2.heap[w1.heap.size + 1]? = some (.cells #[.string ⟨#[53]⟩] 9 (0, 0))) := Lib.hid (by
    have h := heap_alloc_new (w1.alloc (.cells #[.slice ta 2 tc, .slice pa 1 pc] 29)) (.cells #[.string ⟨#[53]⟩] 9)
    rw [hw2] at h
    simpa using h)
  rw [hw2]
  clear hw2
  have hl2 : Strs w2 (some ⟨w1.heap.size + 1, 0, none⟩) [[53]] := fun i hi => by
    obtain rfl : i = 0 := by simpa using hi
    exact ⟨_, 0, rfl, lt_of_heap hq2.out, cell_of_one hq2.out⟩
  have hs2 := HS.out.below hb2
  have hn2 := HN.out.below hb2
  have HB2 := Lib.hid hb2
  have HS2 := Lib.hid hs2
  have HN2 := Lib.hid hn2
  refine (fill_any ta pa (some ⟨w1.heap.size + 1, 0, none⟩) tc pc 1 [[53]] [[], [32, 107, 109]] [0] w2 hs2 hn2 hl2 (by rw [ex_fill]; decide) (by decide) (by decide) (by decide)).mono ?_
  intro e w3 hF
  clear hb2 hs2 hn2 hl2
  unfold FillPost at hF
  rw [ex_fill] at hF
  obtain ⟨at_, rfl, hA, hb3⟩ := hF
  obtain ⟨ab, ao, rfl, hlt, hac⟩ := hA 0 (by decide)
  have HB3 := Lib.hid hb3
  obtain ⟨x0, x1, _, _⟩ := two2 ((hb3.block _ (lt_of_heap hx2.out)).trans hx2.out)
  have hac' : w3.cell? ⟨ab, ao, none⟩ = some (.int .i64 0) := hac
  unfold strV
  clear hA hac hb3
  go_wp2_with fail
  refine (string_any ta pa tc pc [[], [32, 107, 109]] [0] w3 (HS2.out.below HB3.out) (HN2.out.below HB3.out) (by decide) (by decide) (by decide) (by decide)).mono ?_
  rintro e w4 ⟨rfl, hb4⟩
  have HB4 := Lib.hid hb4
  clear hb4
  unfold strV
  rw [show Br.disp [[], [32, 107, 109]] [0] = [123, 48, 125, 32, 107, 109] from rfl]
  go_wp2_with fail
  go_ret
  exact ⟨rfl, bt (bt (bt HB.out HB2.out) HB3.out) HB4.out⟩
end Go.Proofs.YtikkakbemphdhaaDoor
