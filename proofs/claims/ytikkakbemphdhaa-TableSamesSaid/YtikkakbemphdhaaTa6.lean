/- The walk of Bytes. -/
import Derived.Test.YtikkakbemphdhaaTa5
import Derived.Test.YtikkakbemphdhaaTa3
set_option linter.unusedSimpArgs false
set_option linter.unusedVariables false
namespace Go.Proofs.Ytikkakbemphdhaa
open Go.RowKit Go.Fl

def bB (t : Tb) : List UInt8 := eSs t.s 27 ++ numB t.grp.toNat ++ eAll eRw t.short ++ eAll eRw t.long ++ eAll eRw t.mshort ++ numB t.curs.length
def bC (t : Tb) (j : Nat) : List UInt8 := bB t ++ (t.curs.take j).flatMap eCu
def bD (t : Tb) : List UInt8 := bC t t.curs.length ++ numB t.units.length
def bE (t : Tb) (j : Nat) : List UInt8 := bD t ++ (t.units.take j).flatMap eUn
theorem eTb_eq (t : Tb) : eTb t = bE t t.units.length ++ eAll eTx t.munit := by
  unfold eTb bE bD bC bB eAll
  simp only [List.take_length, List.append_assoc]
theorem strIs_app {s r : ByteArray} {l k : List UInt8} (h : Hid (StrIs s l)) (h2 : Hid (StrIs r k)) : Hid (StrIs (s ++ r) (l ++ k)) := strIs_append h h2
theorem eSs_succ (s : Nat → ByteArray) (n : Nat) : eSs s (n + 1) = eSs s n ++ textB (s n) := by
  unfold eSs
  rw [List.range_succ, List.flatMap_append]
  simp
theorem eSs_mono (s : Nat → ByteArray) (n k : Nat) : (eSs s n).length ≤ (eSs s (n + k)).length := by
  induction k with
  | zero => exact Nat.le_refl _
  | succ k ih => rw [← Nat.add_assoc, eSs_succ, List.length_append]; omega
/-- the lengths of what is laid. -/
structure Lens (t : Tb) (B : Nat) : Prop where
  ss : ∀ i, i < 27 → (eSs t.s (i + 1)).length ≤ B ∧ (t.s i).size ≤ B
  b : (bB t).length ≤ B
  short : (eAll eRw t.short).length ≤ B
  long : (eAll eRw t.long).length ≤ B
  mshort : (eAll eRw t.mshort).length ≤ B
  munit : (eAll eTx t.munit).length ≤ B
  c : ∀ j, (bC t j).length ≤ B
  e : ∀ j, (bE t j).length ≤ B
  cu : ∀ c ∈ t.curs, (eCu c).length ≤ B
  un : ∀ u ∈ t.units, (eUn u).length ≤ B
theorem mem_len {α : Type} (f : α → List UInt8) (xs : List α) (x : α) (h : x ∈ xs) : (f x).length ≤ (xs.flatMap f).length := by
  obtain ⟨i, hi, rfl⟩ := List.mem_iff_getElem.1 h
  have h1 := eAll_le f xs (i + 1)
  rw [eAll_take f xs i hi, List.length_append] at h1
  omega
theorem lens_of (t : Tb) (B : Nat) (h : (eTb t).length ≤ B) : Lens t B := by
  rw [eTb_eq] at h
  have hE := eAll_le eUn t.units
  have hC := eAll_le eCu t.curs
  have h1 : (bE t t.units.length ++ eAll eTx t.munit).length = (bD t).length + (t.units.flatMap eUn).length + (eAll eTx t.munit).length := by
    unfold bE; rw [List.take_length]; simp only [List.length_append]
  have h2 : (bD t).length = (bB t).length + (t.curs.flatMap eCu).length + (numB t.units.length).length := by
    unfold bD bC; rw [List.take_length]; simp only [List.length_append]
  have h3 : (bB t).length = (eSs t.s 27).length + (numB t.grp.toNat).length + (eAll eRw t.short).length + (eAll eRw t.long).length + (eAll eRw t.mshort).length + (numB t.curs.length).length := by
    unfold bB; simp only [List.length_append]
  refine ⟨fun i hi => ?_, by omega, by omega, by omega, by omega, by omega, fun j => ?_, fun j => ?_, fun c hc => ?_, fun u hu => ?_⟩
  · have h4 := eSs_mono t.s (i + 1) (27 - (i + 1))
    rw [show i + 1 + (27 - (i + 1)) = 27 by omega] at h4
    have h5 := eSs_succ t.s i
    have h6 := size_le_textB (t.s i)
    have h7 : (eSs t.s (i + 1)).length = (eSs t.s i).length + (textB (t.s i)).length := by rw [h5, List.length_append]
    exact ⟨by omega, by omega⟩
  · have h4 := hC j
    unfold bC
    rw [List.length_append]
    omega
  · have h4 := hE j
    unfold bE
    rw [List.length_append]
    omega
  · have := mem_len eCu t.curs c hc
    omega
  · have := mem_len eUn t.units u hu
    omega

/-- Bytes' seventeen texts. -/
def sev (s : Nat → ByteArray) : Array Value := #[.string (s 10), .string (s 11), .string (s 12), .string (s 13), .string (s 14), .string (s 15), .string (s 16), .string (s 17), .string (s 18), .string (s 19), .string (s 20),
  .string (s 21), .string (s 22), .string (s 23), .string (s 24), .string (s 25), .string (s 26)]
theorem sev_get (s : Nat → ByteArray) (i : Nat) (hi : i < 17) : (sev s)[i]? = some (.string (s (10 + i))) := by
  have : i = 0 ∨ i = 1 ∨ i = 2 ∨ i = 3 ∨ i = 4 ∨ i = 5 ∨ i = 6 ∨ i = 7 ∨ i = 8 ∨ i = 9 ∨ i = 10 ∨ i = 11 ∨ i = 12 ∨ i = 13 ∨ i = 14 ∨ i = 15 ∨ i = 16 := by omega
  rcases this with h|h|h|h|h|h|h|h|h|h|h|h|h|h|h|h|h <;> subst h <;> rfl

theorem bC_succ (t : Tb) (j : Nat) (h : j < t.curs.length) : bC t (j + 1) = bC t j ++ eCu t.curs[j] := by
  unfold bC; rw [eAll_take eCu t.curs j h, List.append_assoc]
theorem bE_succ (t : Tb) (j : Nat) (h : j < t.units.length) : bE t (j + 1) = bE t j ++ eUn t.units[j] := by
  unfold bE; rw [eAll_take eUn t.units j h, List.append_assoc]
/-- a currency's numbers. -/
def dF (c : Cu) : Nat → Int
  | 0 => c.d0
  | 1 => c.d1
  | 2 => c.d2
  | _ => c.d3
def eD (c : Cu) (i : Nat) : List UInt8 := (List.range i).flatMap fun i => numB (dF c i).toNat
theorem eD_succ (c : Cu) (i : Nat) : eD c (i + 1) = eD c i ++ numB (dF c i).toNat := by
  unfold eD
  rw [List.range_succ, List.flatMap_append]
  simp
theorem dF_get (c : Cu) (i : Nat) (h : i < 4) : (#[Value.int .i64 c.d0, .int .i64 c.d1, .int .i64 c.d2, .int .i64 c.d3])[i]? = some (.int .i64 (dF c i)) := by
  have : i = 0 ∨ i = 1 ∨ i = 2 ∨ i = 3 := by omega
  rcases this with h|h|h|h <;> subst h <;> rfl
theorem dF_le (c : Cu) (i : Nat) (h0 : c.d0 ≤ 9223372036854775807) (h1 : c.d1 ≤ 9223372036854775807) (h2 : c.d2 ≤ 9223372036854775807) (h3 : c.d3 ≤ 9223372036854775807) : dF c i ≤ 9223372036854775807 := by
  unfold dF
  split <;> assumption
theorem eCu_eq (c : Cu) : eCu c = textB c.code ++ textB c.sym ++ textB c.nar ++ eAll eTx c.names ++ eD c 4 := by
  have h : eD c 4 = numB c.d0.toNat ++ numB c.d1.toNat ++ numB c.d2.toNat ++ numB c.d3.toNat := by
    rw [eD_succ, eD_succ, eD_succ, eD_succ]
    rfl
  unfold eCu
  rw [h]
  simp only [List.append_assoc]
theorem cu_lens (c : Cu) (h : (eCu c).length ≤ 140737488355328) : (eAll eTx c.names).length ≤ 140737488355328 := by
  unfold eCu at h
  simp only [List.length_append] at h
  omega
theorem un_lens (c : Un) (h : (eUn c).length ≤ 140737488355328) : (eAll eTx c.texts).length ≤ 140737488355328 ∧ c.name.size ≤ 140737488355328 := by
  have h6 := size_le_textB c.name
  unfold eUn at h
  simp only [List.length_append] at h
  omega

theorem heapB {W W' : World} {g : Nat} {o : Obj} (hb : Below W.heap.size W W') (h : W.heap[g]? = some o) : W'.heap[g]? = some o := (hb.block _ (lt_of_heap h)).trans h
theorem tb_strs {W : World} {g : Nat} {s : Nat → ByteArray} {grp : Int} {v1 v2 v3 v4 v5 v6 : Value} (h : W.heap[g]? = some (.cells (tbC s grp v1 v2 v3 v4 v5 v6) 55 (0, 0))) :
    W.cell? ⟨g, 10, none⟩ = some (.string (s 10)) ∧ W.cell? ⟨g, 11, none⟩ = some (.string (s 11)) ∧ W.cell? ⟨g, 12, none⟩ = some (.string (s 12)) ∧ W.cell? ⟨g, 13, none⟩ = some (.string (s 13)) ∧ W.cell? ⟨g, 14, none⟩ = some (.string (s 14)) ∧ W.cell? ⟨g, 15, none⟩ = some (.string (s 15)) ∧ W.cell? ⟨g, 17, none⟩ = some (.string (s 16)) ∧ W.cell? ⟨g, 18, none⟩ = some (.string (s 17)) ∧ W.cell? ⟨g, 19, none⟩ = some (.string (s 18)) ∧ W.cell? ⟨g, 20, none⟩ = some (.string (s 19)) ∧ W.cell? ⟨g, 21, none⟩ = some (.string (s 20)) ∧ W.cell? ⟨g, 28, none⟩ = some (.string (s 21)) ∧ W.cell? ⟨g, 29, none⟩ = some (.string (s 22)) ∧ W.cell? ⟨g, 30, none⟩ = some (.string (s 23)) ∧ W.cell? ⟨g, 31, none⟩ = some (.string (s 24)) ∧ W.cell? ⟨g, 32, none⟩ = some (.string (s 25)) ∧ W.cell? ⟨g, 33, none⟩ = some (.string (s 26)) :=
  ⟨cell_of h rfl, cell_of h rfl, cell_of h rfl, cell_of h rfl, cell_of h rfl, cell_of h rfl, cell_of h rfl, cell_of h rfl, cell_of h rfl, cell_of h rfl, cell_of h rfl, cell_of h rfl, cell_of h rfl, cell_of h rfl, cell_of h rfl, cell_of h rfl, cell_of h rfl⟩

set_option maxRecDepth 100000 in
set_option maxHeartbeats 4000000 in
theorem bytes_any (P : Nat → Prop) (t : Tb) (v1 v2 v3 v4 v5 v6 : Value) (w : World) (hI : TbS P w t v1 v2 v3 v4 v5 v6) (hf : t.fit) (hl : (eTb t).length ≤ 140737488355328) :
    Calls Try.prog 26 #[tbV t.s t.grp v1 v2 v3 v4 v5 v6] w (StrPost (eTb t) 140737488355328 w) := by
  have HI := Lib.hid hI
  have HF := Lib.hid hf
  have HL := Lib.hid (lens_of t _ hl)
  obtain ⟨a1, c1, rfl⟩ := hI.short.len
  obtain ⟨a2, c2, rfl⟩ := hI.long.len
  obtain ⟨a3, c3, rfl⟩ := hI.mshort.len
  obtain ⟨a4, c4, rfl⟩ := hI.curs.len
  obtain ⟨a5, c5, rfl⟩ := hI.units.len
  obtain ⟨a6, c6, rfl⟩ := hI.munit.len
  have l1 := hf.short.1
  have l2 := hf.long.1
  have l3 := hf.mshort.1
  have l4 := hf.curs.1
  have l5 := hf.units.1
  have l6 := hf.munit.1
  have lg := hf.grp
  have Hlen := Lib.hid hl
  clear hI hf hl
  have Hget := fun i hi => Lib.hid (idx_any t.s i hi)
  unfold tbV tbC
  unfold ten at Hget
  go_enter Try.func26, Try.ntmps26
  go_wp2
  go_loopg [3, 16] 10 (fun gk u v wr => ∃ (j : Nat) (S : ByteArray), u = .string S ∧ v = .int .i64 j ∧ j + gk = 10 ∧ Hid (StrIs S (eSs t.s j)) ∧
    Hid (wr.heap[w.heap.size]? = some (.cells (tbC t.s t.grp (.slice a1 t.short.length c1) (.slice a2 t.long.length c2) (.slice a3 t.mshort.length c3) (.slice a4 t.curs.length c4) (.slice a5 t.units.length c5) (.slice a6 t.munit.length c6)) 55 (0, 0))) ∧ Below w.heap.size w wr)
  case atStart => exact ⟨0, ⟨#[]⟩, rfl, rfl, by omega, Lib.hid rfl, Lib.hid (heap_alloc_new w _), (Below.refl _ _).alloc (Nat.le_refl _) _⟩
  case round =>
    obtain ⟨j, S, rfl, rfl, hj, HS, HT, hbr⟩ := hrel
    by_cases hjl : j < 10
    · have hgi := (Hget j hjl).out
      obtain ⟨hsz1, hsz2⟩ : S.size ≤ 140737488355328 ∧ (t.s j).size ≤ 140737488355328 := by
        have h1 := HL.out.ss j (by omega)
        have h2 := strIs_size HS.out
        have h3 := eSs_mono t.s j 1
        exact ⟨by omega, h1.2⟩
      go_wp2_with fail
      refine (lay_any _ _ hsz2).mono ?_
      rintro e w1 ⟨y, rfl, hy, hyz, hb⟩
      go_wp2
      go_roundg (gk - 1)
      case measure => omega
      case rel => exact ⟨j + 1, _, rfl, rfl, by omega, by rw [eSs_succ]; exact strIs_app HS hy, Lib.hid ((hb.block _ (lt_of_heap HT.out)).trans HT.out), hbr.trans (hb.mono hbr.size)⟩
    · obtain rfl : j = 10 := by omega
      clear hj hjl Hget
      obtain ⟨hc7, hc12, hc13, hc14, hc15, hc16, hc17, hc18⟩ := tb_cells HT.out
      obtain ⟨hq10, hq11, hq12, hq13, hq14, hq15, hq16, hq17, hq18, hq19, hq20, hq21, hq22, hq23, hq24, hq25, hq26⟩ := tb_strs HT.out
      go_wp2
      obtain ⟨g2, hg2⟩ : ∃ g2, wr.heap.size = g2 := ⟨_, rfl⟩
      have HC0 : Hid (∀ i, i < 17 → (wr.alloc (.cells (sev t.s) 9)).cell? ⟨g2, i, none⟩ = some (.string (t.s (10 + i)))) := by subst hg2; exact Lib.hid (fun i h => cell_of (heap_alloc_new wr _) (sev_get t.s i h))
      have hgx0 : g2 < (wr.alloc (.cells (sev t.s) 9)).heap.size := by subst hg2; simp
      rw [hg2]
      clear hg2
      go_loopg [3, 66] 17 (fun gk u v wx => ∃ (j : Nat) (S : ByteArray), u = .string S ∧ v = .int .i64 j ∧ j + gk = 17 ∧ Hid (StrIs S (eSs t.s (10 + j))) ∧ Hid (∀ i, i < 17 → wx.cell? ⟨g2, i, none⟩ = some (.string (t.s (10 + i)))) ∧
        g2 < wx.heap.size ∧ Hid (wx.heap[w.heap.size]? = some (.cells (tbC t.s t.grp (.slice a1 t.short.length c1) (.slice a2 t.long.length c2) (.slice a3 t.mshort.length c3) (.slice a4 t.curs.length c4) (.slice a5 t.units.length c5) (.slice a6 t.munit.length c6)) 55 (0, 0))) ∧ Below w.heap.size w wx)
      case atStart => exact ⟨0, S, rfl, rfl, by omega, HS, HC0, hgx0, Lib.hid ((Below.heap_alloc _ _ _ (lt_of_heap HT.out)).trans HT.out), hbr.alloc hbr.size _⟩
      case round =>
        clear hc7 hc12 hc13 hc14 hc15 hc16 hc17 hc18 hq10 hq11 hq12 hq13 hq14 hq15 hq16 hq17 hq18 hq19 hq20 hq21 hq22 hq23 hq24 hq25 hq26 HS HT
        obtain ⟨j, S, rfl, rfl, hj, HS, HC, hgx, HT, hbx⟩ := hrel
        by_cases hjl : j < 17
        · have hci := HC.out j hjl
          obtain ⟨hsz1, hsz2⟩ : S.size ≤ 140737488355328 ∧ (t.s (10 + j)).size ≤ 140737488355328 := by
            have h1 := HL.out.ss (10 + j) (by omega)
            have h2 := strIs_size HS.out
            have h3 := eSs_mono t.s (10 + j) 1
            exact ⟨by omega, h1.2⟩
          go_wp2_with fail
          refine (lay_any _ _ hsz2).mono ?_
          rintro e w1 ⟨y, rfl, hy, hyz, hb⟩
          go_wp2
          go_roundg (gk - 1)
          case measure => omega
          case rel => exact ⟨j + 1, _, rfl, rfl, by omega, by rw [← Nat.add_assoc, eSs_succ]; exact strIs_app HS hy, Lib.hid (fun i hi => (hb.cell (p := ⟨g2, i, none⟩) hgx).trans (HC.out i hi)), Nat.lt_of_lt_of_le hgx hb.size,
              Lib.hid ((hb.block _ (lt_of_heap HT.out)).trans HT.out), hbx.trans (hb.mono hbx.size)⟩
        · obtain rfl : j = 17 := by omega
          clear hj hjl HC hgx
          obtain ⟨hc7, hc12, hc13, hc14, hc15, hc16, hc17, hc18⟩ := tb_cells HT.out
          go_wp2
          obtain ⟨hsz1, hsz2, hsz3, hsz4⟩ : S.size ≤ 140737488355328 ∧ (eAll eRw t.short).length ≤ 140737488355328 ∧ (eAll eRw t.long).length ≤ 140737488355328 ∧ (eAll eRw t.mshort).length ≤ 140737488355328 := by
            have h1 : (eSs t.s 27).length ≤ 140737488355328 := (HL.out.ss 26 (by omega)).1
            have h2 : S.size = (eSs t.s 27).length := strIs_size HS.out
            exact ⟨by omega, HL.out.short, HL.out.long, HL.out.mshort⟩
          have hS0 : (∀ o, wr.drew.cell? ⟨w.heap.size, o, none⟩ = wr.cell? ⟨w.heap.size, o, none⟩) ∧ Below w.heap.size w wr.drew ∧ w.heap.size < wr.drew.heap.size := ⟨fun o => rfl, hbx.drew, lt_of_heap HT.out⟩
          go_region_held3 (fun w' => (∀ o, w'.cell? ⟨w.heap.size, o, none⟩ = wr.cell? ⟨w.heap.size, o, none⟩) ∧ Below w.heap.size w w' ∧ w.heap.size < w'.heap.size)
            (assumption)
            (first
              | (go_at_call 12; ((with_reducible refine (lNum_str t.grp _ (by omega)).mono ?_); rintro e w2 ⟨s2, rfl, hs2, hs2z, hb2⟩; have hz2 : ¬ (9223372036854775807 < S.size + s2.size) := (by omega); have hS2 := keepG ‹_ ∧ Below w.heap.size w _ ∧ _› hb2))
              | (go_at_call 37; ((with_reducible refine (lRows_any P (.slice a1 t.short.length c1) t.short _ (HI.out.short.same (Same.below (‹_ ∧ Below w.heap.size w _ ∧ _›).2.1)) HF.out.short (by omega)).mono ?_); rintro e w3 ⟨s3, rfl, hs3, hs3z, hb3⟩; have hz3 : ¬ (9223372036854775807 < S.size + s2.size + s3.size) := (by omega); have hS3 := keepG ‹_ ∧ Below w.heap.size w _ ∧ _› hb3))
              | (go_at_call 37; ((with_reducible refine (lRows_any P (.slice a2 t.long.length c2) t.long _ (HI.out.long.same (Same.below (‹_ ∧ Below w.heap.size w _ ∧ _›).2.1)) HF.out.long (by omega)).mono ?_); rintro e w4 ⟨s4, rfl, hs4, hs4z, hb4⟩; have hz4 : ¬ (9223372036854775807 < S.size + s2.size + s3.size + s4.size) := (by omega); have hS4 := keepG ‹_ ∧ Below w.heap.size w _ ∧ _› hb4))
              | (go_at_call 37; ((with_reducible refine (lRows_any P (.slice a3 t.mshort.length c3) t.mshort _ (HI.out.mshort.same (Same.below (‹_ ∧ Below w.heap.size w _ ∧ _›).2.1)) HF.out.mshort (by omega)).mono ?_); rintro e w5 ⟨s5, rfl, hs5, hs5z, hb5⟩; have hz5 : ¬ (9223372036854775807 < S.size + s2.size + s3.size + s4.size + s5.size) := (by omega); have hS5 := keepG ‹_ ∧ Below w.heap.size w _ ∧ _› hb5))
              | (go_at_call 12; ((with_reducible refine (lNum_str (t.curs.length : Int) _ (by omega)).mono ?_); rintro e w6 ⟨s6, rfl, hs6, hs6z, hb6⟩; have hz6 : ¬ (9223372036854775807 < S.size + s2.size + s3.size + s4.size + s5.size + s6.size) := (by omega); have hS6 := keepG ‹_ ∧ Below w.heap.size w _ ∧ _› hb6)))
          have HSB : Hid (StrIs (S ++ s2 ++ s3 ++ s4 ++ s5 ++ s6) (bC t 0)) := by
            have h := strIs_app (strIs_app (strIs_app (strIs_app (strIs_app HS hs2) hs3) hs4) hs5) hs6
            rw [Int.toNat_natCast] at h
            refine Lib.hid ?_
            show StrIs _ (bB t ++ (t.curs.take 0).flatMap eCu)
            rw [List.take_zero, List.flatMap_nil, List.append_nil]
            exact h
          have HTB : Hid (w6.heap[w.heap.size]? = some (.cells (tbC t.s t.grp (.slice a1 t.short.length c1) (.slice a2 t.long.length c2) (.slice a3 t.mshort.length c3) (.slice a4 t.curs.length c4) (.slice a5 t.units.length c5) (.slice a6 t.munit.length c6)) 55 (0, 0))) := Lib.hid (heapB hb6 (heapB hb5 (heapB hb4 (heapB hb3 (heapB hb2 HT.out)))))
          have hb7 := hS6.2.1
          clear hS0 hS2 hS3 hS4 hS5 hS6 hb2 hb3 hb4 hb5 hb6 hz2 hz3 hz4 hz5 hz6 HS hs2 hs3 hs4 hs5 hs6 HT
          generalize S ++ s2 ++ s3 ++ s4 ++ s5 ++ s6 = SB at *
          go_wp2
          go_loopg [3, 100] t.curs.length (fun gk u v wx => ∃ (j : Nat) (S : ByteArray), u = .string S ∧ v = .int .i64 j ∧ j + gk = t.curs.length ∧ Hid (StrIs S (bC t j)) ∧ Hid (wx.heap[w.heap.size]? = some (.cells (tbC t.s t.grp (.slice a1 t.short.length c1) (.slice a2 t.long.length c2) (.slice a3 t.mshort.length c3) (.slice a4 t.curs.length c4) (.slice a5 t.units.length c5) (.slice a6 t.munit.length c6)) 55 (0, 0))) ∧ Below w.heap.size w wx)
          case atStart => exact ⟨0, SB, rfl, rfl, by omega, HSB, HTB, hb7⟩
          case round =>
            clear hc7 hc12 hc13 hc14 hc15 hc16 hc17 hc18
            obtain ⟨j, S, rfl, rfl, hj, HS, HT, hbx⟩ := hrel
            have hsz1 : S.size ≤ 140737488355328 := by rw [strIs_size HS.out]; exact HL.out.c j
            by_cases hjl : j < t.curs.length
            · obtain ⟨go, rfl⟩ : ∃ x, x = gk := ⟨_, rfl⟩
              obtain ⟨b, off, rfl, hp, hbb, hd0, hd1, hd2, hd4, hd5, hd6, hd7, tv, hd3, hT⟩ := HI.out.curs.el j hjl
              have hw0 := (hbx.cell (p := ⟨b, off + j * 8, none⟩) hbb).trans hd0
              have hw1 := (hbx.cell (p := ⟨b, off + j * 8 + 1, none⟩) hbb).trans hd1
              have hw2 := (hbx.cell (p := ⟨b, off + j * 8 + 2, none⟩) hbb).trans hd2
              have hw3 := (hbx.cell (p := ⟨b, off + j * 8 + 3, none⟩) hbb).trans hd3
              have hw4 := (hbx.cell (p := ⟨b, off + j * 8 + 4, none⟩) hbb).trans hd4
              have hw5 := (hbx.cell (p := ⟨b, off + j * 8 + 5, none⟩) hbb).trans hd5
              have hw6 := (hbx.cell (p := ⟨b, off + j * 8 + 6, none⟩) hbb).trans hd6
              have hw7 := (hbx.cell (p := ⟨b, off + j * 8 + 7, none⟩) hbb).trans hd7
              clear hd0 hd1 hd2 hd3 hd4 hd5 hd6 hd7
              obtain ⟨ta, tc, rfl⟩ := hT.len
              have HT' := Lib.hid hT
              have HLc := Lib.hid (bC_succ t j hjl)
              have HLl := HL.out.cu t.curs[j] (List.getElem_mem _)
              obtain ⟨f0, f1, f2, ff, f4, f5, f6, f7⟩ := HF.out.curs.2 t.curs[j] (List.getElem_mem _)
              have FF := Lib.hid ff
              obtain ⟨c, hc⟩ : ∃ c, t.curs[j] = c := ⟨_, rfl⟩
              rw [hc] at hw0 hw1 hw2 hw3 hw4 hw5 hw6 hw7 HT' HLc HLl f0 f1 f2 FF f4 f5 f6 f7
              clear hc hT ff
              have hsn := cu_lens c HLl
              go_wp2
              obtain ⟨g, hg⟩ : ∃ g, g = wr.heap.size := ⟨_, rfl⟩
              obtain ⟨W0, hW0⟩ : ∃ W0, wr.alloc (.cells #[.string c.code, .string c.sym, .string c.nar, .slice ta c.names.length tc, .int .i64 c.d0, .int .i64 c.d1, .int .i64 c.d2, .int .i64 c.d3] 64) = W0 := ⟨_, rfl⟩
              have k0 : W0.cell? ⟨g, 0, none⟩ = some (.string c.code) := by subst hg hW0; exact cell_of (heap_alloc_new wr _) rfl
              have k1 : W0.cell? ⟨g, 1, none⟩ = some (.string c.sym) := by subst hg hW0; exact cell_of (heap_alloc_new wr _) rfl
              have k2 : W0.cell? ⟨g, 2, none⟩ = some (.string c.nar) := by subst hg hW0; exact cell_of (heap_alloc_new wr _) rfl
              have k3 : W0.cell? ⟨g, 3, none⟩ = some (.slice ta c.names.length tc) := by subst hg hW0; exact cell_of (heap_alloc_new wr _) rfl
              have k4 : W0.cell? ⟨g, 4, none⟩ = some (.int .i64 c.d0) := by subst hg hW0; exact cell_of (heap_alloc_new wr _) rfl
              have k5 : W0.cell? ⟨g, 5, none⟩ = some (.int .i64 c.d1) := by subst hg hW0; exact cell_of (heap_alloc_new wr _) rfl
              have k6 : W0.cell? ⟨g, 6, none⟩ = some (.int .i64 c.d2) := by subst hg hW0; exact cell_of (heap_alloc_new wr _) rfl
              have k7 : W0.cell? ⟨g, 7, none⟩ = some (.int .i64 c.d3) := by subst hg hW0; exact cell_of (heap_alloc_new wr _) rfl
              have HTn := Lib.hid ((Below.heap_alloc wr (.cells #[.string c.code, .string c.sym, .string c.nar, .slice ta c.names.length tc, .int .i64 c.d0, .int .i64 c.d1, .int .i64 c.d2, .int .i64 c.d3] 64) _ (lt_of_heap HT.out)).trans HT.out)
              have hS0 : (∀ o, W0.drew.cell? ⟨g, o, none⟩ = W0.cell? ⟨g, o, none⟩) ∧ Below w.heap.size w W0.drew ∧ g < W0.drew.heap.size := ⟨fun o => rfl, by rw [← hW0]; exact (hbx.alloc hbx.size _).drew, by subst hg hW0; simp⟩
              rw [hW0] at HTn
              rw [← hg, hW0]
              clear hg hw0 hw1 hw2 hw3 hw4 hw5 hw6 hw7 hW0 HT
              go_region_held3 (fun w' => (∀ o, w'.cell? ⟨g, o, none⟩ = W0.cell? ⟨g, o, none⟩) ∧ Below w.heap.size w w' ∧ g < w'.heap.size)
                (assumption)
                (first
                  | (go_at_call 36; ((with_reducible refine (lay_any c.code _ (by omega)).mono ?_); rintro e w2 ⟨s2, rfl, hs2, hs2z, hb2⟩; have hz2 : ¬ (9223372036854775807 < S.size + s2.size) := (by omega); have hS2 := keepG ‹_ ∧ Below w.heap.size w _ ∧ _› hb2))
                  | (go_at_call 36; ((with_reducible refine (lay_any c.sym _ (by omega)).mono ?_); rintro e w3 ⟨s3, rfl, hs3, hs3z, hb3⟩; have hz3 : ¬ (9223372036854775807 < S.size + s2.size + s3.size) := (by omega); have hS3 := keepG ‹_ ∧ Below w.heap.size w _ ∧ _› hb3))
                  | (go_at_call 36; ((with_reducible refine (lay_any c.nar _ (by omega)).mono ?_); rintro e w4 ⟨s4, rfl, hs4, hs4z, hb4⟩; have hz4 : ¬ (9223372036854775807 < S.size + s2.size + s3.size + s4.size) := (by omega); have hS4 := keepG ‹_ ∧ Below w.heap.size w _ ∧ _› hb4))
                  | (go_at_call 38; ((with_reducible refine (lTexts_any P (.slice ta c.names.length tc) c.names _ (HT'.out.same (Same.below (‹_ ∧ Below w.heap.size w _ ∧ _›).2.1)) FF.out hsn).mono ?_); rintro e w5 ⟨s5, rfl, hs5, hs5z, hb5⟩; have hz5 : ¬ (9223372036854775807 < S.size + s2.size + s3.size + s4.size + s5.size) := (by omega); have hS5 := keepG ‹_ ∧ Below w.heap.size w _ ∧ _› hb5)))
              have HSB := strIs_app (strIs_app (strIs_app (strIs_app HS hs2) hs3) hs4) hs5
              have HTB := Lib.hid (heapB hb5 (heapB hb4 (heapB hb3 (heapB hb2 HTn.out))))
              have hb7 := hS5.2.1
              have hSBz : (S ++ s2 ++ s3 ++ s4 ++ s5).size ≤ 800000000000000 := by simp only [ByteArray.size_append]; omega
              clear hS0 hS2 hS3 hS4 hS5 hb2 hb3 hb4 hb5 hz2 hz3 hz4 hz5 HS hs2 hs3 hs4 hs5 HTn
              generalize S ++ s2 ++ s3 ++ s4 ++ s5 = SB at *
              go_wp2
              obtain ⟨g4, hg4⟩ : ∃ g, w5.heap.size = g := ⟨_, rfl⟩
              have HC0 : Hid (∀ i, i < 4 → (w5.alloc (.cells #[.int .i64 c.d0, .int .i64 c.d1, .int .i64 c.d2, .int .i64 c.d3] 3)).cell? ⟨g4, i, none⟩ = some (.int .i64 (dF c i))) := by
                subst hg4
                exact Lib.hid (fun i h => cell_of (heap_alloc_new w5 _) (dF_get c i h))
              have hgx0 : g4 < (w5.alloc (.cells #[.int .i64 c.d0, .int .i64 c.d1, .int .i64 c.d2, .int .i64 c.d3] 3)).heap.size := by subst hg4; simp
              have HT0 := Lib.hid ((Below.heap_alloc w5 (.cells #[.int .i64 c.d0, .int .i64 c.d1, .int .i64 c.d2, .int .i64 c.d3] 3) _ (lt_of_heap HTB.out)).trans HTB.out)
              rw [hg4]
              clear hg4
              go_loopg [3, 131] 4 (fun gk u v wx => ∃ (i : Nat) (S : ByteArray), u = .string S ∧ v = .int .i64 i ∧ i + gk = 4 ∧ S.size ≤ 800000000000000 + i * 9 ∧ Hid (StrIs S (bC t j ++ textB c.code ++ textB c.sym ++ textB c.nar ++ eAll eTx c.names ++ eD c i)) ∧
                Hid (∀ i, i < 4 → wx.cell? ⟨g4, i, none⟩ = some (.int .i64 (dF c i))) ∧ g4 < wx.heap.size ∧ Hid (wx.heap[w.heap.size]? = some (.cells (tbC t.s t.grp (.slice a1 t.short.length c1) (.slice a2 t.long.length c2) (.slice a3 t.mshort.length c3) (.slice (some ⟨b, off, none⟩) t.curs.length c4) (.slice a5 t.units.length c5) (.slice a6 t.munit.length c6)) 55 (0, 0))) ∧ Below w.heap.size w wx)
              case atStart => exact ⟨0, SB, rfl, rfl, by omega, by omega, by (refine Lib.hid ?_; show StrIs _ (_ ++ []); rw [List.append_nil]; exact HSB.out), HC0, hgx0, HT0, hb7.alloc hb7.size _⟩
              case round =>
                clear HTB HT0 HC0
                obtain ⟨i, S, rfl, rfl, hi, hSz, HS, HC, hgx, HT, hbx⟩ := hrel
                by_cases hil : i < 4
                · have hci := HC.out i hil
                  have hdi := dF_le c i f4 f5 f6 f7
                  go_wp2_with fail
                  refine (lNum_str _ _ (by omega)).mono ?_
                  rintro e w6 ⟨s6, rfl, hs6, hs6z, hb6⟩
                  go_wp2
                  go_roundg (gk - 1)
                  case measure => omega
                  case rel => exact ⟨i + 1, _, rfl, rfl, by omega, by rw [ByteArray.size_append]; omega, by (rw [eD_succ, ← List.append_assoc]; exact strIs_app HS hs6), Lib.hid (fun k hk => (hb6.cell (p := ⟨g4, k, none⟩) hgx).trans (HC.out k hk)), Nat.lt_of_lt_of_le hgx hb6.size,
                      Lib.hid (heapB hb6 HT.out), hbx.trans (hb6.mono hbx.size)⟩
                · obtain rfl : i = 4 := by omega
                  go_wp2
                  go_roundg (go - 1)
                  case measure => omega
                  case rel => exact ⟨j + 1, _, rfl, rfl, by omega, by (rw [HLc.out, eCu_eq]; simp only [← List.append_assoc] at HS ⊢; exact HS), HT, hbx⟩
            · obtain rfl : j = t.curs.length := by omega
              obtain ⟨hc7, hc12, hc13, hc14, hc15, hc16, hc17, hc18⟩ := tb_cells HT.out
              go_wp2_with fail
              refine (lNum_str _ _ (by omega)).mono ?_
              rintro e w1 ⟨s1, rfl, hs1, hs1z, hb1⟩
              rw [Int.toNat_natCast] at hs1
              have HS1 := strIs_app HS hs1
              have HT1 := Lib.hid (heapB hb1 HT.out)
              have hb2 := hbx.trans (hb1.mono hbx.size)
              clear hc7 hc12 hc13 hc14 hc15 hc16 hc17 hc18 hb1 HS HT
              obtain ⟨hc7, hc12, hc13, hc14, hc15, hc16, hc17, hc18⟩ := tb_cells HT1.out
              go_wp2
              go_loopg [3, 150] t.units.length (fun gk u v wx => ∃ (j : Nat) (S : ByteArray), u = .string S ∧ v = .int .i64 j ∧ j + gk = t.units.length ∧ Hid (StrIs S (bE t j)) ∧ Hid (wx.heap[w.heap.size]? = some (.cells (tbC t.s t.grp (.slice a1 t.short.length c1) (.slice a2 t.long.length c2) (.slice a3 t.mshort.length c3) (.slice a4 t.curs.length c4) (.slice a5 t.units.length c5) (.slice a6 t.munit.length c6)) 55 (0, 0))) ∧ Below w.heap.size w wx)
              case atStart => exact ⟨0, _, rfl, rfl, by omega, by (refine Lib.hid ?_; show StrIs _ (bD t ++ (t.units.take 0).flatMap eUn); rw [List.take_zero, List.flatMap_nil, List.append_nil]; exact HS1.out), HT1, hb2⟩
              case round =>
                clear hc7 hc12 hc13 hc14 hc15 hc16 hc17 hc18 HT1
                obtain ⟨j, S, rfl, rfl, hj, HS, HT, hbx⟩ := hrel
                have hsz1 : S.size ≤ 140737488355328 := by rw [strIs_size HS.out]; exact HL.out.e j
                by_cases hjl : j < t.units.length
                · obtain ⟨b, off, rfl, hp, hbb, hd0, tv, hd1, hT⟩ := HI.out.units.el j hjl
                  have hw0 := (hbx.cell (p := ⟨b, off + j * 2, none⟩) hbb).trans hd0
                  have hw1 := (hbx.cell (p := ⟨b, off + j * 2 + 1, none⟩) hbb).trans hd1
                  clear hd0 hd1
                  obtain ⟨ta, tc, rfl⟩ := hT.len
                  have HT' := Lib.hid hT
                  have HLc := Lib.hid (bE_succ t j hjl)
                  have HLl := HL.out.un t.units[j] (List.getElem_mem _)
                  obtain ⟨f0, ff⟩ := HF.out.units.2 t.units[j] (List.getElem_mem _)
                  have FF := Lib.hid ff
                  obtain ⟨c, hc⟩ : ∃ c, t.units[j] = c := ⟨_, rfl⟩
                  rw [hc] at hw0 hw1 HT' HLc HLl f0 FF
                  clear hc hT ff
                  obtain ⟨hsn, hsm⟩ : (eAll eTx c.texts).length ≤ 140737488355328 ∧ c.name.size ≤ 140737488355328 := un_lens c HLl
                  go_wp2
                  obtain ⟨g, hg⟩ : ∃ g, g = wr.heap.size := ⟨_, rfl⟩
                  obtain ⟨W0, hW0⟩ : ∃ W0, wr.alloc (.cells #[.string c.name, .slice ta c.texts.length tc] 76) = W0 := ⟨_, rfl⟩
                  have k0 : W0.cell? ⟨g, 0, none⟩ = some (.string c.name) := by subst hg hW0; exact cell_of (heap_alloc_new wr _) rfl
                  have k1 : W0.cell? ⟨g, 1, none⟩ = some (.slice ta c.texts.length tc) := by subst hg hW0; exact cell_of (heap_alloc_new wr _) rfl
                  have HTn := Lib.hid ((Below.heap_alloc wr (.cells #[.string c.name, .slice ta c.texts.length tc] 76) _ (lt_of_heap HT.out)).trans HT.out)
                  have hS0 : (∀ o, W0.drew.cell? ⟨g, o, none⟩ = W0.cell? ⟨g, o, none⟩) ∧ Below w.heap.size w W0.drew ∧ g < W0.drew.heap.size := ⟨fun o => rfl, by rw [← hW0]; exact (hbx.alloc hbx.size _).drew, by subst hg hW0; simp⟩
                  rw [hW0] at HTn
                  rw [← hg, hW0]
                  clear hg hw0 hw1 hW0 HT
                  go_region_held3 (fun w' => (∀ o, w'.cell? ⟨g, o, none⟩ = W0.cell? ⟨g, o, none⟩) ∧ Below w.heap.size w w' ∧ g < w'.heap.size)
                    (assumption)
                    (first
                      | (go_at_call 36; ((with_reducible refine (lay_any c.name _ (by omega)).mono ?_); rintro e w2 ⟨s2, rfl, hs2, hs2z, hb2⟩; have hz2 : ¬ (9223372036854775807 < S.size + s2.size) := (by omega); have hS2 := keepG ‹_ ∧ Below w.heap.size w _ ∧ _› hb2))
                      | (go_at_call 38; ((with_reducible refine (lTexts_any P (.slice ta c.texts.length tc) c.texts _ (HT'.out.same (Same.below (‹_ ∧ Below w.heap.size w _ ∧ _›).2.1)) FF.out hsn).mono ?_); rintro e w5 ⟨s5, rfl, hs5, hs5z, hb5⟩; have hz5 : ¬ (9223372036854775807 < S.size + s2.size + s5.size) := (by omega); have hS5 := keepG ‹_ ∧ Below w.heap.size w _ ∧ _› hb5)))
                  have HSB := strIs_app (strIs_app HS hs2) hs5
                  have HTB := Lib.hid (heapB hb5 (heapB hb2 HTn.out))
                  have hb7 := hS5.2.1
                  clear hS0 hS2 hS5 hb2 hb5 hz2 hz5 HS hs2 hs5 HTn
                  go_wp2
                  go_roundg (gk - 1)
                  case measure => omega
                  case rel => exact ⟨j + 1, _, rfl, rfl, by omega, by (rw [HLc.out]; unfold eUn; rw [← List.append_assoc]; exact HSB), HTB, hb7⟩
                · obtain rfl : j = t.units.length := by omega
                  obtain ⟨hc7, hc12, hc13, hc14, hc15, hc16, hc17, hc18⟩ := tb_cells HT.out
                  go_wp2_with fail
                  refine (lTexts_any P _ _ _ (HI.out.munit.same (Same.below hbx)) HF.out.munit HL.out.munit).mono ?_
                  rintro e w1 ⟨s1, rfl, hs1, hs1z, hb1⟩
                  go_wp2
                  go_ret
                  have HS1 := strIs_app HS hs1
                  rw [← eTb_eq] at HS1
                  exact ⟨_, rfl, HS1, by rw [strIs_size HS1.out]; exact Hlen.out, hbx.trans (hb1.mono hbx.size)⟩
end Go.Proofs.Ytikkakbemphdhaa
