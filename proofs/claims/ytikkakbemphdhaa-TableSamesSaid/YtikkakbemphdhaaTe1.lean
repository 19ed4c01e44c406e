/- The walk of Decode. -/
import Derived.Test.YtikkakbemphdhaaTe0
import Derived.Deep.CutBlock
set_option linter.unusedSimpArgs false
set_option linter.unusedVariables false
namespace Go.Proofs.Ytikkakbemphdhaa
open Go.RowKit Go.Fl

def DecPost (s : ByteArray) (w : World) (e : Ending) (w' : World) : Prop :=
  ∃ (t : Tb) (v1 v2 v3 v4 v5 v6 : Value) (c : Int), e = .returned (.tuple #[tbV t.s t.grp v1 v2 v3 v4 v5 v6, .int .i64 c]) ∧ TbS (fun b => w.heap.size ≤ b) w' t v1 v2 v3 v4 v5 v6 ∧ Below w.heap.size w w' ∧
    ((65536 < s.size ∧ t = tb0 ∧ c = 4) ∨ (s.size ≤ 65536 ∧ (rdTb s.data.toList (some 0)).2 = some s.size ∧ t = (rdTb s.data.toList (some 0)).1 ∧ c = 0) ∨
      (s.size ≤ 65536 ∧ ¬ (rdTb s.data.toList (some 0)).2 = some s.size ∧ t = tb0 ∧ c = 1))
theorem tbS0 (P : Nat → Prop) (W : World) : TbS P W tb0 nilV nilV nilV nilV nilV nilV := ⟨SliceOf.nil, SliceOf.nil, SliceOf.nil, SliceOf.nil, SliceOf.nil, SliceOf.nil⟩

theorem tbC_one (s : Nat → ByteArray) (grp : Int) (a1 a2 a3 a4 a5 a6 : Option Addr) (n1 n2 n3 n4 n5 n6 c1 c2 c3 c4 c5 c6 : Nat) :
    (tbC s grp (.slice a1 n1 c1) (.slice a2 n2 c2) (.slice a3 n3 c3) (.slice a4 n4 c4) (.slice a5 n5 c5) (.slice a6 n6 c6)).all (·.oneCell') = true := by
  simp [tbC, Value.oneCell']
def zTb : Array Value := tbC (fun _ => noB) 0 nilV nilV nilV nilV nilV nilV
theorem zTb_one : zTb.all (·.oneCell') = true := tbC_one _ _ _ _ _ _ _ _ _ _ _ _ _ _ _ _ _ _ _ _
theorem IsTb.put {W : World} {g : Nat} {s : Nat → ByteArray} {grp : Int} {v1 v2 v3 v4 v5 v6 : Value} (h : IsTb W g s grp v1 v2 v3 v4 v5 v6) (ds : Array Value) (hs : ds.size = 34) : (W.setCells g 0 ds.toList).heap[g]? = some (.cells ds 55 (0, 0)) :=
  setCells_all h ds hs
/-- what is read as a result out of the block. -/
theorem res27 {W : World} {g : Nat} {s : Nat → ByteArray} {grp : Int} {v1 v2 v3 v4 v5 v6 : Value} (h : IsTb W g s grp v1 v2 v3 v4 v5 v6) {a : Array Value} {c : Value} (h2 : a[2]? = some (.pointer (some ⟨g, 0, none⟩))) (h3 : a[3]? = some c) :
    (results Try.f27 a).run Try.prog W = .ok (.tuple #[tbV s grp v1 v2 v3 v4 v5 v6, c]) W := by
  have hld := run_loadVar_mid (P := Try.prog) W g 0 55 (tbC s grp v1 v2 v3 v4 v5 v6).toList _ h.range Try.underlying55 rfl size55
  have ha : (asAddr (.pointer (some ⟨g, 0, none⟩))).run Try.prog W = .ok ⟨g, 0, none⟩ W := by simp [asAddr, go_sem]
  simp [results, Try.results27, hld, ha, h2, h3, tbV, Sem.run_bind, Sem.run_pure, Result.andThen]

set_option maxRecDepth 100000 in
set_option maxHeartbeats 800000 in
theorem decode_long (s : ByteArray) (w : World) (hl : 65536 < s.size) (hs : s.size ≤ 140737488355328) : Calls Try.prog 27 #[.string s] w (DecPost s w) := by
  have HT : Hid (IsTb (w.alloc (.cells zTb 55)) w.heap.size (fun _ => noB) 0 nilV nilV nilV nilV nilV nilV) := Lib.hid (heap_alloc_new w _)
  go_enter Try.func27, Try.ntmps27
  go_upto_region 2 with fail
  refine wp_region_list ?_
  go_wp2_with (refine wpList_store_mid rfl 55 _ _ rfl w.heap.size 0 zTb rfl rfl HT.out.there size55 zTb_one ?_)
  have hp : IsTb ((w.alloc (.cells zTb 55)).setCells w.heap.size 0 zTb.toList) w.heap.size (fun _ => noB) 0 nilV nilV nilV nilV nilV nilV := HT.out.put zTb rfl
  refine bodyPost_ret (res27 hp rfl rfl) rfl ⟨tb0, nilV, nilV, nilV, nilV, nilV, nilV, 4, rfl, tbS0 _ _, ?_, .inl ⟨hl, rfl, rfl⟩⟩
  exact ((Below.refl _ _).alloc (Nat.le_refl _) _).trans ((setCells_kept _ _ _ _).below (by simp) (fun k hk e => by omega))
end Go.Proofs.Ytikkakbemphdhaa
