/- An own slice of structs is appended to: what it then holds. -/
import Derived.Test.YtikkakbemphdhaaTh1
import Derived.Test.YtikkakbemphdhaaTi0
set_option linter.unusedSimpArgs false
set_option linter.unusedVariables false
namespace Go.Proofs.Ytikkakbemphdhaa
open Go.RowKit Go.Fl

/-- what is told of an element hangs on its k cells and on the blocks of D. -/
structure Carries {α : Type} (k : Nat) (R : World → Nat → Nat → α → Prop) (D : Nat → Prop) : Prop where
  cells : ∀ W b o x, R W b o x → ∀ j, j < k → ∃ u, W.cell? ⟨b, o + j, none⟩ = some u ∧ u.oneCell' = true
  move : ∀ W W' b o b' o' x, Same D W W' → (∀ j, j < k → W'.cell? ⟨b', o' + j, none⟩ = W.cell? ⟨b, o + j, none⟩) → R W b o x → R W' b' o' x

theorem txs_shape {P : Nat → Prop} {W : World} {v : Value} {xs : List Tx} (h : Txs P W v xs) : v.oneCell' = true := by
  obtain ⟨a, c, rfl, _⟩ := h
  rfl
theorem carries_tx (D : Nat → Prop) : Carries 2 TxAt D where
  cells := fun W b o x h j hj => by
    have : j = 0 ∨ j = 1 := by omega
    rcases this with e|e <;> subst e
    · exact ⟨_, h.1, rfl⟩
    · exact ⟨_, h.2, rfl⟩
  move := fun W W' b o b' o' x hs hc h => ⟨(hc 0 (by omega)).trans h.1, (hc 1 (by omega)).trans h.2⟩
theorem carries_rw (D : Nat → Prop) : Carries 2 (RwAt D) D where
  cells := fun W b o x h j hj => by
    obtain ⟨h0, tv, h1, h2⟩ := h
    have : j = 0 ∨ j = 1 := by omega
    rcases this with e|e <;> subst e
    · exact ⟨_, h0, rfl⟩
    · exact ⟨_, h1, txs_shape h2⟩
  move := fun W W' b o b' o' x hs hc h => by
    obtain ⟨h0, tv, h1, h2⟩ := h
    exact ⟨(hc 0 (by omega)).trans h0, tv, (hc 1 (by omega)).trans h1, h2.same hs⟩
theorem carries_un (D : Nat → Prop) : Carries 2 (UnAt D) D where
  cells := fun W b o x h j hj => by
    obtain ⟨h0, tv, h1, h2⟩ := h
    have : j = 0 ∨ j = 1 := by omega
    rcases this with e|e <;> subst e
    · exact ⟨_, h0, rfl⟩
    · exact ⟨_, h1, txs_shape h2⟩
  move := fun W W' b o b' o' x hs hc h => by
    obtain ⟨h0, tv, h1, h2⟩ := h
    exact ⟨(hc 0 (by omega)).trans h0, tv, (hc 1 (by omega)).trans h1, h2.same hs⟩
theorem carries_cu (D : Nat → Prop) : Carries 8 (CuAt D) D where
  cells := fun W b o x h j hj => by
    obtain ⟨h0, h1, h2, h4, h5, h6, h7, tv, h3, ht⟩ := h
    have : j = 0 ∨ j = 1 ∨ j = 2 ∨ j = 3 ∨ j = 4 ∨ j = 5 ∨ j = 6 ∨ j = 7 := by omega
    rcases this with e|e|e|e|e|e|e|e <;> subst e
    · exact ⟨_, h0, rfl⟩
    · exact ⟨_, h1, rfl⟩
    · exact ⟨_, h2, rfl⟩
    · exact ⟨_, h3, txs_shape ht⟩
    · exact ⟨_, h4, rfl⟩
    · exact ⟨_, h5, rfl⟩
    · exact ⟨_, h6, rfl⟩
    · exact ⟨_, h7, rfl⟩
  move := fun W W' b o b' o' x hs hc h => by
    obtain ⟨h0, h1, h2, h4, h5, h6, h7, tv, h3, ht⟩ := h
    exact ⟨(hc 0 (by omega)).trans h0, (hc 1 (by omega)).trans h1, (hc 2 (by omega)).trans h2, (hc 4 (by omega)).trans h4, (hc 5 (by omega)).trans h5, (hc 6 (by omega)).trans h6,
      (hc 7 (by omega)).trans h7, tv, (hc 3 (by omega)).trans h3, ht.same hs⟩

/-- what is appended. -/
structure Src (k : Nat) (W : World) (a : Option Addr) (m : Nat) (news : List Value) : Prop where
  len : news.length = m * k
  one : ∀ u ∈ news, u.oneCell' = true
  nil : a = none → m = 0
  at_ : ∀ ad, a = some ad → ∀ j u, news[j]? = some u → W.cell? (ad.add j) = some u

theorem src_of {α : Type} {k : Nat} {R : World → Nat → Nat → α → Prop} {D P : Nat → Prop} (hc : Carries k R D) (hk : 0 < k) {W : World} {a : Option Addr} {m c : Nat} {xs : List α} (h : SliceOf k R P W (.slice a m c) xs) :
    m = xs.length ∧ ∃ news, Src k W a xs.length news := by
  obtain ⟨a', c', hv, hi⟩ := h
  injection hv with e1 e2 e3
  subst e1 e2 e3
  refine ⟨rfl, ?_⟩
  obtain ⟨news, hl, hn⟩ := choose_list (fun j u => (∀ ad, a = some ad → W.cell? (ad.add j) = some u) ∧ u.oneCell' = true) (xs.length * k) (fun j hj => by
    have hjk : j / k < xs.length := Nat.div_lt_of_lt_mul (by rw [Nat.mul_comm]; exact hj)
    obtain ⟨b, off, ha, _, _, hr⟩ := hi (j / k) hjk
    obtain ⟨u, hu, h1⟩ := hc.cells _ _ _ _ hr (j % k) (Nat.mod_lt _ hk)
    refine ⟨u, fun ad e => ?_, h1⟩
    rw [ha] at e
    injection e with e
    subst e
    rw [Addr.add_lit, ← hu]
    congr 2
    have := Nat.div_add_mod' j k
    omega)
  refine ⟨news, hl, fun u hu => ?_, fun e => ?_, fun ad e j u hj => ?_⟩
  · obtain ⟨j, hj, rfl⟩ := List.mem_iff_getElem.1 hu
    exact (hn j hj).2
  · cases hx : xs with
    | nil => rfl
    | cons y ys =>
      obtain ⟨b, off, ha, _⟩ := hi 0 (by rw [hx]; simp)
      rw [e] at ha
      cases ha
  · obtain ⟨hj', rfl⟩ := List.getElem?_eq_some_iff.1 hj
    exact (hn j hj').1 ad e

theorem sl_app {α : Type} {k : Nat} {R : World → Nat → Nat → α → Prop} {D P P2 : Nat → Prop} (hc : Carries k R D) {W W' : World} {base : Nat} {e : TypeId} {v v' : Value} {a2 : Option Addr} {c2 : Nat} {xs ys : List α} {cs news : List Value}
    (h1 : SliceOf k R P W v xs) (hown : W.ownsRow base e k v xs.length cs) (h2 : SliceOf k R P2 W (.slice a2 ys.length c2) ys) (hsrc : Src k W a2 ys.length news)
    (hown' : W'.ownsRow base e k v' (xs.length + ys.length) (cs ++ news)) (hD : Same D W W') : SliceOf k R (fun b => v'.ownBlock = some b) W' v' (xs ++ ys) := by
  have hlt := hown'.lt
  have hcl : cs.length = xs.length * k := hown.1
  rcases hown'.2 with ⟨rfl, h0⟩ | ⟨g, cap, cur, rfl, _⟩
  · have hx : xs = [] := List.eq_nil_of_length_eq_zero (by omega)
    have hy : ys = [] := List.eq_nil_of_length_eq_zero (by omega)
    subst hx hy
    exact SliceOf.nil
  · have hcell := hown'.cellAt
    refine ⟨some ⟨g, 0, none⟩, cap, by rw [List.length_append], fun i hi => ⟨g, 0, rfl, rfl, (hlt g rfl).2, ?_⟩⟩
    rw [List.length_append] at hi
    by_cases hix : i < xs.length
    · rw [List.getElem_append_left hix]
      rcases hown.2 with ⟨rfl, h0⟩ | ⟨g0, cap0, cur0, rfl, _⟩
      · omega
      · obtain ⟨b, off, ha, _, _, hr⟩ := h1.el i hix
        injection ha with ha
        injection ha with e1 e2 e3
        subst e1 e2
        refine hc.move _ _ _ _ _ _ _ hD (fun j hj => ?_) hr
        have hle : (i + 1) * k ≤ xs.length * k := Nat.mul_le_mul_right k hix
        rw [Nat.add_mul] at hle
        have hle2 : xs.length * k ≤ (xs.length + ys.length) * k := Nat.mul_le_mul_right k (by omega)
        rw [hcell (0 + i * k + j) (by omega), hown.cellAt (0 + i * k + j) (by omega), List.getElem?_append_left (by omega)]
    · have hiy : i - xs.length < ys.length := by omega
      rw [List.getElem_append_right (by omega)]
      obtain ⟨b, off, ha, _, _, hr⟩ := h2.el (i - xs.length) hiy
      refine hc.move _ _ _ _ _ _ _ hD (fun j hj => ?_) hr
      have hle : (i - xs.length + 1) * k ≤ ys.length * k := Nat.mul_le_mul_right k hiy
      rw [Nat.add_mul] at hle
      have hik : i * k = xs.length * k + (i - xs.length) * k := by rw [← Nat.add_mul]; congr 1; omega
      have hsum : (xs.length + ys.length) * k = xs.length * k + ys.length * k := Nat.add_mul _ _ _
      have hl := hsrc.len
      have hn : news[(i - xs.length) * k + j]? = some (news[(i - xs.length) * k + j]'(by omega)) := List.getElem?_eq_getElem (by omega)
      have h3 := hsrc.at_ _ ha _ _ hn
      rw [Addr.add_lit] at h3
      rw [hcell (0 + i * k + j) (by omega), List.getElem?_append_right (by omega), show 0 + i * k + j - cs.length = (i - xs.length) * k + j by omega, hn, ← h3]
      congr 2
      omega

theorem run_append_own_nothing {P : Program} {w : World} (base : Nat) (t ty e : TypeId) (i : TypeInfo) (size : Nat) (ht : P.underlying t = some (.slice e)) (hi : P.info? e = some i)
    (v : Value) (n c : Nat) (xs : List Value) (hown : w.ownsRow base e size v n xs) :
    (Builtin.append_ #[t, t] ty #[v, .slice none 0 c]).run P w = .ok v w := by
  rcases hown.2 with ⟨rfl, rfl⟩ | ⟨g, cap, cur, rfl, _, _, hnc, _⟩
  · simp [Builtin.append_, run_underlying ht, sizeOf, typeInfo, hi, Builtin.lenOf, Builtin.firstCells]
  · simp [Builtin.append_, run_underlying ht, sizeOf, typeInfo, hi, Builtin.lenOf, Builtin.firstCells, hnc, storeCells]

theorem wpList_app {P : Program} {W : World} {ops : Array Oper} {rest : List Oper} {o : Oper} {a : Act} {Q : Exit → Act → World → Prop} (hgd : o.guard = none) (s x : Operand) (t : TypeId)
    (ho : o.op = .call { callee := .builtin .append, args := #[s, x], argTypes := #[t, t] })
    (base : Nat) (e : TypeId) (i : TypeInfo) (z : Value) (size bytes : Nat) (ht : P.underlying t = some (.slice e)) (hi : P.info? e = some i) (hz : i.zero = some z)
    (hsize : i.size = size) (hby : i.bytes = bytes) (hzs : z.cells.size = size) (hsz : 0 < size)
    (v : Value) (n : Nat) (xs : List Value) (hs : a.eval s = v) (hown : W.ownsRow base e size v n xs)
    (ad : Option Addr) (m c : Nat) (news : List Value) (hx : a.eval x = .slice ad m c) (hsrc : Src size W ad m news)
    (h63 : n + m ≤ maxLen) (hbytes : (n + m) * bytes ≤ 140737488355328) (hbase : base ≤ W.heap.size)
    (h : ∀ v' w', w'.ownsRow base e size v' (n + m) (xs ++ news) → W.grownBy w' v.ownBlock → (v'.ownBlock = v.ownBlock ∨ v'.ownBlock = some W.heap.size) → wpList P ops Q rest (a.put o.dst v') w') :
    wpList P ops Q (o :: rest) a W := by
  cases ad with
  | some ad => exact wpList_append_own_at W hgd s x t ho base e i z size bytes ht hi hz hsize hby hzs hsz v n xs hs hown ad m c news hx hsrc.len (hsrc.at_ ad rfl) hsrc.one h63 hbytes hbase (fun v' w' h1 h2 _ h4 => h v' w' h1 h2 h4)
  | none =>
    obtain rfl := hsrc.nil rfl
    have hn : news = [] := List.eq_nil_of_length_eq_zero (by simpa using hsrc.len)
    subst hn
    refine wpList_plain hgd fun K hK => ?_
    have hrun := run_append_own_nothing (P := P) (w := W) base t o.type e i size ht hi v n c xs hown
    unfold Oper.wp
    simp [execOp, ho, resolve, invoke, builtin, hs, hx, hrun, Result.andThen]
    exact hK _ _ (h v W (by simpa using hown) ⟨rfl, rfl, rfl, Nat.le_refl _, fun _ _ _ => rfl⟩ (.inl rfl))
end Go.Proofs.Ytikkakbemphdhaa
