/- Point and Sign. -/
import Derived.Test.YtajioajigpneoaaDoorPureS
set_option linter.unusedSimpArgs false
set_option linter.unusedVariables false
namespace Go.Proofs.YtajioajigpneoaaDoor
open Go.RowKit Go.Fl Go.Shelf Go.Lib

theorem and_le (k : Int) (M : Nat) (hM : M < 9223372036854775808) : ∃ c : Nat, bits .and .i64 k (M : Int) = (c : Int) ∧ c ≤ M := by
  have e : (BitVec.ofInt 64 (M : Int)).toNat = M := by
    rw [BitVec.ofInt_natCast, BitVec.toNat_ofNat]; exact Nat.mod_eq_of_lt (by omega)
  have h : (BitVec.ofInt 64 k &&& BitVec.ofInt 64 (M : Int)).toNat ≤ M := by
    rw [BitVec.toNat_and, e]
    exact Nat.and_le_right
  refine ⟨(BitVec.ofInt 64 k &&& BitVec.ofInt 64 (M : Int)).toNat, ?_, h⟩
  show IntKind.i64.wrap ((BitVec.ofInt 64 k &&& BitVec.ofInt 64 (M : Int)).toNat : Int) = _
  rw [IntKind.wrap_i64]
  omega

set_option maxRecDepth 100000 in
set_option maxHeartbeats 800000 in
theorem point_any (n : Int) (w : World) : ∃ p : Nat, Pt p ∧ Calls Tryd.prog 14 #[.int .i64 n] w fun e w' => e = .returned (.int .i64 (p : Int)) ∧ w = w' := by
  obtain ⟨c, hc, hcl⟩ := and_le n 2097151 (by decide)
  have hc' : bits .and .i64 n 2097151 = (c : Int) := hc
  clear hc
  by_cases h1 : 1114111 < c
  · obtain ⟨d, hd, hdl⟩ := and_le (c : Int) 65535 (by decide)
    have hd' : bits .and .i64 (c : Int) 65535 = (d : Int) := hd
    clear hd
    by_cases h2 : 55296 ≤ d
    · by_cases h3 : d ≤ 57343
      · obtain ⟨f, hf, hfl⟩ := and_le (d : Int) 4095 (by decide)
        have hf' : bits .and .i64 (d : Int) 4095 = (f : Int) := hf
        clear hf
        refine ⟨f, ⟨by omega, by omega⟩, ?_⟩
        go_enter Tryd.func14, Tryd.ntmps14
        go_wp2
        go_ret
        exact ⟨rfl, rfl⟩
      · refine ⟨d, ⟨by omega, by omega⟩, ?_⟩
        go_enter Tryd.func14, Tryd.ntmps14
        go_wp2
        go_ret
        exact ⟨rfl, rfl⟩
    · refine ⟨d, ⟨by omega, by omega⟩, ?_⟩
      go_enter Tryd.func14, Tryd.ntmps14
      go_wp2
      go_ret
      exact ⟨rfl, rfl⟩
  · by_cases h2 : 55296 ≤ c
    · by_cases h3 : c ≤ 57343
      · obtain ⟨f, hf, hfl⟩ := and_le (c : Int) 4095 (by decide)
        have hf' : bits .and .i64 (c : Int) 4095 = (f : Int) := hf
        clear hf
        refine ⟨f, ⟨by omega, by omega⟩, ?_⟩
        go_enter Tryd.func14, Tryd.ntmps14
        go_wp2
        go_ret
        exact ⟨rfl, rfl⟩
      · refine ⟨c, ⟨by omega, by omega⟩, ?_⟩
        go_enter Tryd.func14, Tryd.ntmps14
        go_wp2
        go_ret
        exact ⟨rfl, rfl⟩
    · refine ⟨c, ⟨by omega, by omega⟩, ?_⟩
      go_enter Tryd.func14, Tryd.ntmps14
      go_wp2
      go_ret
      exact ⟨rfl, rfl⟩

/-- a string of the bytes that were just laid. -/
theorem conv_new (W : World) (l : List UInt8) (hl : l ≠ []) : (convert 31 9 (.slice (some ⟨W.heap.size, 0, none⟩) l.length l.length)).run Tryd.prog (W.alloc (.cells (bytesV l).toArray 5)) = .ok (.string ⟨l.toArray⟩) (W.alloc (.cells (bytesV l).toArray 5)) := by
  refine run_convert_bytes_back _ 31 9 5 ⟨W.heap.size, 0, none⟩ l.length l Tryd.underlying31 Tryd.underlying5 Tryd.underlying9 fun j hj => ?_
  have h := heap_alloc_new W (.cells (bytesV l).toArray 5)
  generalize W.alloc (.cells (bytesV l).toArray 5) = W1 at h
  rw [Addr.add_lit, Nat.zero_add]
  simp [World.cell?, h, bytesV, byteV, hj]
theorem conv_newL (W : World) (L : List UInt8) (n : Nat) (cs : Array Value) (hn : L.length = n) (h0 : L ≠ []) (hcs : (bytesV L).toArray = cs) : (convert 31 9 (.slice (some ⟨W.heap.size, 0, none⟩) n n)).run Tryd.prog (W.alloc (.cells cs 5)) = .ok (.string ⟨L.toArray⟩) (W.alloc (.cells cs 5)) := by
  subst hn hcs
  exact conv_new W L h0
theorem byteV_of {x : Nat} (h : x < 256) : byteV (UInt8.ofNat x) = .int .u8 (x : Int) := by
  unfold byteV
  rw [byte_of h]

theorem mask63 (x : Nat) (h : x < 9223372036854775808) : bits .and .i64 (x : Int) 63 = ((x % 64 : Nat) : Int) := by
  have := bits_mask .i64 63 (by decide) (fun n h0 h1 => by rw [IntKind.wrap_i64]; omega) 6 (by decide) (x : Int) (by omega) (by omega)
  simpa using this
theorem or_u8 (a x i : Nat) (ha : a % 2 ^ i = 0) (h1 : a + x < 256) (h2 : x < 2 ^ i) : bits .or .u8 (a : Int) (x : Int) = ((a + x : Nat) : Int) := by
  have := bits_join .u8 8 (by decide) (fun n h0 h1 => by rw [IntKind.wrap_u8]; omega) i (a : Int) (x : Int) (by omega) (by exact_mod_cast ha) (by omega) (by omega) (by exact_mod_cast h2) (by omega)
  rw [this]
  omega


set_option maxRecDepth 100000 in
set_option maxHeartbeats 1600000 in
theorem sign_any (p : Nat) (w : World) (hp : Pt p) : Calls Tryd.prog 15 #[.int .i64 (p : Int)] w fun e w' => e = .returned (.string ⟨(signL p).toArray⟩) ∧ Below w.heap.size w w' := by
  have hpb := hp.1
  obtain ⟨x0, hx0⟩ : ∃ x, p % 64 = x := ⟨_, rfl⟩
  have hb0 : x0 < 64 := by omega
  have m0 : bits .and .i64 (p : Int) 63 = (x0 : Int) := by rw [mask63 p (by omega), hx0]
  have o0 : bits .or .u8 128 (x0 : Int) = 128 + (x0 : Int) := by have := or_u8 128 x0 6 (by decide) (by omega) (by omega); simpa using this
  by_cases h1 : p < 128
  · have hs : signL p = [UInt8.ofNat p] := by unfold signL; rw [if_pos h1]
    have hcs : (bytesV [UInt8.ofNat p]).toArray = #[.int .u8 (p : Int)] := by simp only [bytesV, List.map_cons, List.map_nil, byteV_of (show p < 256 by omega)]
    have hcv := conv_newL w (signL p) 1 #[.int .u8 (p : Int)] (by rw [hs]; rfl) (by rw [hs]; simp) (by rw [hs]; exact hcs)
    obtain ⟨L, hL⟩ : ∃ L, signL p = L := ⟨_, rfl⟩
    rw [hL] at hcv ⊢
    clear hcs hL hs
    clear m0 o0 hx0
    go_enter Tryd.func15, Tryd.ntmps15
    go_wp2
    go_ret
    exact ⟨rfl, (Below.refl _ _).alloc (Nat.le_refl _) _⟩
  · by_cases h2 : p < 2048
    · have hs : signL p = [UInt8.ofNat (192 + p / 64), UInt8.ofNat (128 + p % 64)] := by unfold signL; rw [if_neg h1, if_pos h2]
      have hcs : (bytesV [UInt8.ofNat (192 + p / 64), UInt8.ofNat (128 + p % 64)]).toArray = #[.int .u8 (192 + (p : Int) / 64), .int .u8 (128 + (x0 : Int))] := by
        simp only [bytesV, List.map_cons, List.map_nil, byteV_of (show 192 + p / 64 < 256 by omega), byteV_of (show 128 + p % 64 < 256 by omega)]
        rw [show ((192 + p / 64 : Nat) : Int) = 192 + (p : Int) / 64 by omega, show ((128 + p % 64 : Nat) : Int) = 128 + (x0 : Int) by omega]
      have hcv := conv_newL w (signL p) 2 #[.int .u8 (192 + (p : Int) / 64), .int .u8 (128 + (x0 : Int))] (by rw [hs]; rfl) (by rw [hs]; simp) (by rw [hs]; exact hcs)
      obtain ⟨L, hL⟩ : ∃ L, signL p = L := ⟨_, rfl⟩
      rw [hL] at hcv ⊢
      clear hcs hL hs
      clear hx0
      go_enter Tryd.func15, Tryd.ntmps15
      go_wp2
      go_ret
      exact ⟨rfl, (Below.refl _ _).alloc (Nat.le_refl _) _⟩
    · obtain ⟨x1, hx1⟩ : ∃ x, p / 64 % 64 = x := ⟨_, rfl⟩
      have hb1 : x1 < 64 := by omega
      have m1 : bits .and .i64 ((p : Int) / 64) 63 = (x1 : Int) := by
        rw [show (p : Int) / 64 = ((p / 64 : Nat) : Int) by omega, mask63 (p / 64) (by omega), hx1]
      have o1 : bits .or .u8 128 (x1 : Int) = 128 + (x1 : Int) := by have := or_u8 128 x1 6 (by decide) (by omega) (by omega); simpa using this
      by_cases h3 : p < 65536
      · have hs : signL p = [UInt8.ofNat (224 + p / 4096), UInt8.ofNat (128 + p / 64 % 64), UInt8.ofNat (128 + p % 64)] := by unfold signL; rw [if_neg h1, if_neg h2, if_pos h3]
        have hcs : (bytesV [UInt8.ofNat (224 + p / 4096), UInt8.ofNat (128 + p / 64 % 64), UInt8.ofNat (128 + p % 64)]).toArray = #[.int .u8 (224 + (p : Int) / 4096), .int .u8 (128 + (x1 : Int)), .int .u8 (128 + (x0 : Int))] := by
          simp only [bytesV, List.map_cons, List.map_nil, byteV_of (show 224 + p / 4096 < 256 by omega), byteV_of (show 128 + p / 64 % 64 < 256 by omega), byteV_of (show 128 + p % 64 < 256 by omega)]
          rw [show ((224 + p / 4096 : Nat) : Int) = 224 + (p : Int) / 4096 by omega, show ((128 + p / 64 % 64 : Nat) : Int) = 128 + (x1 : Int) by omega, show ((128 + p % 64 : Nat) : Int) = 128 + (x0 : Int) by omega]
        have hcv := conv_newL w (signL p) 3 #[.int .u8 (224 + (p : Int) / 4096), .int .u8 (128 + (x1 : Int)), .int .u8 (128 + (x0 : Int))] (by rw [hs]; rfl) (by rw [hs]; simp) (by rw [hs]; exact hcs)
        obtain ⟨L, hL⟩ : ∃ L, signL p = L := ⟨_, rfl⟩
        rw [hL] at hcv ⊢
        clear hcs hL hs
        have o2 : bits .or .u8 224 ((p : Int) / 4096) = 224 + (p : Int) / 4096 := by
          rw [show (p : Int) / 4096 = ((p / 4096 : Nat) : Int) by omega]
          have := or_u8 224 (p / 4096) 5 (by decide) (by omega) (by omega)
          simpa using this
        clear hx0 hx1
        have k1 : ¬ (p : Int) < 128 := by omega
        have k2 : ¬ (p : Int) < 2048 := by omega
        have k3 : (p : Int) < 65536 := by omega
        clear h1 h2 h3 hpb hp
        go_enter Tryd.func15, Tryd.ntmps15
        go_wp2
        go_ret
        exact ⟨rfl, (Below.refl _ _).alloc (Nat.le_refl _) _⟩
      · obtain ⟨x2, hx2⟩ : ∃ x, p / 4096 % 64 = x := ⟨_, rfl⟩
        have hb2 : x2 < 64 := by omega
        have m2 : bits .and .i64 ((p : Int) / 4096) 63 = (x2 : Int) := by
          rw [show (p : Int) / 4096 = ((p / 4096 : Nat) : Int) by omega, mask63 (p / 4096) (by omega), hx2]
        have o2 : bits .or .u8 128 (x2 : Int) = 128 + (x2 : Int) := by have := or_u8 128 x2 6 (by decide) (by omega) (by omega); simpa using this
        have hs : signL p = [UInt8.ofNat (240 + p / 262144), UInt8.ofNat (128 + p / 4096 % 64), UInt8.ofNat (128 + p / 64 % 64), UInt8.ofNat (128 + p % 64)] := by unfold signL; rw [if_neg h1, if_neg h2, if_neg h3]
        have hcs : (bytesV [UInt8.ofNat (240 + p / 262144), UInt8.ofNat (128 + p / 4096 % 64), UInt8.ofNat (128 + p / 64 % 64), UInt8.ofNat (128 + p % 64)]).toArray = #[.int .u8 (240 + (p : Int) / 262144), .int .u8 (128 + (x2 : Int)), .int .u8 (128 + (x1 : Int)), .int .u8 (128 + (x0 : Int))] := by
          simp only [bytesV, List.map_cons, List.map_nil, byteV_of (show 240 + p / 262144 < 256 by omega), byteV_of (show 128 + p / 4096 % 64 < 256 by omega), byteV_of (show 128 + p / 64 % 64 < 256 by omega), byteV_of (show 128 + p % 64 < 256 by omega)]
          rw [show ((240 + p / 262144 : Nat) : Int) = 240 + (p : Int) / 262144 by omega, show ((128 + p / 4096 % 64 : Nat) : Int) = 128 + (x2 : Int) by omega, show ((128 + p / 64 % 64 : Nat) : Int) = 128 + (x1 : Int) by omega, show ((128 + p % 64 : Nat) : Int) = 128 + (x0 : Int) by omega]
        have hcv := conv_newL w (signL p) 4 #[.int .u8 (240 + (p : Int) / 262144), .int .u8 (128 + (x2 : Int)), .int .u8 (128 + (x1 : Int)), .int .u8 (128 + (x0 : Int))] (by rw [hs]; rfl) (by rw [hs]; simp) (by rw [hs]; exact hcs)
        obtain ⟨L, hL⟩ : ∃ L, signL p = L := ⟨_, rfl⟩
        rw [hL] at hcv ⊢
        clear hcs hL hs
        have o3 : bits .or .u8 240 ((p : Int) / 262144) = 240 + (p : Int) / 262144 := by
          rw [show (p : Int) / 262144 = ((p / 262144 : Nat) : Int) by omega]
          have := or_u8 240 (p / 262144) 4 (by decide) (by omega) (by omega)
          simpa using this
        clear hx0 hx1 hx2
        have k1 : ¬ (p : Int) < 128 := by omega
        have k2 : ¬ (p : Int) < 2048 := by omega
        have k3 : ¬ (p : Int) < 65536 := by omega
        have k4 : (p : Int) ≤ 1114111 := by omega
        clear h1 h2 h3 hpb hp
        go_enter Tryd.func15, Tryd.ntmps15
        go_wp2
        go_ret
        exact ⟨rfl, (Below.refl _ _).alloc (Nat.le_refl _) _⟩
end Go.Proofs.YtajioajigpneoaaDoor
