/-
  Contracts of functions of the program, laid together.
-/
import Derived.Test.YtcenagpkfimkbaaGreatDoorTopSlotsM1
import Derived.Test.YtcenagpkfimkbaaGreatDoorTopSlotsM15
import Derived.Laws.Bits128
import Derived.Deep.RegionHeld3
import Derived.Deep.DrawnRows
namespace Go.Proofs.YtcenagpkfimkbaaGreatDoor
open Go Go.RowKit

theorem and_c (a m : Nat) (ha : a < 18446744073709551616) (hm : m < 18446744073709551616) (M : Int) (hM : M = (m : Int)) : bits .and .u64 (a : Int) M = ((a &&& m : Nat) : Int) := by
  subst hM; exact u64_and_nat a m ha hm
theorem div_shr (a s : Nat) (k : Int) (hk : k = ((2 ^ s : Nat) : Int)) : (a : Int) / k = ((a >>> s : Nat) : Int) := by
  subst hk; rw [Nat.shiftRight_eq_div_pow]; rfl
theorem wrap_u (a : Nat) (h : a < 18446744073709551616) : IntKind.u64.wrap (a : Int) = a := by rw [IntKind.wrap_u64]; omega
theorem cast_add (a b : Nat) : (a : Int) + (b : Int) = ((a + b : Nat) : Int) := by omega

set_option maxHeartbeats 1000000 in
theorem ones_any (v : Nat) (hv : v < 2 ^ 64) (w : World) :
    Calls Tryz.prog 174 #[.int .u64 v] w fun e w' => e = .returned (.int .i64 (pcN v 64)) ∧ w = w' := by
  obtain ⟨x1, x2, x3, e1, e2, e3, l1, l2, l3, l4, l5, l6⟩ := ones_steps v hv
  obtain ⟨y1, hy1⟩ : ∃ y1, y1 = x3 + x3 / 256 := ⟨_, rfl⟩
  rw [← hy1] at l3 l4 l5 l6
  obtain ⟨y2, hy2⟩ : ∃ y2, y2 = y1 + y1 / 65536 := ⟨_, rfl⟩
  rw [← hy2] at l4 l5 l6
  obtain ⟨y3, hy3⟩ : ∃ y3, y3 = y2 + y2 / 4294967296 := ⟨_, rfl⟩
  rw [← hy3] at l5 l6
  have lx3 : x3 < 2 ^ 63 := by omega
  have hs : x2 >>> 4 ≤ x2 / 16 := by rw [Nat.shiftRight_eq_div_pow]; exact Nat.le_refl _
  have hv1 : v >>> 1 ≤ v := Nat.shiftRight_le _ _
  have hv2 : x1 >>> 2 ≤ x1 := Nat.shiftRight_le _ _
  have d1 := div_shr v 1 2 rfl
  have d2 := div_shr x1 2 4 rfl
  have d3 := div_shr x2 4 16 rfl
  obtain ⟨v1, k1⟩ : ∃ q, q = v >>> 1 := ⟨_, rfl⟩
  obtain ⟨v2, k2⟩ : ∃ q, q = x1 >>> 2 := ⟨_, rfl⟩
  obtain ⟨v3, k3⟩ : ∃ q, q = x2 >>> 4 := ⟨_, rfl⟩
  rw [← k1] at d1 e1 hv1
  rw [← k2] at d2 e2 hv2
  rw [← k3] at d3 e3 hs
  have a1 := and_c v1 6148914691236517205 (by omega) (by omega) (6148914691236517205 : Int) rfl
  have b1 := and_c v 6148914691236517205 (by omega) (by omega) (6148914691236517205 : Int) rfl
  have a2 := and_c v2 3689348814741910323 (by omega) (by omega) (3689348814741910323 : Int) rfl
  have b2 := and_c x1 3689348814741910323 (by omega) (by omega) (3689348814741910323 : Int) rfl
  obtain ⟨p1, j1⟩ : ∃ q, q = v1 &&& 6148914691236517205 := ⟨_, rfl⟩
  obtain ⟨q1, j2⟩ : ∃ q, q = v &&& 6148914691236517205 := ⟨_, rfl⟩
  obtain ⟨p2, j3⟩ : ∃ q, q = v2 &&& 3689348814741910323 := ⟨_, rfl⟩
  obtain ⟨q2, j4⟩ : ∃ q, q = x1 &&& 3689348814741910323 := ⟨_, rfl⟩
  rw [← j1] at a1 e1
  rw [← j2] at b1 e1
  rw [← j3] at a2 e2
  rw [← j4] at b2 e2
  have c1 : IntKind.u64.wrap ((p1 : Int) + (q1 : Int)) = (x1 : Int) := by rw [IntKind.wrap_u64]; omega
  have c2 : IntKind.u64.wrap ((p2 : Int) + (q2 : Int)) = (x2 : Int) := by rw [IntKind.wrap_u64]; omega
  obtain ⟨s3, m3⟩ : ∃ q, q = v3 + x2 := ⟨_, rfl⟩
  rw [← m3] at e3
  have c3 : IntKind.u64.wrap ((v3 : Int) + (x2 : Int)) = (s3 : Int) := by rw [IntKind.wrap_u64]; omega
  have a3 := and_c s3 1085102592571150095 (by omega) (by omega) (1085102592571150095 : Int) rfl
  rw [← e3] at a3
  obtain ⟨v4, k4⟩ : ∃ q : Nat, (q : Int) = (x3 : Int) / 256 := ⟨x3 / 256, by omega⟩
  obtain ⟨v5, k5⟩ : ∃ q : Nat, (q : Int) = (y1 : Int) / 65536 := ⟨y1 / 65536, by omega⟩
  obtain ⟨v6, k6⟩ : ∃ q : Nat, (q : Int) = (y2 : Int) / 4294967296 := ⟨y2 / 4294967296, by omega⟩
  have c4 : IntKind.u64.wrap ((x3 : Int) + (v4 : Int)) = (y1 : Int) := by rw [IntKind.wrap_u64]; omega
  have c5 : IntKind.u64.wrap ((y1 : Int) + (v5 : Int)) = (y2 : Int) := by rw [IntKind.wrap_u64]; omega
  have c6 : IntKind.u64.wrap ((y2 : Int) + (v6 : Int)) = (y3 : Int) := by rw [IntKind.wrap_u64]; omega
  have d4 := k4.symm
  have d5 := k5.symm
  have d6 := k6.symm
  have hy : (y3 : Int) ≤ 9223372036854775807 := by omega
  have hy0 : (0 : Int) ≤ (y3 : Int) := by omega
  have f1 := i64_and127 (y3 : Int)
  have l7 : (y3 : Int) % 128 = (pcN v 64 : Int) := by omega
  rw [l7] at f1
  clear k1 k2 k3 k4 k5 k6 e1 e2 e3 m3 j1 j2 j3 j4 l1 l2 l3 l4 l5 l6 l7 lx3 hs hv1 hv2 hy1 hy2 hy3
  obtain ⟨r, hr⟩ : ∃ r, pcN v 64 = r := ⟨_, rfl⟩
  rw [hr] at f1 ⊢
  clear hr
  go_enter Tryz.func174, Tryz.ntmps174
  go_wp2
  go_ret
  exact ⟨rfl, rfl⟩

theorem pcN_take {v : Nat} {xs : List Bool} {k : Nat} (n : Nat) (h : ∀ i, i < n → v.testBit i = xs.getD (k + i) false) : pcN v n = ((xs.drop k).take n).countP id := by
  induction n with
  | zero => simp [pcN]
  | succ n ih =>
    have ih := ih fun i hi => h i (by omega)
    rw [pcN_add, ih, List.take_add_one, List.countP_append]
    congr 1
    have hn := h n (by omega)
    simp only [List.getD] at hn
    rw [List.getElem?_drop]
    cases e : xs[k + n]? with
    | none => rw [e] at hn; simp at hn; simp [hn]
    | some y => rw [e] at hn; simp at hn; cases y <;> simp [hn]
theorem take_count {xs : List Bool} (k n : Nat) : (xs.take (k + n)).countP id = (xs.take k).countP id + ((xs.drop k).take n).countP id := by
  rw [List.take_add, List.countP_append]

set_option maxRecDepth 100000 in
theorem bCount_any (b g : Nat) (xs : List Bool) (w : World) (h : RowAt w b g xs) :
    Calls Tryz.prog 133 #[.pointer (some ⟨b, 0, none⟩)] w fun e w' => e = .returned (.int .i64 (xs.countP id)) ∧ w = w' := by
  obtain ⟨ws, hb, h1, h2, h3⟩ := h
  have c0 := heap_cell h1 0
  simp at c0
  have hcell : ∀ j, j < ws.length → ∃ v : Nat, w.cell? ⟨g, j, none⟩ = some (.int .u64 v) ∧ v < 2 ^ 64 ∧ pcN v 64 = ((xs.drop (64 * j)).take 64).countP id := fun j hj => by
    obtain ⟨v, hv, hlt, ht⟩ := hb.2 j hj
    refine ⟨v, ?_, hlt, pcN_take 64 ht⟩
    rw [heap_cell h2]
    simp [u64s, hv]
  have hle : xs.countP id ≤ xs.length := List.countP_le_length
  have hwl := hb.1
  have hlen : ws.length ≤ 256 := by omega
  have HC := Lib.hid (And.intro hcell (And.intro hwl hle))
  clear hb h1 h2 hcell hwl hle
  go_enter Tryz.func133, Tryz.ntmps133
  go_wp2
  go_loop [3, 5, 11] (fun n _ i => ∃ k : Nat, k ≤ ws.length ∧ i = .int .i64 k ∧ n = .int .i64 ((xs.take (64 * k)).countP id)) (fun _ _ i => ws.length - (intOf i).toNat)
  case atStart => exact ⟨0, Nat.zero_le _, rfl, by simp⟩
  case round =>
    obtain ⟨k, hk, rfl, rfl⟩ := hrel
    have hle : (xs.take (64 * k)).countP id ≤ 16384 := Nat.le_trans List.countP_le_length (by simp; omega)
    by_cases hlt : k < ws.length
    · obtain ⟨v, hv, hv2, hp⟩ := HC.out.1 k hlt
      have ho := ones_any v hv2 w
      have htk := take_count (xs := xs) (64 * k) 64
      rw [← hp] at htk
      have hpl := pcN_le v 64
      obtain ⟨p, hp2⟩ : ∃ p, pcN v 64 = p := ⟨_, rfl⟩
      rw [hp2] at ho htk hpl
      have HT : Hid ((xs.take (64 * (k + 1))).countP id = (xs.take (64 * k)).countP id + p) := Lib.hid (by rw [show 64 * (k + 1) = 64 * k + 64 by omega]; exact htk)
      obtain ⟨q, hq⟩ : ∃ q, (xs.take (64 * k)).countP id = q := ⟨_, rfl⟩
      rw [hq] at HT hle ⊢
      clear hp hp2 htk hq
      go_wp2_with fail
      refine ho.mono ?_
      rintro e w' ⟨rfl, rfl⟩
      clear ho
      go_wp2
      go_round
      case rel => exact ⟨k + 1, by omega, by go_num, by rw [HT.out]; go_num⟩
      case measure => simp [intOf]; omega
    · obtain rfl : k = ws.length := by omega
      have e : xs.take (64 * ws.length) = xs := List.take_of_length_le (by have := HC.out.2.1; omega)
      rw [e] at hle ⊢
      clear e
      go_wp2
      go_ret
      exact ⟨rfl, rfl⟩

def freeV (gs : List Bool) : Int := gs.length - gs.countP id
set_option maxRecDepth 100000 in
theorem pFree_any {w : World} {pb rb rw mb mw : Nat} {gs : List Bool} {ms : List Int} (h : PagesAt w pb rb rw mb mw gs ms) :
    Calls Tryz.prog 84 #[.pointer (some ⟨pb, 0, none⟩)] w fun e w' => e = .returned (.int .i64 (freeV gs)) ∧ Below w.heap.size w w' := by
  have hL := fun n => bLen_any rb rw gs (w.drewN n) (h.row.later ⟨rfl, rfl, rfl, by simp, fun _ _ => rfl⟩)
  have hC := fun n => bCount_any rb rw gs (w.drewN n) (h.row.later ⟨rfl, rfl, rfl, by simp, fun _ _ => rfl⟩)
  have c0 := heap_cell h.blk 0
  simp at c0
  have hle : gs.countP id ≤ gs.length := List.countP_le_length
  have hi := h.hi
  have e0 : Hid (freeV gs = gs.length - gs.countP id) := Lib.hid rfl
  obtain ⟨n, hn⟩ : ∃ n, gs.length = n := ⟨_, rfl⟩
  obtain ⟨k, hk⟩ : ∃ n, gs.countP id = n := ⟨_, rfl⟩
  simp only [hn] at hL
  simp only [hk] at hC
  rw [hn] at e0 hi hle
  rw [hk] at e0 hle
  have y1 : IntKind.i64.wrap ((n : Int) - (k : Int)) = (n : Int) - (k : Int) := by rw [IntKind.wrap_i64]; omega
  clear h hn hk
  go_enter Tryz.func84, Tryz.ntmps84
  go_wp2_with fail
  go_region_held3 (fun w' => w'.cell? ⟨pb, 0, none⟩ = some (.pointer (some ⟨rb, 0, none⟩))) (go_keep) (first | (go_at_call 132; refine (hL _).mono ?_; rintro e w' ⟨rfl, rfl⟩) | (go_at_call 133; refine (hC _).mono ?_; rintro e w' ⟨rfl, rfl⟩))
  all_goals
    go_wp2
    go_ret
    exact ⟨by rw [e0.out]; rfl, ⟨rfl, rfl, rfl, by simp, fun _ _ => rfl⟩⟩
end Go.Proofs.YtcenagpkfimkbaaGreatDoor
