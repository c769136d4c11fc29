/-
  Contracts of functions of the program, laid together.
-/
import Derived.Test.YtcenagpkfimkbaaGreatDoorTopSlotsM1
import Derived.Test.YtcenagpkfimkbaaGreatDoorTopSlotsM2
import Derived.Laws.CopyOwn
import Derived.Laws.Bits64b
import Derived.Deep.RegionLaw
namespace Go.Proofs.YtcenagpkfimkbaaGreatDoor
open Go Go.RowKit

theorem mask1 : bits .and .u64 1 4294967295 = 1 := by decide
theorem maskn (n : Nat) (hn : n ≤ 4000) : bits .and .u64 (n : Int) 4294967295 = n := by
  have h := bits_and_u64_nat n 4294967295 (by omega) (by omega)
  have e : n &&& 4294967295 = n % 4294967296 := Nat.and_two_pow_sub_one_eq_mod n 32
  rw [e] at h
  rw [Nat.mod_eq_of_lt (by omega)] at h
  exact h
theorem mask0 : bits .and .u64 0 4294967295 = 0 := by decide
theorem wrapn (n : Nat) (hn : n ≤ 4000) : IntKind.u64.wrap (n : Int) = n := by rw [IntKind.wrap_u64]; omega
theorem wrapni (n : Nat) (hn : n ≤ 4000) : IntKind.i64.wrap (n : Int) = n := by rw [IntKind.wrap_i64]; omega

theorem Mul64_one (n : Nat) (hn : n ≤ 4000) (w : World) :
    Calls Tryz.prog 226 #[.int .u64 1, .int .u64 n] w fun e w' => e = .returned (.tuple #[.int .u64 0, .int .u64 n]) ∧ w = w' := by
  have m1 := mask1
  have m2 := maskn n hn
  have m3 := mask0
  have w1 := wrapn n hn
  have d1 : (n : Int) / 4294967296 = 0 := by omega
  go_enter Tryz.func226, Tryz.ntmps226
  go_wp2
  go_ret2
  exact ⟨rfl, rfl⟩
theorem Mul_one (n : Nat) (hn : n ≤ 4000) (w : World) :
    Calls Tryz.prog 211 #[.int .u64 1, .int .u64 n] w fun e w' => e = .returned (.tuple #[.int .u64 0, .int .u64 n]) ∧ w = w' := by
  have w1 := wrapn n hn
  go_enter Tryz.func211, Tryz.ntmps211
  go_wp2_with (go_at_call 226; refine (Mul64_one n hn _).mono ?_; rintro e w' ⟨rfl, rfl⟩)
  go_ret2
  exact ⟨rfl, rfl⟩

def repL (k : Int) (j n : Nat) : List Value := List.replicate j (.int .i64 k) ++ List.replicate (n - j) (.int .i64 0)
theorem repL_length (k : Int) (j n : Nat) (h : j ≤ n) : (repL k j n).length = n := by simp [repL]; omega
theorem repL_splice (k : Int) (j n m : Nat) (h : j + m ≤ n) : splice (repL k j n) j (List.replicate m (.int .i64 k)) = repL k (j + m) n := by
  unfold splice repL
  rw [List.take_left' (by simp), List.length_replicate, List.drop_append, List.drop_eq_nil_of_le (by simp), List.nil_append, List.length_replicate, List.drop_replicate, ← List.append_assoc, List.replicate_append_replicate]
  rw [show n - j - (j + m - j) = n - (j + m) by omega]
theorem repL_at (k : Int) (j n q : Nat) (h : q < j) : (repL k j n)[q]? = some (.int .i64 k) := by
  unfold repL
  rw [List.getElem?_append_left (by simpa using h), List.getElem?_replicate, if_pos h]
theorem repL_all (k : Int) (n : Nat) : repL k n n = (List.replicate n k).map (Value.int .i64) := by simp [repL]

theorem run_mkI (n : Nat) (hn : n ≤ 4000) (k : Int) (w : World) :
    (Instr.makeSlice 58 (.int .i64 n) (.int .i64 n)).run Tryz.prog w = .ok (.slice (some ⟨w.heap.size, 0, none⟩) n n) (w.alloc (.cells (repL k 0 n).toArray 3)) := by
  obtain ⟨i0, hi, hz0, hz1, hz2⟩ := info_parts info_int
  have := run_make (P := Tryz.prog) w 58 3 i0 (.int .i64 0) Tryz.underlying58 hi hz0 .i64 .i64 n n (by omega) (by omega) (by rw [hz2]; omega) (by omega)
  rw [this, hz1]
  simp only [Nat.mul_one]
  have e : madeCells #[.int .i64 0] n = (repL k 0 n).toArray := by
    apply Array.toList_inj.1
    simp [repL, toList_madeCells_one]
  simp [Value.cells, e]
theorem size_int1 : (Tryz.prog.info? 3).map (·.size) = some 1 := by kernel_rfl

set_option maxHeartbeats 1000000 in
theorem Repeat_any (b off c : Nat) (k : Int) (n : Nat) (w : World) (hc : w.cell? ⟨b, off, none⟩ = some (.int .i64 k)) (hn : n ≤ 4000) :
    Calls Tryz.prog 179 #[.slice (some ⟨b, off, none⟩) 1 c, .int .i64 n] w (RetOwn .i64 3 (List.replicate n k) w) := by
  have hmk := run_mkI n hn k
  have hmul := Mul_one n hn
  have w1 := wrapn n hn
  have w2 := wrapni n hn
  have HC := Lib.hid hc
  clear hc
  obtain ⟨cs, hcs⟩ : ∃ cs, cs = List.replicate (min 1 n) (Value.int .i64 k) := ⟨_, rfl⟩
  have HCS := Lib.hid hcs
  clear hcs
  have hlen : cs.length = min 1 n := by rw [HCS.out]; simp
  have HL := Lib.hid hlen
  clear hlen
  go_enter Tryz.func179, Tryz.ntmps179
  go_wp2_with (first | (go_at_call 211; refine (hmul _).mono ?_; rintro e w' ⟨rfl, rfl⟩) | (refine wpList_copy_splice rfl (.tmp 31) (.tmp 32) 58 58 rfl 3 Tryz.underlying58 size_int1 (some ⟨w.heap.size, 0, none⟩) (some ⟨b, off, none⟩) n n 1 c rfl rfl w.heap.size 0 (repL k 0 n) 3 (heap_alloc_eq _ _) cs HL.out ?c1 ?c2 ?c3 w.heap.size w ((Below.refl _ _).alloc (Nat.le_refl _) _) (Nat.le_refl _) ?_))
  case c1 =>
    intro _ j v hj
    have hl := HL.out
    have hj2 := (List.getElem?_eq_some_iff.1 hj).1
    obtain rfl : j = 0 := by omega
    rw [HCS.out, List.getElem?_replicate] at hj
    split at hj
    · cases hj
      rw [Nat.add_zero]
      exact cell_alloc_old _ HC.out
    · cases hj
  case c2 =>
    rw [repL_length _ _ _ (Nat.zero_le _), HL.out]
    omega
  case c3 => intro v hv; rw [HCS.out, List.mem_replicate] at hv; rw [hv.2]; rfl
  intro w2 HG hB
  have HG2 : Hid (w2.heap[w.heap.size]? = some (.cells (repL k cs.length n).toArray 3 (0, 0))) := by
    refine Lib.hid ?_
    rw [HG.out, HCS.out, List.length_replicate, repL_splice _ _ _ _ (by omega), Nat.zero_add]
  have hj1 : cs.length ≤ n := by rw [HL.out]; omega
  have hj2 : 0 < n → 0 < cs.length := fun h => by
    rw [HL.out]
    omega
  generalize cs.length = q at HG2 hj1 hj2 ⊢
  clear HG
  have HJ := Lib.hid hj2
  clear hj2
  go_wp2
  go_loopw [8] (fun i wr => ∃ j : Nat, j ≤ n ∧ Hid (0 < n → 0 < j) ∧ i = .int .i64 j ∧ Hid (wr.heap[w.heap.size]? = some (.cells (repL k j n).toArray 3 (0, 0))) ∧ Below w.heap.size w wr) (fun i _ => n - (intOf i).toNat)
  case atStart => exact ⟨q, hj1, HJ, rfl, HG2, hB⟩
  case round =>
    obtain ⟨j, hj, hp, rfl, hg, hB⟩ := hrel
    by_cases hlt : j < n
    · have hjp := hp.out (by omega)
      obtain ⟨ds, hds⟩ : ∃ cs, cs = List.replicate (min j (n - j)) (Value.int .i64 k) := ⟨_, rfl⟩
      have HDS := Lib.hid hds
      clear hds
      have hlen : ds.length = min j (n - j) := by rw [HDS.out]; simp
      have HDL := Lib.hid hlen
      clear hlen
      have i0 : (0 : Int) ≤ (j : Int) := by omega
      have i1 : (j : Int) ≤ (n : Int) := by omega
      have i2 : (j : Int) < (n : Int) := by omega
      have H4 : Hid (∀ q v, ds[q]? = some v → wr.drew.cell? ((⟨w.heap.size, 0, none⟩ : Addr).add q) = some v) := by
        refine Lib.hid fun q v hq => ?_
        have hq2 := (List.getElem?_eq_some_iff.1 hq).1
        rw [HDL.out] at hq2
        rw [HDS.out, List.getElem?_replicate] at hq
        have h8 : (repL k j n)[q]? = some (.int .i64 k) := repL_at k j n q (by omega)
        rw [if_pos hq2] at hq
        cases hq
        rw [addr_add_none, Nat.zero_add, show wr.drew.cell? ⟨w.heap.size, q, none⟩ = (repL k j n).toArray[q]? from heap_cell (w := wr.drew) hg.out q]
        simpa using h8
      have H5 : Hid (j + ds.length ≤ (repL k j n).length) := by
        refine Lib.hid ?_
        rw [repL_length _ _ _ hj, HDL.out]
        omega
      have H6 : Hid (∀ v ∈ ds, v.oneCell' = true) := by
        refine Lib.hid fun v hv => ?_
        rw [HDS.out, List.mem_replicate] at hv
        rw [hv.2]
        rfl
      have hBd : Below w.heap.size w wr.drew := hB.drew
      have hgd : Hid (wr.drew.heap[w.heap.size]? = some (.cells (repL k j n).toArray 3 (0, 0))) := hg
      have n1 : ¬ n = j := by omega
      have hs : IntKind.i64.wrap ((j : Int) + (ds.length : Int)) = (j : Int) + (ds.length : Int) := by
        have h9 := HDL.out
        rw [IntKind.wrap_i64]
        omega
      go_wp2
      go_region_law (refine step_copy_splice rfl _ _ _ _ rfl 3 Tryz.underlying58 size_int1 (some ⟨w.heap.size, j, none⟩) (some ⟨w.heap.size, 0, none⟩) (n - j) (n - j) j n (by go_simp) (by go_simp) w.heap.size j (repL k j n) 3 hgd.out ds HDL.out (fun _ => ⟨rfl, _, rfl, H4.out⟩) H5.out H6.out w.heap.size w hBd (Nat.le_refl _) ?_; intro w3 HG3 hB3)
      have hm : 0 < ds.length ∧ j + ds.length ≤ n := by rw [HDL.out]; omega
      have HG4 : Hid (w3.heap[w.heap.size]? = some (.cells (repL k (j + ds.length) n).toArray 3 (0, 0))) := by
        refine Lib.hid ?_
        rw [HG3.out, show ds = List.replicate ds.length (Value.int .i64 k) by rw [HDL.out]; exact HDS.out, repL_splice _ _ _ _ hm.2, List.length_replicate]
      generalize ds.length = m at HG4 hm hs ⊢
      obtain ⟨hm0, hm1⟩ := hm
      clear HG3 H4 H5 H6 hBd hgd hB hg
      go_simp
      go_roundw
      case rel => exact ⟨.int .i64 ((j : Int) + (m : Int)), _, _, _, _, _, _, _, _, _, _, _, _, _, ⟨j + m, hm1, Lib.hid (fun _ => by omega), by go_num, HG4, hB3⟩, rfl⟩
      case measure => simp [intOf]; omega
    · obtain rfl : j = n := by omega
      have hown : wr.ownsRow w.heap.size 3 1 (.slice (some ⟨w.heap.size, 0, none⟩) j j) (List.replicate j k).length ((List.replicate j k).map (Value.int .i64)) := by
        refine ⟨by simp, .inr ⟨w.heap.size, j, _, by simp, Nat.le_refl _, hg.out, by simp, by unfold maxLen; omega, by simp [repL], ?_⟩⟩
        simp [repL]
      go_wp2
      go_ret
      exact ⟨_, by simp, hB, hown⟩
end Go.Proofs.YtcenagpkfimkbaaGreatDoor
namespace Go.Proofs.YtcenagpkfimkbaaGreatDoor
open Go Go.RowKit

def knE (ds : List (List Int)) (arr : Bool) (k t n : Int) : Int :=
  if arr = true then (if kindB k = true then (if 0 ≤ n ∧ n ≤ 4000 then 0 else 1) else 4)
  else (if 0 ≤ t ∧ t < ds.length then (if n = (ds.getD t.toNat []).length then 0 else 1) else 2)
def knL (ds : List (List Int)) (arr : Bool) (k t n : Int) : List Int :=
  if knE ds arr k t n = 0 then (if arr = true then List.replicate n.toNat k else ds.getD t.toNat []) else []
theorem knL_no {ds : List (List Int)} {arr : Bool} {k t n : Int} (h : knE ds arr k t n ≠ 0) : knL ds arr k t n = [] := by rw [knL, if_neg h]
theorem knL_length {ds : List (List Int)} {arr : Bool} {k t n : Int} (h : ∀ d ∈ ds, d.length ≤ 100) : (knL ds arr k t n).length ≤ 4000 := by
  unfold knL
  split
  · rename_i h0
    split
    · rename_i h1
      unfold knE at h0
      rw [if_pos h1] at h0
      split at h0
      · split at h0
        · simp; omega
        · omega
      · omega
    · rename_i h1
      unfold knE at h0
      rw [if_neg h1] at h0
      split at h0
      · rename_i h2
        have h3 : t.toNat < ds.length := by omega
        have := h (ds.getD t.toNat []) (by simp [h3])
        omega
      · omega
  · simp

def RetKinds (L : List Int) (E : Int) (w : World) (e : Ending) (w' : World) : Prop :=
  ∃ v, e = .returned (.tuple #[v, .int .i64 E]) ∧ Below w.heap.size w w' ∧ w'.ownsRow w.heap.size 3 1 v L.length (L.map (Value.int .i64))
def RetKindsR (L : List Int) (E : Int) (w : World) (e : Ending) (w' : World) : Prop :=
  ∃ a c, e = .returned (.tuple #[.slice a L.length c, .int .i64 E]) ∧ Below w.heap.size w w' ∧ Reads .i64 w' a L ∧ (a = none → L = [] ∧ c = 0)

theorem owns_le {w : World} {B B' : Nat} {t : TypeId} {size n : Nat} {v : Value} {xs : List Value} (h : w.ownsRow B t size v n xs) (hb : B' ≤ B) : w.ownsRow B' t size v n xs :=
  ⟨h.1, h.2.elim .inl fun ⟨g, cap, cur, hv, hg, r⟩ => .inr ⟨g, cap, cur, hv, Nat.le_trans hb hg, r⟩⟩

set_option maxHeartbeats 2000000 in
theorem Kinds_any (a : Option Addr) (ds : List (List Int)) (c : Nat) (arr : Bool) (k t n : Int) (w : World) (hT : Tab w) (hD : Descs w a ds) (hd : ∀ d ∈ ds, d.length ≤ 100) (_hn : ds.length ≤ 9223372036854775807) :
    Calls Tryz.prog 138 #[.slice a ds.length c, .agg #[.bool arr, .int .i64 k, .int .i64 t, .int .i64 n]] w (RetKinds (knL ds arr k t n) (knE ds arr k t n) w) := by
  have hbo : Below w.heap.size w (w.alloc (.cells #[.bool arr, .int .i64 k, .int .i64 t, .int .i64 n] 85)) := (Below.refl _ _).alloc (Nat.le_refl _) _
  have HB := Lib.hid hbo
  clear hbo
  cases arr
  · clear hT
    rcases (show t < 0 ∨ (0 ≤ t ∧ ds.length ≤ t) ∨ (0 ≤ t ∧ t < ds.length) by omega) with h | ⟨h0, h⟩ | ⟨h0, h⟩
    · have e1 : knE ds false k t n = 2 := by rw [knE, if_neg (by simp), if_neg (by omega)]
      rw [knL_no (by omega), e1]
      clear hD e1
      go_enter Tryz.func138, Tryz.ntmps138
      go_wp2
      go_ret2
      exact ⟨_, rfl, HB.out, World.ownsRow_nil _ _ _ _⟩
    · have e1 : knE ds false k t n = 2 := by rw [knE, if_neg (by simp), if_neg (by omega)]
      rw [knL_no (by omega), e1]
      clear hD e1
      go_enter Tryz.func138, Tryz.ntmps138
      go_wp2
      go_ret2
      exact ⟨_, rfl, HB.out, World.ownsRow_nil _ _ _ _⟩
    · obtain ⟨t, rfl⟩ := Int.eq_ofNat_of_zero_le h0
      obtain ⟨b, off, fa, fc, d, rfl, hdt, hc, hr, hnil⟩ := hD.at_ t (by omega)
      have hdl := hd d (List.mem_of_getElem? hdt)
      have e0 : ds.getD (t : Int).toNat [] = d := by simp [hdt]
      have hc2 := cell_alloc_old (.cells #[.bool false, .int .i64 k, .int .i64 t, .int .i64 n] 85) hc
      have hr2 := hr.below HB.out
      by_cases hnd : n = d.length
      · have e1 : knE ds false k t n = 0 := by rw [knE, if_neg (by simp), if_pos (by omega), e0, if_pos hnd]
        have e2 : knL ds false k t n = d := by rw [knL, if_pos e1, if_neg (by simp), e0]
        rw [e1, e2]
        subst hnd
        have hb : ((d.length : Int) != (d.length : Int)) = false := by simp
        have hcl := fun m => Clone_int_any fa d fc _ (hr2.below (below_drewN (Below.refl _ _) m)) (by omega) hnil
        have HD := Lib.hid (And.intro hD hd)
        clear e1 e2 hD hd hdt e0 hr hr2 hc
        go_enter Tryz.func138, Tryz.ntmps138
        go_wp2
        go_quiet (fail)
        go_wp2_with fail
        refine (hcl _).mono ?_
        rintro e w1 ⟨v, rfl, hb1, ho⟩
        clear hcl
        go_wp2
        go_ret2
        exact ⟨_, rfl, (below_drewN HB.out _).trans (hb1.mono HB.out.size), owns_le ho HB.out.size⟩
      · have e1 : knE ds false k t n = 1 := by rw [knE, if_neg (by simp), if_pos (by omega), e0, if_neg hnd]
        rw [knL_no (by omega), e1]
        have hb : ((n : Int) != (d.length : Int)) = true := by simp [hnd]
        clear e1 hD hd hdt e0 hr hr2 hc hnil
        go_enter Tryz.func138, Tryz.ntmps138
        go_wp2
        go_quiet (fail)
        go_wp2
        go_ret2
        exact ⟨_, rfl, below_drewN HB.out _, World.ownsRow_nil _ _ _ _⟩
  · have hK := Kind_any k _ (hT.below hT.lt HB.out)
    clear hT hD
    cases hk : kindB k
    · have e1 : knE ds true k t n = 4 := by rw [knE, if_pos rfl, if_neg (by simp [hk])]
      rw [knL_no (by omega), e1]
      rw [hk] at hK
      clear e1 hk hd
      go_enter Tryz.func138, Tryz.ntmps138
      go_wp2_with (go_at_call 140; refine hK.mono ?_; rintro e w' ⟨rfl, rfl⟩)
      go_ret2
      exact ⟨_, rfl, HB.out, World.ownsRow_nil _ _ _ _⟩
    · rw [hk] at hK
      by_cases hr : 0 ≤ n ∧ n ≤ 4000
      · have e1 : knE ds true k t n = 0 := by rw [knE, if_pos rfl, if_pos hk, if_pos hr]
        have e2 : knL ds true k t n = List.replicate n.toNat k := by rw [knL, if_pos e1, if_pos rfl]
        rw [e1, e2]
        obtain ⟨h0, h1⟩ := hr
        obtain ⟨n, rfl⟩ := Int.eq_ofNat_of_zero_le h0
        have hbo2 : Below w.heap.size w ((w.alloc (.cells #[.bool true, .int .i64 k, .int .i64 t, .int .i64 n] 85)).alloc (.cells #[.int .i64 k] 3)) := HB.out.alloc HB.out.size _
        have HB2 := Lib.hid hbo2
        have hrep := Repeat_any (w.heap.size + 1) 0 1 k n ((w.alloc (.cells #[.bool true, .int .i64 k, .int .i64 t, .int .i64 n] 85)).alloc (.cells #[.int .i64 k] 3)) (by
          have := heap_alloc_eq (w.alloc (.cells #[.bool true, .int .i64 k, .int .i64 t, .int .i64 n] 85)) (.cells #[.int .i64 k] 3)
          rw [show (w.alloc (.cells #[.bool true, .int .i64 k, .int .i64 t, .int .i64 n] 85)).heap.size = w.heap.size + 1 by simp] at this
          rw [heap_cell this]
          rfl) (by omega)
        rw [Int.toNat_natCast]
        clear e1 e2 hk hd hbo2
        go_enter Tryz.func138, Tryz.ntmps138
        go_wp2_with (first | (go_at_call 140; refine hK.mono ?_; rintro e w' ⟨rfl, rfl⟩) | (go_at_call 179; refine hrep.mono ?_; rintro e w1 ⟨v, rfl, hb1, ho⟩))
        go_ret2
        exact ⟨_, rfl, HB2.out.trans (hb1.mono HB2.out.size), owns_le ho HB2.out.size⟩
      · have e1 : knE ds true k t n = 1 := by rw [knE, if_pos rfl, if_pos hk, if_neg hr]
        rw [knL_no (by omega), e1]
        clear e1 hk hd
        rcases (show n < 0 ∨ (¬ n < 0 ∧ 4000 < n) by omega) with h | ⟨h0, h⟩
        all_goals
          clear hr
          go_enter Tryz.func138, Tryz.ntmps138
          go_wp2_with (go_at_call 140; refine hK.mono ?_; rintro e w' ⟨rfl, rfl⟩)
          go_ret2
          exact ⟨_, rfl, HB.out, World.ownsRow_nil _ _ _ _⟩
end Go.Proofs.YtcenagpkfimkbaaGreatDoor
namespace Go.Proofs.YtcenagpkfimkbaaGreatDoor
open Go Go.RowKit

set_option maxRecDepth 100000 in
set_option maxHeartbeats 2000000 in
theorem rKinds_any (a : Option Addr) (ds : List (List Int)) (c : Nat) (arr : Bool) (k t n : Int) (w : World) (hD : Descs w a ds) :
    Calls Tryz.prog 48 #[.slice a ds.length c, .agg #[.bool arr, .int .i64 k, .int .i64 t, .int .i64 n]] w (RetKindsR (knL ds arr k t n) (knE ds arr k t n) w) := by
  have hbo : Below w.heap.size w ((w.alloc (.cells #[.bool arr, .int .i64 k, .int .i64 t, .int .i64 n] 85)).alloc (.cells #[] 3)) := ((Below.refl _ _).alloc (Nat.le_refl _) _).alloc (by simp) _
  have HB := Lib.hid hbo
  cases arr
  · rcases (show t < 0 ∨ (0 ≤ t ∧ ds.length ≤ t) ∨ (0 ≤ t ∧ t < ds.length) by omega) with h | ⟨h0, h⟩ | ⟨h0, h⟩
    · have e1 : knE ds false k t n = 2 := by rw [knE, if_neg (by simp), if_neg (by omega)]
      rw [knL_no (by omega), e1]
      clear hD e1 hbo
      go_enter Tryz.func48, Tryz.ntmps48
      go_wp2
      go_ret2
      exact ⟨_, _, rfl, HB.out, .inl rfl, by simp⟩
    · have e1 : knE ds false k t n = 2 := by rw [knE, if_neg (by simp), if_neg (by omega)]
      rw [knL_no (by omega), e1]
      clear hD e1 hbo
      go_enter Tryz.func48, Tryz.ntmps48
      go_wp2
      go_ret2
      exact ⟨_, _, rfl, HB.out, .inl rfl, by simp⟩
    · obtain ⟨t, rfl⟩ := Int.eq_ofNat_of_zero_le h0
      obtain ⟨b, off, fa, fc, d, rfl, hdt, hc, hr, hnil⟩ := hD.at_ t (by omega)
      have e0 : ds.getD (t : Int).toNat [] = d := by simp [hdt]
      have hc2 := (hbo.cell (cell_lt hc)).trans hc
      have hr2 := hr.below hbo
      by_cases hnd : n = d.length
      · have e1 : knE ds false k t n = 0 := by rw [knE, if_neg (by simp), if_pos (by omega), e0, if_pos hnd]
        have e2 : knL ds false k t n = d := by rw [knL, if_pos e1, if_neg (by simp), e0]
        rw [e1, e2]
        subst hnd
        have hb : ((d.length : Int) != (d.length : Int)) = false := by simp
        have HR := Lib.hid (And.intro hr2 hnil)
        clear e1 e2 hD hdt e0 hr hr2 hc hnil hbo
        go_enter Tryz.func48, Tryz.ntmps48
        go_wp2
        go_quiet (fail)
        go_wp2
        go_ret2
        exact ⟨_, _, rfl, below_drewN HB.out _, HR.out.1.below (below_drewN (Below.refl _ _) _), HR.out.2⟩
      · have e1 : knE ds false k t n = 1 := by rw [knE, if_neg (by simp), if_pos (by omega), e0, if_neg hnd]
        rw [knL_no (by omega), e1]
        have hb : ((n : Int) != (d.length : Int)) = true := by simp [hnd]
        clear e1 hD hdt e0 hr hr2 hc hnil hbo
        go_enter Tryz.func48, Tryz.ntmps48
        go_wp2
        go_quiet (fail)
        go_wp2
        go_ret2
        exact ⟨_, _, rfl, below_drewN HB.out _, .inl rfl, by simp⟩
  · clear hD
    by_cases hk : kindB k = true
    · by_cases hr : 0 ≤ n ∧ n ≤ 4000
      · have e1 : knE ds true k t n = 0 := by rw [knE, if_pos rfl, if_pos hk, if_pos hr]
        have e2 : knL ds true k t n = List.replicate n.toNat k := by rw [knL, if_pos e1, if_pos rfl]
        have hk2 : 0 ≤ k ∧ k < 4 := by simpa [kindB] using hk
        rw [e1, e2]
        obtain ⟨h0, h1⟩ := hr
        obtain ⟨k0, k1⟩ := hk2
        obtain ⟨n, rfl⟩ := Int.eq_ofNat_of_zero_le h0
        rw [Int.toNat_natCast]
        obtain ⟨i0, hi, hz0, hz1, hz2⟩ := info_parts info_int
        have hO0 := heap_alloc_lt (heap_alloc_eq w (.cells #[.bool true, .int .i64 k, .int .i64 t, .int .i64 n] 85)) (.cells #[] 3)
        have HO0 := Lib.hid hO0
        have hm0 := World.ownsRow_made (base := w.heap.size + 1) (e := 3) (size := 1) (w.alloc (.cells #[.bool true, .int .i64 k, .int .i64 t, .int .i64 n] 85)) #[] 0 (by simp) (by decide) rfl
        simp only [World.size_alloc] at hm0
        have HM0 := Lib.hid hm0
        clear e1 e2 hk hO0 hbo hm0
        go_enter Tryz.func48, Tryz.ntmps48
        go_wp2
        go_loopw [6, 7] (fun v i wr => ∃ j : Nat, j ≤ n ∧ i = .int .i64 j ∧ wr.ownsRow (w.heap.size + 1) 3 1 v j ((List.replicate j k).map (Value.int .i64)) ∧ v ≠ .slice none 0 0 ∧ Below w.heap.size w wr ∧ wr.heap[w.heap.size]? = some (.cells #[.bool true, .int .i64 k, .int .i64 t, .int .i64 n] 85 (0, 0))) (fun _ i _ => n - (intOf i).toNat)
        case atStart => exact ⟨0, Nat.zero_le _, rfl, HM0.out, by simp, HB.out, HO0.out⟩
        case round =>
          obtain ⟨j, hj, rfl, hown, hnn, hB, hO⟩ := hrel
          have a1 := heap_cell hO 1
          have a3 := heap_cell hO 3
          simp at a1 a3
          have HO := Lib.hid hO
          clear hO
          have hsz := heap_lt HO.out
          by_cases hlt : j < n
          · go_wp2_with (at_builtin; refine wpList_append_own _ rfl _ _ 58 rfl (w.heap.size + 1) 3 i0 (.int .i64 0) 1 8 Tryz.underlying58 hi hz0 hz1 hz2 rfl (by decide) _ _ _ rfl (hown.alloc _) ⟨wr.heap.size, 0, none⟩ 1 1 [.int .i64 k] rfl rfl ?c1 ?c2 ?c3 ?c4 ?c5 ?_)
            case c1 =>
              intro q u hq
              match q, hq with
              | 0, hq => simp at hq; subst hq; simp [Addr.add]
            case c2 => intro u hu; simp at hu; subst hu; rfl
            case c3 => unfold maxLen; omega
            case c4 => omega
            case c5 => simp; omega
            · intro v' w1 hown' hgrow hnil
              have hn2 : v' ≠ .slice none 0 0 := hnil
              have hB1 := (hB.alloc hB.size (.cells #[.int .i64 k] 3)).grown hgrow (by have := hB.size; simp; omega) (fun k e => by have := (hown.lt k e).1; omega)
              have ho2 : w1.ownsRow (w.heap.size + 1) 3 1 v' (j + 1) ((List.replicate (j + 1) k).map (Value.int .i64)) := by
                rw [List.replicate_succ']; simpa using hown'
              have hO1 := (hgrow.block w.heap.size (by simp; omega) (fun e => by have := (hown.lt _ e.symm).1; omega)).trans (heap_alloc_lt HO.out _)
              clear hown' hgrow hown hB hnn hnil a1 a3
              go_wp2
              go_roundw
              case rel => exact ⟨j + 1, by omega, by go_num, ho2, hn2, hB1, hO1⟩
              case measure => simp [intOf]; omega
          · obtain rfl : j = n := by omega
            have ho : wr.ownsRow (w.heap.size + 1) 3 1 u6 (List.replicate j k).length ((List.replicate j k).map (Value.int .i64)) := by simpa using hown
            obtain ⟨a1', c1, hv, hr, _⟩ := owns_reads ho
            subst hv
            have hne : a1' ≠ none := by
              rintro rfl
              obtain ⟨_, _, e, _, e2, _⟩ := owns_slice ho
              simp only [Value.slice.injEq] at e
              obtain ⟨e3, _, e4⟩ := e
              obtain ⟨e5, e6⟩ := e2 e3.symm
              rw [e4, e6, e5] at hnn
              exact hnn rfl
            clear hown ho hnn
            go_wp2
            go_ret2
            exact ⟨_, c1, by simp, hB, hr, fun e => absurd e hne⟩
      · have e1 : knE ds true k t n = 1 := by rw [knE, if_pos rfl, if_pos hk, if_neg hr]
        rw [knL_no (by omega), e1]
        have hk2 : 0 ≤ k ∧ k < 4 := by simpa [kindB] using hk
        obtain ⟨k0, k1⟩ := hk2
        clear e1 hk hbo
        rcases (show n < 0 ∨ (¬ n < 0 ∧ 4000 < n) by omega) with h | ⟨h0, h⟩
        all_goals
          clear hr
          go_enter Tryz.func48, Tryz.ntmps48
          go_wp2
          go_ret2
          exact ⟨_, _, rfl, HB.out, .inl rfl, by simp⟩
    · have e1 : knE ds true k t n = 4 := by rw [knE, if_pos rfl, if_neg hk]
      rw [knL_no (by omega), e1]
      have hk2 : ¬ (0 ≤ k ∧ k < 4) := by simpa [kindB] using hk
      clear e1 hk hbo
      rcases (show k < 0 ∨ (¬ k < 0 ∧ 3 < k) by omega) with h | ⟨h0, h⟩
      all_goals
        clear hk2
        go_enter Tryz.func48, Tryz.ntmps48
        go_wp2
        go_ret2
        exact ⟨_, _, rfl, HB.out, .inl rfl, by simp⟩
end Go.Proofs.YtcenagpkfimkbaaGreatDoor
namespace Go.Proofs.YtcenagpkfimkbaaGreatDoor
open Go Go.RowKit

def onX (xs : List Int) (at_ : Int) : Int := xs.getD (at_ - 1).toNat 0
def onE (xs : List Int) (ds : List (List Int)) (at_ : Int) : Int :=
  if 1 ≤ at_ ∧ at_ ≤ xs.length then
    (if getB (onX xs at_) = true then
      (if knE ds (gA (onX xs at_)) (gK (onX xs at_)) (gT (onX xs at_)) (gN (onX xs at_)) = 0 then
        (if at_ + (knL ds (gA (onX xs at_)) (gK (onX xs at_)) (gT (onX xs at_)) (gN (onX xs at_))).length ≤ xs.length then 0 else 8)
      else knE ds (gA (onX xs at_)) (gK (onX xs at_)) (gT (onX xs at_)) (gN (onX xs at_)))
    else 11)
  else 8
def onI (xs : List Int) (ds : List (List Int)) (at_ v : Int) : Int := if onE xs ds at_ = 0 then v else 0
def onA (xs : List Int) (ds : List (List Int)) (at_ : Int) : Bool := if onE xs ds at_ = 0 then gA (onX xs at_) else false
def onK (xs : List Int) (ds : List (List Int)) (at_ : Int) : List Int := if onE xs ds at_ = 0 then knL ds (gA (onX xs at_)) (gK (onX xs at_)) (gT (onX xs at_)) (gN (onX xs at_)) else []
def onV (xs : List Int) (ds : List (List Int)) (at_ : Int) : List Int := if onE xs ds at_ = 0 then (xs.drop at_.toNat).take (onK xs ds at_).length else []

def OneRet (O : Addr → Prop) (xs : List Int) (ds : List (List Int)) (at_ : Int) (w : World) (e : Ending) (w' : World) : Prop :=
  ∃ (y1 y2 : Option Addr) (c1 c2 : Nat), e = .returned (.tuple #[.agg #[.int .i64 (onI xs ds at_ at_), .int .i64 0, .bool (onA xs ds at_), .int .i64 (onI xs ds at_ (gK (onX xs at_))), .int .i64 (onI xs ds at_ (gT (onX xs at_))), .int .i64 (onI xs ds at_ (gN (onX xs at_))), .slice y1 (onK xs ds at_).length c1, .slice y2 (onV xs ds at_).length c2], .int .i64 (onE xs ds at_)]) ∧
    Below w.heap.size w w' ∧ Reads .i64 w' y1 (onK xs ds at_) ∧ Reads .u64 w' y2 (onV xs ds at_) ∧ (onK xs ds at_ = [] ∨ ∀ p, y1 = some p → O p ∨ w.heap.size ≤ p.block) ∧ (onV xs ds at_ = [] ∨ ∀ p, y2 = some p → O p ∨ w.heap.size ≤ p.block)
theorem one_no {O : Addr → Prop} {xs : List Int} {ds : List (List Int)} {at_ E : Int} {w w' : World} (h : onE xs ds at_ = E) (hE : E ≠ 0) (hb : Below w.heap.size w w') :
    OneRet O xs ds at_ w (.returned (.tuple #[.agg #[.int .i64 0, .int .i64 0, .bool false, .int .i64 0, .int .i64 0, .int .i64 0, .slice none 0 0, .slice none 0 0], .int .i64 E])) w' := by
  have h0 : ¬ onE xs ds at_ = 0 := by rw [h]; exact hE
  have k : onK xs ds at_ = [] := by rw [onK, if_neg h0]
  have v : onV xs ds at_ = [] := by rw [onV, if_neg h0]
  refine ⟨none, none, 0, 0, ?_, hb, .inl k, .inl v, .inl k, .inl v⟩
  rw [k, v, show onA xs ds at_ = false by rw [onA, if_neg h0], show ∀ z, onI xs ds at_ z = 0 from fun z => by rw [onI, if_neg h0], show ∀ z, onI xs ds at_ z = 0 from fun z => by rw [onI, if_neg h0], show ∀ z, onI xs ds at_ z = 0 from fun z => by rw [onI, if_neg h0], show ∀ z, onI xs ds at_ z = 0 from fun z => by rw [onI, if_neg h0], h]
  rfl
theorem one_yes {O : Addr → Prop} {xs : List Int} {ds : List (List Int)} {at_ : Int} {x : Int} {L : List Int} {w w' : World} {y1 y2 : Option Addr} {c1 c2 : Nat} (h : onE xs ds at_ = 0) (hx : onX xs at_ = x) (hL : knL ds (gA x) (gK x) (gT x) (gN x) = L) (hl : ((xs.drop at_.toNat).take L.length).length = L.length) (hb : Below w.heap.size w w') (h1 : Reads .i64 w' y1 L) (h2 : Reads .u64 w' y2 ((xs.drop at_.toNat).take L.length)) (o1 : L = [] ∨ ∀ p, y1 = some p → O p ∨ w.heap.size ≤ p.block) (o2 : (xs.drop at_.toNat).take L.length = [] ∨ ∀ p, y2 = some p → O p ∨ w.heap.size ≤ p.block) :
    OneRet O xs ds at_ w (.returned (.tuple #[.agg #[.int .i64 at_, .int .i64 0, .bool (gA x), .int .i64 (gK x), .int .i64 (gT x), .int .i64 (gN x), .slice y1 L.length c1, .slice y2 L.length c2], .int .i64 0])) w' := by
  have k : onK xs ds at_ = L := by rw [onK, if_pos h, hx, hL]
  have v : onV xs ds at_ = (xs.drop at_.toNat).take L.length := by rw [onV, if_pos h, k]
  refine ⟨y1, y2, c1, c2, ?_, hb, by rw [k]; exact h1, by rw [v]; exact h2, by rw [k]; exact o1, by rw [v]; exact o2⟩
  rw [k, v, hl, show onA xs ds at_ = gA x by rw [onA, if_pos h, hx], h, hx]
  simp [onI, h]
end Go.Proofs.YtcenagpkfimkbaaGreatDoor
namespace Go.Proofs.YtcenagpkfimkbaaGreatDoor
open Go Go.RowKit

theorem new_cell (w : World) (v : Value) (t : TypeId) : ∀ (j : Nat) (u : Value), [v][j]? = some u → (w.alloc (.cells #[v] t)).cell? ((⟨w.heap.size, 0, none⟩ : Addr).add j) = some u := by
  intro j u h
  match j, h with
  | 0, h => simp at h; subst h; simp [Addr.add]
theorem one_ok (v : Value) (h : v.oneCell' = true) : ∀ u ∈ [v], u.oneCell' = true := by
  intro u hu; simp at hu; subst hu; exact h

structure OnInv (w0 : World) (b g : Nat) (xs : List Int) (ta : Option Addr) (ds : List (List Int)) (w : World) : Prop where
  r : w.heap[w0.heap.size]? = some (.cells #[.int .i64 0, .int .i64 0, .bool false, .int .i64 0, .int .i64 0, .int .i64 0, .slice none 0 0, .slice none 0 0] 104 (0, 0))
  z : w.heap[w0.heap.size + 1]? = some (.cells #[.int .i64 0, .int .i64 0, .bool false, .int .i64 0, .int .i64 0, .int .i64 0, .slice none 0 0, .slice none 0 0] 104 (0, 0))
  bb : Below w0.heap.size w0 w
  t : Tab w
  m : MemAt w b g xs
  d : Descs w ta ds
theorem OnInv.below {w0 : World} {b g : Nat} {xs : List Int} {ta : Option Addr} {ds : List (List Int)} {w w' : World} (h : OnInv w0 b g xs ta ds w) (hb : Below w.heap.size w w') : OnInv w0 b g xs ta ds w' :=
  ⟨heap_below hb h.r (heap_lt h.r), heap_below hb h.z (heap_lt h.z), h.bb.trans (hb.mono h.bb.size), h.t.below h.t.lt hb, h.m.later hb, h.d.below hb⟩

set_option maxRecDepth 100000 in
set_option maxHeartbeats 4000000 in
theorem One_any (b g : Nat) (xs : List Int) (at_ : Int) (ta : Option Addr) (ds : List (List Int)) (tc : Nat) (w : World) (hT : Tab w) (hM : MemAt w b g xs) (hD : Descs w ta ds) (hd : ∀ d ∈ ds, d.length ≤ 100) (hn : ds.length ≤ 9223372036854775807) (hx : ∀ v ∈ xs, 0 ≤ v ∧ v < 18446744073709551616) (ha : at_ ≤ 9223372036854775807) :
    Calls Tryz.prog 88 #[.pointer (some ⟨b, 0, none⟩), .int .i64 at_, .slice ta ds.length tc] w (OneRet (fun _ => False) xs ds at_ w) := by
  obtain ⟨W, hW⟩ : ∃ W, W = (w.alloc (.cells #[.int .i64 0, .int .i64 0, .bool false, .int .i64 0, .int .i64 0, .int .i64 0, .slice none 0 0, .slice none 0 0] 104)).alloc (.cells #[.int .i64 0, .int .i64 0, .bool false, .int .i64 0, .int .i64 0, .int .i64 0, .slice none 0 0, .slice none 0 0] 104) := ⟨_, rfl⟩
  have hbo : Below w.heap.size w W := by rw [hW]; exact ((Below.refl _ _).alloc (Nat.le_refl _) _).alloc (by simp) _
  have hO1 : W.heap[w.heap.size]? = some (.cells #[.int .i64 0, .int .i64 0, .bool false, .int .i64 0, .int .i64 0, .int .i64 0, .slice none 0 0, .slice none 0 0] 104 (0, 0)) := by
    rw [hW]; exact heap_alloc_lt (heap_alloc_eq _ _) _
  have hO2 : W.heap[w.heap.size + 1]? = some (.cells #[.int .i64 0, .int .i64 0, .bool false, .int .i64 0, .int .i64 0, .int .i64 0, .slice none 0 0, .slice none 0 0] 104 (0, 0)) := by
    rw [hW]
    have := heap_alloc_eq (w.alloc (.cells #[.int .i64 0, .int .i64 0, .bool false, .int .i64 0, .int .i64 0, .int .i64 0, .slice none 0 0, .slice none 0 0] 104)) (.cells #[.int .i64 0, .int .i64 0, .bool false, .int .i64 0, .int .i64 0, .int .i64 0, .slice none 0 0, .slice none 0 0] 104)
    rw [show (w.alloc (.cells #[.int .i64 0, .int .i64 0, .bool false, .int .i64 0, .int .i64 0, .int .i64 0, .slice none 0 0, .slice none 0 0] 104)).heap.size = w.heap.size + 1 by simp] at this
    exact this
  have H0 : Hid (OnInv w b g xs ta ds W) := Lib.hid ⟨hO1, hO2, hbo, hT.below hT.lt hbo, hM.later hbo, hD.below hbo⟩
  have HW := Lib.hid hW
  have HD := Lib.hid (And.intro hd hx)
  have hxl := hM.2.2
  clear hW hbo hO1 hO2 hT hM hD hd hx
  obtain ⟨i0, hi, hz0, hz1, hz2⟩ := info_parts info_u64
  by_cases h1 : at_ < 1
  · have he : onE xs ds at_ = 8 := by rw [onE, if_neg (by omega)]
    have HE := Lib.hid he
    clear he
    go_enter Tryz.func88, Tryz.ntmps88
    go_wp2_with fail
    rw [← HW.out]
    have q0 := heap_cell H0.out.r 0
    have q1 := heap_cell H0.out.r 1
    have q2 := heap_cell H0.out.r 2
    have q3 := heap_cell H0.out.r 3
    have q4 := heap_cell H0.out.r 4
    have q5 := heap_cell H0.out.r 5
    have q6 := heap_cell H0.out.r 6
    have q7 := heap_cell H0.out.r 7
    simp at q0 q1 q2 q3 q4 q5 q6 q7
    have f0 := heap_free H0.out.r 0
    have f1 := heap_free H0.out.r 1
    have f2 := heap_free H0.out.r 2
    have f3 := heap_free H0.out.r 3
    have f4 := heap_free H0.out.r 4
    have f5 := heap_free H0.out.r 5
    have f6 := heap_free H0.out.r 6
    have f7 := heap_free H0.out.r 7
    have o0 := heap_cell H0.out.z 0
    have o1 := heap_cell H0.out.z 1
    have o2 := heap_cell H0.out.z 2
    have o3 := heap_cell H0.out.z 3
    have o4 := heap_cell H0.out.z 4
    have o5 := heap_cell H0.out.z 5
    have o6 := heap_cell H0.out.z 6
    have o7 := heap_cell H0.out.z 7
    simp at o0 o1 o2 o3 o4 o5 o6 o7
    go_wp2
    refine bodyPost_ret (v := .tuple #[.agg #[.int .i64 0, .int .i64 0, .bool false, .int .i64 0, .int .i64 0, .int .i64 0, .slice none 0 0, .slice none 0 0], .int .i64 8]) (by simp [results, Tryz.results88, go_sem, q0, q1, q2, q3, q4, q5, q6, q7]) rfl ?_
    exact one_no HE.out (by decide) H0.out.bb
  · obtain ⟨p, rfl⟩ := Int.eq_ofNat_of_zero_le (show 0 ≤ at_ by omega)
    have h1' : (1 : Int) ≤ (p : Int) := by omega
    by_cases h2 : xs.length < p
    · have he : onE xs ds p = 8 := by rw [onE, if_neg (by omega)]
      have HE := Lib.hid he
      have hr := wRead_any b g xs ((p : Int) - 1) W H0.out.m
      have hin : inB xs.length ((p : Int) - 1) = false := by simp [inB]; omega
      rw [show rdV xs ((p : Int) - 1) = 0 by simp [rdV, hin], show wrE xs.length ((p : Int) - 1) = 8 by simp [wrE, hin]] at hr
      clear he hin
      go_enter Tryz.func88, Tryz.ntmps88
      go_wp2_with fail
      rw [← HW.out]
      go_wp2_with fail
      refine hr.mono ?_
      rintro e w1 ⟨rfl, rfl⟩
      clear hr
      have q0 := heap_cell H0.out.r 0
      have q1 := heap_cell H0.out.r 1
      have q2 := heap_cell H0.out.r 2
      have q3 := heap_cell H0.out.r 3
      have q4 := heap_cell H0.out.r 4
      have q5 := heap_cell H0.out.r 5
      have q6 := heap_cell H0.out.r 6
      have q7 := heap_cell H0.out.r 7
      simp at q0 q1 q2 q3 q4 q5 q6 q7
      have f0 := heap_free H0.out.r 0
      have f1 := heap_free H0.out.r 1
      have f2 := heap_free H0.out.r 2
      have f3 := heap_free H0.out.r 3
      have f4 := heap_free H0.out.r 4
      have f5 := heap_free H0.out.r 5
      have f6 := heap_free H0.out.r 6
      have f7 := heap_free H0.out.r 7
      have o0 := heap_cell H0.out.z 0
      have o1 := heap_cell H0.out.z 1
      have o2 := heap_cell H0.out.z 2
      have o3 := heap_cell H0.out.z 3
      have o4 := heap_cell H0.out.z 4
      have o5 := heap_cell H0.out.z 5
      have o6 := heap_cell H0.out.z 6
      have o7 := heap_cell H0.out.z 7
      simp at o0 o1 o2 o3 o4 o5 o6 o7
      go_wp2
      refine bodyPost_ret (v := .tuple #[.agg #[.int .i64 0, .int .i64 0, .bool false, .int .i64 0, .int .i64 0, .int .i64 0, .slice none 0 0, .slice none 0 0], .int .i64 8]) (by simp [results, Tryz.results88, go_sem, q0, q1, q2, q3, q4, q5, q6, q7]) rfl ?_
      have h8 := (set8_at H0.out.r (.int .i64 0) (.int .i64 0) (.bool false) (.int .i64 0) (.int .i64 0) (.int .i64 0) (.slice none 0 0) (.slice none 0 0)).2
      change OneRet _ _ _ _ _ _ (set8 W w.heap.size (.int .i64 0) (.int .i64 0) (.bool false) (.int .i64 0) (.int .i64 0) (.int .i64 0) (.slice none 0 0) (.slice none 0 0))
      generalize set8 W w.heap.size (.int .i64 0) (.int .i64 0) (.bool false) (.int .i64 0) (.int .i64 0) (.int .i64 0) (.slice none 0 0) (.slice none 0 0) = w8 at h8 ⊢
      exact one_no HE.out (by decide) (H0.out.bb.grown h8 H0.out.bb.size (fun k e => by cases e; omega))
    · have hp1 : p ≤ xs.length := by omega
      obtain ⟨x, hx⟩ : ∃ x, onX xs p = x := ⟨_, rfl⟩
      have hr := wRead_any b g xs ((p : Int) - 1) W H0.out.m
      have hin : inB xs.length ((p : Int) - 1) = true := by simp [inB]; omega
      rw [show rdV xs ((p : Int) - 1) = x by rw [rdV, if_pos hin]; exact hx, show wrE xs.length ((p : Int) - 1) = 0 by simp [wrE, hin]] at hr
      have hxw : 0 ≤ x ∧ x < 18446744073709551616 := by
        have h5 : ((p : Int) - 1).toNat < xs.length := by omega
        rw [onX, List.getD_eq_getElem?_getD, List.getElem?_eq_getElem h5] at hx
        rw [← hx]
        exact HD.out.2 _ (List.getElem_mem h5)
      have HX := Lib.hid (And.intro hx hxw)
      have h4 : (p : Int) ≤ 16384 := by omega
      clear hin hx hxw
      have hget := hGet_any x W H0.out.t HX.out.2.1 HX.out.2.2
      cases hgb : getB x
      · have he : onE xs ds p = 11 := by rw [onE, if_pos (by omega), HX.out.1, if_neg (by simp [hgb])]
        have HE := Lib.hid he
        rw [show getV x = .agg #[.bool false, .int .i64 0, .int .i64 0, .int .i64 0] by simp [getV, hgb], show getE x = 11 by simp [getE, hgb]] at hget
        clear he hgb
        go_enter Tryz.func88, Tryz.ntmps88
        go_wp2_with fail
        rw [← HW.out]
        go_wp2_with fail
        refine hr.mono ?_
        rintro e w1 ⟨rfl, rfl⟩
        go_wp2_with fail
        refine hget.mono ?_
        rintro e w2 ⟨rfl, hb⟩
        have H2 := Lib.hid ((H0.out.below hb).below (Below.alloc (Below.refl w2.heap.size w2) (Nat.le_refl _) (.cells #[.bool false, .int .i64 0, .int .i64 0, .int .i64 0] 85)))
        clear hr hget hb
        have q0 := heap_cell H2.out.r 0
        have q1 := heap_cell H2.out.r 1
        have q2 := heap_cell H2.out.r 2
        have q3 := heap_cell H2.out.r 3
        have q4 := heap_cell H2.out.r 4
        have q5 := heap_cell H2.out.r 5
        have q6 := heap_cell H2.out.r 6
        have q7 := heap_cell H2.out.r 7
        simp at q0 q1 q2 q3 q4 q5 q6 q7
        have f0 := heap_free H2.out.r 0
        have f1 := heap_free H2.out.r 1
        have f2 := heap_free H2.out.r 2
        have f3 := heap_free H2.out.r 3
        have f4 := heap_free H2.out.r 4
        have f5 := heap_free H2.out.r 5
        have f6 := heap_free H2.out.r 6
        have f7 := heap_free H2.out.r 7
        have o0 := heap_cell H2.out.z 0
        have o1 := heap_cell H2.out.z 1
        have o2 := heap_cell H2.out.z 2
        have o3 := heap_cell H2.out.z 3
        have o4 := heap_cell H2.out.z 4
        have o5 := heap_cell H2.out.z 5
        have o6 := heap_cell H2.out.z 6
        have o7 := heap_cell H2.out.z 7
        simp at o0 o1 o2 o3 o4 o5 o6 o7
        go_wp2
        refine bodyPost_ret (v := .tuple #[.agg #[.int .i64 0, .int .i64 0, .bool false, .int .i64 0, .int .i64 0, .int .i64 0, .slice none 0 0, .slice none 0 0], .int .i64 11]) (by simp [results, Tryz.results88, go_sem, q0, q1, q2, q3, q4, q5, q6, q7]) rfl ?_
        have h8 := (set8_at H2.out.r (.int .i64 0) (.int .i64 0) (.bool false) (.int .i64 0) (.int .i64 0) (.int .i64 0) (.slice none 0 0) (.slice none 0 0)).2
        change OneRet _ _ _ _ _ _ (set8 (w2.alloc (.cells #[.bool false, .int .i64 0, .int .i64 0, .int .i64 0] 85)) w.heap.size (.int .i64 0) (.int .i64 0) (.bool false) (.int .i64 0) (.int .i64 0) (.int .i64 0) (.slice none 0 0) (.slice none 0 0))
        generalize set8 (w2.alloc (.cells #[.bool false, .int .i64 0, .int .i64 0, .int .i64 0] 85)) w.heap.size (.int .i64 0) (.int .i64 0) (.bool false) (.int .i64 0) (.int .i64 0) (.int .i64 0) (.slice none 0 0) (.slice none 0 0) = w8 at h8 ⊢
        exact one_no HE.out (by decide) (H2.out.bb.grown h8 H2.out.bb.size (fun k e => by cases e; omega))
      · rw [show getV x = .agg #[.bool (gA x), .int .i64 (gK x), .int .i64 (gT x), .int .i64 (gN x)] by simp [getV, hgb], show getE x = 0 by simp [getE, hgb]] at hget
        obtain ⟨E, hE⟩ : ∃ q, knE ds (gA x) (gK x) (gT x) (gN x) = q := ⟨_, rfl⟩
        obtain ⟨L, hL⟩ : ∃ q, knL ds (gA x) (gK x) (gT x) (gN x) = q := ⟨_, rfl⟩
        have hL4 : L.length ≤ 4000 := by rw [← hL]; exact knL_length HD.out.1
        have HGB := Lib.hid (And.intro hgb (And.intro hE hL))
        obtain ⟨ga, hga⟩ : ∃ q, gA x = q := ⟨_, rfl⟩
        obtain ⟨gk, hgk⟩ : ∃ q, gK x = q := ⟨_, rfl⟩
        obtain ⟨gt, hgt⟩ : ∃ q, gT x = q := ⟨_, rfl⟩
        obtain ⟨gn, hgn⟩ : ∃ q, gN x = q := ⟨_, rfl⟩
        rw [hga, hgk, hgt, hgn] at hget
        have HG := Lib.hid (And.intro hga (And.intro hgk (And.intro hgt hgn)))
        clear hgb hE hL hga hgk hgt hgn
        go_enter Tryz.func88, Tryz.ntmps88
        go_wp2_with fail
        rw [← HW.out]
        go_wp2_with fail
        refine hr.mono ?_
        rintro e w1 ⟨rfl, rfl⟩
        go_wp2_with fail
        refine hget.mono ?_
        rintro e w2 ⟨rfl, hb⟩
        have H2 := Lib.hid ((H0.out.below hb).below (Below.alloc (Below.refl w2.heap.size w2) (Nat.le_refl _) (.cells #[.bool ga, .int .i64 gk, .int .i64 gt, .int .i64 gn] 85)))
        clear hr hget hb
        have hk := Kinds_any ta ds tc ga gk gt gn (w2.alloc (.cells #[.bool ga, .int .i64 gk, .int .i64 gt, .int .i64 gn] 85)) H2.out.t H2.out.d HD.out.1 hn
        have e7 := HGB.out.2
        rw [HG.out.1, HG.out.2.1, HG.out.2.2.1, HG.out.2.2.2] at e7
        rw [e7.1, e7.2] at hk
        clear e7
        go_wp2_with fail
        refine hk.mono ?_
        rintro e w3 ⟨v3, rfl, hb3, ho3⟩
        have H3 := Lib.hid (H2.out.below hb3)
        have hhd := heap_below hb3 (heap_alloc_eq w2 (.cells #[.bool ga, .int .i64 gk, .int .i64 gt, .int .i64 gn] 85)) (by simp)
        clear hk hb3
        by_cases hE0 : E = 0
        · subst hE0
          obtain ⟨a3, c3, rfl, _, _, _⟩ := owns_slice ho3
          have HO3 := Lib.hid (And.intro ho3 hhd)
          have hs3 := H3.out.bb.size
          have hs2 := heap_lt H2.out.z
          have hs32 := heap_lt H3.out.z
          have d0 := heap_cell HO3.out.2 0
          have d1 := heap_cell HO3.out.2 1
          have d2 := heap_cell HO3.out.2 2
          have d3 := heap_cell HO3.out.2 3
          simp at d0 d1 d2 d3
          have hbO : Below w3.heap.size w3 (w3.alloc (.cells #[.int .i64 p, .int .i64 0, .bool ga, .int .i64 gk, .int .i64 gt, .int .i64 gn, .slice a3 L.length c3, .slice none 0 0] 104)) := (Below.refl _ _).alloc (Nat.le_refl _) _
          have HB0 := Lib.hid hbO
          clear hbO ho3 hhd
          go_wp2
          clear d0 d1 d2 d3
          go_loopw [60, 14, 15, 16] (fun i _ _ _ wr => ∃ (j : Nat) (v : Value), j ≤ L.length ∧ i = .int .i64 j ∧ wr.heap[w3.heap.size]? = some (.cells #[.int .i64 p, .int .i64 0, .bool ga, .int .i64 gk, .int .i64 gt, .int .i64 gn, .slice a3 L.length c3, v] 104 (0, 0)) ∧ wr.ownsRow (w3.heap.size + 1) 34 1 v j (((xs.drop p).take j).map (Value.int .u64)) ∧ Below w3.heap.size w3 wr ∧ p + j ≤ xs.length) (fun i _ _ _ _ => L.length - (intOf i).toNat)
          case atStart => exact ⟨0, _, Nat.zero_le _, rfl, heap_alloc_eq _ _, World.ownsRow_nil _ _ _ _, HB0.out, by omega⟩
          case round =>
            obtain ⟨j, v, hj, rfl, hob, hown, hB, hpj⟩ := hrel
            have HI := Lib.hid (H3.out.below hB)
            by_cases hlj : j < L.length
            · have j4 : (j : Int) ≤ 4000 := by omega
              have j5 : (0 : Int) ≤ (j : Int) := by omega
              have hr := wRead_any b g xs ((p : Int) + (j : Int)) wr HI.out.m
              by_cases hin : p + j < xs.length
              · obtain ⟨y, hy⟩ : ∃ y, xs[p + j]? = some y := ⟨_, List.getElem?_eq_getElem hin⟩
                have hb1 : inB xs.length ((p : Int) + (j : Int)) = true := by simp [inB]; omega
                rw [show rdV xs ((p : Int) + (j : Int)) = y by rw [rdV, if_pos hb1, show ((p : Int) + (j : Int)).toNat = p + j by omega, List.getD_eq_getElem?_getD, hy]; rfl, show wrE xs.length ((p : Int) + (j : Int)) = 0 by simp [wrE, hb1]] at hr
                have htk : (xs.drop p).take (j + 1) = (xs.drop p).take j ++ [y] := by
                  rw [List.take_add_one, List.getElem?_drop, hy]; rfl
                have htl : ((xs.drop p).take j).length = j := by simp; omega
                have HTK := Lib.hid (And.intro htk htl)
                have ov := heap_cell hob 7
                simp at ov
                have fv := heap_free hob 7
                have hlo := heap_lt hob
                have HOB := Lib.hid hob
                clear hy hb1 htk htl hob
                go_wp2_with (first | (go_at_call 136; refine hr.mono ?_; rintro e w' ⟨rfl, rfl⟩) | (at_builtin; refine wpList_append_own _ rfl _ _ 43 rfl (w3.heap.size + 1) 34 i0 (.int .u64 0) 1 8 Tryz.underlying43 hi hz0 hz1 hz2 rfl (by decide) _ _ _ rfl (hown.alloc _) ⟨wr.heap.size, 0, none⟩ 1 1 [_] rfl rfl (new_cell _ _ _) (one_ok _ rfl) (by unfold maxLen; omega) (by omega) (by simp; omega) ?_))
                intro v' w1 hown' hgrow _
                have hB1 := (hB.alloc hB.size (.cells #[.int .u64 y] 34)).grown hgrow (by have := hB.size; simp; omega) (fun k e => by have := (hown.lt k e).1; omega)
                have ho2 : w1.ownsRow (w3.heap.size + 1) 34 1 v' (j + 1) (((xs.drop p).take (j + 1)).map (Value.int .u64)) := by
                  rw [HTK.out.1]; simpa using hown'
                have hd1 := (hgrow.block w3.heap.size (by simp; omega) (fun e => by have := (hown.lt _ e.symm).1; omega)).trans (heap_alloc_lt HOB.out _)
                obtain ⟨a', c', rfl, _, _, _⟩ := owns_slice ho2
                have hd2 := heap_set hd1 7 (.slice a' (j + 1) c')
                simp at hd2
                have ho3 := (Moved.of_set (S := fun q => q = w3.heap.size) w1 w3.heap.size 7 (.slice a' (j + 1) c') rfl).owns ho2 (fun q hq e => by have := (ho2.lt q hq).1; omega)
                have hB2 := hB1.setCell (p := ⟨w3.heap.size, 7, none⟩) (Nat.le_refl _) (.slice a' (j + 1) c')
                have ov := heap_cell hd1 7
                simp at ov
                have fv := heap_free hd1 7
                have HZ := Lib.hid (And.intro hd2 (And.intro ho3 hB2))
                clear hown' hgrow hown hB hB1 ho2 hd1 hd2 ho3 hB2 hr
                go_wp2
                go_roundw
                case rel => exact ⟨j + 1, _, by omega, by go_num, HZ.out.1, HZ.out.2.1, HZ.out.2.2, by omega⟩
                case measure => simp [intOf]; omega
              · have hb1 : inB xs.length ((p : Int) + (j : Int)) = false := by simp [inB]; omega
                rw [show rdV xs ((p : Int) + (j : Int)) = 0 by simp [rdV, hb1], show wrE xs.length ((p : Int) + (j : Int)) = 8 by simp [wrE, hb1]] at hr
                have he : onE xs ds p = 8 := by
                  rw [onE, if_pos (by omega), HX.out.1, if_pos HGB.out.1, HGB.out.2.1, if_pos rfl, HGB.out.2.2, if_neg (by omega)]
                have HE := Lib.hid he
                clear he hb1 hob hown hB
                go_wp2_with fail
                refine hr.mono ?_
                rintro e w' ⟨rfl, rfl⟩
                clear hr
                have q0 := heap_cell HI.out.r 0
                have q1 := heap_cell HI.out.r 1
                have q2 := heap_cell HI.out.r 2
                have q3 := heap_cell HI.out.r 3
                have q4 := heap_cell HI.out.r 4
                have q5 := heap_cell HI.out.r 5
                have q6 := heap_cell HI.out.r 6
                have q7 := heap_cell HI.out.r 7
                simp at q0 q1 q2 q3 q4 q5 q6 q7
                have f0 := heap_free HI.out.r 0
                have f1 := heap_free HI.out.r 1
                have f2 := heap_free HI.out.r 2
                have f3 := heap_free HI.out.r 3
                have f4 := heap_free HI.out.r 4
                have f5 := heap_free HI.out.r 5
                have f6 := heap_free HI.out.r 6
                have f7 := heap_free HI.out.r 7
                have o0 := heap_cell HI.out.z 0
                have o1 := heap_cell HI.out.z 1
                have o2 := heap_cell HI.out.z 2
                have o3 := heap_cell HI.out.z 3
                have o4 := heap_cell HI.out.z 4
                have o5 := heap_cell HI.out.z 5
                have o6 := heap_cell HI.out.z 6
                have o7 := heap_cell HI.out.z 7
                simp at o0 o1 o2 o3 o4 o5 o6 o7
                go_wp2
                refine bodyPost_ret (v := .tuple #[.agg #[.int .i64 0, .int .i64 0, .bool false, .int .i64 0, .int .i64 0, .int .i64 0, .slice none 0 0, .slice none 0 0], .int .i64 8]) (by simp [results, Tryz.results88, go_sem, q0, q1, q2, q3, q4, q5, q6, q7]) rfl ?_
                have h8 := (set8_at HI.out.r (.int .i64 0) (.int .i64 0) (.bool false) (.int .i64 0) (.int .i64 0) (.int .i64 0) (.slice none 0 0) (.slice none 0 0)).2
                change OneRet _ _ _ _ _ _ (set8 wr w.heap.size (.int .i64 0) (.int .i64 0) (.bool false) (.int .i64 0) (.int .i64 0) (.int .i64 0) (.slice none 0 0) (.slice none 0 0))
                generalize set8 wr w.heap.size (.int .i64 0) (.int .i64 0) (.bool false) (.int .i64 0) (.int .i64 0) (.int .i64 0) (.slice none 0 0) (.slice none 0 0) = w8 at h8 ⊢
                exact one_no HE.out (by decide) (HI.out.bb.grown h8 HI.out.bb.size (fun k e => by cases e; omega))
            · obtain rfl : j = L.length := by omega
              have he : onE xs ds p = 0 := by
                rw [onE, if_pos (by omega), HX.out.1, if_pos HGB.out.1, HGB.out.2.1, if_pos rfl, HGB.out.2.2, if_pos (by omega)]
              have htl : ((xs.drop p).take L.length).length = L.length := by simp; omega
              obtain ⟨av, cv, rfl, _, _, _⟩ := owns_slice hown
              have hownK := (Moved.of_below hB (fun _ => False)).owns HO3.out.1 (fun _ _ e => e)
              have HZ := Lib.hid (And.intro he (And.intro htl (And.intro hown (And.intro hownK hB))))
              have HOB := Lib.hid hob
              clear he htl hown hownK hob hB
              have q0 := heap_cell HI.out.r 0
              have q1 := heap_cell HI.out.r 1
              have q2 := heap_cell HI.out.r 2
              have q3 := heap_cell HI.out.r 3
              have q4 := heap_cell HI.out.r 4
              have q5 := heap_cell HI.out.r 5
              have q6 := heap_cell HI.out.r 6
              have q7 := heap_cell HI.out.r 7
              simp at q0 q1 q2 q3 q4 q5 q6 q7
              have f0 := heap_free HI.out.r 0
              have f1 := heap_free HI.out.r 1
              have f2 := heap_free HI.out.r 2
              have f3 := heap_free HI.out.r 3
              have f4 := heap_free HI.out.r 4
              have f5 := heap_free HI.out.r 5
              have f6 := heap_free HI.out.r 6
              have f7 := heap_free HI.out.r 7
              have o0 := heap_cell HOB.out 0
              have o1 := heap_cell HOB.out 1
              have o2 := heap_cell HOB.out 2
              have o3 := heap_cell HOB.out 3
              have o4 := heap_cell HOB.out 4
              have o5 := heap_cell HOB.out 5
              have o6 := heap_cell HOB.out 6
              have o7 := heap_cell HOB.out 7
              simp at o0 o1 o2 o3 o4 o5 o6 o7
              go_wp2
              refine bodyPost_ret (v := .tuple #[.agg #[.int .i64 p, .int .i64 0, .bool ga, .int .i64 gk, .int .i64 gt, .int .i64 gn, .slice a3 L.length c3, .slice av L.length cv], .int .i64 0]) (by simp [results, Tryz.results88, go_sem, q0, q1, q2, q3, q4, q5, q6, q7]) rfl ?_
              have h8 := set8_at HI.out.r (.int .i64 p) (.int .i64 0) (.bool ga) (.int .i64 gk) (.int .i64 gt) (.int .i64 gn) (.slice a3 L.length c3) (.slice av L.length cv)
              change OneRet _ _ _ _ _ _ (set8 wr w.heap.size (.int .i64 p) (.int .i64 0) (.bool ga) (.int .i64 gk) (.int .i64 gt) (.int .i64 gn) (.slice a3 L.length c3) (.slice av L.length cv))
              generalize set8 wr w.heap.size (.int .i64 p) (.int .i64 0) (.bool ga) (.int .i64 gk) (.int .i64 gt) (.int .i64 gn) (.slice a3 L.length c3) (.slice av L.length cv) = w8 at h8 ⊢
              have hm8 := Moved.of_grown h8.2 (S := fun q => q = w.heap.size) (fun k e => by cases e; rfl)
              have hsz2 : (w2.alloc (.cells #[.bool ga, .int .i64 gk, .int .i64 gt, .int .i64 gn] 85)).heap.size = w2.heap.size + 1 := by simp
              have k1 := hm8.owns HZ.out.2.2.2.1 (fun q hq e => by have := (HZ.out.2.2.2.1.lt q hq).1; omega)
              have k2 := hm8.owns HZ.out.2.2.1 (fun q hq e => by have := (HZ.out.2.2.1.lt q hq).1; omega)
              obtain ⟨ya, yc, ye, yr, yb, _⟩ := owns_reads k1
              have k3 : w8.ownsRow (w3.heap.size + 1) 34 1 (.slice av L.length cv) ((xs.drop p).take L.length).length (((xs.drop p).take L.length).map (Value.int .u64)) := by rw [HZ.out.2.1]; exact k2
              obtain ⟨za, zc, ze, zr, zb, _⟩ := owns_reads k3
              simp only [Value.slice.injEq] at ye ze
              have h9 := one_yes (O := fun _ => False) (w := w) (w' := w8) (y1 := a3) (y2 := av) (c1 := c3) (c2 := cv) HZ.out.1 HX.out.1 HGB.out.2.2 (by rw [Int.toNat_natCast]; exact HZ.out.2.1) (HI.out.bb.grown h8.2 HI.out.bb.size (fun k e => by cases e; omega)) (by rw [ye.1]; exact yr) (by rw [ze.1, Int.toNat_natCast]; exact zr) (.inr fun q hq => .inr (by have := (yb q (by rw [← ye.1]; exact hq)).1; omega)) (.inr fun q hq => .inr (by have := (zb q (by rw [← ze.1]; exact hq)).1; omega))
              rw [HG.out.1, HG.out.2.1, HG.out.2.2.1, HG.out.2.2.2] at h9
              exact h9
        · have he : onE xs ds p = E := by
            rw [onE, if_pos (by omega), HX.out.1, if_pos HGB.out.1, HGB.out.2.1, if_neg hE0]
          have HE := Lib.hid (And.intro he hE0)
          have y1 : (E != 0) = true := by simp [hE0]
          clear he hE0 ho3 hhd
          have q0 := heap_cell H3.out.r 0
          have q1 := heap_cell H3.out.r 1
          have q2 := heap_cell H3.out.r 2
          have q3 := heap_cell H3.out.r 3
          have q4 := heap_cell H3.out.r 4
          have q5 := heap_cell H3.out.r 5
          have q6 := heap_cell H3.out.r 6
          have q7 := heap_cell H3.out.r 7
          simp at q0 q1 q2 q3 q4 q5 q6 q7
          have f0 := heap_free H3.out.r 0
          have f1 := heap_free H3.out.r 1
          have f2 := heap_free H3.out.r 2
          have f3 := heap_free H3.out.r 3
          have f4 := heap_free H3.out.r 4
          have f5 := heap_free H3.out.r 5
          have f6 := heap_free H3.out.r 6
          have f7 := heap_free H3.out.r 7
          have o0 := heap_cell H3.out.z 0
          have o1 := heap_cell H3.out.z 1
          have o2 := heap_cell H3.out.z 2
          have o3 := heap_cell H3.out.z 3
          have o4 := heap_cell H3.out.z 4
          have o5 := heap_cell H3.out.z 5
          have o6 := heap_cell H3.out.z 6
          have o7 := heap_cell H3.out.z 7
          simp at o0 o1 o2 o3 o4 o5 o6 o7
          go_wp2
          refine bodyPost_ret (v := .tuple #[.agg #[.int .i64 0, .int .i64 0, .bool false, .int .i64 0, .int .i64 0, .int .i64 0, .slice none 0 0, .slice none 0 0], .int .i64 E]) (by simp [results, Tryz.results88, go_sem, q0, q1, q2, q3, q4, q5, q6, q7]) rfl ?_
          have h8 := (set8_at H3.out.r (.int .i64 0) (.int .i64 0) (.bool false) (.int .i64 0) (.int .i64 0) (.int .i64 0) (.slice none 0 0) (.slice none 0 0)).2
          change OneRet _ _ _ _ _ _ (set8 w3 w.heap.size (.int .i64 0) (.int .i64 0) (.bool false) (.int .i64 0) (.int .i64 0) (.int .i64 0) (.slice none 0 0) (.slice none 0 0))
          generalize set8 w3 w.heap.size (.int .i64 0) (.int .i64 0) (.bool false) (.int .i64 0) (.int .i64 0) (.int .i64 0) (.slice none 0 0) (.slice none 0 0) = w8 at h8 ⊢
          exact one_no HE.out.1 HE.out.2 (H3.out.bb.grown h8 H3.out.bb.size (fun k e => by cases e; omega))
end Go.Proofs.YtcenagpkfimkbaaGreatDoor
