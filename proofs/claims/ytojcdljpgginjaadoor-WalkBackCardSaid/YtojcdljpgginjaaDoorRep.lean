/-
  slices.Repeat of one number; math/bits.Mul at 1.
-/
import Derived.Test.YtojcdljpgginjaaDoorOwnK
import Derived.Laws.CopyOwn
import Derived.Laws.Bits64b
import Derived.Deep.RegionLaw
namespace Go.Proofs.YtojcdljpgginjaaDoor
open Go Go.RowKit

theorem mask1 : bits .and .u64 1 4294967295 = 1 := by decide
theorem maskn (n : Nat) (hn : n ≤ 4000) : bits .and .u64 (n : Int) 4294967295 = n := by
  have h := bits_and_u64_nat n 4294967295 (by omega) (by omega)
  have e : n &&& 4294967295 = n % 4294967296 := Nat.and_two_pow_sub_one_eq_mod n 32
  rw [e] at h
  rw [Nat.mod_eq_of_lt (by omega)] at h
  exact h
theorem mask0 : bits .and .u64 0 4294967295 = 0 := by decide
theorem wrapn (n : Nat) (hn : n ≤ 4000) : IntKind.u64.wrap (n : Int) = n := by rw [IntKind.wrap_u64]; omega
theorem wrapni (n : Nat) (hn : n ≤ 4000) : IntKind.i64.wrap (n : Int) = n := by rw [IntKind.wrap_i64]; omega

theorem Mul64_one (n : Nat) (hn : n ≤ 4000) (w : World) :
    Calls Tryd.prog 49 #[.int .u64 1, .int .u64 n] w fun e w' => e = .returned (.tuple #[.int .u64 0, .int .u64 n]) ∧ w = w' := by
  have m1 := mask1
  have m2 := maskn n hn
  have m3 := mask0
  have w1 := wrapn n hn
  have d1 : (n : Int) / 4294967296 = 0 := by omega
  go_enter Tryd.func49, Tryd.ntmps49
  go_wp2
  go_ret2
  exact ⟨rfl, rfl⟩
theorem Mul_one (n : Nat) (hn : n ≤ 4000) (w : World) :
    Calls Tryd.prog 47 #[.int .u64 1, .int .u64 n] w fun e w' => e = .returned (.tuple #[.int .u64 0, .int .u64 n]) ∧ w = w' := by
  have w1 := wrapn n hn
  go_enter Tryd.func47, Tryd.ntmps47
  go_wp2_with (go_at_call 49; refine (Mul64_one n hn _).mono ?_; rintro e w' ⟨rfl, rfl⟩)
  go_ret2
  exact ⟨rfl, rfl⟩

/-- A row of n numbers, of which the first j are k. -/
def repL (k : Int) (j n : Nat) : List Value := List.replicate j (.int .i64 k) ++ List.replicate (n - j) (.int .i64 0)
theorem repL_length (k : Int) (j n : Nat) (h : j ≤ n) : (repL k j n).length = n := by simp [repL]; omega
theorem repL_splice (k : Int) (j n m : Nat) (h : j + m ≤ n) : splice (repL k j n) j (List.replicate m (.int .i64 k)) = repL k (j + m) n := by
  unfold splice repL
  rw [List.take_left' (by simp), List.length_replicate, List.drop_append, List.drop_eq_nil_of_le (by simp), List.nil_append, List.length_replicate, List.drop_replicate, ← List.append_assoc, List.replicate_append_replicate]
  rw [show n - j - (j + m - j) = n - (j + m) by omega]
theorem repL_at (k : Int) (j n q : Nat) (h : q < j) : (repL k j n)[q]? = some (.int .i64 k) := by
  unfold repL
  rw [List.getElem?_append_left (by simpa using h), List.getElem?_replicate, if_pos h]
theorem repL_all (k : Int) (n : Nat) : repL k n n = (List.replicate n k).map (Value.int .i64) := by simp [repL]

theorem run_mkI (n : Nat) (hn : n ≤ 4000) (k : Int) (w : World) :
    (Instr.makeSlice 48 (.int .i64 n) (.int .i64 n)).run Tryd.prog w = .ok (.slice (some ⟨w.heap.size, 0, none⟩) n n) (w.alloc (.cells (repL k 0 n).toArray 3)) := by
  obtain ⟨i0, hi, hz0, hz1, hz2⟩ := info_parts info_int
  have := run_make (P := Tryd.prog) w 48 3 i0 (.int .i64 0) Tryd.underlying48 hi hz0 .i64 .i64 n n (by omega) (by omega) (by rw [hz2]; omega) (by omega)
  rw [this, hz1]
  simp only [Nat.mul_one]
  have e : madeCells #[.int .i64 0] n = (repL k 0 n).toArray := by
    apply Array.toList_inj.1
    simp [repL, toList_madeCells_one]
  simp [Value.cells, e]
theorem size_int1 : (Tryd.prog.info? 3).map (·.size) = some 1 := by kernel_rfl

set_option maxHeartbeats 1000000 in
theorem Repeat_any (b off c : Nat) (k : Int) (n : Nat) (w : World) (hc : w.cell? ⟨b, off, none⟩ = some (.int .i64 k)) (hn : n ≤ 4000) :
    Calls Tryd.prog 44 #[.slice (some ⟨b, off, none⟩) 1 c, .int .i64 n] w (RetOwn .i64 3 (List.replicate n k) w) := by
  have hmk := run_mkI n hn k
  have hmul := Mul_one n hn
  have w1 := wrapn n hn
  have w2 := wrapni n hn
  have HC := Lib.hid hc
  clear hc
  obtain ⟨cs, hcs⟩ : ∃ cs, cs = List.replicate (min 1 n) (Value.int .i64 k) := ⟨_, rfl⟩
  have HCS := Lib.hid hcs
  clear hcs
  have hlen : cs.length = min 1 n := by rw [HCS.out]; simp
  have HL := Lib.hid hlen
  clear hlen
  go_enter Tryd.func44, Tryd.ntmps44
  go_wp2_with (first | (go_at_call 47; refine (hmul _).mono ?_; rintro e w' ⟨rfl, rfl⟩) | (refine wpList_copy_splice rfl (.tmp 31) (.tmp 32) 48 48 rfl 3 Tryd.underlying48 size_int1 (some ⟨w.heap.size, 0, none⟩) (some ⟨b, off, none⟩) n n 1 c rfl rfl w.heap.size 0 (repL k 0 n) 3 (heap_alloc_eq _ _) cs HL.out ?c1 ?c2 ?c3 w.heap.size w ((Below.refl _ _).alloc (Nat.le_refl _) _) (Nat.le_refl _) ?_))
  case c1 =>
    intro _ j v hj
    have hl := HL.out
    have hj2 := (List.getElem?_eq_some_iff.1 hj).1
    obtain rfl : j = 0 := by omega
    rw [HCS.out, List.getElem?_replicate] at hj
    split at hj
    · cases hj
      rw [Nat.add_zero]
      exact cell_alloc_old _ HC.out
    · cases hj
  case c2 =>
    rw [repL_length _ _ _ (Nat.zero_le _), HL.out]
    omega
  case c3 => intro v hv; rw [HCS.out, List.mem_replicate] at hv; rw [hv.2]; rfl
  intro w2 HG hB
  have HG2 : Hid (w2.heap[w.heap.size]? = some (.cells (repL k cs.length n).toArray 3 (0, 0))) := by
    refine Lib.hid ?_
    rw [HG.out, HCS.out, List.length_replicate, repL_splice _ _ _ _ (by omega), Nat.zero_add]
  have hj1 : cs.length ≤ n := by rw [HL.out]; omega
  have hj2 : 0 < n → 0 < cs.length := fun h => by
    rw [HL.out]
    omega
  generalize cs.length = q at HG2 hj1 hj2 ⊢
  clear HG
  have HJ := Lib.hid hj2
  clear hj2
  go_wp2
  go_loopw [8] (fun i wr => ∃ j : Nat, j ≤ n ∧ Hid (0 < n → 0 < j) ∧ i = .int .i64 j ∧ Hid (wr.heap[w.heap.size]? = some (.cells (repL k j n).toArray 3 (0, 0))) ∧ Below w.heap.size w wr) (fun i _ => n - (intOf i).toNat)
  case atStart => exact ⟨q, hj1, HJ, rfl, HG2, hB⟩
  case round =>
    obtain ⟨j, hj, hp, rfl, hg, hB⟩ := hrel
    by_cases hlt : j < n
    · have hjp := hp.out (by omega)
      obtain ⟨ds, hds⟩ : ∃ cs, cs = List.replicate (min j (n - j)) (Value.int .i64 k) := ⟨_, rfl⟩
      have HDS := Lib.hid hds
      clear hds
      have hlen : ds.length = min j (n - j) := by rw [HDS.out]; simp
      have HDL := Lib.hid hlen
      clear hlen
      have i0 : (0 : Int) ≤ (j : Int) := by omega
      have i1 : (j : Int) ≤ (n : Int) := by omega
      have i2 : (j : Int) < (n : Int) := by omega
      have H4 : Hid (∀ q v, ds[q]? = some v → wr.drew.cell? ((⟨w.heap.size, 0, none⟩ : Addr).add q) = some v) := by
        refine Lib.hid fun q v hq => ?_
        have hq2 := (List.getElem?_eq_some_iff.1 hq).1
        rw [HDL.out] at hq2
        rw [HDS.out, List.getElem?_replicate] at hq
        have h8 : (repL k j n)[q]? = some (.int .i64 k) := repL_at k j n q (by omega)
        rw [if_pos hq2] at hq
        cases hq
        rw [addr_add_none, Nat.zero_add, show wr.drew.cell? ⟨w.heap.size, q, none⟩ = (repL k j n).toArray[q]? from heap_cell (w := wr.drew) hg.out q]
        simpa using h8
      have H5 : Hid (j + ds.length ≤ (repL k j n).length) := by
        refine Lib.hid ?_
        rw [repL_length _ _ _ hj, HDL.out]
        omega
      have H6 : Hid (∀ v ∈ ds, v.oneCell' = true) := by
        refine Lib.hid fun v hv => ?_
        rw [HDS.out, List.mem_replicate] at hv
        rw [hv.2]
        rfl
      have hBd : Below w.heap.size w wr.drew := hB.drew
      have hgd : Hid (wr.drew.heap[w.heap.size]? = some (.cells (repL k j n).toArray 3 (0, 0))) := hg
      have n1 : ¬ n = j := by omega
      have hs : IntKind.i64.wrap ((j : Int) + (ds.length : Int)) = (j : Int) + (ds.length : Int) := by
        have h9 := HDL.out
        rw [IntKind.wrap_i64]
        omega
      go_wp2
      go_region_law (refine step_copy_splice rfl _ _ _ _ rfl 3 Tryd.underlying48 size_int1 (some ⟨w.heap.size, j, none⟩) (some ⟨w.heap.size, 0, none⟩) (n - j) (n - j) j n (by go_simp) (by go_simp) w.heap.size j (repL k j n) 3 hgd.out ds HDL.out (fun _ => ⟨rfl, _, rfl, H4.out⟩) H5.out H6.out w.heap.size w hBd (Nat.le_refl _) ?_; intro w3 HG3 hB3)
      have hm : 0 < ds.length ∧ j + ds.length ≤ n := by rw [HDL.out]; omega
      have HG4 : Hid (w3.heap[w.heap.size]? = some (.cells (repL k (j + ds.length) n).toArray 3 (0, 0))) := by
        refine Lib.hid ?_
        rw [HG3.out, show ds = List.replicate ds.length (Value.int .i64 k) by rw [HDL.out]; exact HDS.out, repL_splice _ _ _ _ hm.2, List.length_replicate]
      generalize ds.length = m at HG4 hm hs ⊢
      obtain ⟨hm0, hm1⟩ := hm
      clear HG3 H4 H5 H6 hBd hgd hB hg
      go_simp
      go_roundw
      case rel => exact ⟨.int .i64 ((j : Int) + (m : Int)), _, _, _, _, _, _, _, _, _, _, _, _, _, ⟨j + m, hm1, Lib.hid (fun _ => by omega), by go_num, HG4, hB3⟩, rfl⟩
      case measure => simp [intOf]; omega
    · obtain rfl : j = n := by omega
      have hown : wr.ownsRow w.heap.size 3 1 (.slice (some ⟨w.heap.size, 0, none⟩) j j) (List.replicate j k).length ((List.replicate j k).map (Value.int .i64)) := by
        refine ⟨by simp, .inr ⟨w.heap.size, j, _, by simp, Nat.le_refl _, hg.out, by simp, by unfold maxLen; omega, by simp [repL], ?_⟩⟩
        simp [repL]
      go_wp2
      go_ret
      exact ⟨_, by simp, hB, hown⟩
end Go.Proofs.YtojcdljpgginjaaDoor
