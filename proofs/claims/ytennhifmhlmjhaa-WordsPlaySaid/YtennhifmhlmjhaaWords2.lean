/-
  The contracts of Mem.All and Mem.Move.
-/
import Derived.Test.YtennhifmhlmjhaaSlice1
import Derived.Laws.CopyOwn
import Derived.Deep.RegionHeld3
namespace Go.Proofs.Ytennhifmhlmjhaa
open Go Go.RowKit

section
variable {P : Program} {ops : Array Oper} {o : Oper} {a : Act} {w : World} {K : Act → World → Prop} {Q : Exit → Act → World → Prop} {E : Prop}
/-- A copy into a row that is known whole, as a step of a region that draws. -/
theorem step_copy_row (hgd : o.guard = none) (d s : Operand) (dT sT : TypeId)
    (ho : o.op = .call { callee := .builtin .copy, args := #[d, s], argTypes := #[dT, sT] }) (elem : TypeId) (hu : P.underlying dT = some (.slice elem)) (hsz : (P.info? elem).map (·.size) = some 1)
    (g off dLen dCap : Nat) (ad : Addr) (sLen sCap : Nat) (hd : a.eval d = .slice (some ⟨g, off, none⟩) dLen dCap) (hs : a.eval s = .slice (some ad) sLen sCap)
    (cur : Array Value) (t : TypeId) (hg : w.heap[g]? = some (.cells cur t (0, 0))) (cs : List Value) (hn : cs.length = Nat.min sLen dLen)
    (hsrc : ∀ j v, cs[j]? = some v → w.cell? (ad.add j) = some v) (hfit : off + cs.length ≤ cur.size) (h1 : ∀ v ∈ cs, v.oneCell' = true)
    (h : K (a.put o.dst (goInt cs.length)) (w.setRow g (cur.toList.take off ++ (cs ++ cur.toList.drop (off + cs.length))).toArray)) :
    if Region.wanted o (yielded ops a.tmps) = true then Oper.wp P o a w K Q else E := by
  have hw : Region.wanted o (yielded ops a.tmps) = true := by simp [Region.wanted, hgd]
  rw [if_pos hw]
  have hrun := run_copy_row (P := P) w dT sT o.type elem g off dLen dCap ad sLen sCap cur t cs hu hsz hg hn hsrc hfit h1
  unfold Oper.wp
  simp [execOp, ho, resolve, invoke, builtin, hd, hs, hrun, Result.andThen]
  exact h
/-- A copy of nothing. -/
theorem step_copy_zero (hgd : o.guard = none) (d s : Operand) (dT sT : TypeId)
    (ho : o.op = .call { callee := .builtin .copy, args := #[d, s], argTypes := #[dT, sT] }) (elem : TypeId) (hu : P.underlying dT = some (.slice elem)) (hsz : (P.info? elem).map (·.size) = some 1)
    (dp sp : Option Addr) (dLen dCap sLen sCap : Nat) (hd : a.eval d = .slice dp dLen dCap) (hs : a.eval s = .slice sp sLen sCap) (hn : Nat.min sLen dLen = 0)
    (h : K (a.put o.dst (goInt 0)) w) :
    if Region.wanted o (yielded ops a.tmps) = true then Oper.wp P o a w K Q else E := by
  have hw : Region.wanted o (yielded ops a.tmps) = true := by simp [Region.wanted, hgd]
  rw [if_pos hw]
  have hrun := run_copy_none (P := P) w dT sT o.type elem dp sp dLen dCap sLen sCap hu hsz hn
  unfold Oper.wp
  simp [execOp, ho, resolve, invoke, builtin, hd, hs, hrun, Result.andThen]
  exact h
end
theorem setRow_cell_ne {w : World} {g b : Nat} (h : b ≠ g) (o : Nat) (cs : Array Value) : (w.setRow g cs).cell? ⟨b, o, none⟩ = w.cell? ⟨b, o, none⟩ :=
  World.cell?_of_block (a := ⟨b, o, none⟩) (setRow_other w g b cs h)
theorem grown_setRow (w : World) (g : Nat) (cs : Array Value) : w.grownBy (w.setRow g cs) (some g) :=
  ⟨rfl, rfl, rfl, by simp [World.setRow], fun k _ hk => setRow_other w g k cs (fun e => hk (by rw [e]))⟩
theorem size_u64 : (Try.prog.info? 24).map (·.size) = some 1 := by kernel_rfl

theorem wAll_any (b g : Nat) (xs : List Int) (w : World) (h : MemAt w b g xs) :
    Calls Try.prog 10 #[.pointer (some ⟨b, 0, none⟩)] w (RetOwn .u64 24 xs w) := by
  have hc := h.cell
  have hl := h.2.2
  go_enter Try.func10, Try.ntmps10
  go_wp2_with (go_at_call 21; refine (Clone_u64_some _ _ _ _ h.reads (by omega)).mono ?_; rintro e w' ⟨v, rfl, hb, ho⟩)
  go_ret
  exact ⟨_, rfl, hb, ho⟩

/-- The words with a run moved. -/
def moveB (n : Nat) (f k to : Int) : Bool := hasB n f k && hasB n to k
def moveE (n : Nat) (f k to : Int) : Int := if moveB n f k to = true then 0 else 8
def moveL (xs : List Int) (f k to : Int) : List Int := if moveB xs.length f k to = true then xs.take to.toNat ++ ((xs.drop f.toNat).take k.toNat ++ xs.drop (to.toNat + k.toNat)) else xs
theorem moveL_length (xs : List Int) (f k to : Int) : (moveL xs f k to).length = xs.length := by
  unfold moveL
  split
  · rename_i h
    simp [moveB, hasB] at h
    simp
    omega
  · rfl

theorem wMove_any (b g : Nat) (xs : List Int) (f k to : Int) (w : World) (h : MemAt w b g xs) :
    Calls Try.prog 13 #[.pointer (some ⟨b, 0, none⟩), .agg #[.int .i64 f, .int .i64 k], .int .i64 to] w fun e w' => e = .returned (.int .i64 (moveE xs.length f k to)) ∧ w.grownBy w' (some g) ∧ MemAt w' b g (moveL xs f k to) := by
  have hc := h.cell
  have hl := h.2.2
  have hlt := heap_lt h.1
  have hgt := heap_lt h.2.1
  cases h1 : hasB xs.length f k
  · have e1 : Hid (moveL xs f k to = xs) := by show _ = _; simp [moveL, moveB, h1]
    have e2 : Hid (moveE xs.length f k to = 8) := by show _ = _; simp [moveE, moveB, h1]
    have hM := h.later ((Below.refl _ _).alloc (Nat.le_refl _) (.cells #[.int .i64 f, .int .i64 k] 37))
    go_enter Try.func13, Try.ntmps13
    go_wp2_with (go_at_call 22; refine (whas_any _ _ _ _ _ _ hM).mono ?_; rw [h1]; rintro e w1 ⟨rfl, hb1⟩; obtain ⟨hc1, hf1, hs1⟩ := bcell hb1)

    go_ret
    rw [e1.out, e2.out]
    have hB := ((Below.refl w.heap.size w).alloc (Nat.le_refl _) (.cells #[.int .i64 f, .int .i64 k] 37)).trans (hb1.mono (by simp))
    exact ⟨rfl, grown_of_below hB _, h.later hB⟩
  · cases h2 : hasB xs.length to k
    · have e1 : Hid (moveL xs f k to = xs) := by show _ = _; simp [moveL, moveB, h2]
      have e2 : Hid (moveE xs.length f k to = 8) := by show _ = _; simp [moveE, moveB, h2]
      have hM := h.later ((Below.refl _ _).alloc (Nat.le_refl _) (.cells #[.int .i64 f, .int .i64 k] 37))
      go_enter Try.func13, Try.ntmps13
      go_wp2_with fail
      refine (whas_any _ _ _ _ _ _ hM).mono ?_
      rw [h1]; rintro e w1 ⟨rfl, hb1⟩; obtain ⟨hc1, hf1, hs1⟩ := bcell hb1
      simp only [World.size_alloc] at hs1; have hz1 := Nat.lt_of_succ_le hs1
      have hM1 := hM.later hb1
      go_wp2_with fail
      refine (whas_any _ _ _ _ _ _ hM1).mono ?_
      rw [h2]; rintro e w2 ⟨rfl, hb2⟩; obtain ⟨hc2, hf2, hs2⟩ := bcell hb2
      go_wp2
      go_ret
      rw [e1.out, e2.out]
      have hB := (((Below.refl w.heap.size w).alloc (Nat.le_refl _) (.cells #[.int .i64 f, .int .i64 k] 37)).trans (hb1.mono (by simp))).trans (hb2.mono (by omega))
      exact ⟨rfl, grown_of_below hB _, h.later hB⟩
    · have e1 : Hid (moveL xs f k to = xs.take to.toNat ++ ((xs.drop f.toNat).take k.toNat ++ xs.drop (to.toNat + k.toNat))) := by show _ = _; simp [moveL, moveB, h1, h2]
      have e2 : Hid (moveE xs.length f k to = 0) := by show _ = _; simp [moveE, moveB, h1, h2]
      have hM := h.later ((Below.refl _ _).alloc (Nat.le_refl _) (.cells #[.int .i64 f, .int .i64 k] 37))
      have q1 := h1
      have q2 := h2
      simp [hasB] at q1 q2
      obtain ⟨f0, k0, fn, kn⟩ := q1
      obtain ⟨t0, _, tn, tkn⟩ := q2
      go_enter Try.func13, Try.ntmps13
      go_wp2_with fail
      refine (whas_any _ _ _ _ _ _ hM).mono ?_
      rw [h1]; rintro e w1 ⟨rfl, hb1⟩; obtain ⟨hc1, hf1, hs1⟩ := bcell hb1
      simp only [World.size_alloc] at hs1; have hz1 := Nat.lt_of_succ_le hs1
      have hM1 := hM.later hb1
      go_wp2_with fail
      refine (whas_any _ _ _ _ _ _ hM1).mono ?_
      rw [h2]; rintro e w2 ⟨rfl, hb2⟩; obtain ⟨hc2, hf2, hs2⟩ := bcell hb2
      go_wp2
      have hM2 := hM1.later hb2
      have x0 : w2.cell? ⟨w.heap.size, 0, none⟩ = some (.int .i64 f) := by rw [hc2 _ _ hz1, hc1 _ _ (by simp)]; simp
      have x1 : w2.cell? ⟨w.heap.size, 1, none⟩ = some (.int .i64 k) := by rw [hc2 _ _ hz1, hc1 _ _ (by simp)]; simp
      obtain ⟨f, rfl⟩ := Int.eq_ofNat_of_zero_le f0
      obtain ⟨k, rfl⟩ := Int.eq_ofNat_of_zero_le k0
      obtain ⟨to, rfl⟩ := Int.eq_ofNat_of_zero_le t0
      have hcb := hM2.cell
      have q1 : IntKind.i64.wrap ((f : Int) + (k : Int)) = (f : Int) + (k : Int) := IntWalk.i64_in _ (by omega)
      have q2 : ((f : Int) + (k : Int)).toNat = f + k := by omega
      have q3 : (0 : Int) ≤ (f : Int) + (k : Int) := by omega
      have q4 : (f : Int) + (k : Int) ≤ (xs.length : Int) := by omega
      have q5 : (f : Int) ≤ (f : Int) + (k : Int) := by omega
      have hB := ((((Below.refl w.heap.size w).alloc (Nat.le_refl _) (.cells #[.int .i64 f, .int .i64 k] 37)).trans (hb1.mono (by simp))).trans (hb2.mono (by omega))).drew
      clear hc2 hc1 hf1 hf2 hb1 hb2 hM1 hM h1 h2
      by_cases hk : k = 0
      · have Hk := Lib.hid hk
        clear hk
        obtain ⟨A1, hA1⟩ : ∃ A : Option Addr, (if xs.length = to then some ⟨g, 0, none⟩ else some ⟨g, to, none⟩) = A := ⟨_, rfl⟩
        obtain ⟨A2, hA2⟩ : ∃ A : Option Addr, (if xs.length = f then some ⟨g, 0, none⟩ else some ⟨g, f, none⟩) = A := ⟨_, rfl⟩
        go_region_held3 (fun w' => w'.cell? ⟨b, 0, none⟩ = some (.slice (some ⟨g, 0, none⟩) xs.length xs.length) ∧ w'.cell? ⟨w.heap.size, 0, none⟩ = some (.int .i64 f) ∧ w'.cell? ⟨w.heap.size, 1, none⟩ = some (.int .i64 k)) (first | assumption | (go_keep; done))
          ((refine step_copy_zero rfl (.tmp 25) (.tmp 37) 32 32 rfl 24 Try.underlying32 size_u64 _ _ _ _ _ _ rfl rfl (by simp [Hk.out]) ?_))
        go_wp2
        go_ret
        rw [e1.out, e2.out]
        refine ⟨rfl, grown_of_below hB _, ?_⟩
        have : xs.take (to : Int).toNat ++ ((xs.drop (f : Int).toNat).take (k : Int).toNat ++ xs.drop ((to : Int).toNat + (k : Int).toNat)) = xs := by
          rw [Int.toNat_natCast, Int.toNat_natCast, Hk.out]; simp
        rw [this]
        exact hM2
      · have hk0 : 0 < k := by omega
        have n1 : ¬ xs.length = f := by omega
        have n2 : ¬ xs.length = to := by omega
        have hcs : ∀ j v, (((xs.drop f).take k).map (Value.int .u64))[j]? = some v → w2.drew.cell? ((⟨g, f, none⟩ : Addr).add j) = some v := by
          intro j v hj
          have hjk : j < ((xs.drop f).take k).length := by simpa using (List.getElem?_eq_some_iff.1 hj).1
          have hjk2 : j < k ∧ f + j < xs.length := by simp at hjk; omega
          have e : (⟨g, f, none⟩ : Addr).add j = ⟨g, f + j, none⟩ := by unfold Addr.add; split <;> simp_all
          rw [e]
          refine (hM2.word (f + j) hjk2.2).trans ?_
          rw [List.getElem?_map, List.getElem?_take, if_pos hjk2.1, List.getElem?_drop] at hj
          simpa [hjk2.2] using hj
        have HC := Lib.hid hcs
        have HG := Lib.hid (show w2.drew.heap[g]? = some (.cells (u64s xs) 24 (0, 0)) from hM2.2.1)
        have hne : b ≠ g := hM2.ne
        have hne2 : w.heap.size ≠ g := by omega
        clear hcs
        go_region_held3 (fun w' => w'.cell? ⟨b, 0, none⟩ = some (.slice (some ⟨g, 0, none⟩) xs.length xs.length) ∧ w'.cell? ⟨w.heap.size, 0, none⟩ = some (.int .i64 f) ∧ w'.cell? ⟨w.heap.size, 1, none⟩ = some (.int .i64 k)) (first | assumption | (go_keep; done) | exact ⟨(setRow_cell_ne hne _ _).trans hcb, (setRow_cell_ne hne2 _ _).trans x0, (setRow_cell_ne hne2 _ _).trans x1⟩)
          ((refine step_copy_row rfl (.tmp 25) (.tmp 37) 32 32 rfl 24 Try.underlying32 size_u64 g to (xs.length - to) (xs.length - to) ⟨g, f, none⟩ k (xs.length - f) (by simp [Act.eval]) (by simp [Act.eval]) (u64s xs) 24 HG.out (((xs.drop f).take k).map (Value.int .u64)) (by rw [List.length_map, List.length_take, List.length_drop]; show min k _ = min k _; omega) HC.out (by simp; omega) (ints_oneCell _ _) ?_))
        go_wp2
        go_ret
        rw [e1.out, e2.out]
        refine ⟨rfl, grown_trans (grown_of_below hB _) (grown_setRow _ _ _), ?_, ?_, ?_⟩
        · rw [setRow_other _ _ _ _ hne]
          have := hM2.1
          rw [show (xs.take (to : Int).toNat ++ ((xs.drop (f : Int).toNat).take (k : Int).toNat ++ xs.drop ((to : Int).toNat + (k : Int).toNat))).length = xs.length by simp; omega]
          exact this
        · rw [setRow_heap _ g _ _ _ _ HG.out]
          rw [Int.toNat_natCast, Int.toNat_natCast, Int.toNat_natCast]
          simp [u64s, List.map_take, List.map_drop]
          have : min k (xs.length - f) = k := by omega
          rw [this]
        · simp; omega
end Go.Proofs.Ytennhifmhlmjhaa
