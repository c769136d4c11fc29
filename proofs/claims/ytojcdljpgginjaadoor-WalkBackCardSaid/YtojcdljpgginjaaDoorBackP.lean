/-
  WalkBack, plainly: what a memory holds into which objects are put one behind the other, and what is read there. No program in sight.
-/
import Derived.Test.YtojcdljpgginjaaDoorObj1
import Derived.Test.YtojcdljpgginjaaDoorPut
namespace Go.Proofs.YtojcdljpgginjaaDoor
open Go Go.RowKit

/-- How many fields a head has, as the law lays it; whether it is taken. -/
def gdN (a : Bool) (n : Int) : Int := if a = true then n else 2
def gdB (a : Bool) (k n : Int) : Bool := mayB a k 0 (gdN a n) && decide (gdN a n ≤ 40)
def good1 (h : Bool × Int × Int × Int) : List (Bool × Int × Int) := if gdB h.1 h.2.1 h.2.2.2 = true then [(h.1, h.2.1, gdN h.1 h.2.2.2)] else []
def goods (hs : List (Bool × Int × Int × Int)) : List (Bool × Int × Int) := hs.flatMap good1
def GOk (g : Bool × Int × Int) : Prop := mayB g.1 g.2.1 0 g.2.2 = true ∧ g.2.2 ≤ 40 ∧ (g.1 = false → g.2.2 = 2)
def gSz (g : Bool × Int × Int) : Nat := 1 + max g.2.2.toNat 1
def gOff (gs : List (Bool × Int × Int)) : Nat := (gs.map gSz).sum
def gWord (g : Bool × Int × Int) : Int := wordI g.1 g.2.1 0 g.2.2
def gObj (g : Bool × Int × Int) : List Int := gWord g :: List.replicate (gSz g - 1) 0
def gMem (gs : List (Bool × Int × Int)) : List Int := gs.flatMap gObj
def gRuns (p : Nat) : List (Bool × Int × Int) → List (Int × Int)
  | [] => []
  | g :: r => ((p : Int), (gSz g : Int)) :: gRuns (p + gSz g) r

theorem goods_ok (hs : List (Bool × Int × Int × Int)) : ∀ g ∈ goods hs, GOk g := by
  intro g hg
  simp only [goods, List.mem_flatMap] at hg
  obtain ⟨⟨a, k, t, n⟩, _, hg⟩ := hg
  simp only [good1] at hg
  split at hg
  · rename_i h
    simp at hg
    subst hg
    simp only [gdB, Bool.and_eq_true, decide_eq_true_eq] at h
    exact ⟨h.1, h.2, fun e => by simp at e; simp [gdN, e]⟩
  · cases hg
theorem goods_len (hs : List (Bool × Int × Int × Int)) : (goods hs).length ≤ hs.length := by
  induction hs with
  | nil => simp [goods]
  | cons h r ih =>
    have : goods (h :: r) = good1 h ++ goods r := rfl
    rw [this, List.length_append, List.length_cons]
    have : (good1 h).length ≤ 1 := by unfold good1; split <;> simp
    omega
theorem goods_snoc (hs : List (Bool × Int × Int × Int)) (q : Nat) (h : Bool × Int × Int × Int) (hq : hs[q]? = some h) : goods (hs.take (q + 1)) = goods (hs.take q) ++ good1 h := by
  rw [List.take_add_one, hq]
  simp [goods]

theorem GOk.bd {g : Bool × Int × Int} (h : GOk g) : 0 ≤ g.2.1 ∧ g.2.1 < 4 ∧ 0 ≤ g.2.2 ∧ g.2.2 ≤ 40 ∧ 2 ≤ gSz g ∧ gSz g ≤ 41 ∧ g.2.2.toNat ≤ gSz g - 1 ∧ sizeI g.1 g.2.1 0 g.2.2 = gSz g := by
  obtain ⟨h1, h2, _⟩ := h
  have hb := mayB_bd h1
  refine ⟨hb.1, hb.2.1, hb.2.2.2.2.1, h2, ?_, ?_, ?_, ?_⟩
  · unfold gSz; omega
  · unfold gSz; omega
  · unfold gSz; omega
  · unfold gSz sizeI; rw [if_pos h1]; omega
theorem gOff_append (a b : List (Bool × Int × Int)) : gOff (a ++ b) = gOff a + gOff b := by simp [gOff]
theorem gOff_one (g : Bool × Int × Int) : gOff [g] = gSz g := by simp [gOff]
theorem gOff_cons (g : Bool × Int × Int) (r : List (Bool × Int × Int)) : gOff (g :: r) = gSz g + gOff r := by simp [gOff]
theorem gOff_le (gs : List (Bool × Int × Int)) (h : ∀ g ∈ gs, GOk g) : gOff gs ≤ gs.length * 41 := by
  induction gs with
  | nil => simp [gOff]
  | cons g r ih =>
    have := (h g (by simp)).bd
    have := ih fun x hx => h x (by simp [hx])
    rw [gOff_cons, List.length_cons]
    omega
theorem gObj_len {g : Bool × Int × Int} (_h : GOk g) : (gObj g).length = gSz g := by
  simp [gObj, gSz]
  omega
theorem gMem_len (gs : List (Bool × Int × Int)) (h : ∀ g ∈ gs, GOk g) : (gMem gs).length = gOff gs := by
  induction gs with
  | nil => rfl
  | cons g r ih =>
    have e : gMem (g :: r) = gObj g ++ gMem r := rfl
    rw [e, List.length_append, gObj_len (h g (by simp)), gOff_cons, ih fun x hx => h x (by simp [hx])]
theorem gMem_snoc (gs : List (Bool × Int × Int)) (g : Bool × Int × Int) : gMem (gs ++ [g]) = gMem gs ++ gObj g := by simp [gMem]
theorem gMem_append (a b : List (Bool × Int × Int)) : gMem (a ++ b) = gMem a ++ gMem b := by simp [gMem]
theorem gRuns_len (p : Nat) (gs : List (Bool × Int × Int)) : (gRuns p gs).length = gs.length := by
  induction gs generalizing p with
  | nil => rfl
  | cons g r ih => simp [gRuns, ih]
theorem gRuns_append (p : Nat) (a b : List (Bool × Int × Int)) : gRuns p (a ++ b) = gRuns p a ++ gRuns (p + gOff a) b := by
  induction a generalizing p with
  | nil => simp [gRuns, gOff]
  | cons g r ih => simp [gRuns, ih, gOff_cons, Nat.add_assoc]
theorem gRuns_at (p : Nat) (gs : List (Bool × Int × Int)) (j : Nat) (g : Bool × Int × Int) (hj : gs[j]? = some g) : (gRuns p gs)[j]? = some (((p + gOff (gs.take j) : Nat) : Int), (gSz g : Int)) := by
  induction gs generalizing p j with
  | nil => simp at hj
  | cons x r ih =>
    cases j with
    | zero => simp at hj; subst hj; simp [gRuns, gOff]
    | succ j =>
      simp at hj
      have := ih (p + gSz x) j hj
      simp only [gRuns, List.getElem?_cons_succ, this, List.take_succ_cons, gOff_cons, Nat.add_assoc]
theorem gRuns_mem (p : Nat) (gs : List (Bool × Int × Int)) (r : Int × Int) (hr : r ∈ gRuns p gs) : ∃ j g, gs[j]? = some g ∧ r = (((p + gOff (gs.take j) : Nat) : Int), (gSz g : Int)) := by
  obtain ⟨j, hj⟩ := List.mem_iff_getElem?.1 hr
  have hl : j < gs.length := by
    have := (List.getElem?_eq_some_iff.1 hj).1
    rwa [gRuns_len] at this
  refine ⟨j, gs[j], by simp [hl], ?_⟩
  have := gRuns_at p gs j gs[j] (by simp [hl])
  rw [this] at hj
  exact (Option.some.inj hj).symm

/-! ### What a put makes of it -/
theorem split3 (A B C : List Int) (s : Nat) (hs : B.length = s) (v : Int) (h1 : 1 ≤ s) :
    wrL (fillL (A ++ B ++ C) A.length s 0) A.length v = A ++ (v :: List.replicate (s - 1) 0) ++ C := by
  have hf : fillL (A ++ B ++ C) A.length s 0 = A ++ List.replicate s 0 ++ C := by
    unfold fillL
    rw [if_pos (by simp [hasB, hs]; omega)]
    simp only [Int.toNat_natCast]
    rw [List.append_assoc, List.append_assoc, List.take_left, ← List.drop_drop, List.drop_left, ← hs, List.drop_left]
  rw [hf]
  unfold wrL
  rw [if_pos (by simp [inB]; omega)]
  simp only [Int.toNat_natCast]
  obtain ⟨m, rfl⟩ : ∃ m, s = m + 1 := ⟨s - 1, by omega⟩
  rw [List.append_assoc, List.set_append_right _ _ (Nat.le_refl _)]
  simp [List.replicate_succ]

theorem put_step (gap : Nat) (pre post : List (Bool × Int × Int)) (g : Bool × Int × Int) (hpre : ∀ x ∈ pre, GOk x) (hg : GOk g) :
    puE (List.replicate gap 9 ++ gMem pre ++ List.replicate (gOff (g :: post)) 9) ((gap + gOff pre : Nat) : Int) (gSz g) g.1 g.2.1 0 g.2.2 = 0 ∧
      puL (List.replicate gap 9 ++ gMem pre ++ List.replicate (gOff (g :: post)) 9) ((gap + gOff pre : Nat) : Int) (gSz g) g.1 g.2.1 0 g.2.2 = List.replicate gap 9 ++ gMem (pre ++ [g]) ++ List.replicate (gOff post) 9 := by
  have hb := hg.bd
  have hA : (List.replicate gap (9 : Int) ++ gMem pre).length = gap + gOff pre := by rw [List.length_append, List.length_replicate, gMem_len pre hpre]
  have hp : puB ((gap + gOff pre : Nat) : Int) (gSz g) g.1 g.2.1 0 g.2.2 = true := by
    simp [puB, hg.1, hb.2.2.2.2.2.2.2]
  have hh : hasB (List.replicate gap 9 ++ gMem pre ++ List.replicate (gOff (g :: post)) 9).length ((gap + gOff pre : Nat) : Int) (gSz g) = true := by
    rw [List.length_append, hA, List.length_replicate, gOff_cons]
    simp [hasB]
    omega
  rw [puE, puL, if_pos hp, if_pos hp, if_pos hh, if_pos hh]
  constructor
  · rw [wrE, if_pos]
    rw [List.length_append, hA, List.length_replicate, gOff_cons]
    simp [inB]
    omega
  · rw [gOff_cons, ← List.replicate_append_replicate, ← List.append_assoc, ← hA, split3 _ _ _ _ (by simp) _ (by omega), gMem_snoc]
    simp [gObj, putW, hg.1, gWord]

/-! ### What is read there -/
theorem word_parts {g : Bool × Int × Int} (h : GOk g) : gA (gWord g) = g.1 ∧ gK (gWord g) = g.2.1 ∧ gT (gWord g) = 0 ∧ gN (gWord g) = g.2.2 ∧ getB (gWord g) = true ∧ 0 ≤ gWord g ∧ gWord g < 18446744073709551616 := by
  obtain ⟨a, k, n⟩ := g
  have hb := h.bd
  have hm := h.1
  simp only at hb hm ⊢
  have h1 : gA (gWord (a, k, n)) = a := by cases a <;> simp [gA, gWord, wordI] <;> omega
  have h2 : gK (gWord (a, k, n)) = k := by cases a <;> simp [gK, gWord, wordI] <;> omega
  have h3 : gT (gWord (a, k, n)) = 0 := by cases a <;> simp [gT, gWord, wordI] <;> omega
  have h4 : gN (gWord (a, k, n)) = n := by cases a <;> simp [gN, gWord, wordI] <;> omega
  refine ⟨h1, h2, h3, h4, ?_, ?_, ?_⟩
  · unfold getB
    rw [h1, h2, h3, h4, hm]
    simp [gWord]
  · cases a <;> simp [gWord, wordI] <;> omega
  · cases a <;> simp [gWord, wordI] <;> omega

/-- The memory when all is put. -/
def gAll (gap : Nat) (gs : List (Bool × Int × Int)) : List Int := List.replicate gap 9 ++ gMem gs
theorem gAll_len (gap : Nat) (gs : List (Bool × Int × Int)) (h : ∀ g ∈ gs, GOk g) : (gAll gap gs).length = gap + gOff gs := by
  rw [gAll, List.length_append, List.length_replicate, gMem_len gs h]
theorem gAll_word (gap : Nat) (gs : List (Bool × Int × Int)) (h : ∀ g ∈ gs, GOk g) : ∀ v ∈ gAll gap gs, 0 ≤ v ∧ v < 18446744073709551616 := by
  intro v hv
  rw [gAll, List.mem_append] at hv
  rcases hv with hv | hv
  · have := (List.mem_replicate.1 hv).2; subst this; omega
  · simp only [gMem, List.mem_flatMap, gObj] at hv
    obtain ⟨g, hg, hv⟩ := hv
    rcases List.mem_cons.1 hv with rfl | hv
    · exact (word_parts (h g hg)).2.2.2.2.2
    · have := (List.mem_replicate.1 hv).2; subst this; omega

theorem split_at (gs : List (Bool × Int × Int)) (j : Nat) (g : Bool × Int × Int) (hj : gs[j]? = some g) : gs = gs.take j ++ g :: gs.drop (j + 1) := by
  obtain ⟨hl, he⟩ := List.getElem?_eq_some_iff.1 hj
  rw [← he]
  simp

theorem back_at (gap : Nat) (gs : List (Bool × Int × Int)) (h : ∀ g ∈ gs, GOk g) (hl : gs.length ≤ 20) (hgap : gap ≤ 255) (j : Nat) (g : Bool × Int × Int) (hj : gs[j]? = some g) (p : Int) (hp : p = ((gap + gOff (gs.take j) : Nat) : Int)) :
    thA p = p + 1 ∧ thE (gAll gap gs) [[1, 0]] p (gSz g) = 0 ∧ onE (gAll gap gs) [[1, 0]] (p + 1) = 0 ∧ onA (gAll gap gs) [[1, 0]] (p + 1) = g.1 ∧
      gK (onX (gAll gap gs) (p + 1)) = g.2.1 ∧ gT (onX (gAll gap gs) (p + 1)) = 0 ∧ gN (onX (gAll gap gs) (p + 1)) = g.2.2 ∧
      (onK (gAll gap gs) [[1, 0]] (p + 1)).length = g.2.2.toNat ∧ onV (gAll gap gs) [[1, 0]] (p + 1) = List.replicate g.2.2.toNat 0 := by
  have hok : GOk g := h g (List.mem_of_getElem? hj)
  have hb := hok.bd
  obtain ⟨w1, w2, w3, w4, w5, _⟩ := word_parts hok
  have hpre : ∀ x ∈ gs.take j, GOk x := fun x hx => h x (List.mem_of_mem_take hx)
  have hle := gOff_le (gs.take j) hpre
  have hlt : (gs.take j).length ≤ 20 := by simp; omega
  have hA : (List.replicate gap (9 : Int) ++ gMem (gs.take j)).length = gap + gOff (gs.take j) := by rw [List.length_append, List.length_replicate, gMem_len _ hpre]
  have hM : gAll gap gs = (List.replicate gap 9 ++ gMem (gs.take j)) ++ (gWord g :: (List.replicate (gSz g - 1) 0 ++ gMem (gs.drop (j + 1)))) := by
    conv => lhs; rw [gAll, split_at gs j g hj, gMem_append]
    have e : gMem (g :: gs.drop (j + 1)) = gObj g ++ gMem (gs.drop (j + 1)) := rfl
    rw [e, gObj]
    simp
  have hlen : (gAll gap gs).length = gap + gOff (gs.take j) + gSz g + (gMem (gs.drop (j + 1))).length := by
    rw [hM, List.length_append, hA]; simp; omega
  have hX : onX (gAll gap gs) (p + 1) = gWord g := by
    unfold onX
    rw [show (p + 1 - 1).toNat = gap + gOff (gs.take j) by omega, hM, ← hA]
    simp
  have hA1 : thA p = p + 1 := by
    unfold thA
    rw [if_pos (by omega), show wrap64 (p + 1) = p + 1 by simp [wrap64]; omega]
  have hkE : knE [[1, 0]] g.1 g.2.1 0 g.2.2 = 0 := by
    unfold knE
    cases ha : g.1
    · simp [hok.2.2 ha]
    · have : kindB g.2.1 = true := by simp [kindB]; omega
      simp [this]; omega
  have hkL : (knL [[1, 0]] g.1 g.2.1 0 g.2.2).length = g.2.2.toNat := by
    unfold knL
    rw [if_pos hkE]
    cases ha : g.1
    · simp [hok.2.2 ha]
    · simp
  have hE : onE (gAll gap gs) [[1, 0]] (p + 1) = 0 := by
    unfold onE
    rw [if_pos (by omega), hX, if_pos w5, w1, w2, w3, w4, if_pos hkE, hkL, if_pos (by omega)]
  have hK : (onK (gAll gap gs) [[1, 0]] (p + 1)).length = g.2.2.toNat := by
    unfold onK
    rw [if_pos hE, hX, w1, w2, w3, w4, hkL]
  have hOA : onA (gAll gap gs) [[1, 0]] (p + 1) = g.1 := by unfold onA; rw [if_pos hE, hX, w1]
  refine ⟨hA1, ?_, hE, hOA, by rw [hX, w2], by rw [hX, w3], by rw [hX, w4], hK, ?_⟩
  · unfold thE
    rw [hA1, hE, hOA, hX, w2, w3, w4]
    simp only [onI, hE, if_pos]
    rw [if_neg (by rw [hb.2.2.2.2.2.2.2]; simp)]
  · unfold onV
    rw [if_pos hE, hK, show (p + 1).toNat = (gap + gOff (gs.take j)) + 1 by omega, hM, ← hA, ← List.drop_drop, List.drop_left, List.drop_succ_cons, List.drop_zero, List.take_append_of_le_length (by simp; omega), List.take_replicate]
    congr 1
    omega
end Go.Proofs.YtojcdljpgginjaaDoor
