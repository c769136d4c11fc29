/-
  The chapter's example of the frames, as the program plays it.
-/
import Derived.Test.YtkmnlcnplnlceaaStack3
namespace Go.Proofs.Ytkmnlcnplnlceaa
open Go Go.RowKit

theorem S_lt {w : World} {sb : Nat} {xss : List (List Int)} {S : Nat → Prop} (h : StackAt w sb xss S) : ∀ k, S k → k < w.heap.size := by
  obtain ⟨sl, fr, h1, h2, h3, h4, h5, h6, h7, h8, h9⟩ := h
  exact h7
theorem S_few {w : World} {sb : Nat} {xss : List (List Int)} {S : Nat → Prop} (h : StackAt w sb xss S) : xss.length ≤ 64 ∧ ∀ l ∈ xss, l.length ≤ 16 := by
  obtain ⟨sl, fr, h1, h2, h3, h4, h5, h6, h7, h8, h9⟩ := h
  exact ⟨h9, h8⟩

/-- A stack whose blocks are those of S0 in the world W, or newer ones; of W's other blocks none has turned. -/
def Held (S0 : Nat → Prop) (W w : World) (sb : Nat) (xss : List (List Int)) : Prop := ∃ S, StackAt w sb xss S ∧ (∀ k, S k → S0 k ∨ W.heap.size ≤ k) ∧ Moved S0 W w
abbrev Mine (W w : World) (sb : Nat) (xss : List (List Int)) : Prop := Held (fun _ => False) W w sb xss
theorem moved_none {w w' : World} (h : Moved (fun _ => False) w w') : Below w.heap.size w w' := ⟨h.os, h.tape, h.output, h.size, fun k hk => h.block k hk (fun e => e)⟩
theorem Held.new {w w' : World} {sb : Nat} (h : StackAt w' sb [] (fun k => k = sb)) (hs : sb = w.heap.size) (hb : Below w.heap.size w w') : Mine w w' sb [] :=
  ⟨_, h, fun k e => by subst e; exact .inr (by omega), Moved.of_below hb _⟩
theorem Held.start {w : World} {sb : Nat} {xss : List (List Int)} {S : Nat → Prop} (h : StackAt w sb xss S) : Held S w w sb xss := ⟨S, h, fun _ h => .inl h, Moved.refl _ _⟩
theorem Held.step {S0 : Nat → Prop} {W w w' : World} {sb : Nat} {yss : List (List Int)} {S S' : Nat → Prop} (h2 : ∀ k, S k → S0 k ∨ W.heap.size ≤ k) (h3 : Moved S0 W w) (k1 : StackAt w' sb yss S') (k2 : Moved S w w') (k3 : ∀ k, S' k → S k ∨ w.heap.size ≤ k) : Held S0 W w' sb yss :=
  ⟨S', k1, fun k hk => (k3 k hk).elim (h2 k) (fun h => .inr (Nat.le_trans h3.size h)), h3.trans k2 h2⟩
theorem Held.later {S0 : Nat → Prop} {W w w' : World} {sb : Nat} {xss : List (List Int)} (h : Held S0 W w sb xss) (hb : Below w.heap.size w w') : Held S0 W w' sb xss := by
  obtain ⟨S, h1, h2, h3⟩ := h
  exact ⟨S, h1.later hb, h2, h3.trans (Moved.of_below hb (fun _ => False)) (fun _ e => e.elim)⟩
/-- The stack held since W, and W's since W0. -/
theorem Held.join {S0 S1 : Nat → Prop} {W0 W w : World} {sb : Nat} {xss : List (List Int)} (h : Held S1 W w sb xss) (hm : Moved S0 W0 W) (hs : ∀ k, S1 k → S0 k ∨ W0.heap.size ≤ k) : Held S0 W0 w sb xss := by
  obtain ⟨S, h1, h2, h3⟩ := h
  exact ⟨S, h1, fun k hk => (h2 k hk).elim (hs k) (fun e => .inr (Nat.le_trans hm.size e)), hm.trans h3 hs⟩

/-! The contracts, said of a stack so held. -/
section
variable {S0 : Nat → Prop} {W : World} {sb : Nat} {xss : List (List Int)} {w : World}
theorem mPush (h : Held S0 W w sb xss) (n : Int) (h0 : 0 ≤ n) :
    Calls Try.prog 7 #[.pointer (some ⟨sb, 0, none⟩), .int .u64 n] w fun e w' => e = .returned (.int .i64 (pushE xss.length n)) ∧ Held S0 W w' sb (pushL xss n) := by
  obtain ⟨S, h1, h2, h3⟩ := h
  refine (sPush_any h1 n h0).mono ?_
  rintro e w' ⟨rfl, S', k1, k2, k3⟩
  exact ⟨rfl, Held.step h2 h3 k1 k2 k3⟩
theorem mSet (h : Held S0 W w sb xss) (i v : Int) (h0 : 0 ≤ i) (h1 : i ≤ 18446744073709551615) :
    Calls Try.prog 11 #[.pointer (some ⟨sb, 0, none⟩), .int .u64 i, .int .u64 v] w fun e w' => e = .returned (.tuple #[.int .u64 (getV xss i), .int .i64 (getE xss i)]) ∧ Held S0 W w' sb (setTop xss i v) := by
  obtain ⟨S, k1, k2, k3⟩ := h
  refine (sSet_any k1 i v h0 h1).mono ?_
  rintro e w' ⟨rfl, q1, q2⟩
  exact ⟨rfl, Held.step k2 k3 q1 q2 (fun _ h => .inl h)⟩
theorem mPop (h : Held S0 W w sb xss) :
    Calls Try.prog 9 #[.pointer (some ⟨sb, 0, none⟩)] w fun e w' => ∃ v, e = .returned (.tuple #[v, .int .i64 (popE xss)]) ∧ Held S0 W w' sb xss.dropLast ∧ w'.ownsRow w.heap.size 23 1 v (popL xss).length ((popL xss).map (Value.int .u64)) := by
  obtain ⟨S, k1, k2, k3⟩ := h
  refine (sPop_any k1).mono ?_
  rintro e w' ⟨v, rfl, q1, q2, q3⟩
  exact ⟨v, rfl, Held.step k2 k3 q1 q2 (fun _ h => .inl h), q3⟩
theorem mDepth (h : Held S0 W w sb xss) :
    Calls Try.prog 15 #[.pointer (some ⟨sb, 0, none⟩)] w fun e w' => e = .returned (.int .i64 xss.length) ∧ w' = w := by
  obtain ⟨S, k1, k2, k3⟩ := h
  exact Depth_any k1
theorem mGet (h : Held S0 W w sb xss) (i : Int) (h0 : 0 ≤ i) (h1 : i ≤ 18446744073709551615) :
    Calls Try.prog 17 #[.pointer (some ⟨sb, 0, none⟩), .int .u64 i] w fun e w' => e = .returned (.tuple #[.int .u64 (getV xss i), .int .i64 (getE xss i)]) ∧ ∃ q, w' = w.drewN q := by
  obtain ⟨S, k1, k2, k3⟩ := h
  exact sGet_any k1 i h0 h1
theorem mAll (h : Held S0 W w sb xss) :
    Calls Try.prog 13 #[.pointer (some ⟨sb, 0, none⟩)] w fun e w' => ∃ v, e = .returned v ∧ Held S0 W w' sb xss ∧ w'.ownsRow w.heap.size 23 1 v xss.flatten.length (xss.flatten.map (Value.int .u64)) ∧ Below w.heap.size w w' := by
  obtain ⟨S, k1, k2, k3⟩ := h
  refine (sAll_any k1).mono ?_
  rintro e w' ⟨v, rfl, hb, ho⟩
  exact ⟨v, rfl, Held.later ⟨S, k1, k2, k3⟩ hb, ho, hb⟩
theorem Held.few (h : Held S0 W w sb xss) : xss.length ≤ 64 ∧ (∀ l ∈ xss, l.length ≤ 16) ∧ xss.flatten.length ≤ 1024 := by
  obtain ⟨S, k1, _, _⟩ := h
  have := S_few k1
  exact ⟨this.1, this.2, by have := flat_len this.2; omega⟩
end

theorem fixed_any (w : World) : Calls Try.prog 5 #[] w fun e w' => e = .returned (.bool true) ∧ Below w.heap.size w w' := by
  go_enter Try.func5, Try.ntmps5
  go_wp2_with fail
  refine (sNew_any _).mono ?_
  rintro e w1 ⟨rfl, hb1, hS1⟩
  have hM1 := Held.new hS1 rfl hb1
  clear hS1 hb1
  go_wp2_with fail
  refine (mPush hM1 2 (by decide)).mono ?_
  rintro e w2 ⟨rfl, hM2⟩
  rw [show pushL [] 2 = [[0, 0]] by decide] at hM2
  rw [show pushE ([] : List (List Int)).length 2 = 0 by decide]
  clear hM1
  go_wp2_with fail
  refine (mSet hM2 1 7 (by decide) (by decide)).mono ?_
  rintro e w3 ⟨rfl, hM3⟩
  rw [show setTop [[0, 0]] 1 7 = [[0, 7]] by decide] at hM3
  clear hM2
  go_wp2_with fail
  refine (mPush hM3 1 (by decide)).mono ?_
  rintro e w4 ⟨rfl, hM4⟩
  rw [show pushL [[0, 7]] 1 = [[0, 7], [0]] by decide] at hM4
  clear hM3
  go_wp2_with fail
  refine (mPop hM4).mono ?_
  rintro e w5 ⟨v5, rfl, hM5, _⟩
  rw [show List.dropLast [[(0 : Int), 7], [0]] = [[0, 7]] by decide] at hM5
  clear hM4
  go_wp2_with fail
  refine (mPop hM5).mono ?_
  rintro e w6 ⟨v6, rfl, hM6, ho6⟩
  rw [show popE [[0, 7]] = 0 by decide]
  rw [show popL [[0, 7]] = [0, 7] by decide] at ho6
  clear hM5
  obtain ⟨a6, c6, rfl, hr6, _⟩ := owns_reads ho6
  clear ho6
  have hb6 : Below w.heap.size w w6 := by obtain ⟨_, _, _, h⟩ := hM6; exact moved_none h
  clear hM6
  have hr7 : Reads .u64 (w6.alloc (.cells #[.int .u64 0, .int .u64 7] 23)) a6 [0, 7] := hr6.below ((Below.refl _ _).alloc (Nat.le_refl _) _)
  have hr8 : Reads .u64 (w6.alloc (.cells #[.int .u64 0, .int .u64 7] 23)) (some ⟨w6.heap.size, 0, none⟩) [0, 7] := by
    refine .inr ⟨_, _, rfl, fun i hi => ?_⟩
    rw [heap_cell (heap_alloc_eq _ _), Nat.zero_add]
    match i, hi with
    | 0, _ => rfl
    | 1, _ => rfl
  clear hr6
  go_wp2_with fail
  refine (Same_any a6 (some ⟨w6.heap.size, 0, none⟩) c6 2 [0, 7] [0, 7] _ hr7 hr8 (by decide)).mono ?_
  rintro e w7 ⟨rfl, hb7⟩
  go_wp2
  go_ret
  exact ⟨rfl, hb6.trans ((((Below.refl _ _).alloc (Nat.le_refl _) _).trans (hb7.mono (by simp))).mono hb6.size)⟩

/-- A slice of acts that came in. -/
def ActsAt (w : World) (a : Option Addr) (m : Nat) (K P V : Nat → Int) : Prop :=
  ∀ i, i < m → ∃ b off, a = some ⟨b, off, none⟩ ∧ w.cell? ⟨b, off + i * 3, none⟩ = some (.int .i64 (K i)) ∧ w.cell? ⟨b, off + i * 3 + 1, none⟩ = some (.int .u64 (P i)) ∧ w.cell? ⟨b, off + i * 3 + 2, none⟩ = some (.int .u64 (V i)) ∧ 0 ≤ P i ∧ P i ≤ 18446744073709551615
end Go.Proofs.Ytkmnlcnplnlceaa
