/-
  Contracts of functions of the program, laid together.
-/
import Derived.Test.YtcenagpkfimkbaaGreatDoorTopSlotsM3
import Derived.WalkMore
namespace Go.Proofs.YtcenagpkfimkbaaGreatDoor
open Go Go.RowKit Go.Shelf

section
variable {P : Program} {b : Frame} {a : Act} {k : List Item} {cs : List Frame} {w : World} {Q : Exit → Act → World → Prop} {F : Fence} {n : Nat}
theorem into_scope {c : Code} : step P (lone (b.atR a (.code (.scope c) :: k)) cs w) = .next (lone (b.atR a (.code c :: .inScope c :: k)) cs w) :=
  step_lone_go (by simp [stepG, stepG.exec, Frame.atR])
theorem past_scope {c : Code} : step P (lone (b.atR a (.inScope c :: k)) cs w) = .next (lone (b.atR a k) cs w) :=
  step_lone_go (by simp [stepG, stepG.exec, Frame.atR])
theorem wpIn_scope {c : Code} (h : c.wpIn F n P (Exit.noGoto Q) a w) : (Code.scope c).wpIn F n P Q a w := by
  intro b k cs hro hb hr
  have start : (lone (b.atR a (.code (.scope c) :: k)) cs w).fenced P F := fenced_calm hb hr rfl
  obtain ⟨e, a1, w1, hq, arr⟩ := h b (.inScope c :: k) cs hro hb hr
  refine ⟨e, a1, w1, ?_, ?_⟩
  · cases e <;> first | exact hq | exact hq.elim
  · cases e with
    | normal => exact .head start into_scope (StepsIn.trans arr (.one (fenced_calm hb hr rfl) past_scope))
    | exit id =>
      have same : exitTo id (.inScope c :: k) = exitTo id k := by simp [exitTo]
      refine ⟨fun k' hk => .head start into_scope (arr.1 k' (by rw [same]; exact hk)), fun hr' hk => ?_⟩
      obtain ⟨k1, g1, g2⟩ := arr.2 hr' (by rw [same]; exact hk)
      exact ⟨k1, g1, .head start into_scope g2⟩
    | goto l => exact hq.elim
    | ret => exact .of_steps (.one start into_scope) arr
    | panic ch => exact .of_steps (.one start into_scope) arr
    | outgrown => exact .of_steps (.one start into_scope) arr
end

abbrev recOf (st : LoopState) (pe : Option Code) (fn : FuncId) (tmps : Array Value) (ps : Array Tmp) (assign body : Code) (D : Nat) : Obj :=
  .loop { state := st, pending := pe, fn, tmps, params := ps, assign, body, defers := D }
def RoundEnd (l : Nat) (fn : FuncId) (tmps : Array Value) (ps : Array Tmp) (assign body : Code) (D : Nat) (R : Ending → World → Prop) : Exit → Act → World → Prop
  | .normal, _, w => w.heap[l]? = some (recOf .busy none fn tmps ps assign body D) ∧ R (.returned (.bool true)) (w.putObj l (recOf .ready none fn tmps ps assign body D))
  | .ret, _, w => w.heap[l]? = some (recOf .busy none fn tmps ps assign body D) ∧ R (.returned (.bool false)) (w.putObj l (recOf .done (some .ret) fn tmps ps assign body D))
  | _, _, _ => False

theorem yield_round {F : Fence} {m : Nat} {P : Program} {l : Nat} {fn : FuncId} {tmps : Array Value} {ps : Array Tmp} {assign body : Code} {D : Nat} {W : World} {args : Array Value} {R : Ending → World → Prop} (hfn : F.fn fn)
    (hl : W.heap[l]? = some (recOf .ready none fn tmps ps assign body D)) (hs : args.size = ps.size)
    (h : assign.wpIn (F.inRound l) m P (Exit.then (fun a₁ w₁ => w₁.heap[l]? = some (recOf .ready none fn tmps ps assign body D) ∧
        body.wpIn (F.inRound l) m P (RoundEnd l fn tmps ps assign body D R) a₁ (w₁.putObj l (recOf .busy none fn tmps ps assign body D))) (fun _ _ _ => False))
      { tmps := (ps.zip args).foldl (fun t (p, v) => t.setIfInBounds p v) tmps, defers := [] } W) : YieldAt F m P l args W R := by
  refine ⟨fn, _, assign, body, run_yield hl hs, roundIn_of_wpIn hfn (wpIn_mono h ?_)⟩
  rintro e a w h1
  cases e with
  | normal =>
    obtain ⟨hr, hb⟩ := h1
    refine ⟨_, run_beginRound hr rfl, wpIn_mono hb ?_⟩
    rintro e2 a2 w2 h2
    cases e2 with
    | normal => exact ⟨_, _, run_endRound none h2.1, h2.2⟩
    | ret => exact ⟨_, _, run_endRound (some .ret) h2.1, h2.2⟩
    | exit id => exact h2.elim
    | goto t => exact h2.elim
    | panic c => exact h2.elim
    | outgrown => exact h2.elim
  | ret => exact h1.elim
  | exit id => exact h1.elim
  | goto t => exact h1.elim
  | panic c => exact h1.elim
  | outgrown => exact h1.elim
end Go.Proofs.YtcenagpkfimkbaaGreatDoor
