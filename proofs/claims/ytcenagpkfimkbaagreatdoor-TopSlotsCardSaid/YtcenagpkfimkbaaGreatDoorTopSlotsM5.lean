/-
  Contracts of functions of the program, laid together.
-/
import Derived.Test.YtcenagpkfimkbaaGreatDoorTopSlotsM2
import Derived.Test.YtcenagpkfimkbaaGreatDoorTopSlotsM4
import Derived.ArgAppend
import Derived.OwnWalkIn
import Derived.Laws.OwnMore
import Derived.RangeFuncNested
namespace Go.Proofs.YtcenagpkfimkbaaGreatDoor
open Go Go.RowKit Go.Shelf

theorem owns_base {w : World} {B B' : Nat} {t : TypeId} {size : Nat} {v : Value} {n : Nat} {xs : List Value} (h : w.ownsRow B t size v n xs) (hb : B' ≤ B) : w.ownsRow B' t size v n xs := by
  refine ⟨h.1, h.2.imp_right ?_⟩
  rintro ⟨g, cap, cur, rfl, h1, h2⟩
  exact ⟨g, cap, cur, rfl, Nat.le_trans hb h1, h2⟩

theorem run_append_keep {P : Program} (w : World) (base : Nat) (t ty e : TypeId) (i : TypeInfo) (z : Value) (size bytes : Nat) (ht : P.underlying t = some (.slice e)) (hi : P.info? e = some i) (hz : i.zero = some z)
    (hsize : i.size = size) (hby : i.bytes = bytes) (hzs : z.cells.size = size) (hsz : 0 < size)
    (v : Value) (n : Nat) (xs : List Value) (hown : w.ownsRow base e size v n xs)
    (a : Addr) (m c : Nat) (news : List Value) (hl : news.length = m * size) (hnews : ∀ j u, news[j]? = some u → w.cell? (a.add j) = some u) (h1 : ∀ u ∈ news, u.oneCell' = true)
    (h63 : n + m ≤ maxLen) (hbytes : (n + m) * bytes ≤ 140737488355328) (hbase : base ≤ w.heap.size) :
    ∃ v' w', (Builtin.append_ #[t, t] ty #[v, .slice (some a) m c]).run P w = .ok v' w' ∧ w'.ownsRow base e size v' (n + m) (xs ++ news) ∧ w.grownBy w' v.ownBlock ∧
      (v'.ownBlock = v.ownBlock ∨ ∀ k, v'.ownBlock = some k → w.heap.size ≤ k) := by
  rcases hown.2 with ⟨rfl, rfl⟩ | ⟨g, cap, cur, rfl, hbg, hg, hnc, hcm, hcs, htake⟩
  · obtain rfl : xs = [] := List.eq_nil_of_length_eq_zero (by simpa using hown.1)
    obtain ⟨v', w', hr, ho, hg, _⟩ := run_append_own (P := P) w w.heap.size t ty e i z size bytes ht hi hz hsize hby hzs hsz (.slice none 0 0) 0 [] (World.ownsRow_nil w _ e size) a m c news hl hnews h1 h63 hbytes (Nat.le_refl _)
    exact ⟨v', w', hr, owns_base ho hbase, hg, .inr fun k hk => (ho.lt k hk).1⟩
  · by_cases hroom : n + m ≤ cap
    · obtain ⟨w', hr, ho, hgr⟩ := run_append_fits (P := P) w base t ty e i size ht hi hsize g n cap xs hown a m c news hl hnews h1 hroom
      exact ⟨_, w', hr, ho, hgr, .inl rfl⟩
    · obtain ⟨v', w', hr, ho, hgr⟩ := run_append_arg_grows (P := P) w t ty e i z size bytes ht hi hz hsize hby hzs hsz ⟨g, 0, none⟩ n cap xs hown.1 (hown.cells rfl) a m c news hl hnews (by omega) h63 hbytes
      exact ⟨v', w', hr, owns_base ho hbase, ⟨hgr.os, hgr.tape, hgr.output, hgr.size, fun k hk _ => hgr.block k hk (by simp)⟩, .inr fun k hk => (ho.lt k hk).1⟩

theorem wpList_append_keep {P : Program} (w : World) {ops : Array Oper} {rest : List Oper} {o : Oper} {a : Act} {Q : Exit → Act → World → Prop}
    (hg : o.guard = none) (s x : Operand) (t : TypeId) (hop : o.op = Op.call { callee := Callee.builtin Builtin.append, args := #[s, x], argTypes := #[t, t] })
    (base : Nat) (e : TypeId) (i : TypeInfo) (z : Value) (size bytes : Nat) (h1 : P.underlying t = some (.slice e)) (h2 : P.info? e = some i) (h3 : i.zero = some z) (h4 : i.size = size) (h5 : i.bytes = bytes) (h6 : z.cells.size = size) (h7 : 0 < size)
    (v : Value) (k : Nat) (xs : List Value) (hs : a.eval s = v) (hown : w.ownsRow base e size v k xs) (ad : Addr) (m c : Nat) (news : List Value) (hx : a.eval x = .slice (some ad) m c) (hn : news.length = m * size)
    (hc : ∀ j u, news[j]? = some u → w.cell? (ad.add j) = some u) (h1c : ∀ u ∈ news, u.oneCell' = true) (b1 : k + m ≤ maxLen) (b2 : (k + m) * bytes ≤ 140737488355328) (b3 : base ≤ w.heap.size)
    (hK : ∀ v' w', w'.ownsRow base e size v' (k + m) (xs ++ news) → w.grownBy w' v.ownBlock → (v'.ownBlock = v.ownBlock ∨ ∀ k, v'.ownBlock = some k → w.heap.size ≤ k) → wpList P ops Q rest (a.put o.dst v') w') :
    wpList P ops Q (o :: rest) a w := by
  refine wpList_plain hg fun K hK' => ?_
  obtain ⟨v', w', hrun, r1, r2, r3⟩ := run_append_keep (P := P) w base t o.type e i z size bytes h1 h2 h3 h4 h5 h6 h7 v k xs hown ad m c news hn hc h1c b1 b2 b3
  unfold Oper.wp
  simp [execOp, hop, resolve, invoke, builtin, hs, hx, hrun, Result.andThen]
  exact hK' _ _ (hK v' w' r1 r2 r3)

theorem wpListIn_append_keep {F : Fence} {n : Nat} {P : Program} (w : World) {ops : Array Oper} {rest : List Oper} {o : Oper} {a : Act} {Q : Exit → Act → World → Prop}
    (hg : o.guard = none) (s x : Operand) (t : TypeId) (hop : o.op = Op.call { callee := Callee.builtin Builtin.append, args := #[s, x], argTypes := #[t, t] })
    (base : Nat) (e : TypeId) (i : TypeInfo) (z : Value) (size bytes : Nat) (h1 : P.underlying t = some (.slice e)) (h2 : P.info? e = some i) (h3 : i.zero = some z) (h4 : i.size = size) (h5 : i.bytes = bytes) (h6 : z.cells.size = size) (h7 : 0 < size)
    (v : Value) (k : Nat) (xs : List Value) (hs : a.eval s = v) (hown : w.ownsRow base e size v k xs) (ad : Addr) (m c : Nat) (news : List Value) (hx : a.eval x = .slice (some ad) m c) (hn : news.length = m * size)
    (hc : ∀ j u, news[j]? = some u → w.cell? (ad.add j) = some u) (h1c : ∀ u ∈ news, u.oneCell' = true) (b1 : k + m ≤ maxLen) (b2 : (k + m) * bytes ≤ 140737488355328) (b3 : base ≤ w.heap.size)
    (hK : ∀ v' w', w'.ownsRow base e size v' (k + m) (xs ++ news) → w.grownBy w' v.ownBlock → (v'.ownBlock = v.ownBlock ∨ ∀ k, v'.ownBlock = some k → w.heap.size ≤ k) → wpListIn F n P ops Q rest (a.put o.dst v') w') :
    wpListIn F n P ops Q (o :: rest) a w := by
  refine wpListIn_plain hg fun K hK' => ?_
  obtain ⟨v', w', hrun, r1, r2, r3⟩ := run_append_keep (P := P) w base t o.type e i z size bytes h1 h2 h3 h4 h5 h6 h7 v k xs hown ad m c news hn hc h1c b1 b2 b3
  unfold Oper.wpIn
  refine ⟨?_, ?_⟩
  · simp [Oper.about, hop, resolve, Target.leads, Sem.run_pure]
  · rw [Oper.semAt_plain F _ _ (by rw [hop]; intro c hc'; cases hc')]
    simp [execOp, hop, resolve, invoke, builtin, hs, hx, hrun, Result.andThen]
    exact hK' _ _ (hK v' w' r1 r2 r3)

theorem wpIn_range_own {F : Fence} {n : Nat} {P : Program} {g : Operand} {ps : Array Tmp} {assign body : Code} {Q : Exit → Act → World → Prop} {a : Act} {w : World}
    (hro : F.round = none) (h1 : 1 ≤ n) {gf : Nat} {lb : Array Value} (hg : a.eval g = .func (.func gf) #[] lb) (hFg : F.fn gf) (eg : ∀ args w, (callFunc gf args).run P w = .ok (.enter gf args) w)
    (hcall : ∀ fn, F.fn fn → ∀ R : LoopState → Option Code → Loop, (∀ st pe, Obj.loop (R st pe) = recOf st pe fn a.tmps ps assign body w.heap.size) → CallsIn F (n - 1) P gf (#[.func (.yield (w.heap.size + 1)) #[] #[]] ++ lb) ((w.alloc (.deferred (some []))).alloc (.loop (R .ready none))) fun e W =>
      (∃ v, e = .returned v) ∧
      ((W.heap[w.heap.size + 1]? = some (.loop (R .ready none)) ∧ Q .normal { a with defers := { target := .collected w.heap.size, args := #[] } :: a.defers } (W.putObj (w.heap.size + 1) (.loop (R .exhausted none)))) ∨
       (∃ c : Code, W.heap[w.heap.size + 1]? = some (.loop (R .done (some c))) ∧ c.wpIn F n P Q { a with defers := { target := .collected w.heap.size, args := #[] } :: a.defers } (W.putObj (w.heap.size + 1) (.loop (R .exhausted (some c))))))) :
    (Code.rangeFunc g ps assign body).wpIn F n P Q a w := by
  refine wpIn_rangeFunc ?_
  intro fn hfn
  rw [hro]
  refine ⟨w.heap.size + 1, [{ target := .collected w.heap.size, args := #[] }], (w.alloc (.deferred (some []))).alloc (recOf .ready none fn a.tmps ps assign body w.heap.size), { target := .fn (.func gf) lb, args := #[.func (.yield (w.heap.size + 1)) #[] #[]] }, ((w.alloc (.deferred (some []))).alloc (recOf .ready none fn a.tmps ps assign body w.heap.size)), gf,
    #[.func (.yield (w.heap.size + 1)) #[] #[]] ++ lb, ((w.alloc (.deferred (some []))).alloc (recOf .ready none fn a.tmps ps assign body w.heap.size)), run_enterLoop_outer _ _ _ _ _, ?_, ?_, ?_, fun _ => h1, ?_⟩
  · simp only [resolve, hg]
    simp [go_sem]
  · intro f' hf'; simp [Target.leads] at hf'; subst hf'; exact hFg
  · simp [invoke, go_sem, eg]
  · refine (hcall fn hfn (fun st pe => { state := st, pending := pe, fn, tmps := a.tmps, params := ps, assign, body, defers := w.heap.size }) (fun _ _ => rfl)).mono ?_
    rintro e W2 ⟨⟨v, rfl⟩, (⟨hl, hq⟩ | ⟨c, hl, hq⟩)⟩
    · exact ⟨none, _, run_endLoop (P := P) hl (by simp), hq⟩
    · exact ⟨some c, _, run_endLoop (P := P) hl (by simp), hq⟩
end Go.Proofs.YtcenagpkfimkbaaGreatDoor
namespace Go.Proofs.YtcenagpkfimkbaaGreatDoor
open Go Go.RowKit Go.Shelf

theorem yield_any {n m : Nat} {P : Program} {l : Nat} {args : Array Value} {W : World} {R : Ending → World → Prop} (h : YieldAt Fence.wide n P l args W R) : YieldAt Fence.wide m P l args W R := by
  obtain ⟨fn, tmps, assign, body, hy, hR⟩ := h
  exact ⟨fn, tmps, assign, body, hy, hR.1, fun c cs _ => hR.2 c cs (room_wide _)⟩

def YieldEnd (S : Nat → Prop) (J Jx : HP) (W : World) (e : Ending) (W' : World) : Prop :=
  ∃ S', Grows S S' W W' ∧ ((e = .returned (.bool true) ∧ J W' S') ∨ (e = .returned (.bool false) ∧ Jx W' S'))
def HandsEnd {α : Type} (Fin : List α → Prop) (S : Nat → Prop) (J : List α → HP) (Jx : HP) (W : World) (e : Ending) (W' : World) : Prop :=
  (∃ v, e = .returned v) ∧ ∃ S', Grows S S' W W' ∧ ((∃ xs, Fin xs ∧ J xs W' S') ∨ Jx W' S')
def Hands (P : Program) (gf : FuncId) (lb : Array Value) {α : Type} (E : α → Array Value → HP) (Part Fin : List α → Prop) (Pre : HP) : Prop :=
  ∀ (l : Nat) (J : List α → HP) (Jx : HP), (∀ pre, (J pre).Ok) → Jx.Ok →
    (∀ pre x args W S, Part (pre ++ [x]) → E x args W S → J pre W S → YieldAt Fence.wide 1 P l args W (YieldEnd S (J (pre ++ [x])) Jx W)) →
    ∀ W S, J [] W S → Pre W S → Calls P gf (#[.func (.yield l) #[] #[]] ++ lb) W (HandsEnd Fin S J Jx W)

def withRec (p : HP) (l D : Nat) (o : Obj) : HP := fun W S => ∃ S1, p W S1 ∧ ¬ S1 l ∧ ¬ S1 D ∧ W.heap[l]? = some o ∧ W.heap[D]? = some (.deferred (some [])) ∧ ∀ k, S k ↔ S1 k ∨ k = l ∨ k = D
theorem withRec.ok {p : HP} (h : p.Ok) (l D : Nat) (o : Obj) : (withRec p l D o).Ok := by
  constructor
  · rintro w w' S T ⟨S1, hp, h1, h2, h3, h4, hs⟩ hm hd
    exact ⟨S1, h.moved hp hm (fun k hk => hd k ((hs k).2 (.inl hk))), h1, h2, hm.heap h3 (hd l ((hs l).2 (.inr (.inl rfl)))), hm.heap h4 (hd D ((hs D).2 (.inr (.inr rfl)))), hs⟩
  · rintro w S ⟨S1, hp, h1, h2, h3, h4, hs⟩ k hk
    rcases (hs k).1 hk with h5 | rfl | rfl
    · exact h.lt hp k h5
    · exact heap_lt h3
    · exact heap_lt h4

def BodyEnd (T : Nat → Prop) (I Ix : HP) (WB : World) : Exit → Act → World → Prop
  | .normal, _, W => ∃ S', Grows T S' WB W ∧ I W S'
  | .ret, _, W => ∃ S', Grows T S' WB W ∧ Ix W S'
  | _, _, _ => False
abbrev markOf (D : Nat) : Deferred := { target := .collected D, args := #[] }

theorem wpIn_range_hp2 {P : Program} {n : Nat} {g : Operand} {ps : Array Tmp} {assign body : Code} {Q : Exit → Act → World → Prop} {a : Act} {w : World} (hn : 1 ≤ n) {gf : FuncId} {lb : Array Value}
    (hg : a.eval g = .func (.func gf) #[] lb) (eg : ∀ args w, (callFunc gf args).run P w = .ok (.enter gf args) w) {α : Type} {E : α → Array Value → HP} {Part Fin : List α → Prop} {Pre : HP} (hh : Hands P gf lb E Part Fin Pre)
    (I : List α → HP) (Ix : HP) (hI : ∀ pre, (I pre).Ok) (hIx : Ix.Ok) (S0 : Nat → Prop) (h0 : I [] w S0) (hps : ∀ x args W S, E x args W S → args.size = ps.size)
    (hpre : ∀ (W : World) (S : Nat → Prop), Below w.heap.size w W → (∀ k, S k → S0 k ∨ w.heap.size ≤ k) → Pre W S)
    (hround : ∀ (l D : Nat) (pre : List α) (x : α) (args : Array Value) (W : World) (S : Nat → Prop), Part (pre ++ [x]) → E x args W (fun k => S k ∨ k = l ∨ k = D) → I pre W S → (∀ k, S k → k < W.heap.size) → l < W.heap.size → ¬ S l → W.heap.size ≠ l →
      assign.wpIn (Fence.wide.inRound l) 1 P (Exit.then (fun a' W' => Below W.heap.size W W' ∧ ∀ WB, (∃ o, WB = W'.putObj l o) → Moved (fun k => k = l) W' WB → I pre WB S →
        body.wpIn (Fence.wide.inRound l) 1 P (BodyEnd (fun k => S k ∨ W.heap.size ≤ k) (I (pre ++ [x])) Ix WB) a' WB) (fun _ _ _ => False)) { tmps := (ps.zip args).foldl (fun t (p, v) => t.setIfInBounds p v) a.tmps, defers := [] } W)
    (hdone : ∀ (D : Nat) (xs : List α) (W : World) (S : Nat → Prop), w.heap.size ≤ D → Fin xs → I xs W S → Grows S0 S w W → ¬ S D → W.heap[D]? = some (.deferred (some [])) → Q .normal { a with defers := markOf D :: a.defers } W)
    (hstop : ∀ (D : Nat) (W : World) (S : Nat → Prop), w.heap.size ≤ D → Ix W S → Grows S0 S w W → ¬ S D → W.heap[D]? = some (.deferred (some [])) → Code.ret.wpIn Fence.wide n P Q { a with defers := markOf D :: a.defers } W) :
    (Code.rangeFunc g ps assign body).wpIn Fence.wide n P Q a w := by
  refine wpIn_range_own rfl hn hg trivial eg ?_
  intro fn _ R hR
  have hlt0 := (hI []).lt h0
  obtain ⟨W1, hW1⟩ : ∃ W1, (w.alloc (.deferred (some []))).alloc (.loop (R .ready none)) = W1 := ⟨_, rfl⟩
  have hl1 : W1.heap[w.heap.size + 1]? = some (.loop (R .ready none)) := by rw [← hW1]; simpa using heap_alloc_eq (w.alloc (.deferred (some []))) (.loop (R .ready none))
  have hD1 : W1.heap[w.heap.size]? = some (.deferred (some [])) := by rw [← hW1]; exact heap_alloc_lt (heap_alloc_eq _ _) _
  have hb1 : Below w.heap.size w W1 := by rw [← hW1]; exact ((Below.refl _ _).alloc (Nat.le_refl _) _).alloc (by simp) _
  rw [hW1]
  have hJ0 : withRec (I []) (w.heap.size + 1) w.heap.size (.loop (R .ready none)) W1 (fun k => S0 k ∨ k = w.heap.size + 1 ∨ k = w.heap.size) :=
    ⟨S0, (hI []).below h0 hb1, fun e => by have := hlt0 _ e; omega, fun e => by have := hlt0 _ e; omega, hl1, hD1, fun k => Iff.rfl⟩
  have hcall := hh (w.heap.size + 1) (fun pre => withRec (I pre) (w.heap.size + 1) w.heap.size (.loop (R .ready none))) (withRec Ix (w.heap.size + 1) w.heap.size (.loop (R .done (some .ret))))
    (fun pre => withRec.ok (hI pre) _ _ _) (withRec.ok hIx _ _ _) ?_ W1 _ hJ0 (hpre W1 _ hb1 (fun k hk => by
      rcases hk with hk | hk | hk
      · exact .inl hk
      · exact .inr (by omega)
      · exact .inr (by omega)))
  · refine callsIn_wide.2 (hcall.mono ?_)
    rintro e W2 ⟨hv, S', hG, hend⟩
    refine ⟨hv, ?_⟩
    have hgr : ∀ (S1 : Nat → Prop) (o : Obj), (∀ k, S1 k → S' k) → Grows S0 S1 w (W2.putObj (w.heap.size + 1) o) := fun S1 o hs => by
      have g1 : Grows S0 S' w W2 := ⟨(Moved.of_below hb1 S0).trans hG.m (fun q hq => by
        rcases hq with hq | hq | hq
        · exact .inl hq
        · exact .inr (by omega)
        · exact .inr (by omega)), fun k hk => by
          rcases hG.s k hk with (h | h | h) | h
          · exact .inl h
          · exact .inr (by omega)
          · exact .inr (by omega)
          · exact .inr (by have := hb1.size; omega)⟩
      exact ⟨g1.m.trans (.of_grown (grownBy_putObj' W2 _ o) (S := fun k => k = w.heap.size + 1) (fun k e => by cases e; rfl)) (fun q e => .inr (by omega)), fun k hk => g1.s k (hs k hk)⟩
    have hmv : ∀ o, Moved (fun k => k = w.heap.size + 1) W2 (W2.putObj (w.heap.size + 1) o) := fun o => .of_grown (grownBy_putObj' W2 _ o) (fun k e => by cases e; rfl)
    rcases hend with ⟨xs, hF, S1, hp, n1, n2, hl, hD, hs⟩ | ⟨S1, hp, n1, n2, hl, hD, hs⟩
    · refine .inl ⟨hl, ?_⟩
      exact hdone w.heap.size xs _ S1 (Nat.le_refl _) hF ((hI xs).moved hp (hmv _) (fun k hk e => n1 (e ▸ hk))) (hgr S1 _ (fun k hk => (hs k).2 (.inl hk))) n2 ((World.putObj_heap_other (by omega)).trans hD)
    · refine .inr ⟨.ret, hl, ?_⟩
      exact hstop w.heap.size _ S1 (Nat.le_refl _) (hIx.moved hp (hmv _) (fun k hk e => n1 (e ▸ hk))) (hgr S1 _ (fun k hk => (hs k).2 (.inl hk))) n2 ((World.putObj_heap_other (by omega)).trans hD)
  · rintro pre x args W S hpart hE ⟨S1, hp, n1, n2, hl, hD, hs⟩
    have hS : S = fun k => S1 k ∨ k = w.heap.size + 1 ∨ k = w.heap.size := funext fun k => propext (hs k)
    subst hS
    have hlW := heap_lt hl
    have hS1 := (hI pre).lt hp
    refine yield_round trivial (hl.trans (congrArg some (hR _ _))) (hps x args W _ hE) (wpIn_mono (hround (w.heap.size + 1) w.heap.size pre x args W S1 hpart hE hp hS1 hlW n1 (by omega)) ?_)
    rintro e a' W' hex
    cases e with
    | exit id => exact hex
    | goto t => exact hex
    | ret => exact hex
    | panic c => exact hex
    | outgrown => exact hex
    | normal =>
    obtain ⟨hb', hax⟩ := hex
    have hl' := heap_below hb' hl hlW
    refine ⟨hl'.trans (congrArg some (hR _ _)), ?_⟩
    rw [← hR]
    have hm1 : Moved (fun k => k = w.heap.size + 1) W (W'.putObj (w.heap.size + 1) (.loop (R .busy none))) := (Moved.of_below hb' _).trans (.of_grown (grownBy_putObj' W' _ _) (S := fun k => k = w.heap.size + 1) (fun k e => by cases e; rfl)) (fun q e => .inl e)
    have hpB := (hI pre).moved hp hm1 (fun k hk e => n1 (e ▸ hk))
    have hlB : (W'.putObj (w.heap.size + 1) (.loop (R .busy none))).heap[w.heap.size + 1]? = some (.loop (R .busy none)) := World.putObj_heap_same (heap_lt hl')
    have hDB := hm1.heap hD (by omega)
    have hDlt := heap_lt hD
    refine wpIn_mono (hax _ ⟨_, rfl⟩ (.of_grown (grownBy_putObj' W' _ _) (fun k e => by cases e; rfl)) hpB) ?_
    rintro e a2 W2 h2
    have fin : ∀ (S' : Nat → Prop) (o : Obj) (q : HP), q.Ok → q W2 S' → Grows (fun k => S1 k ∨ W.heap.size ≤ k) S' (W'.putObj (w.heap.size + 1) (.loop (R .busy none))) W2 →
        W2.heap[w.heap.size + 1]? = some (.loop (R .busy none)) ∧ ∃ S3, Grows (fun k => S1 k ∨ k = w.heap.size + 1 ∨ k = w.heap.size) S3 W (W2.putObj (w.heap.size + 1) o) ∧ withRec q (w.heap.size + 1) w.heap.size o (W2.putObj (w.heap.size + 1) o) S3 := by
      intro S' o q hq hqW hg
      have hl2 := hg.m.heap hlB (by rintro (h | h)
                                    · exact n1 h
                                    · omega)
      have hD2 := hg.m.heap hDB (by rintro (h | h)
                                    · exact n2 h
                                    · omega)
      have hn1 : ¬ S' (w.heap.size + 1) := fun h => by
        rcases hg.s _ h with (h | h) | h
        · exact n1 h
        · omega
        · have := heap_lt hlB; omega
      have hn2 : ¬ S' w.heap.size := fun h => by
        rcases hg.s _ h with (h | h) | h
        · exact n2 h
        · omega
        · have := heap_lt hDB; omega
      have hmv : Moved (fun k => k = w.heap.size + 1) W2 (W2.putObj (w.heap.size + 1) o) := .of_grown (grownBy_putObj' W2 _ o) (fun k e => by cases e; rfl)
      refine ⟨hl2, fun k => S' k ∨ k = w.heap.size + 1 ∨ k = w.heap.size, ⟨(((Moved.refl _ W).trans hm1 (fun q e => .inl (.inr (.inl e)))).trans hg.m (fun q e => e.elim (fun e => .inl (.inl e)) .inr)).trans hmv (fun q e => .inl (.inr (.inl e))), fun k hk => ?_⟩, S', hq.moved hqW hmv (fun k hk e => hn1 (e ▸ hk)), hn1, hn2, World.putObj_heap_same (heap_lt hl2), (World.putObj_heap_other (by omega)).trans hD2, fun k => Iff.rfl⟩
      rcases hk with hk | hk
      · rcases hg.s k hk with (h | h) | h
        · exact .inl (.inl h)
        · exact .inr h
        · exact .inr (Nat.le_trans hm1.size h)
      · exact .inl (.inr hk)
    cases e with
    | normal =>
      obtain ⟨S', hg, hi⟩ := h2
      obtain ⟨f1, S3, f2, f3⟩ := fin S' _ _ (hI _) hi hg
      refine ⟨f1.trans (congrArg some (hR _ _)), ?_⟩
      rw [← hR]
      exact ⟨S3, f2, .inl ⟨rfl, f3⟩⟩
    | ret =>
      obtain ⟨S', hg, hi⟩ := h2
      obtain ⟨f1, S3, f2, f3⟩ := fin S' _ _ hIx hi hg
      refine ⟨f1.trans (congrArg some (hR _ _)), ?_⟩
      rw [← hR]
      exact ⟨S3, f2, .inr ⟨rfl, f3⟩⟩
    | exit id => exact h2.elim
    | goto t => exact h2.elim
    | panic c => exact h2.elim
    | outgrown => exact h2.elim

theorem wpIn_range_hp {P : Program} {n : Nat} {g : Operand} {ps : Array Tmp} {assign body : Code} {Q : Exit → Act → World → Prop} {a : Act} {w : World} (hn : 1 ≤ n) {gf : FuncId} {lb : Array Value}
    (hg : a.eval g = .func (.func gf) #[] lb) (eg : ∀ args w, (callFunc gf args).run P w = .ok (.enter gf args) w) {α : Type} {E : α → Array Value → HP} {Part Fin : List α → Prop} {Pre : HP} (hh : Hands P gf lb E Part Fin Pre)
    (I : List α → HP) (Ix : HP) (hI : ∀ pre, (I pre).Ok) (hIx : Ix.Ok) (S0 : Nat → Prop) (h0 : I [] w S0) (hps : ∀ x args W S, E x args W S → args.size = ps.size)
    (hpre : ∀ (W : World) (S : Nat → Prop), Below w.heap.size w W → (∀ k, S k → S0 k ∨ w.heap.size ≤ k) → Pre W S)
    (Ax : Array Value → World → Act → World → Prop) (hAx : ∀ args W a' W' l o, l < W.heap.size → Ax args W a' W' → Ax args W a' (W'.putObj l o))
    (hassign : ∀ (l : Nat) (x : α) (args : Array Value) (W : World) (S : Nat → Prop) (K : Act → World → Prop), E x args W S → (∀ a' W', Below W.heap.size W W' → Ax args W a' W' → K a' W') →
      assign.wpIn (Fence.wide.inRound l) 1 P (Exit.then K (fun _ _ _ => False)) { tmps := (ps.zip args).foldl (fun t (p, v) => t.setIfInBounds p v) a.tmps, defers := [] } W)
    (hbody : ∀ (l D : Nat) (pre : List α) (x : α) (args : Array Value) (W : World) (S : Nat → Prop) (WB : World) (a' : Act), Part (pre ++ [x]) → E x args W (fun k => S k ∨ k = l ∨ k = D) → Moved (fun k => k = l) W WB → Ax args W a' WB → I pre WB S → (∀ k, S k → k < W.heap.size) →
      body.wpIn (Fence.wide.inRound l) 1 P (BodyEnd (fun k => S k ∨ W.heap.size ≤ k) (I (pre ++ [x])) Ix WB) a' WB)
    (hdone : ∀ (D : Nat) (xs : List α) (W : World) (S : Nat → Prop), w.heap.size ≤ D → Fin xs → I xs W S → Grows S0 S w W → ¬ S D → W.heap[D]? = some (.deferred (some [])) → Q .normal { a with defers := markOf D :: a.defers } W)
    (hstop : ∀ (D : Nat) (W : World) (S : Nat → Prop), w.heap.size ≤ D → Ix W S → Grows S0 S w W → ¬ S D → W.heap[D]? = some (.deferred (some [])) → Code.ret.wpIn Fence.wide n P Q { a with defers := markOf D :: a.defers } W) :
    (Code.rangeFunc g ps assign body).wpIn Fence.wide n P Q a w := by
  refine wpIn_range_hp2 hn hg eg hh I Ix hI hIx S0 h0 hps hpre (fun l D pre x args W S hpart hE hp hS hl _ _ => ?_) hdone hstop
  refine hassign l x args W _ _ hE (fun a' W' hb hax => ⟨hb, ?_⟩)
  rintro WB ⟨o, rfl⟩ hm hpB
  exact hbody l D pre x args W S _ a' hpart hE ((Moved.of_below hb _).trans hm (fun q e => .inl e)) (hAx _ _ _ _ _ _ hl hax) hpB hS
theorem leaves_marks {n : Nat} {P : Program} {fn : Func} {tmps : Array Value} {R : Ending → World → Prop} : ∀ (Ds : List Nat) (w : World), Ds.Nodup → (∀ D ∈ Ds, w.heap[D]? = some (.deferred (some []))) →
    (∀ w', Moved (fun k => k ∈ Ds) w w' → LeavesInM Fence.wide n P fn tmps R [] .returning w') → LeavesInM Fence.wide n P fn tmps R (Ds.map markOf) .returning w
  | [], w, _, _, h => h w (Moved.refl _ _)
  | D :: Ds, w, hn, hD, h => by
    have h0 := hD D (by simp)
    have hm : Moved (fun k => k ∈ D :: Ds) w (w.putObj D (.deferred none)) := .of_grown (grownBy_putObj' w D _) (fun k e => by cases e; simp)
    refine ⟨by simp, .inl ⟨D, _, rfl, run_takeDeferred h0, leaves_marks Ds _ (List.nodup_cons.1 hn).2 (fun D' h' => ?_) (fun w' hm' => h w' (hm.trans hm' (fun q e => .inl (by simp [e]))))⟩⟩
    have hne : D' ≠ D := fun e => (List.nodup_cons.1 hn).1 (by rw [← e]; exact h')
    exact (World.putObj_heap_other hne).trans (hD D' (by simp [h']))
end Go.Proofs.YtcenagpkfimkbaaGreatDoor
namespace Go.Proofs.YtcenagpkfimkbaaGreatDoor
open Go Go.RowKit Go.Shelf

def HandsG (P : Program) (gf : FuncId) (lb : Array Value) {α : Type} (E : α → Array Value → World → (Nat → Prop) → (Nat → Prop) → Prop) (Part Fin : List α → Prop) (Pre : HP) : Prop :=
  ∀ (l : Nat) (J : List α → HP) (Jx : HP), (∀ pre, (J pre).Ok) → Jx.Ok →
    (∀ pre x args W S G, Part (pre ++ [x]) → E x args W S G → J pre W S → YieldAt Fence.wide 1 P l args W (YieldEnd (fun k => S k ∨ G k) (J (pre ++ [x])) Jx W)) →
    ∀ W S, J [] W S → Pre W S → Calls P gf (#[.func (.yield l) #[] #[]] ++ lb) W (HandsEnd Fin S J Jx W)

theorem wpIn_range_hpG {P : Program} {n : Nat} {g : Operand} {ps : Array Tmp} {assign body : Code} {Q : Exit → Act → World → Prop} {a : Act} {w : World} (hn : 1 ≤ n) {gf : FuncId} {lb : Array Value}
    (hg : a.eval g = .func (.func gf) #[] lb) (eg : ∀ args w, (callFunc gf args).run P w = .ok (.enter gf args) w) {α : Type} {E : α → Array Value → World → (Nat → Prop) → (Nat → Prop) → Prop} {Part Fin : List α → Prop} {Pre : HP} (hEG : ∀ x args W S G, E x args W S G → ∀ k, G k → ¬ S k ∧ k < W.heap.size) (hh : HandsG P gf lb E Part Fin Pre)
    (I : List α → HP) (Ix : HP) (hI : ∀ pre, (I pre).Ok) (hIx : Ix.Ok) (S0 : Nat → Prop) (h0 : I [] w S0) (hps : ∀ x args W S G, E x args W S G → args.size = ps.size)
    (hpre : ∀ (W : World) (S : Nat → Prop), Below w.heap.size w W → (∀ k, S k → S0 k ∨ w.heap.size ≤ k) → Pre W S)
    (hround : ∀ (l D : Nat) (pre : List α) (x : α) (args : Array Value) (W : World) (S G : Nat → Prop), Part (pre ++ [x]) → E x args W (fun k => S k ∨ k = l ∨ k = D) G → I pre W S → (∀ k, S k → k < W.heap.size) → l < W.heap.size → ¬ S l → W.heap.size ≠ l →
      assign.wpIn (Fence.wide.inRound l) 1 P (Exit.then (fun a' W' => Below W.heap.size W W' ∧ ∀ WB, (∃ o, WB = W'.putObj l o) → Moved (fun k => k = l) W' WB → I pre WB S →
        body.wpIn (Fence.wide.inRound l) 1 P (BodyEnd (fun k => S k ∨ G k ∨ W.heap.size ≤ k) (I (pre ++ [x])) Ix WB) a' WB) (fun _ _ _ => False)) { tmps := (ps.zip args).foldl (fun t (p, v) => t.setIfInBounds p v) a.tmps, defers := [] } W)
    (hdone : ∀ (D : Nat) (xs : List α) (W : World) (S : Nat → Prop), w.heap.size ≤ D → Fin xs → I xs W S → Grows S0 S w W → ¬ S D → W.heap[D]? = some (.deferred (some [])) → Q .normal { a with defers := markOf D :: a.defers } W)
    (hstop : ∀ (D : Nat) (W : World) (S : Nat → Prop), w.heap.size ≤ D → Ix W S → Grows S0 S w W → ¬ S D → W.heap[D]? = some (.deferred (some [])) → Code.ret.wpIn Fence.wide n P Q { a with defers := markOf D :: a.defers } W) :
    (Code.rangeFunc g ps assign body).wpIn Fence.wide n P Q a w := by
  refine wpIn_range_own rfl hn hg trivial eg ?_
  intro fn _ R hR
  have hlt0 := (hI []).lt h0
  obtain ⟨W1, hW1⟩ : ∃ W1, (w.alloc (.deferred (some []))).alloc (.loop (R .ready none)) = W1 := ⟨_, rfl⟩
  have hl1 : W1.heap[w.heap.size + 1]? = some (.loop (R .ready none)) := by rw [← hW1]; simpa using heap_alloc_eq (w.alloc (.deferred (some []))) (.loop (R .ready none))
  have hD1 : W1.heap[w.heap.size]? = some (.deferred (some [])) := by rw [← hW1]; exact heap_alloc_lt (heap_alloc_eq _ _) _
  have hb1 : Below w.heap.size w W1 := by rw [← hW1]; exact ((Below.refl _ _).alloc (Nat.le_refl _) _).alloc (by simp) _
  rw [hW1]
  have hJ0 : withRec (I []) (w.heap.size + 1) w.heap.size (.loop (R .ready none)) W1 (fun k => S0 k ∨ k = w.heap.size + 1 ∨ k = w.heap.size) :=
    ⟨S0, (hI []).below h0 hb1, fun e => by have := hlt0 _ e; omega, fun e => by have := hlt0 _ e; omega, hl1, hD1, fun k => Iff.rfl⟩
  have hcall := hh (w.heap.size + 1) (fun pre => withRec (I pre) (w.heap.size + 1) w.heap.size (.loop (R .ready none))) (withRec Ix (w.heap.size + 1) w.heap.size (.loop (R .done (some .ret))))
    (fun pre => withRec.ok (hI pre) _ _ _) (withRec.ok hIx _ _ _) ?_ W1 _ hJ0 (hpre W1 _ hb1 (fun k hk => by
      rcases hk with hk | hk | hk
      · exact .inl hk
      · exact .inr (by omega)
      · exact .inr (by omega)))
  · refine callsIn_wide.2 (hcall.mono ?_)
    rintro e W2 ⟨hv, S', hG, hend⟩
    refine ⟨hv, ?_⟩
    have hgr : ∀ (S1 : Nat → Prop) (o : Obj), (∀ k, S1 k → S' k) → Grows S0 S1 w (W2.putObj (w.heap.size + 1) o) := fun S1 o hs => by
      have g1 : Grows S0 S' w W2 := ⟨(Moved.of_below hb1 S0).trans hG.m (fun q hq => by
        rcases hq with hq | hq | hq
        · exact .inl hq
        · exact .inr (by omega)
        · exact .inr (by omega)), fun k hk => by
          rcases hG.s k hk with (h | h | h) | h
          · exact .inl h
          · exact .inr (by omega)
          · exact .inr (by omega)
          · exact .inr (by have := hb1.size; omega)⟩
      exact ⟨g1.m.trans (.of_grown (grownBy_putObj' W2 _ o) (S := fun k => k = w.heap.size + 1) (fun k e => by cases e; rfl)) (fun q e => .inr (by omega)), fun k hk => g1.s k (hs k hk)⟩
    have hmv : ∀ o, Moved (fun k => k = w.heap.size + 1) W2 (W2.putObj (w.heap.size + 1) o) := fun o => .of_grown (grownBy_putObj' W2 _ o) (fun k e => by cases e; rfl)
    rcases hend with ⟨xs, hF, S1, hp, n1, n2, hl, hD, hs⟩ | ⟨S1, hp, n1, n2, hl, hD, hs⟩
    · refine .inl ⟨hl, ?_⟩
      exact hdone w.heap.size xs _ S1 (Nat.le_refl _) hF ((hI xs).moved hp (hmv _) (fun k hk e => n1 (e ▸ hk))) (hgr S1 _ (fun k hk => (hs k).2 (.inl hk))) n2 ((World.putObj_heap_other (by omega)).trans hD)
    · refine .inr ⟨.ret, hl, ?_⟩
      exact hstop w.heap.size _ S1 (Nat.le_refl _) (hIx.moved hp (hmv _) (fun k hk e => n1 (e ▸ hk))) (hgr S1 _ (fun k hk => (hs k).2 (.inl hk))) n2 ((World.putObj_heap_other (by omega)).trans hD)
  · rintro pre x args W S G hpart hE ⟨S1, hp, n1, n2, hl, hD, hs⟩
    have hS : S = fun k => S1 k ∨ k = w.heap.size + 1 ∨ k = w.heap.size := funext fun k => propext (hs k)
    subst hS
    have hGn := hEG _ _ _ _ _ hE
    have hlW := heap_lt hl
    have hS1 := (hI pre).lt hp
    refine yield_round trivial (hl.trans (congrArg some (hR _ _))) (hps x args W _ _ hE) (wpIn_mono (hround (w.heap.size + 1) w.heap.size pre x args W S1 G hpart hE hp hS1 hlW n1 (by omega)) ?_)
    rintro e a' W' hex
    cases e with
    | exit id => exact hex
    | goto t => exact hex
    | ret => exact hex
    | panic c => exact hex
    | outgrown => exact hex
    | normal =>
    obtain ⟨hb', hax⟩ := hex
    have hl' := heap_below hb' hl hlW
    refine ⟨hl'.trans (congrArg some (hR _ _)), ?_⟩
    rw [← hR]
    have hm1 : Moved (fun k => k = w.heap.size + 1) W (W'.putObj (w.heap.size + 1) (.loop (R .busy none))) := (Moved.of_below hb' _).trans (.of_grown (grownBy_putObj' W' _ _) (S := fun k => k = w.heap.size + 1) (fun k e => by cases e; rfl)) (fun q e => .inl e)
    have hpB := (hI pre).moved hp hm1 (fun k hk e => n1 (e ▸ hk))
    have hlB : (W'.putObj (w.heap.size + 1) (.loop (R .busy none))).heap[w.heap.size + 1]? = some (.loop (R .busy none)) := World.putObj_heap_same (heap_lt hl')
    have hDB := hm1.heap hD (by omega)
    have hDlt := heap_lt hD
    refine wpIn_mono (hax _ ⟨_, rfl⟩ (.of_grown (grownBy_putObj' W' _ _) (fun k e => by cases e; rfl)) hpB) ?_
    rintro e a2 W2 h2
    have fin : ∀ (S' : Nat → Prop) (o : Obj) (q : HP), q.Ok → q W2 S' → Grows (fun k => S1 k ∨ G k ∨ W.heap.size ≤ k) S' (W'.putObj (w.heap.size + 1) (.loop (R .busy none))) W2 →
        W2.heap[w.heap.size + 1]? = some (.loop (R .busy none)) ∧ ∃ S3, Grows (fun k => (S1 k ∨ k = w.heap.size + 1 ∨ k = w.heap.size) ∨ G k) S3 W (W2.putObj (w.heap.size + 1) o) ∧ withRec q (w.heap.size + 1) w.heap.size o (W2.putObj (w.heap.size + 1) o) S3 := by
      intro S' o q hq hqW hg
      have hl2 := hg.m.heap hlB (by rintro (h | h | h)
                                    · exact n1 h
                                    · exact (hGn _ h).1 (.inr (.inl rfl))
                                    · omega)
      have hD2 := hg.m.heap hDB (by rintro (h | h | h)
                                    · exact n2 h
                                    · exact (hGn _ h).1 (.inr (.inr rfl))
                                    · omega)
      have hn1 : ¬ S' (w.heap.size + 1) := fun h => by
        rcases hg.s _ h with (h | h | h) | h
        · exact n1 h
        · exact (hGn _ h).1 (.inr (.inl rfl))
        · omega
        · have := heap_lt hlB; omega
      have hn2 : ¬ S' w.heap.size := fun h => by
        rcases hg.s _ h with (h | h | h) | h
        · exact n2 h
        · exact (hGn _ h).1 (.inr (.inr rfl))
        · omega
        · have := heap_lt hDB; omega
      have hmv : Moved (fun k => k = w.heap.size + 1) W2 (W2.putObj (w.heap.size + 1) o) := .of_grown (grownBy_putObj' W2 _ o) (fun k e => by cases e; rfl)
      refine ⟨hl2, fun k => S' k ∨ k = w.heap.size + 1 ∨ k = w.heap.size, ⟨(((Moved.refl _ W).trans hm1 (fun q e => .inl (.inl (.inr (.inl e))))).trans hg.m (fun q e => e.elim (fun e => .inl (.inl (.inl e))) (fun e => e.elim (fun e => .inl (.inr e)) .inr))).trans hmv (fun q e => .inl (.inl (.inr (.inl e)))), fun k hk => ?_⟩, S', hq.moved hqW hmv (fun k hk e => hn1 (e ▸ hk)), hn1, hn2, World.putObj_heap_same (heap_lt hl2), (World.putObj_heap_other (by omega)).trans hD2, fun k => Iff.rfl⟩
      rcases hk with hk | hk
      · rcases hg.s k hk with (h | h | h) | h
        · exact .inl (.inl (.inl h))
        · exact .inl (.inr h)
        · exact .inr h
        · exact .inr (Nat.le_trans hm1.size h)
      · exact .inl (.inl (.inr hk))
    cases e with
    | normal =>
      obtain ⟨S', hg, hi⟩ := h2
      obtain ⟨f1, S3, f2, f3⟩ := fin S' _ _ (hI _) hi hg
      refine ⟨f1.trans (congrArg some (hR _ _)), ?_⟩
      rw [← hR]
      exact ⟨S3, f2, .inl ⟨rfl, f3⟩⟩
    | ret =>
      obtain ⟨S', hg, hi⟩ := h2
      obtain ⟨f1, S3, f2, f3⟩ := fin S' _ _ hIx hi hg
      refine ⟨f1.trans (congrArg some (hR _ _)), ?_⟩
      rw [← hR]
      exact ⟨S3, f2, .inr ⟨rfl, f3⟩⟩
    | exit id => exact h2.elim
    | goto t => exact h2.elim
    | panic c => exact h2.elim
    | outgrown => exact h2.elim

end Go.Proofs.YtcenagpkfimkbaaGreatDoor
namespace Go.Proofs.YtcenagpkfimkbaaGreatDoor
open Go Go.RowKit Go.Shelf

def HandsK (P : Program) (gf : FuncId) (lb : Array Value) {α : Type} (E : α → Array Value → HP) (Part Fin : List α → Prop) (Pre : HP) (Kn : List α → World → Prop) : Prop :=
  ∀ (l : Nat) (J : List α → HP) (Jx : HP), (∀ pre, (J pre).Ok) → Jx.Ok → (∀ pre W S, J pre W S → Kn pre W) →
    (∀ pre x args W S, Part (pre ++ [x]) → E x args W S → J pre W S → YieldAt Fence.wide 1 P l args W (YieldEnd S (J (pre ++ [x])) Jx W)) →
    ∀ W S, J [] W S → Pre W S → Calls P gf (#[.func (.yield l) #[] #[]] ++ lb) W (HandsEnd Fin S J Jx W)
theorem wpIn_range_hpK {P : Program} {n : Nat} {g : Operand} {ps : Array Tmp} {assign body : Code} {Q : Exit → Act → World → Prop} {a : Act} {w : World} (hn : 1 ≤ n) {gf : FuncId} {lb : Array Value}
    (hg : a.eval g = .func (.func gf) #[] lb) (eg : ∀ args w, (callFunc gf args).run P w = .ok (.enter gf args) w) {α : Type} {E : α → Array Value → HP} {Part Fin : List α → Prop} {Pre : HP} {Kn : List α → World → Prop} (hh : HandsK P gf lb E Part Fin Pre Kn)
    (I : List α → HP) (Ix : HP) (hI : ∀ pre, (I pre).Ok) (hIx : Ix.Ok) (S0 : Nat → Prop) (h0 : I [] w S0) (hps : ∀ x args W S, E x args W S → args.size = ps.size)
    (hKn : ∀ pre W S, I pre W S → Kn pre W) (hpre : ∀ (W : World) (S : Nat → Prop), Below w.heap.size w W → (∀ k, S k → S0 k ∨ w.heap.size ≤ k) → Pre W S)
    (hround : ∀ (l D : Nat) (pre : List α) (x : α) (args : Array Value) (W : World) (S : Nat → Prop), Part (pre ++ [x]) → E x args W (fun k => S k ∨ k = l ∨ k = D) → I pre W S → (∀ k, S k → k < W.heap.size) → l < W.heap.size → ¬ S l → W.heap.size ≠ l →
      assign.wpIn (Fence.wide.inRound l) 1 P (Exit.then (fun a' W' => Below W.heap.size W W' ∧ ∀ WB, (∃ o, WB = W'.putObj l o) → Moved (fun k => k = l) W' WB → I pre WB S →
        body.wpIn (Fence.wide.inRound l) 1 P (BodyEnd (fun k => S k ∨ W.heap.size ≤ k) (I (pre ++ [x])) Ix WB) a' WB) (fun _ _ _ => False)) { tmps := (ps.zip args).foldl (fun t (p, v) => t.setIfInBounds p v) a.tmps, defers := [] } W)
    (hdone : ∀ (D : Nat) (xs : List α) (W : World) (S : Nat → Prop), w.heap.size ≤ D → Fin xs → I xs W S → Grows S0 S w W → ¬ S D → W.heap[D]? = some (.deferred (some [])) → Q .normal { a with defers := markOf D :: a.defers } W)
    (hstop : ∀ (D : Nat) (W : World) (S : Nat → Prop), w.heap.size ≤ D → Ix W S → Grows S0 S w W → ¬ S D → W.heap[D]? = some (.deferred (some [])) → Code.ret.wpIn Fence.wide n P Q { a with defers := markOf D :: a.defers } W) :
    (Code.rangeFunc g ps assign body).wpIn Fence.wide n P Q a w := by
  refine wpIn_range_own rfl hn hg trivial eg ?_
  intro fn _ R hR
  have hlt0 := (hI []).lt h0
  obtain ⟨W1, hW1⟩ : ∃ W1, (w.alloc (.deferred (some []))).alloc (.loop (R .ready none)) = W1 := ⟨_, rfl⟩
  have hl1 : W1.heap[w.heap.size + 1]? = some (.loop (R .ready none)) := by rw [← hW1]; simpa using heap_alloc_eq (w.alloc (.deferred (some []))) (.loop (R .ready none))
  have hD1 : W1.heap[w.heap.size]? = some (.deferred (some [])) := by rw [← hW1]; exact heap_alloc_lt (heap_alloc_eq _ _) _
  have hb1 : Below w.heap.size w W1 := by rw [← hW1]; exact ((Below.refl _ _).alloc (Nat.le_refl _) _).alloc (by simp) _
  rw [hW1]
  have hJ0 : withRec (I []) (w.heap.size + 1) w.heap.size (.loop (R .ready none)) W1 (fun k => S0 k ∨ k = w.heap.size + 1 ∨ k = w.heap.size) :=
    ⟨S0, (hI []).below h0 hb1, fun e => by have := hlt0 _ e; omega, fun e => by have := hlt0 _ e; omega, hl1, hD1, fun k => Iff.rfl⟩
  have hcall := hh (w.heap.size + 1) (fun pre => withRec (I pre) (w.heap.size + 1) w.heap.size (.loop (R .ready none))) (withRec Ix (w.heap.size + 1) w.heap.size (.loop (R .done (some .ret))))
    (fun pre => withRec.ok (hI pre) _ _ _) (withRec.ok hIx _ _ _) (fun pre W S ⟨S1, h, _⟩ => hKn pre W S1 h) ?_ W1 _ hJ0 (hpre W1 _ hb1 (fun k hk => by
      rcases hk with hk | hk | hk
      · exact .inl hk
      · exact .inr (by omega)
      · exact .inr (by omega)))
  · refine callsIn_wide.2 (hcall.mono ?_)
    rintro e W2 ⟨hv, S', hG, hend⟩
    refine ⟨hv, ?_⟩
    have hgr : ∀ (S1 : Nat → Prop) (o : Obj), (∀ k, S1 k → S' k) → Grows S0 S1 w (W2.putObj (w.heap.size + 1) o) := fun S1 o hs => by
      have g1 : Grows S0 S' w W2 := ⟨(Moved.of_below hb1 S0).trans hG.m (fun q hq => by
        rcases hq with hq | hq | hq
        · exact .inl hq
        · exact .inr (by omega)
        · exact .inr (by omega)), fun k hk => by
          rcases hG.s k hk with (h | h | h) | h
          · exact .inl h
          · exact .inr (by omega)
          · exact .inr (by omega)
          · exact .inr (by have := hb1.size; omega)⟩
      exact ⟨g1.m.trans (.of_grown (grownBy_putObj' W2 _ o) (S := fun k => k = w.heap.size + 1) (fun k e => by cases e; rfl)) (fun q e => .inr (by omega)), fun k hk => g1.s k (hs k hk)⟩
    have hmv : ∀ o, Moved (fun k => k = w.heap.size + 1) W2 (W2.putObj (w.heap.size + 1) o) := fun o => .of_grown (grownBy_putObj' W2 _ o) (fun k e => by cases e; rfl)
    rcases hend with ⟨xs, hF, S1, hp, n1, n2, hl, hD, hs⟩ | ⟨S1, hp, n1, n2, hl, hD, hs⟩
    · refine .inl ⟨hl, ?_⟩
      exact hdone w.heap.size xs _ S1 (Nat.le_refl _) hF ((hI xs).moved hp (hmv _) (fun k hk e => n1 (e ▸ hk))) (hgr S1 _ (fun k hk => (hs k).2 (.inl hk))) n2 ((World.putObj_heap_other (by omega)).trans hD)
    · refine .inr ⟨.ret, hl, ?_⟩
      exact hstop w.heap.size _ S1 (Nat.le_refl _) (hIx.moved hp (hmv _) (fun k hk e => n1 (e ▸ hk))) (hgr S1 _ (fun k hk => (hs k).2 (.inl hk))) n2 ((World.putObj_heap_other (by omega)).trans hD)
  · rintro pre x args W S hpart hE ⟨S1, hp, n1, n2, hl, hD, hs⟩
    have hS : S = fun k => S1 k ∨ k = w.heap.size + 1 ∨ k = w.heap.size := funext fun k => propext (hs k)
    subst hS
    have hlW := heap_lt hl
    have hS1 := (hI pre).lt hp
    refine yield_round trivial (hl.trans (congrArg some (hR _ _))) (hps x args W _ hE) (wpIn_mono (hround (w.heap.size + 1) w.heap.size pre x args W S1 hpart hE hp hS1 hlW n1 (by omega)) ?_)
    rintro e a' W' hex
    cases e with
    | exit id => exact hex
    | goto t => exact hex
    | ret => exact hex
    | panic c => exact hex
    | outgrown => exact hex
    | normal =>
    obtain ⟨hb', hax⟩ := hex
    have hl' := heap_below hb' hl hlW
    refine ⟨hl'.trans (congrArg some (hR _ _)), ?_⟩
    rw [← hR]
    have hm1 : Moved (fun k => k = w.heap.size + 1) W (W'.putObj (w.heap.size + 1) (.loop (R .busy none))) := (Moved.of_below hb' _).trans (.of_grown (grownBy_putObj' W' _ _) (S := fun k => k = w.heap.size + 1) (fun k e => by cases e; rfl)) (fun q e => .inl e)
    have hpB := (hI pre).moved hp hm1 (fun k hk e => n1 (e ▸ hk))
    have hlB : (W'.putObj (w.heap.size + 1) (.loop (R .busy none))).heap[w.heap.size + 1]? = some (.loop (R .busy none)) := World.putObj_heap_same (heap_lt hl')
    have hDB := hm1.heap hD (by omega)
    have hDlt := heap_lt hD
    refine wpIn_mono (hax _ ⟨_, rfl⟩ (.of_grown (grownBy_putObj' W' _ _) (fun k e => by cases e; rfl)) hpB) ?_
    rintro e a2 W2 h2
    have fin : ∀ (S' : Nat → Prop) (o : Obj) (q : HP), q.Ok → q W2 S' → Grows (fun k => S1 k ∨ W.heap.size ≤ k) S' (W'.putObj (w.heap.size + 1) (.loop (R .busy none))) W2 →
        W2.heap[w.heap.size + 1]? = some (.loop (R .busy none)) ∧ ∃ S3, Grows (fun k => S1 k ∨ k = w.heap.size + 1 ∨ k = w.heap.size) S3 W (W2.putObj (w.heap.size + 1) o) ∧ withRec q (w.heap.size + 1) w.heap.size o (W2.putObj (w.heap.size + 1) o) S3 := by
      intro S' o q hq hqW hg
      have hl2 := hg.m.heap hlB (by rintro (h | h)
                                    · exact n1 h
                                    · omega)
      have hD2 := hg.m.heap hDB (by rintro (h | h)
                                    · exact n2 h
                                    · omega)
      have hn1 : ¬ S' (w.heap.size + 1) := fun h => by
        rcases hg.s _ h with (h | h) | h
        · exact n1 h
        · omega
        · have := heap_lt hlB; omega
      have hn2 : ¬ S' w.heap.size := fun h => by
        rcases hg.s _ h with (h | h) | h
        · exact n2 h
        · omega
        · have := heap_lt hDB; omega
      have hmv : Moved (fun k => k = w.heap.size + 1) W2 (W2.putObj (w.heap.size + 1) o) := .of_grown (grownBy_putObj' W2 _ o) (fun k e => by cases e; rfl)
      refine ⟨hl2, fun k => S' k ∨ k = w.heap.size + 1 ∨ k = w.heap.size, ⟨(((Moved.refl _ W).trans hm1 (fun q e => .inl (.inr (.inl e)))).trans hg.m (fun q e => e.elim (fun e => .inl (.inl e)) .inr)).trans hmv (fun q e => .inl (.inr (.inl e))), fun k hk => ?_⟩, S', hq.moved hqW hmv (fun k hk e => hn1 (e ▸ hk)), hn1, hn2, World.putObj_heap_same (heap_lt hl2), (World.putObj_heap_other (by omega)).trans hD2, fun k => Iff.rfl⟩
      rcases hk with hk | hk
      · rcases hg.s k hk with (h | h) | h
        · exact .inl (.inl h)
        · exact .inr h
        · exact .inr (Nat.le_trans hm1.size h)
      · exact .inl (.inr hk)
    cases e with
    | normal =>
      obtain ⟨S', hg, hi⟩ := h2
      obtain ⟨f1, S3, f2, f3⟩ := fin S' _ _ (hI _) hi hg
      refine ⟨f1.trans (congrArg some (hR _ _)), ?_⟩
      rw [← hR]
      exact ⟨S3, f2, .inl ⟨rfl, f3⟩⟩
    | ret =>
      obtain ⟨S', hg, hi⟩ := h2
      obtain ⟨f1, S3, f2, f3⟩ := fin S' _ _ hIx hi hg
      refine ⟨f1.trans (congrArg some (hR _ _)), ?_⟩
      rw [← hR]
      exact ⟨S3, f2, .inr ⟨rfl, f3⟩⟩
    | exit id => exact h2.elim
    | goto t => exact h2.elim
    | panic c => exact h2.elim
    | outgrown => exact h2.elim

end Go.Proofs.YtcenagpkfimkbaaGreatDoor
