/-
  Contracts of functions of the program, laid together.
-/
import Derived.Test.YtcenagpkfimkbaaGreatDoorTopNamesM1
import Derived.Maps.OwnSet
import Derived.Maps.OwnOps
import Derived.StillTailTactics
import Derived.Deep.QuietTactic
import Derived.BigQuiet
import Derived.Deep.RegionHeld3
/-
  Things in memory and the blocks that are theirs: what a call may turn, and how many things lie beside each other.
-/
namespace Go.Proofs.YtcenagpkfimkbaaGreatDoor
open Go Go.RowKit

/-- A call that turns the blocks of S alone, and makes new ones: what is S' behind it was S, or is new. -/
structure Grows (S S' : Nat → Prop) (w w' : World) : Prop where
  m : Moved S w w'
  s : ∀ k, S' k → S k ∨ w.heap.size ≤ k
theorem Grows.refl (S : Nat → Prop) (w : World) : Grows S S w w := ⟨Moved.refl _ _, fun _ h => .inl h⟩
theorem Grows.trans {S S' S'' : Nat → Prop} {a b c : World} (h : Grows S S' a b) (k : Grows S' S'' b c) : Grows S S'' a c :=
  ⟨h.m.trans k.m h.s, fun q hq => (k.s q hq).elim (h.s q) (fun e => .inr (Nat.le_trans h.m.size e))⟩
theorem Grows.below {S : Nat → Prop} {a b : World} (h : Below a.heap.size a b) : Grows S S a b := ⟨Moved.of_below h S, fun _ e => .inl e⟩
theorem Grows.then_below {S S' : Nat → Prop} {a b c : World} (h : Grows S S' a b) (k : Below b.heap.size b c) : Grows S S' a c := h.trans (.below k)
theorem Grows.after_below {S S' : Nat → Prop} {a b c : World} (k : Below a.heap.size a b) (h : Grows S S' b c) : Grows S S' a c := (Grows.below k).trans h
/-- In a greater set of blocks. -/
theorem Grows.wide {S S' T : Nat → Prop} {a b : World} (h : Grows S S' a b) (hs : ∀ k, S k → T k) : Grows T (fun k => S' k ∨ (T k ∧ ¬ S k)) a b :=
  ⟨⟨h.m.os, h.m.tape, h.m.output, h.m.size, fun k hk ht => h.m.block k hk (fun e => ht (hs k e))⟩, fun k hk => hk.elim (fun e => (h.s k e).imp_left (hs k)) (fun e => .inl e.1)⟩

/-- What is said of a world and of some blocks. -/
abbrev HP := World → (Nat → Prop) → Prop
/-- It stays while other blocks turn; its blocks are there. -/
structure HP.Ok (p : HP) : Prop where
  moved : ∀ {w w' : World} {S T : Nat → Prop}, p w S → Moved T w w' → (∀ k, S k → ¬ T k) → p w' S
  lt : ∀ {w : World} {S : Nat → Prop}, p w S → ∀ k, S k → k < w.heap.size
theorem HP.Ok.below {p : HP} (o : p.Ok) {w w' : World} {S : Nat → Prop} (h : p w S) (hb : Below w.heap.size w w') : p w' S :=
  o.moved h (Moved.of_below hb (fun _ => False)) (fun _ _ e => e)

/-- Nothing. -/
def hemp : HP := fun _ S => ∀ k, ¬ S k
theorem hemp_ok : hemp.Ok := ⟨fun h _ _ => h, fun h k e => absurd e (h k)⟩

/-- Things beside each other, by numbers from 1 on. -/
def Sep (P : Nat → HP) : HP := fun w S => ∃ γ : Nat → Nat, (∀ k, S k ↔ γ k ≠ 0) ∧ ∀ i, 0 < i → P i w (fun k => γ k = i)
theorem Sep.ok {P : Nat → HP} (o : ∀ i, (P i).Ok) : (Sep P).Ok := by
  constructor
  · rintro w w' S T ⟨γ, h1, h2⟩ hm hd
    exact ⟨γ, h1, fun i hi => (o i).moved (h2 i hi) hm (fun k hk => hd k ((h1 k).2 (by omega)))⟩
  · rintro w S ⟨γ, h1, h2⟩ k hk
    have h0 := (h1 k).1 hk
    exact (o (γ k)).lt (h2 (γ k) (by omega)) k rfl

/-- One of them in another state. -/
def upd (P : Nat → HP) (i : Nat) (p : HP) : Nat → HP := fun j => if j = i then p else P j
theorem upd_same (P : Nat → HP) (i : Nat) (p : HP) : upd P i p i = p := by simp [upd]
theorem upd_ne (P : Nat → HP) {i j : Nat} (p : HP) (h : j ≠ i) : upd P i p j = P j := by simp [upd, h]
theorem upd_self (P : Nat → HP) (i : Nat) : upd P i (P i) = P := by funext j; unfold upd; split <;> simp_all
theorem upd_upd (P : Nat → HP) (i : Nat) (p q : HP) : upd (upd P i p) i q = upd P i q := by funext j; unfold upd; split <;> rfl

/-- One of them taken out, and laid back in another state. -/
theorem Sep.open_ {P : Nat → HP} (o : ∀ i, (P i).Ok) {w : World} {S : Nat → Prop} (h : Sep P w S) (i : Nat) (hi : 0 < i) :
    ∃ S0, P i w S0 ∧ (∀ k, S0 k → S k) ∧ ∀ (w' : World) (S0' : Nat → Prop) (p' : HP), p' w' S0' → Grows S0 S0' w w' → ∃ S', Sep (upd P i p') w' S' ∧ Grows S S' w w' := by
  obtain ⟨γ, h1, h2⟩ := h
  refine ⟨fun k => γ k = i, h2 i hi, fun k hk => (h1 k).2 (by omega), fun w' S0' p' hp hg => ?_⟩
  classical
  have hlt : ∀ k, γ k ≠ 0 → k < w.heap.size := fun k hk => (o (γ k)).lt (h2 (γ k) (by omega)) k rfl
  refine ⟨fun k => S0' k ∨ (γ k ≠ 0 ∧ γ k ≠ i), ⟨fun k => if S0' k then i else if γ k = i then 0 else γ k, fun k => ?_, fun j hj => ?_⟩, ⟨⟨hg.m.os, hg.m.tape, hg.m.output, hg.m.size, fun k hk hs => hg.m.block k hk (fun e => hs ((h1 k).2 (by omega)))⟩, fun k hk => ?_⟩⟩
  · by_cases hs : S0' k
    · simp [hs]; omega
    · by_cases hi' : γ k = i
      · simp [hs, hi']
      · simp [hs, hi']
  · by_cases hji : j = i
    · subst hji
      rw [upd_same]
      have e : (fun k => (if S0' k then j else if γ k = j then 0 else γ k) = j) = S0' := by
        funext k
        by_cases hs : S0' k
        · simp [hs]
        · by_cases hi' : γ k = j
          · simp [hs, hi']; omega
          · simp [hs, hi']
      rw [e]
      exact hp
    · rw [upd_ne _ _ hji]
      have e : (fun k => (if S0' k then i else if γ k = i then 0 else γ k) = j) = (fun k => γ k = j) := by
        funext k
        by_cases hs : S0' k
        · rw [if_pos hs]
          refine propext ⟨fun h => absurd h.symm hji, fun h => ?_⟩
          rcases hg.s k hs with h' | h'
          · omega
          · have := hlt k (by omega); omega
        · rw [if_neg hs]
          by_cases hi' : γ k = i
          · rw [if_pos hi']; refine propext ⟨fun h => by omega, fun h => by omega⟩
          · rw [if_neg hi']
      rw [e]
      exact (o j).moved (h2 j hj) hg.m (fun k hk => by omega)
  · rcases hk with hk | hk
    · exact (hg.s k hk).imp_left fun e => (h1 k).2 (by omega)
    · exact .inl ((h1 k).2 hk.1)

/-- Two of them taken out. -/
theorem Sep.open2 {P : Nat → HP} (o : ∀ i, (P i).Ok) {w : World} {S : Nat → Prop} (h : Sep P w S) (i j : Nat) (hi : 0 < i) (hj : 0 < j) (hij : i ≠ j) :
    ∃ S1 S2, P i w S1 ∧ P j w S2 ∧ (∀ k, S1 k → ¬ S2 k) ∧ (∀ k, S1 k ∨ S2 k → S k) ∧ ∀ (w' : World) (S1' S2' : Nat → Prop) (p q : HP), p w' S1' → q w' S2' → (∀ k, S1' k → ¬ S2' k) → Grows (fun k => S1 k ∨ S2 k) (fun k => S1' k ∨ S2' k) w w' → ∃ S', Sep (upd (upd P i p) j q) w' S' ∧ Grows S S' w w' := by
  obtain ⟨γ, h1, h2⟩ := h
  refine ⟨fun k => γ k = i, fun k => γ k = j, h2 i hi, h2 j hj, fun k hk => by omega, fun k hk => (h1 k).2 (by omega), fun w' S1' S2' p q hp hq hd hg => ?_⟩
  classical
  have hlt : ∀ k, γ k ≠ 0 → k < w.heap.size := fun k hk => (o (γ k)).lt (h2 (γ k) (by omega)) k rfl
  refine ⟨fun k => S1' k ∨ S2' k ∨ (γ k ≠ 0 ∧ γ k ≠ i ∧ γ k ≠ j), ⟨fun k => if S1' k then i else if S2' k then j else if γ k = i ∨ γ k = j then 0 else γ k, fun k => ?_, fun l hl => ?_⟩, ⟨⟨hg.m.os, hg.m.tape, hg.m.output, hg.m.size, fun k hk hs => hg.m.block k hk (fun e => hs ((h1 k).2 (by omega)))⟩, fun k hk => ?_⟩⟩
  · by_cases hs : S1' k
    · simp [hs]; omega
    · by_cases ht : S2' k
      · simp [hs, ht]; omega
      · by_cases hi' : γ k = i ∨ γ k = j
        · simp [hs, ht, hi']; omega
        · simp [hs, ht, hi']; omega
  · by_cases hli : l = i
    · subst hli
      rw [upd_ne _ _ hij, upd_same]
      have e : (fun k => (if S1' k then l else if S2' k then j else if γ k = l ∨ γ k = j then 0 else γ k) = l) = S1' := by
        funext k
        by_cases hs : S1' k
        · simp [hs]
        · by_cases ht : S2' k
          · simp [hs, ht]; omega
          · by_cases hi' : γ k = l ∨ γ k = j
            · simp [hs, ht, hi']; omega
            · simp [hs, ht, hi']; omega
      rw [e]
      exact hp
    · by_cases hlj : l = j
      · subst hlj
        rw [upd_same]
        have e : (fun k => (if S1' k then i else if S2' k then l else if γ k = i ∨ γ k = l then 0 else γ k) = l) = S2' := by
          funext k
          by_cases hs : S1' k
          · have := hd k hs; simp [hs, this]; omega
          · by_cases ht : S2' k
            · simp [hs, ht]
            · by_cases hi' : γ k = i ∨ γ k = l
              · simp [hs, ht, hi']; omega
              · simp [hs, ht, hi']; omega
        rw [e]
        exact hq
      · rw [upd_ne _ _ hlj, upd_ne _ _ hli]
        have e : (fun k => (if S1' k then i else if S2' k then j else if γ k = i ∨ γ k = j then 0 else γ k) = l) = (fun k => γ k = l) := by
          funext k
          by_cases hs : S1' k ∨ S2' k
          · have hk : ¬ γ k = l := fun h => by
              rcases hg.s k hs with h' | h'
              · omega
              · have := hlt k (by omega); omega
            by_cases h5 : S1' k
            · simp [h5, hk]; omega
            · have h6 : S2' k := hs.resolve_left h5
              simp [h5, h6, hk]; omega
          · have h5 : ¬ S1' k := fun e => hs (.inl e)
            have h6 : ¬ S2' k := fun e => hs (.inr e)
            by_cases hi' : γ k = i ∨ γ k = j
            · simp [h5, h6, hi']; omega
            · simp [h5, h6, hi']
        rw [e]
        exact (o l).moved (h2 l hl) hg.m (fun k hk => by omega)
  · rcases hk with hk | hk | hk
    · exact (hg.s k (.inl hk)).imp_left fun e => (h1 k).2 (by omega)
    · exact (hg.s k (.inr hk)).imp_left fun e => (h1 k).2 (by omega)
    · exact .inl ((h1 k).2 hk.1)
end Go.Proofs.YtcenagpkfimkbaaGreatDoor
/-
  Maps whose keys are whole numbers, as sorted lists of keys and values.
-/
namespace Go.Proofs.YtcenagpkfimkbaaGreatDoor
open Go Go.RowKit

abbrev IM (α : Type) := List (Int × α)
section
variable {α : Type}
/-- What is at a key. -/
def lk (m : IM α) (k : Int) : Option α := (m.find? (fun p => decide (p.1 = k))).map (·.2)
def mins (x : Int × α) : IM α → IM α
  | [] => [x]
  | y :: r => if x.1 < y.1 then x :: y :: r else y :: mins x r
def mdel (m : IM α) (k : Int) : IM α := m.filter fun p => decide (p.1 ≠ k)
def mput (m : IM α) (k : Int) (v : α) : IM α := mins (k, v) (mdel m k)
def Rising (m : IM α) : Prop := m.Pairwise (fun p r => p.1 < r.1)

theorem mem_mins {x y : Int × α} {m : IM α} : y ∈ mins x m ↔ y = x ∨ y ∈ m := by
  induction m with
  | nil => simp [mins]
  | cons z r ih =>
    unfold mins
    split
    · simp
    · simp [ih]
      constructor
      · rintro (h | h | h)
        · exact .inr (.inl h)
        · exact .inl h
        · exact .inr (.inr h)
      · rintro (h | h | h)
        · exact .inr (.inl h)
        · exact .inl h
        · exact .inr (.inr h)
theorem mem_mdel {y : Int × α} {m : IM α} {k : Int} : y ∈ mdel m k ↔ y ∈ m ∧ y.1 ≠ k := by simp [mdel]
theorem Rising.del {m : IM α} (h : Rising m) (k : Int) : Rising (mdel m k) := h.filter _
theorem Rising.ins {m : IM α} (h : Rising m) (x : Int × α) (hx : ∀ y ∈ m, y.1 ≠ x.1) : Rising (mins x m) := by
  induction m with
  | nil => simp [mins, Rising]
  | cons z r ih =>
    obtain ⟨h1, h2⟩ := List.pairwise_cons.1 h
    unfold mins
    split
    · rename_i hlt
      refine List.pairwise_cons.2 ⟨fun y hy => ?_, h⟩
      rcases List.mem_cons.1 hy with rfl | hy
      · exact hlt
      · have := h1 y hy; omega
    · rename_i hlt
      have hz := hx z (by simp)
      refine List.pairwise_cons.2 ⟨fun y hy => ?_, ih h2 (fun y hy => hx y (by simp [hy]))⟩
      rcases mem_mins.1 hy with rfl | hy
      · omega
      · exact h1 y hy
theorem Rising.put {m : IM α} (h : Rising m) (k : Int) (v : α) : Rising (mput m k v) :=
  (h.del k).ins _ (fun _ hy => (mem_mdel.1 hy).2)
theorem lk_some {m : IM α} (h : Rising m) {k : Int} {v : α} : lk m k = some v ↔ (k, v) ∈ m := by
  induction m with
  | nil => simp [lk]
  | cons z r ih =>
    obtain ⟨h1, h2⟩ := List.pairwise_cons.1 h
    have ih := ih h2
    unfold lk at ih ⊢
    by_cases e : z.1 = k
    · rw [List.find?_cons_of_pos (by simpa using e)]
      simp only [Option.map_some, Option.some.injEq, List.mem_cons]
      constructor
      · rintro rfl; exact .inl (by rw [← e])
      · rintro (h | h)
        · rw [← h]
        · have := h1 _ h; simp at this; omega
    · rw [List.find?_cons_of_neg (by simpa using e), ih, List.mem_cons]
      constructor
      · exact .inr
      · rintro (h | h)
        · rw [← h] at e; simp at e
        · exact h
theorem lk_none {m : IM α} (h : Rising m) {k : Int} : lk m k = none ↔ ∀ v, (k, v) ∉ m := by
  constructor
  · intro e v hv
    rw [(lk_some h).2 hv] at e
    cases e
  · intro hv
    cases e : lk m k with
    | none => rfl
    | some v => exact absurd ((lk_some h).1 e) (hv v)
theorem lk_put {m : IM α} (h : Rising m) (k : Int) (v : α) (j : Int) : lk (mput m k v) j = if j = k then some v else lk m j := by
  by_cases e : j = k
  · subst e
    rw [if_pos rfl, lk_some (h.put _ _)]
    exact mem_mins.2 (.inl rfl)
  · rw [if_neg e]
    cases hj : lk m j with
    | none =>
      rw [lk_none (h.put _ _)]
      intro u hu
      rcases mem_mins.1 hu with hu | hu
      · simp at hu; exact e hu.1
      · exact (lk_none h).1 hj u (mem_mdel.1 hu).1
    | some u =>
      rw [lk_some (h.put _ _)]
      exact mem_mins.2 (.inr (mem_mdel.2 ⟨(lk_some h).1 hj, e⟩))
theorem lk_del {m : IM α} (h : Rising m) (k : Int) (j : Int) : lk (mdel m k) j = if j = k then none else lk m j := by
  by_cases e : j = k
  · subst e
    rw [if_pos rfl, lk_none (h.del _)]
    intro v hv
    exact (mem_mdel.1 hv).2 rfl
  · rw [if_neg e]
    cases hj : lk m j with
    | none =>
      rw [lk_none (h.del _)]
      intro u hu
      exact (lk_none h).1 hj u (mem_mdel.1 hu).1
    | some u =>
      rw [lk_some (h.del _)]
      exact mem_mdel.2 ⟨(lk_some h).1 hj, e⟩
/-- Values turned into others. -/
def mapV {β : Type} (f : α → β) (m : IM α) : IM β := m.map fun p => (p.1, f p.2)
theorem lk_mapV {β : Type} (f : α → β) (m : IM α) (k : Int) : lk (mapV f m) k = (lk m k).map f := by
  unfold lk mapV
  rw [List.find?_map]
  simp only [Function.comp_def]
  cases m.find? (fun p => decide (p.1 = k)) <;> rfl
theorem mdel_mapV {β : Type} (f : α → β) (m : IM α) (k : Int) : mdel (mapV f m) k = mapV f (mdel m k) := by
  unfold mdel mapV
  rw [List.filter_map]
  rfl
theorem mins_mapV {β : Type} (f : α → β) (m : IM α) (k : Int) (v : α) : mins (k, f v) (mapV f m) = mapV f (mins (k, v) m) := by
  induction m with
  | nil => rfl
  | cons z r ih =>
    have e : mapV f (z :: r) = (z.1, f z.2) :: mapV f r := rfl
    rw [e]
    unfold mins
    simp only
    split
    · rfl
    · rw [ih]; rfl
theorem mput_mapV {β : Type} (f : α → β) (m : IM α) (k : Int) (v : α) : mput (mapV f m) k (f v) = mapV f (mput m k v) := by
  unfold mput
  rw [mdel_mapV, mins_mapV]
theorem mapV_length {β : Type} (f : α → β) (m : IM α) : (mapV f m).length = m.length := by simp [mapV]
theorem rising_mapV {β : Type} (f : α → β) (m : IM α) : Rising (mapV f m) ↔ Rising m := by
  unfold Rising mapV
  rw [List.pairwise_map]
theorem mins_length (x : Int × α) (m : IM α) : (mins x m).length = m.length + 1 := by
  induction m with
  | nil => rfl
  | cons z r ih =>
    unfold mins
    split
    · rfl
    · simp [ih]
theorem mput_length (m : IM α) (k : Int) (v : α) : (mput m k v).length ≤ m.length + 1 := by
  unfold mput
  rw [mins_length]
  have := List.length_filter_le (fun p : Int × α => decide (p.1 ≠ k)) m
  unfold mdel
  omega
theorem mdel_length (m : IM α) (k : Int) : (mdel m k).length ≤ m.length := List.length_filter_le _ _
end

/-! ### As the library's maps -/
def idElem : Value → Option (DataW Value × List MemPlace) := fun v => some (.held v, [])
def encM (q : IntKind) (m : IM Value) : DataW Value := .map (m.map fun p => (Lit.int q p.1, .held p.2))
theorem enc_find (q : IntKind) (m : IM Value) (k : Int) : (m.map fun p => (Lit.int q p.1, (DataW.held p.2 : DataW Value))).find? (fun p => p.1.sameKey (.int q k)) = (lk m k).map fun v => (Lit.int q k, .held v) := by
  induction m with
  | nil => rfl
  | cons z r ih =>
    unfold lk at ih ⊢
    by_cases e : z.1 = k
    · rw [List.map_cons, List.find?_cons_of_pos (by simp [Lit.sameKey, e]), List.find?_cons_of_pos (by simpa using e)]
      simp [e]
    · rw [List.map_cons, List.find?_cons_of_neg (by simp [Lit.sameKey, e]), List.find?_cons_of_neg (by simpa using e), ih]
theorem enc_at (q : IntKind) (m : IM Value) (k : Int) (z : Value) : (encM q m).atKey (.int q k) (.held z) = .held ((lk m k).getD z) := by
  unfold DataW.atKey encM
  simp only [enc_find]
  cases lk m k <;> rfl
theorem enc_has (q : IntKind) (m : IM Value) (k : Int) : Maps.has (encM q m) (.int q k) = (lk m k).isSome := by
  unfold encM
  rw [Maps.has_eq, ← List.isSome_find?, enc_find]
  cases lk m k <;> rfl
theorem enc_filter (q : IntKind) (m : IM Value) (k : Int) : (m.map fun p => (Lit.int q p.1, (DataW.held p.2 : DataW Value))).filter (fun p => !p.1.sameKey (.int q k)) = (mdel m k).map fun p => (Lit.int q p.1, .held p.2) := by
  unfold mdel
  rw [List.filter_map]
  congr 1
  apply List.filter_congr
  intro p _
  simp [Lit.sameKey]
theorem enc_ins (q : IntKind) (m : IM Value) (k : Int) (v : Value) : DataW.insert (Lit.int q k, (DataW.held v : DataW Value)) (m.map fun p => (Lit.int q p.1, .held p.2)) = (mins (k, v) m).map fun p => (Lit.int q p.1, .held p.2) := by
  induction m with
  | nil => rfl
  | cons z r ih =>
    rw [List.map_cons]
    unfold DataW.insert mins
    simp only [Lit.before, decide_eq_true_eq]
    split
    · rfl
    · rw [List.map_cons, ih]
theorem enc_put (q : IntKind) (m : IM Value) (k : Int) (v : Value) : (encM q m).put (.int q k) (.held v) = encM q (mput m k v) := by
  unfold DataW.put encM mput
  simp only [enc_filter, enc_ins]
theorem enc_del (q : IntKind) (m : IM Value) (k : Int) : (encM q m).del (.int q k) = encM q (mdel m k) := by
  unfold DataW.del encM
  simp only [enc_filter]

/-- Block b is a map from whole numbers of a kind. -/
def MapAt (q : IntKind) (k : TypeId) (w : World) (b : Nat) (m : IM Value) : Prop := w.ownsMap Tryz.prog k idElem b m.length (encM q m) ∧ Rising m
theorem MapAt.rising {q : IntKind} {k : TypeId} {w : World} {b : Nat} {m : IM Value} (h : MapAt q k w b m) : Rising m := h.2
theorem MapAt.lt {q : IntKind} {k : TypeId} {w : World} {b : Nat} {m : IM Value} (h : MapAt q k w b m) : b < w.heap.size := h.1.lt
theorem MapAt.moved {q : IntKind} {k : TypeId} {w w' : World} {b : Nat} {m : IM Value} {T : Nat → Prop} (h : MapAt q k w b m) (hm : Moved T w w') (hb : ¬ T b) : MapAt q k w' b m := by
  obtain ⟨⟨es, clock, hh, F, hs, hD⟩, hr⟩ := h
  exact ⟨⟨es, clock, hm.heap hh hb, F, hs, hD⟩, hr⟩
theorem MapAt.later {q : IntKind} {k : TypeId} {w w' : World} {b : Nat} {m : IM Value} (h : MapAt q k w b m) (hb : Below w.heap.size w w') : MapAt q k w' b m :=
  h.moved (Moved.of_below hb (fun _ => False)) id
theorem MapAt.block {q : IntKind} {k : TypeId} {w : World} {b : Nat} {m : IM Value} (h : MapAt q k w b m) : ∃ es clock, w.heap[b]? = some (.map es clock) := by
  obtain ⟨⟨es, clock, hh, _⟩, _⟩ := h
  exact ⟨es, clock, hh⟩
theorem own_tight {q : IntKind} {k : TypeId} {w : World} {b n : Nat} {m : IM Value} (h : w.ownsMap Tryz.prog k idElem b n (encM q m)) : w.ownsMap Tryz.prog k idElem b m.length (encM q m) := by
  obtain ⟨es, clock, hh, F, hs, hD⟩ := h
  refine ⟨es, clock, hh, F, ?_, hD⟩
  have : (m.map fun p => (Lit.int q p.1, (DataW.held p.2 : DataW Value))).length = es.size := by
    have e : (m.map fun p => (Lit.int q p.1, (DataW.held p.2 : DataW Value))) = (es.toList.map (Go.WideElems.rg Tryz.prog k idElem)).foldr DataW.insert [] := by
      simpa [encM] using hD
    rw [e, length_sorted]
    simp
  simp at this
  omega
theorem MapAt.made {q : IntKind} {k : TypeId} (w : World) : MapAt q k (w.alloc (.map #[] 0)) w.heap.size [] :=
  ⟨World.ownsMap_made w Tryz.prog k idElem, List.Pairwise.nil⟩
section
variable {q : IntKind} {k t e : TypeId} {w : World} {b : Nat} {m : IM Value}
theorem MapAt.lookup (h : MapAt q k w b m) (hk : Tryz.prog.underlying k = some (.int q)) (ht : Tryz.prog.underlying t = some (.map k e)) {z : Value} (hz : (zeroValue e).run Tryz.prog w = .ok z w) (x : Int) (hx : (Lit.int q x).wf = true) :
    (Instr.lookup t (.map (some b)) (.int q x) false).run Tryz.prog w = .ok ((lk m x).getD z) w := by
  obtain ⟨v, ps, hr, hv⟩ := h.1.lookup (Maps.int_keyed hk) ht hz (zd := .held z) (zp := []) rfl (key := .int q x) (kl := .int q x) (by simp [keyOf, mapKey, hk, hx])
  rw [enc_at] at hv
  simp [idElem] at hv
  rw [hr, hv.1]
theorem MapAt.look_ok (h : MapAt q k w b m) (hk : Tryz.prog.underlying k = some (.int q)) (ht : Tryz.prog.underlying t = some (.map k e)) {z : Value} (hz : (zeroValue e).run Tryz.prog w = .ok z w) (x : Int) (hx : (Lit.int q x).wf = true) :
    (Instr.lookup t (.map (some b)) (.int q x) true).run Tryz.prog w = .ok (.tuple #[(lk m x).getD z, .bool (lk m x).isSome]) w := by
  obtain ⟨v, ps, hr, hv⟩ := h.1.look_ok (Maps.int_keyed hk) ht hz (zd := .held z) (zp := []) rfl (key := .int q x) (kl := .int q x) (by simp [keyOf, mapKey, hk, hx])
  rw [enc_at] at hv
  simp [idElem] at hv
  rw [hr, hv.1, enc_has]
theorem MapAt.store (h : MapAt q k w b m) (hk : Tryz.prog.underlying k = some (.int q)) (ht : Tryz.prog.underlying t = some (.map k e)) (hn : m.length < maxLen) (x : Int) (v : Value) (hx : (Lit.int q x).wf = true) :
    ∃ w', (Instr.mapUpdate t (.map (some b)) (.int q x) v).run Tryz.prog w = .ok () w' ∧ MapAt q k w' b (mput m x v) ∧ w.mapTurned w' b := by
  obtain ⟨w', hr, ho, hg⟩ := h.1.store (Maps.int_keyed hk) ht hn (key := .int q x) (kl := .int q x) (d := .held v) (ps := []) (by simp [keyOf, mapKey, hk, hx]) rfl
  rw [enc_put] at ho
  exact ⟨w', hr, ⟨own_tight ho, h.2.put x v⟩, hg⟩
theorem MapAt.drop (h : MapAt q k w b m) (hk : Tryz.prog.underlying k = some (.int q)) (ht : Tryz.prog.underlying t = some (.map k e)) (x : Int) (hx : (Lit.int q x).wf = true) (ty : TypeId) :
    ∃ w', (Builtin.delete_ #[t, k] ty #[.map (some b), .int q x]).run Tryz.prog w = .ok (.tuple #[]) w' ∧ MapAt q k w' b (mdel m x) ∧ w.mapTurned w' b := by
  obtain ⟨w', hr, ho, hg⟩ := h.1.drop (Maps.int_keyed hk) ht (key := .int q x) (kl := .int q x) (by simp [keyOf, mapKey, hk, hx]) ty
  rw [enc_del] at ho
  exact ⟨w', hr, ⟨own_tight ho, h.2.del x⟩, hg⟩
theorem MapAt.len (h : MapAt q k w b m) (ht : Tryz.prog.underlying t = some (.map k e)) (ty : TypeId) : (Builtin.len_ #[t] ty #[.map (some b)]).run Tryz.prog w = .ok (.int .i64 m.length) w := by
  rw [h.1.len ht ty]
  simp [encM, Maps.size]
end
theorem Moved.turned {w w' : World} {b : Nat} (h : w.mapTurned w' b) : Moved (fun k => k = b) w w' := .of_grown h.grown (fun k e => by cases e; rfl)
end Go.Proofs.YtcenagpkfimkbaaGreatDoor
/-
  ids.Book: what it is in the model; New, Give, Lives, Last, Take.
-/
namespace Go.Proofs.YtcenagpkfimkbaaGreatDoor
open Go Go.RowKit

def unitV : Unit → Value := fun _ => .agg #[]
/-- At block bb lies a book, its map in block mb: the numbers that live, the last that was given out, how many may live. -/
structure BookAt (w : World) (bb mb : Nat) (l : IM Unit) (last most : Int) : Prop where
  blk : w.heap[bb]? = some (.cells #[.map (some mb), .int .i64 last, .int .i64 most] 189 (0, 0))
  map : MapAt .i64 3 w mb (mapV unitV l)
theorem BookAt.moved {w w' : World} {bb mb : Nat} {l : IM Unit} {last most : Int} {T : Nat → Prop} (h : BookAt w bb mb l last most) (hm : Moved T w w') (h1 : ¬ T bb) (h2 : ¬ T mb) : BookAt w' bb mb l last most :=
  ⟨hm.heap h.blk h1, h.map.moved hm h2⟩
theorem BookAt.later {w w' : World} {bb mb : Nat} {l : IM Unit} {last most : Int} (h : BookAt w bb mb l last most) (hb : Below w.heap.size w w') : BookAt w' bb mb l last most :=
  h.moved (Moved.of_below hb (fun _ => False)) id id
theorem BookAt.ne {w : World} {bb mb : Nat} {l : IM Unit} {last most : Int} (h : BookAt w bb mb l last most) : bb ≠ mb := by
  obtain ⟨es, clock, hh⟩ := h.map.block
  rintro rfl
  rw [h.blk] at hh
  simp at hh
theorem BookAt.rising {w : World} {bb mb : Nat} {l : IM Unit} {last most : Int} (h : BookAt w bb mb l last most) : Rising l := (rising_mapV unitV l).1 h.map.rising
def BookP (bb mb : Nat) (l : IM Unit) (last most : Int) : HP := fun w S => BookAt w bb mb l last most ∧ ∀ k, S k ↔ k = bb ∨ k = mb
theorem BookP.ok (bb mb : Nat) (l : IM Unit) (last most : Int) : (BookP bb mb l last most).Ok := by
  constructor
  · rintro w w' S T ⟨h, hs⟩ hm hd
    exact ⟨h.moved hm (hd _ ((hs _).2 (by simp))) (hd _ ((hs _).2 (by simp))), hs⟩
  · rintro w S ⟨h, hs⟩ k hk
    rcases (hs k).1 hk with rfl | rfl
    · exact heap_lt h.blk
    · exact h.map.lt

theorem zero_unit (w : World) : (zeroValue 245).run Tryz.prog w = .ok (.agg #[]) w := by kernel_rfl
theorem wf_i64 {x : Int} (h0 : -9223372036854775808 ≤ x) (h1 : x ≤ 9223372036854775807) : (Lit.int .i64 x).wf = true := by
  simp [Lit.wf, IntKind.min, IntKind.max, IntKind.bits, IntKind.signed]
  omega

set_option maxRecDepth 100000 in
theorem iNew_any (most : Int) (w : World) (hm : 0 ≤ most) :
    Calls Tryz.prog 41 #[.int .i64 most] w fun e w' => e = .returned (.pointer (some ⟨w.heap.size + 1, 0, none⟩)) ∧ Below w.heap.size w w' ∧ BookAt w' (w.heap.size + 1) w.heap.size [] 0 most := by
  have h1 : (if most < 0 then (0 : Int) else most) = most := by split <;> omega
  have h2 : (if most ≤ 0 then (0 : Int) else most) = most := by split <;> omega
  have hmm := @run_makeMap Tryz.prog
  go_enter Tryz.func41, Tryz.ntmps41
  go_wp2
  go_ret
  refine ⟨rfl, ((Below.refl _ _).alloc (Nat.le_refl _) _).alloc (by simp) _, ?_, ?_⟩
  · simpa using heap_alloc_eq (w.alloc (.map #[] 0)) (.cells #[.map (some w.heap.size), .int .i64 0, .int .i64 most] 189)
  · exact (MapAt.made w).later ((Below.refl _ _).alloc (Nat.le_refl _) _)

theorem iLast_any {bb mb : Nat} {l : IM Unit} {last most : Int} {w : World} (h : BookAt w bb mb l last most) :
    Calls Tryz.prog 149 #[.pointer (some ⟨bb, 0, none⟩)] w fun e w' => e = .returned (.int .i64 last) ∧ w = w' := by
  have c1 := heap_cell h.blk 1
  simp at c1
  clear h
  go_enter Tryz.func149, Tryz.ntmps149
  go_wp2
  go_ret
  exact ⟨rfl, rfl⟩

set_option maxRecDepth 100000 in
theorem iLives_any {bb mb : Nat} {l : IM Unit} {last most : Int} {w : World} (h : BookAt w bb mb l last most) (x : Int) (h0 : -9223372036854775808 ≤ x) (h1 : x ≤ 9223372036854775807) :
    Calls Tryz.prog 150 #[.pointer (some ⟨bb, 0, none⟩), .int .i64 x] w fun e w' => e = .returned (.bool (lk l x).isSome) ∧ Below w.heap.size w w' := by
  have c0 := heap_cell h.blk 0
  simp at c0
  have hl := h.map.look_ok Tryz.underlying3 Tryz.underlying187 (zero_unit w) x (wf_i64 h0 h1)
  rw [lk_mapV] at hl
  have e1 : ((lk l x).map unitV).getD (.agg #[]) = .agg #[] := by cases lk l x <;> rfl
  have e2 : ((lk l x).map unitV).isSome = (lk l x).isSome := by cases lk l x <;> rfl
  rw [e1, e2] at hl
  obtain ⟨r, hr⟩ : ∃ r, (lk l x).isSome = r := ⟨_, rfl⟩
  rw [hr] at hl ⊢
  clear h e1 e2 hr
  go_enter Tryz.func150, Tryz.ntmps150
  go_wp2
  go_ret
  exact ⟨rfl, (Below.refl _ _).alloc (Nat.le_refl _) _⟩

/-- What Give answers. -/
def gvE (l : IM Unit) (most : Int) : Int := if most ≤ l.length then 3 else 0
def gvN (l : IM Unit) (last most : Int) : Int := if most ≤ l.length then 0 else last + 1
def gvT (l : IM Unit) (last most : Int) : Int := if most ≤ l.length then last else last + 1
def gvL (l : IM Unit) (last most : Int) : IM Unit := if most ≤ l.length then l else mput l (last + 1) ()

set_option maxRecDepth 100000 in
set_option maxHeartbeats 1000000 in
theorem iGive_any {bb mb : Nat} {l : IM Unit} {last most : Int} {w : World} (h : BookAt w bb mb l last most) (h0 : 0 ≤ last) (h1 : last ≤ 1000000000) (hl : l.length ≤ 1000000000) :
    Calls Tryz.prog 102 #[.pointer (some ⟨bb, 0, none⟩)] w fun e w' => e = .returned (.tuple #[.int .i64 (gvN l last most), .int .i64 (gvE l most)]) ∧ Moved (fun q => q = bb ∨ q = mb) w w' ∧ BookAt w' bb mb (gvL l last most) (gvT l last most) most := by
  have H := Lib.hid h
  have c0 := heap_cell h.blk 0
  have c1 := heap_cell h.blk 1
  have c2 := heap_cell h.blk 2
  have d1 := heap_free h.blk 1
  simp at c0 c1 c2
  have hlen : ∀ nq ty, (Builtin.len_ #[187] ty #[.map (some mb)]).run Tryz.prog (w.drewN nq) = .ok (.int .i64 l.length) (w.drewN nq) := by
    intro nq ty
    have hm : MapAt .i64 3 (w.drewN nq) mb (mapV unitV l) := h.map.moved (Moved.drewN (fun _ => False) w nq) id
    have := hm.len Tryz.underlying187 ty
    rw [mapV_length] at this
    exact this
  obtain ⟨n, hn⟩ : ∃ n, l.length = n := ⟨_, rfl⟩
  rw [hn] at hlen hl
  have HN := Lib.hid hn
  clear h hn
  by_cases hc : most ≤ n
  · have e1 : Hid (gvE l most = 3) := Lib.hid (by rw [gvE, HN.out, if_pos hc])
    have e2 : Hid (gvN l last most = 0) := Lib.hid (by rw [gvN, HN.out, if_pos hc])
    have e3 : Hid (gvT l last most = last) := Lib.hid (by rw [gvT, HN.out, if_pos hc])
    have e4 : Hid (gvL l last most = l) := Lib.hid (by rw [gvL, HN.out, if_pos hc])
    go_enter Tryz.func102, Tryz.ntmps102
    go_wp2
    go_quiet (fail)
    go_wp2
    go_ret2
    exact ⟨by rw [e1.out, e2.out]; rfl, Moved.drewN _ _ _, by rw [e3.out, e4.out]; exact H.out.moved (Moved.drewN (fun _ => False) w _) id id⟩
  · have e1 : Hid (gvE l most = 0) := Lib.hid (by rw [gvE, HN.out, if_neg hc])
    have e2 : Hid (gvN l last most = last + 1) := Lib.hid (by rw [gvN, HN.out, if_neg hc])
    have e3 : Hid (gvT l last most = last + 1) := Lib.hid (by rw [gvT, HN.out, if_neg hc])
    have e4 : Hid (gvL l last most = mput l (last + 1) ()) := Lib.hid (by rw [gvL, HN.out, if_neg hc])
    go_enter Tryz.func102, Tryz.ntmps102
    go_wp2
    go_quiet (fail)
    go_wp2
    have hB2 : BookAt ((w.drewN nq).setCell ⟨bb, 1, none⟩ (.int .i64 (last + 1))) bb mb l (last + 1) most := by
      have hb : BookAt (w.drewN nq) bb mb l last most := H.out.moved (Moved.drewN (fun _ => False) w nq) id id
      refine ⟨by simpa using heap_set hb.blk 1 (.int .i64 (last + 1)), hb.map.moved (Moved.of_set (S := fun q => q = bb) _ bb 1 _ rfl) (fun e => hb.ne e.symm)⟩
    have hM2 : Moved (fun q => q = bb ∨ q = mb) w ((w.drewN nq).setCell ⟨bb, 1, none⟩ (.int .i64 (last + 1))) := (Moved.drewN _ w nq).trans (Moved.of_set (S := fun q => q = bb ∨ q = mb) _ bb 1 _ (.inl rfl)) (fun _ e => .inl e)
    have HB2 := Lib.hid (And.intro hB2 hM2)
    clear hB2 hM2 hlen c0 c1 c2 d1
    generalize hW2 : World.setCell _ _ _ = w2
    rw [hW2] at HB2
    clear hW2
    have c0 := heap_cell HB2.out.1.blk 0
    have c1 := heap_cell HB2.out.1.blk 1
    simp at c0 c1
    obtain ⟨w3, hr3, hm3, ht3⟩ := (HB2.out.1.map.moved (Moved.drew (fun _ => False) w2) id).store Tryz.underlying3 Tryz.underlying187 (by rw [mapV_length, HN.out]; unfold maxLen; omega) (last + 1) (.agg #[]) (wf_i64 (by omega) (by omega))
    have H3 := Lib.hid (And.intro hm3 ht3)
    have hmv : Moved (fun q => q = mb) w2 w3 := (Moved.drew _ w2).trans (Moved.turned H3.out.2) (fun _ e => .inl e)
    have hblk := hmv.heap HB2.out.1.blk HB2.out.1.ne
    have c3 := heap_cell hblk 1
    simp at c3
    have H4 := Lib.hid (And.intro hmv hblk)
    clear hm3 ht3 hmv hblk
    go_still_tail 9, (by kernel_rfl)
    change wpList _ _ _ _ _ w2.drew
    go_wp2
    go_ret2
    refine ⟨by rw [e1.out, e2.out]; rfl, HB2.out.2.trans H4.out.1 (fun _ e => .inl (.inr e)), ?_⟩
    rw [e3.out, e4.out]
    refine ⟨H4.out.2, ?_⟩
    have := H3.out.1
    rw [show (Value.agg #[]) = unitV () from rfl, mput_mapV] at this
    exact this
end Go.Proofs.YtcenagpkfimkbaaGreatDoor
/-
  tree.Tree and tally.Tally: a struct of one map; New, Has, Add; Of, set, Add, Swap.
-/
namespace Go.Proofs.YtcenagpkfimkbaaGreatDoor
open Go Go.RowKit

/-- At block tb lies a struct of one map of whole numbers, its map in block mb. -/
structure OneMapAt (T : TypeId) (w : World) (tb mb : Nat) (m : IM Int) : Prop where
  blk : w.heap[tb]? = some (.cells #[.map (some mb)] T (0, 0))
  map : MapAt .i64 3 w mb (mapV (Value.int .i64) m)
section
variable {T : TypeId} {w w' : World} {tb mb : Nat} {m : IM Int}
theorem OneMapAt.moved {U : Nat → Prop} (h : OneMapAt T w tb mb m) (hm : Moved U w w') (h1 : ¬ U tb) (h2 : ¬ U mb) : OneMapAt T w' tb mb m := ⟨hm.heap h.blk h1, h.map.moved hm h2⟩
theorem OneMapAt.later (h : OneMapAt T w tb mb m) (hb : Below w.heap.size w w') : OneMapAt T w' tb mb m := h.moved (Moved.of_below hb (fun _ => False)) id id
theorem OneMapAt.ne (h : OneMapAt T w tb mb m) : tb ≠ mb := by
  obtain ⟨es, clock, hh⟩ := h.map.block
  rintro rfl
  rw [h.blk] at hh
  simp at hh
theorem OneMapAt.rising (h : OneMapAt T w tb mb m) : Rising m := (rising_mapV _ m).1 h.map.rising
theorem OneMapAt.put (h : OneMapAt T w tb mb m) {x v : Int} (hm : MapAt .i64 3 w' mb (mput (mapV (Value.int .i64) m) x (.int .i64 v))) (ht : w.mapTurned w' mb) : OneMapAt T w' tb mb (mput m x v) :=
  ⟨(Moved.turned ht).heap h.blk h.ne, by rw [← mput_mapV]; exact hm⟩
theorem OneMapAt.del (h : OneMapAt T w tb mb m) {x : Int} (hm : MapAt .i64 3 w' mb (mdel (mapV (Value.int .i64) m) x)) (ht : w.mapTurned w' mb) : OneMapAt T w' tb mb (mdel m x) :=
  ⟨(Moved.turned ht).heap h.blk h.ne, by rw [← mdel_mapV]; exact hm⟩
end
def OneMapP (T : TypeId) (tb mb : Nat) (m : IM Int) : HP := fun w S => OneMapAt T w tb mb m ∧ ∀ k, S k ↔ k = tb ∨ k = mb
theorem OneMapP.ok (T : TypeId) (tb mb : Nat) (m : IM Int) : (OneMapP T tb mb m).Ok := by
  constructor
  · rintro w w' S U ⟨h, hs⟩ hm hd
    exact ⟨h.moved hm (hd _ ((hs _).2 (by simp))) (hd _ ((hs _).2 (by simp))), hs⟩
  · rintro w S ⟨h, hs⟩ k hk
    rcases (hs k).1 hk with rfl | rfl
    · exact heap_lt h.blk
    · exact h.map.lt
abbrev TreeAt := OneMapAt 191
abbrev TallyAt := OneMapAt 193

theorem zero_int (w : World) : (zeroValue 3).run Tryz.prog w = .ok (.int .i64 0) w := by kernel_rfl
/-- What a map of whole numbers has at a key: 0 if nothing. -/
def at0 (m : IM Int) (x : Int) : Int := (lk m x).getD 0
theorem look_int {w : World} {mb : Nat} {m : IM Int} (h : MapAt .i64 3 w mb (mapV (Value.int .i64) m)) (x : Int) (h0 : -9223372036854775808 ≤ x) (h1 : x ≤ 9223372036854775807) :
    (Instr.lookup 61 (.map (some mb)) (.int .i64 x) false).run Tryz.prog w = .ok (.int .i64 (at0 m x)) w := by
  have hl := h.lookup Tryz.underlying3 Tryz.underlying61 (zero_int w) x (wf_i64 h0 h1)
  rw [lk_mapV] at hl
  rw [hl, at0]
  cases lk m x <;> rfl
theorem look_int_ok {w : World} {mb : Nat} {m : IM Int} (h : MapAt .i64 3 w mb (mapV (Value.int .i64) m)) (x : Int) (h0 : -9223372036854775808 ≤ x) (h1 : x ≤ 9223372036854775807) :
    (Instr.lookup 61 (.map (some mb)) (.int .i64 x) true).run Tryz.prog w = .ok (.tuple #[.int .i64 (at0 m x), .bool (lk m x).isSome]) w := by
  have hl := h.look_ok Tryz.underlying3 Tryz.underlying61 (zero_int w) x (wf_i64 h0 h1)
  rw [lk_mapV] at hl
  rw [hl, at0]
  cases lk m x <;> rfl

theorem trNew_any (w : World) : Calls Tryz.prog 42 #[] w fun e w' => e = .returned (.pointer (some ⟨w.heap.size + 1, 0, none⟩)) ∧ Below w.heap.size w w' ∧ TreeAt w' (w.heap.size + 1) w.heap.size [] := by
  have hmm := @run_makeMap Tryz.prog
  go_enter Tryz.func42, Tryz.ntmps42
  go_wp2
  go_ret
  refine ⟨rfl, ((Below.refl _ _).alloc (Nat.le_refl _) _).alloc (by simp) _, ?_, ?_⟩
  · simpa using heap_alloc_eq (w.alloc (.map #[] 0)) (.cells #[.map (some w.heap.size)] 191)
  · exact (MapAt.made w).later ((Below.refl _ _).alloc (Nat.le_refl _) _)
theorem taNew_any (w : World) : Calls Tryz.prog 43 #[] w fun e w' => e = .returned (.pointer (some ⟨w.heap.size + 1, 0, none⟩)) ∧ Below w.heap.size w w' ∧ TallyAt w' (w.heap.size + 1) w.heap.size [] := by
  have hmm := @run_makeMap Tryz.prog
  go_enter Tryz.func43, Tryz.ntmps43
  go_wp2
  go_ret
  refine ⟨rfl, ((Below.refl _ _).alloc (Nat.le_refl _) _).alloc (by simp) _, ?_, ?_⟩
  · simpa using heap_alloc_eq (w.alloc (.map #[] 0)) (.cells #[.map (some w.heap.size)] 193)
  · exact (MapAt.made w).later ((Below.refl _ _).alloc (Nat.le_refl _) _)

theorem trHas_any {tb mb : Nat} {m : IM Int} {w : World} (h : TreeAt w tb mb m) (x : Int) (h0 : -9223372036854775808 ≤ x) (h1 : x ≤ 9223372036854775807) :
    Calls Tryz.prog 151 #[.pointer (some ⟨tb, 0, none⟩), .int .i64 x] w fun e w' => e = .returned (.bool (lk m x).isSome) ∧ w = w' := by
  have c0 := heap_cell h.blk 0
  simp at c0
  have hl := look_int_ok h.map x h0 h1
  obtain ⟨r, hr⟩ : ∃ r, (lk m x).isSome = r := ⟨_, rfl⟩
  rw [hr] at hl ⊢
  clear h hr
  go_enter Tryz.func151, Tryz.ntmps151
  go_wp2
  go_ret
  exact ⟨rfl, rfl⟩
theorem taOf_any {tb mb : Nat} {m : IM Int} {w : World} (h : TallyAt w tb mb m) (x : Int) (h0 : -9223372036854775808 ≤ x) (h1 : x ≤ 9223372036854775807) :
    Calls Tryz.prog 107 #[.pointer (some ⟨tb, 0, none⟩), .int .i64 x] w fun e w' => e = .returned (.int .i64 (at0 m x)) ∧ w = w' := by
  have c0 := heap_cell h.blk 0
  simp at c0
  have hl := look_int h.map x h0 h1
  obtain ⟨r, hr⟩ : ∃ r, at0 m x = r := ⟨_, rfl⟩
  rw [hr] at hl ⊢
  clear h hr
  go_enter Tryz.func107, Tryz.ntmps107
  go_wp2
  go_ret
  exact ⟨rfl, rfl⟩

/-- What Add makes of a tree. -/
def trE (m : IM Int) (x p : Int) : Int := if x < 1 ∨ (lk m x).isSome = true then 1 else if p ≠ 0 ∧ (lk m p).isSome = false then 2 else 0
def trL (m : IM Int) (x p : Int) : IM Int := if trE m x p = 0 then mput m x p else m

set_option maxRecDepth 100000 in
set_option maxHeartbeats 1000000 in
theorem trAdd_any {tb mb : Nat} {m : IM Int} {w : World} (h : TreeAt w tb mb m) (x p : Int) (h0 : -9223372036854775808 ≤ x) (h1 : x ≤ 9223372036854775807) (p0 : -9223372036854775808 ≤ p) (p1 : p ≤ 9223372036854775807) (hl : m.length ≤ 1000000000) :
    Calls Tryz.prog 103 #[.pointer (some ⟨tb, 0, none⟩), .int .i64 x, .int .i64 p] w fun e w' => e = .returned (.int .i64 (trE m x p)) ∧ Moved (fun q => q = mb) w w' ∧ TreeAt w' tb mb (trL m x p) := by
  have H := Lib.hid h
  have hx := trHas_any h x h0 h1
  have hp := trHas_any h p p0 p1
  have c0 := heap_cell h.blk 0
  simp at c0
  obtain ⟨w3, hr3, hm3, ht3⟩ := h.map.store Tryz.underlying3 Tryz.underlying61 (by rw [mapV_length]; unfold maxLen; omega) x (.int .i64 p) (wf_i64 h0 h1)
  have H3 := Lib.hid (And.intro (h.put hm3 ht3) ht3)
  clear h hm3 ht3
  by_cases hx1 : x < 1
  · have e1 : Hid (trE m x p = 1) := Lib.hid (by rw [trE, if_pos (.inl hx1)])
    have e2 : Hid (trL m x p = m) := Lib.hid (by rw [trL, e1.out]; rfl)
    clear hx hp hr3 c0
    go_enter Tryz.func103, Tryz.ntmps103
    go_wp2
    go_ret
    exact ⟨by rw [e1.out]; rfl, Moved.refl _ _, by rw [e2.out]; exact H.out⟩
  · cases hs : (lk m x).isSome
    · rw [hs] at hx
      by_cases hp0 : p = 0
      · subst hp0
        have e1 : Hid (trE m x 0 = 0) := Lib.hid (by rw [trE, if_neg (by simp [hx1, hs]), if_neg (by simp)])
        have e2 : Hid (trL m x 0 = mput m x 0) := Lib.hid (by rw [trL, e1.out]; rfl)
        clear hp hs
        go_enter Tryz.func103, Tryz.ntmps103
        go_wp2_with fail
        refine hx.mono ?_
        rintro e w1 ⟨rfl, rfl⟩
        clear hx
        go_wp2
        go_ret
        exact ⟨by rw [e1.out]; rfl, Moved.turned H3.out.2, by rw [e2.out]; exact H3.out.1⟩
      · have y1 : (p != 0) = true := by simpa using hp0
        cases hq : (lk m p).isSome
        · have e1 : Hid (trE m x p = 2) := Lib.hid (by rw [trE, if_neg (by simp [hx1, hs]), if_pos ⟨hp0, hq⟩])
          have e2 : Hid (trL m x p = m) := Lib.hid (by rw [trL, e1.out]; rfl)
          rw [hq] at hp
          clear hs hq hp0 hr3 c0
          go_enter Tryz.func103, Tryz.ntmps103
          go_wp2_with fail
          refine hx.mono ?_
          rintro e w1 ⟨rfl, rfl⟩
          clear hx
          go_wp2_with fail
          refine hp.mono ?_
          rintro e w1 ⟨rfl, rfl⟩
          clear hp
          go_wp2
          go_ret
          exact ⟨by rw [e1.out]; rfl, Moved.refl _ _, by rw [e2.out]; exact H.out⟩
        · have e1 : Hid (trE m x p = 0) := Lib.hid (by rw [trE, if_neg (by simp [hx1, hs]), if_neg (by simp [hq])])
          have e2 : Hid (trL m x p = mput m x p) := Lib.hid (by rw [trL, e1.out]; rfl)
          rw [hq] at hp
          clear hs hq hp0
          go_enter Tryz.func103, Tryz.ntmps103
          go_wp2_with fail
          refine hx.mono ?_
          rintro e w1 ⟨rfl, rfl⟩
          clear hx
          go_wp2_with fail
          refine hp.mono ?_
          rintro e w1 ⟨rfl, rfl⟩
          clear hp
          go_wp2
          go_ret
          exact ⟨by rw [e1.out]; rfl, Moved.turned H3.out.2, by rw [e2.out]; exact H3.out.1⟩
    · have e1 : Hid (trE m x p = 1) := Lib.hid (by rw [trE, if_pos (.inr hs)])
      have e2 : Hid (trL m x p = m) := Lib.hid (by rw [trL, e1.out]; rfl)
      rw [hs] at hx
      clear hp hs hr3 c0
      go_enter Tryz.func103, Tryz.ntmps103
      go_wp2_with fail
      refine hx.mono ?_
      rintro e w1 ⟨rfl, rfl⟩
      clear hx
      go_wp2
      go_ret
      exact ⟨by rw [e1.out]; rfl, Moved.refl _ _, by rw [e2.out]; exact H.out⟩
end Go.Proofs.YtcenagpkfimkbaaGreatDoor
/-
  slices.Clone of a row of words.
-/
namespace Go.Proofs.YtcenagpkfimkbaaGreatDoor
open Go Go.RowKit

theorem info_u64 : (Tryz.prog.info? 34).map (fun i => (i.zero, i.size, i.bytes)) = some (some (.int .u64 0), 1, 8) := by kernel_rfl
theorem Clone_u64_nil (w : World) : Calls Tryz.prog 91 #[.slice none 0 0] w (RetOwn .u64 34 [] w) := by
  have hq := fun w => Lib.run_eql_slice_nil (P := Tryz.prog) w 43 34 none 0 0 0 0 Tryz.underlying43
  go_enter Tryz.func91, Tryz.ntmps91
  go_wp2
  go_ret
  exact ⟨_, rfl, Below.refl _ _, World.ownsRow_nil _ _ _ _⟩
theorem Clone_u64_some (ad : Addr) (xs : List Int) (cap : Nat) (w : World) (h : Reads .u64 w (some ad) xs) (hn : xs.length * 8 ≤ 140737488351232) :
    Calls Tryz.prog 91 #[.slice (some ad) xs.length cap] w (RetOwn .u64 34 xs w) := by
  obtain ⟨i0, hi, hz0, hz1, hz2⟩ := info_parts info_u64
  have hcs := Lib.hid (cells_of_reads h)
  have hq := fun w => Lib.run_eql_slice_nil (P := Tryz.prog) w 43 34 (some ad) xs.length cap 0 0 Tryz.underlying43
  go_enter Tryz.func91, Tryz.ntmps91
  go_wp2_with (at_builtin; refine wpList_append_own _ rfl _ _ 43 rfl w.heap.size 34 i0 (.int .u64 0) 1 8 Tryz.underlying43 hi hz0 hz1 hz2 rfl (by decide) _ _ _ rfl (World.ownsRow_made w #[] 0 (Nat.le_refl _) (by decide) rfl) ad xs.length cap (xs.map (Value.int .u64)) rfl ?c0 ?c1 ?c2 ?c3 ?c4 ?c5 ?_)
  case c0 => simp
  case c1 => exact fun j u hj => (cell_alloc_old _ (hcs.out j u hj))
  case c2 => exact ints_oneCell _ _
  case c3 => unfold maxLen; omega
  case c4 => omega
  case c5 => simp
  · intro v' w1 hown' hgrow _
    go_wp2
    go_ret
    refine ⟨_, rfl, ?_, by simpa using hown'⟩
    exact ((Below.refl _ _).alloc (Nat.le_refl _) _).grown hgrow (by simp) (fun k e => by simp [Value.ownBlock] at e; omega)

theorem Clone_u64_any (a : Option Addr) (xs : List Int) (cap : Nat) (w : World) (h : Reads .u64 w a xs) (hn : xs.length * 8 ≤ 140737488351232) (h0 : a = none → xs = [] ∧ cap = 0) :
    Calls Tryz.prog 91 #[.slice a xs.length cap] w (RetOwn .u64 34 xs w) := by
  rcases a with _ | ad
  · obtain ⟨rfl, rfl⟩ := h0 rfl
    exact Clone_u64_nil w
  · exact Clone_u64_some ad xs cap w h hn

end Go.Proofs.YtcenagpkfimkbaaGreatDoor
/-
  The memory of package words: what it is in the model, and the contracts of its methods.
-/
namespace Go.Proofs.YtcenagpkfimkbaaGreatDoor
open Go Go.RowKit

/-- The cells of a row of words. -/
abbrev u64s (xs : List Int) : Array Value := (xs.map (Value.int .u64)).toArray

/-- At block b lies a memory, its words xs in block g. -/
def MemAt (w : World) (b g : Nat) (xs : List Int) : Prop :=
  w.heap[b]? = some (.cells #[.slice (some ⟨g, 0, none⟩) xs.length xs.length] 233 (0, 0)) ∧ w.heap[g]? = some (.cells (u64s xs) 34 (0, 0)) ∧ xs.length ≤ 16384

theorem MemAt.ne {w : World} {b g : Nat} {xs : List Int} (h : MemAt w b g xs) : b ≠ g := by
  rintro rfl
  have := h.1.symm.trans h.2.1
  simp at this
theorem MemAt.below {w w' : World} {B b g : Nat} {xs : List Int} (h : MemAt w b g xs) (hb : Below B w w') (h1 : b < B) (h2 : g < B) : MemAt w' b g xs :=
  ⟨heap_below hb h.1 h1, heap_below hb h.2.1 h2, h.2.2⟩
theorem MemAt.later {w w' : World} {b g : Nat} {xs : List Int} (h : MemAt w b g xs) (hb : Below w.heap.size w w') : MemAt w' b g xs := h.below hb (heap_lt h.1) (heap_lt h.2.1)
theorem MemAt.grown {w w' : World} {b g k : Nat} {xs : List Int} (h : MemAt w b g xs) (hg : w.grownBy w' (some k)) (h1 : b ≠ k) (h2 : g ≠ k) : MemAt w' b g xs :=
  ⟨heap_grown hg h.1 h1, heap_grown hg h.2.1 h2, h.2.2⟩
theorem MemAt.cell {w : World} {b g : Nat} {xs : List Int} (h : MemAt w b g xs) : w.cell? ⟨b, 0, none⟩ = some (.slice (some ⟨g, 0, none⟩) xs.length xs.length) := by rw [heap_cell h.1]; rfl
theorem MemAt.word {w : World} {b g : Nat} {xs : List Int} (h : MemAt w b g xs) (i : Nat) (hi : i < xs.length) : w.cell? ⟨g, i, none⟩ = some (.int .u64 (xs.getD i 0)) := by
  rw [heap_cell h.2.1]; simp [hi]
theorem MemAt.free {w : World} {b g : Nat} {xs : List Int} (h : MemAt w b g xs) (i : Nat) : w.frozen? ⟨g, i, none⟩ = false := heap_free h.2.1 i
theorem MemAt.set {w : World} {b g : Nat} {xs : List Int} (h : MemAt w b g xs) (i : Nat) (v : Int) : MemAt (w.setCell ⟨g, i, none⟩ (.int .u64 v)) b g (xs.set i v) := by
  refine ⟨?_, ?_, by simpa using h.2.2⟩
  · rw [heap_set_ne h.ne]; simpa using h.1
  · rw [heap_set h.2.1]; simp [u64s, List.map_set]

/-- A row of n zeros. -/
def zrow (n : Nat) : Array Value := madeCells #[.int .u64 0] n
theorem zrow_eq (n : Nat) : zrow n = u64s (List.replicate n 0) := by
  apply Array.toList_inj.1
  simp [zrow, toList_madeCells_one]
theorem run_mk64 (n : Nat) (hn : n ≤ 16384) (w : World) :
    (Instr.makeSlice 43 (.int .i64 n) (.int .i64 n)).run Tryz.prog w = .ok (.slice (some ⟨w.heap.size, 0, none⟩) n n) (w.alloc (.cells (zrow n) 34)) := by
  obtain ⟨i0, hi, hz0, hz1, hz2⟩ := info_parts info_u64
  have := run_make (P := Tryz.prog) w 43 34 i0 (.int .u64 0) Tryz.underlying43 hi hz0 .i64 .i64 n n (by omega) (by omega) (by rw [hz2]; omega) (by omega)
  rw [this, hz1]
  simp [zrow, Value.cells]

theorem wNew_any (n : Nat) (w : World) (hn : n ≤ 16384) :
    Calls Tryz.prog 93 #[.int .i64 n] w fun e w' => e = .returned (.tuple #[.pointer (some ⟨w.heap.size + 1, 0, none⟩), .int .i64 0]) ∧ Below w.heap.size w w' ∧ MemAt w' (w.heap.size + 1) w.heap.size (List.replicate n 0) := by
  have hmk := run_mk64 n hn
  go_enter Tryz.func93, Tryz.ntmps93
  go_wp2
  go_ret2
  refine ⟨rfl, ((Below.refl _ _).alloc (Nat.le_refl _) _).alloc (by simp) _, ?_, ?_, by simpa using hn⟩
  · simpa using heap_alloc_eq (w.alloc (.cells (zrow n) 34)) (.cells #[.slice (some ⟨w.heap.size, 0, none⟩) n n] 233)
  · rw [← zrow_eq]
    exact heap_alloc_lt (heap_alloc_eq _ _) _
theorem wNew_bad (n : Int) (w : World) (h0 : n < 0 ∨ 16384 < n) :
    Calls Tryz.prog 93 #[.int .i64 n] w fun e w' => e = .returned (.tuple #[.pointer none, .int .i64 1]) ∧ w = w' := by
  rcases h0 with h0 | h0
  all_goals
    go_enter Tryz.func93, Tryz.ntmps93
    go_wp2
    go_ret2
    exact ⟨rfl, rfl⟩
/-- Is there such a word? -/
def inB (n : Nat) (i : Int) : Bool := decide (0 ≤ i ∧ i < n)
def wrE (n : Nat) (i : Int) : Int := if inB n i = true then 0 else 8
def wrL (xs : List Int) (i v : Int) : List Int := if inB xs.length i = true then xs.set i.toNat v else xs
def rdV (xs : List Int) (i : Int) : Int := if inB xs.length i = true then xs.getD i.toNat 0 else 0
theorem wrL_length (xs : List Int) (i v : Int) : (wrL xs i v).length = xs.length := by unfold wrL; split <;> simp

theorem wRead_any (b g : Nat) (xs : List Int) (i : Int) (w : World) (h : MemAt w b g xs) :
    Calls Tryz.prog 136 #[.pointer (some ⟨b, 0, none⟩), .int .i64 i] w fun e w' => e = .returned (.tuple #[.int .u64 (rdV xs i), .int .i64 (wrE xs.length i)]) ∧ w = w' := by
  have hc := h.cell
  have hl := h.2.2
  rcases (show (0 ≤ i ∧ i < xs.length) ∨ i < 0 ∨ xs.length ≤ i by omega) with ⟨h0, h1⟩ | h0 | h0
  · obtain ⟨i, rfl⟩ := Int.eq_ofNat_of_zero_le h0
    have hi : i < xs.length := by omega
    have hw := h.word i hi
    have e1 : Hid (rdV xs i = xs.getD i 0) := by show _ = _; simp [rdV, inB, hi]
    have e2 : Hid (wrE xs.length i = 0) := by show _ = _; simp [wrE, inB, hi]
    go_enter Tryz.func136, Tryz.ntmps136
    go_wp2
    go_ret2
    rw [e1.out, e2.out]
    exact ⟨by simp [hi], rfl⟩
  all_goals
    have e1 : Hid (rdV xs i = 0) := by show _ = _; simp [rdV, inB]; omega
    have e2 : Hid (wrE xs.length i = 8) := by show _ = _; simp [wrE, inB]; omega
    go_enter Tryz.func136, Tryz.ntmps136
    go_wp2
    go_ret2
    rw [e1.out, e2.out]
    exact ⟨rfl, rfl⟩
theorem wWrite_any (b g : Nat) (xs : List Int) (i v : Int) (w : World) (h : MemAt w b g xs) :
    Calls Tryz.prog 170 #[.pointer (some ⟨b, 0, none⟩), .int .i64 i, .int .u64 v] w fun e w' => e = .returned (.int .i64 (wrE xs.length i)) ∧ w.grownBy w' (some g) ∧ MemAt w' b g (wrL xs i v) := by
  have hc := h.cell
  have hl := h.2.2
  rcases (show (0 ≤ i ∧ i < xs.length) ∨ i < 0 ∨ xs.length ≤ i by omega) with ⟨h0, h1⟩ | h0 | h0
  · obtain ⟨i, rfl⟩ := Int.eq_ofNat_of_zero_le h0
    have hi : i < xs.length := by omega
    have hw := h.word i hi
    have hf := h.free i
    have e1 : Hid (wrL xs i v = xs.set i v) := by show _ = _; simp [wrL, inB, hi]
    have e2 : Hid (wrE xs.length i = 0) := by show _ = _; simp [wrE, inB, hi]
    go_enter Tryz.func170, Tryz.ntmps170
    go_wp2
    go_ret
    rw [e1.out, e2.out]
    exact ⟨rfl, grown_set _ _ _ _, h.set i v⟩
  all_goals
    have e1 : Hid (wrL xs i v = xs) := by show _ = _; simp [wrL, inB]; omega
    have e2 : Hid (wrE xs.length i = 8) := by show _ = _; simp [wrE, inB]; omega
    go_enter Tryz.func170, Tryz.ntmps170
    go_wp2
    go_ret
    rw [e1.out, e2.out]
    exact ⟨rfl, grown_refl _ _, h⟩
end Go.Proofs.YtcenagpkfimkbaaGreatDoor
/-
  words.Mem.has: do all words of a run stand there?
-/
namespace Go.Proofs.YtcenagpkfimkbaaGreatDoor
open Go Go.RowKit

/-- Do all words of a run stand there? -/
def hasB (n : Nat) (f k : Int) : Bool := decide (0 ≤ f ∧ 0 ≤ k ∧ f ≤ n ∧ k ≤ n - f)
theorem whas_any (b g : Nat) (xs : List Int) (f k : Int) (w : World) (h : MemAt w b g xs) :
    Calls Tryz.prog 216 #[.pointer (some ⟨b, 0, none⟩), .agg #[.int .i64 f, .int .i64 k]] w fun e w' => e = .returned (.bool (hasB xs.length f k)) ∧ Below w.heap.size w w' := by
  have hc := h.cell
  have hl := h.2.2
  have hlt := heap_lt h.1
  rcases (show f < 0 ∨ (0 ≤ f ∧ k < 0) ∨ (0 ≤ f ∧ 0 ≤ k ∧ (xs.length : Int) < f) ∨ (0 ≤ f ∧ 0 ≤ k ∧ f ≤ xs.length ∧ xs.length - f < k) ∨ (0 ≤ f ∧ 0 ≤ k ∧ f ≤ xs.length ∧ k ≤ xs.length - f) by omega) with h1 | ⟨h1, h2⟩ | ⟨h1, h2, h3⟩ | ⟨h1, h2, h3, h4⟩ | ⟨h1, h2, h3, h4⟩
  · have d1 : decide (0 ≤ f) = false := by simp; omega
    go_enter Tryz.func216, Tryz.ntmps216
    go_wp2
    go_quiet (fail)
    go_wp2
    go_ret
    exact ⟨ret_bool (by simp [hasB]; omega), below_drewN ((Below.refl _ _).alloc (Nat.le_refl _) _) _⟩
  · have d1 : decide (0 ≤ f) = true := by simp; omega
    have d2 : decide (0 ≤ k) = false := by simp; omega
    go_enter Tryz.func216, Tryz.ntmps216
    go_wp2
    go_quiet (fail)
    go_wp2
    go_ret
    exact ⟨ret_bool (by simp [hasB]; omega), below_drewN ((Below.refl _ _).alloc (Nat.le_refl _) _) _⟩
  · have d1 : decide (0 ≤ f) = true := by simp; omega
    have d2 : decide (0 ≤ k) = true := by simp; omega
    have d3 : decide (f ≤ (xs.length : Int)) = false := by simp; omega
    go_enter Tryz.func216, Tryz.ntmps216
    go_wp2
    go_quiet (fail)
    go_wp2
    go_ret
    exact ⟨ret_bool (by simp [hasB]; omega), below_drewN ((Below.refl _ _).alloc (Nat.le_refl _) _) _⟩
  · have d1 : decide (0 ≤ f) = true := by simp; omega
    have d2 : decide (0 ≤ k) = true := by simp; omega
    have d3 : decide (f ≤ (xs.length : Int)) = true := by simp; omega
    have d5 : IntKind.i64.wrap ((xs.length : Int) - f) = (xs.length : Int) - f := IntWalk.i64_in _ (by omega)
    have d4 : decide (k ≤ (xs.length : Int) - f) = false := by simp; omega
    go_enter Tryz.func216, Tryz.ntmps216
    go_wp2
    go_quiet (fail)
    go_wp2
    go_ret
    exact ⟨ret_bool (by simp [hasB]; omega), below_drewN ((Below.refl _ _).alloc (Nat.le_refl _) _) _⟩
  · have d1 : decide (0 ≤ f) = true := by simp; omega
    have d2 : decide (0 ≤ k) = true := by simp; omega
    have d3 : decide (f ≤ (xs.length : Int)) = true := by simp; omega
    have d5 : IntKind.i64.wrap ((xs.length : Int) - f) = (xs.length : Int) - f := IntWalk.i64_in _ (by omega)
    have d4 : decide (k ≤ (xs.length : Int) - f) = true := by simp; omega
    go_enter Tryz.func216, Tryz.ntmps216
    go_wp2
    go_quiet (fail)
    go_wp2
    go_ret
    exact ⟨ret_bool (by simp [hasB]; omega), below_drewN ((Below.refl _ _).alloc (Nat.le_refl _) _) _⟩
end Go.Proofs.YtcenagpkfimkbaaGreatDoor
/-
  bits.Row: marks in words: what it is in the model; New, Len, Has.
-/
namespace Go.Proofs.YtcenagpkfimkbaaGreatDoor
open Go Go.RowKit

/-- Words that hold marks. -/
def BitsOf (ws : List Int) (xs : List Bool) : Prop :=
  ws.length = (xs.length + 63) / 64 ∧ ∀ j, j < ws.length → ∃ v : Nat, ws[j]? = some (v : Int) ∧ v < 2 ^ 64 ∧ ∀ i, i < 64 → v.testBit i = xs.getD (64 * j + i) false
def RowAt (w : World) (b g : Nat) (xs : List Bool) : Prop :=
  ∃ ws, BitsOf ws xs ∧ w.heap[b]? = some (.cells #[.slice (some ⟨g, 0, none⟩) ws.length ws.length, .int .i64 xs.length] 231 (0, 0)) ∧ w.heap[g]? = some (.cells (u64s ws) 34 (0, 0)) ∧ xs.length ≤ 16384

theorem RowAt.ne {w : World} {b g : Nat} {xs : List Bool} (h : RowAt w b g xs) : b ≠ g := by
  obtain ⟨ws, _, h1, h2, _⟩ := h
  rintro rfl
  rw [h1] at h2
  simp at h2
theorem RowAt.moved {w w' : World} {b g : Nat} {xs : List Bool} {T : Nat → Prop} (h : RowAt w b g xs) (hm : Moved T w w') (hb : ¬ T b) (hg : ¬ T g) : RowAt w' b g xs := by
  obtain ⟨ws, h0, h1, h2, h3⟩ := h
  exact ⟨ws, h0, hm.heap h1 hb, hm.heap h2 hg, h3⟩
theorem RowAt.later {w w' : World} {b g : Nat} {xs : List Bool} (h : RowAt w b g xs) (hb : Below w.heap.size w w') : RowAt w' b g xs :=
  h.moved (Moved.of_below hb (fun _ => False)) id id

theorem BitsOf.zero (n : Nat) : BitsOf (List.replicate ((n + 63) / 64) 0) (List.replicate n false) := by
  refine ⟨by simp, fun j hj => ⟨0, ?_, by omega, fun i _ => ?_⟩⟩
  · simp at hj
    simp [hj]
  · rw [Nat.zero_testBit]
    simp [List.getElem?_replicate]
    split <;> simp

set_option maxRecDepth 100000 in
theorem bNew_any (n : Nat) (w : World) (hn : n ≤ 16384) :
    Calls Tryz.prog 92 #[.int .i64 n] w fun e w' => e = .returned (.tuple #[.pointer (some ⟨w.heap.size + 1, 0, none⟩), .int .i64 0]) ∧ Below w.heap.size w w' ∧ RowAt w' (w.heap.size + 1) w.heap.size (List.replicate n false) := by
  obtain ⟨q, hq⟩ : ∃ q, (n + 63) / 64 = q := ⟨_, rfl⟩
  have hmk := run_mk64 q (by omega)
  have h1 : ((n : Int) + 64 - 1) / 64 = (q : Int) := by omega
  have h2 : ((n : Int) + 63) / 64 = (q : Int) := by omega
  have HQ := Lib.hid hq
  clear hq
  go_enter Tryz.func92, Tryz.ntmps92
  go_wp2
  go_ret2
  refine ⟨rfl, ((Below.refl _ _).alloc (Nat.le_refl _) _).alloc (by simp) _, List.replicate ((n + 63) / 64) 0, BitsOf.zero n, ?_, ?_, by simpa using hn⟩
  · rw [HQ.out]
    simpa using heap_alloc_eq (w.alloc (.cells (zrow q) 34)) (.cells #[.slice (some ⟨w.heap.size, 0, none⟩) q q, .int .i64 n] 231)
  · rw [HQ.out, ← zrow_eq]
    exact heap_alloc_lt (heap_alloc_eq _ _) _

theorem bLen_any (b g : Nat) (xs : List Bool) (w : World) (h : RowAt w b g xs) :
    Calls Tryz.prog 132 #[.pointer (some ⟨b, 0, none⟩)] w fun e w' => e = .returned (.int .i64 xs.length) ∧ w = w' := by
  obtain ⟨ws, _, h1, _, _⟩ := h
  have c1 := heap_cell h1 1
  simp at c1
  clear h1
  go_enter Tryz.func132, Tryz.ntmps132
  go_wp2
  go_ret
  exact ⟨rfl, rfl⟩

/-- A word's bit, as the program asks for it. -/
theorem and_one (x : Int) (h0 : 0 ≤ x) (h1 : x < 18446744073709551616) : bits .and .u64 x 1 = x % 2 := by
  obtain ⟨m, rfl⟩ := Int.eq_ofNat_of_zero_le h0
  rw [u64_and _ _ h0 h1 (by omega) (by omega), Int.toNat_natCast, show ((1 : Int).toNat) = 1 from rfl, Nat.and_one_is_mod]
  rfl
theorem bit_eq (v m : Nat) (hv : v < 2 ^ 64) : (bits .and .u64 ((v : Int) / 2 ^ m) 1 == 1) = v.testBit m := by
  have e : (v : Int) / 2 ^ m = ((v / 2 ^ m : Nat) : Int) := by push_cast; rfl
  have hle : v / 2 ^ m ≤ v := Nat.div_le_self _ _
  obtain ⟨y, hy⟩ : ∃ y, v / 2 ^ m = y := ⟨_, rfl⟩
  rw [hy] at hle
  rw [e, hy, and_one _ (by omega) (by omega), Nat.testBit_eq_decide_div_mod_eq, hy]
  rw [Bool.eq_iff_iff]
  simp
  omega
/-- Is a place marked? -/
def hasM (xs : List Bool) (i : Int) : Bool := if 0 ≤ i ∧ i < xs.length then xs.getD i.toNat false else false

set_option maxRecDepth 100000 in
theorem bHas_any (b g : Nat) (xs : List Bool) (i : Int) (w : World) (h : RowAt w b g xs) :
    Calls Tryz.prog 194 #[.pointer (some ⟨b, 0, none⟩), .int .i64 i] w fun e w' => e = .returned (.bool (hasM xs i)) ∧ w = w' := by
  obtain ⟨ws, ⟨hl, hbt⟩, h1, h2, h3⟩ := h
  have c0 := heap_cell h1 0
  have c1 := heap_cell h1 1
  simp at c0 c1
  clear h1
  by_cases hi : 0 ≤ i ∧ i < xs.length
  · obtain ⟨k, rfl⟩ := Int.eq_ofNat_of_zero_le hi.1
    have hk : k < xs.length := by omega
    have hkw : k / 64 < ws.length := by omega
    obtain ⟨v, hv, hv2, hv3⟩ := hbt (k / 64) hkw
    have c2 := heap_cell h2 (k / 64)
    simp [u64s, hv] at c2
    have hM : hasM xs (k : Int) = v.testBit (k % 64) := by
      rw [hv3 _ (by omega), hasM, if_pos hi, Int.toNat_natCast]
      congr 1
      omega
    have HM := Lib.hid (And.intro hM hv2)
    obtain ⟨wl, hwl⟩ : ∃ x, ws.length = x := ⟨_, rfl⟩
    rw [hwl] at c0 hkw
    clear h2 hbt hl hv hv3 hv2 hM hi hwl
    go_enter Tryz.func194, Tryz.ntmps194
    go_wp2
    go_ret
    exact ⟨ret_bool (by rw [HM.out.1]; exact bit_eq _ _ HM.out.2), rfl⟩
  · have hM : hasM xs i = false := by rw [hasM, if_neg hi]
    rw [hM]
    clear h2 hbt hl c0
    by_cases h0 : 0 ≤ i
    · have h5 : ¬ i < (xs.length : Int) := fun h => hi ⟨h0, h⟩
      go_enter Tryz.func194, Tryz.ntmps194
      go_wp2
      go_ret
      exact ⟨rfl, rfl⟩
    · go_enter Tryz.func194, Tryz.ntmps194
      go_wp2
      go_ret
      exact ⟨rfl, rfl⟩

/-- Are all places of a run there? -/
theorem bfits_any (b g : Nat) (xs : List Bool) (f k : Int) (w : World) (h : RowAt w b g xs) :
    Calls Tryz.prog 187 #[.pointer (some ⟨b, 0, none⟩), .agg #[.int .i64 f, .int .i64 k]] w fun e w' => e = .returned (.bool (hasB xs.length f k)) ∧ Below w.heap.size w w' := by
  obtain ⟨ws, _, hrow, _, hl⟩ := h
  have hc := heap_cell hrow 1
  simp at hc
  have hlt := heap_lt hrow
  clear hrow
  rcases (show f < 0 ∨ (0 ≤ f ∧ k < 0) ∨ (0 ≤ f ∧ 0 ≤ k ∧ (xs.length : Int) < f) ∨ (0 ≤ f ∧ 0 ≤ k ∧ f ≤ xs.length ∧ xs.length - f < k) ∨ (0 ≤ f ∧ 0 ≤ k ∧ f ≤ xs.length ∧ k ≤ xs.length - f) by omega) with h1 | ⟨h1, h2⟩ | ⟨h1, h2, h3⟩ | ⟨h1, h2, h3, h4⟩ | ⟨h1, h2, h3, h4⟩
  · have d1 : decide (0 ≤ f) = false := by simp; omega
    go_enter Tryz.func187, Tryz.ntmps187
    go_wp2
    go_quiet (fail)
    go_wp2
    go_ret
    exact ⟨ret_bool (by simp [hasB]; omega), below_drewN ((Below.refl _ _).alloc (Nat.le_refl _) _) _⟩
  · have d1 : decide (0 ≤ f) = true := by simp; omega
    have d2 : decide (0 ≤ k) = false := by simp; omega
    go_enter Tryz.func187, Tryz.ntmps187
    go_wp2
    go_quiet (fail)
    go_wp2
    go_ret
    exact ⟨ret_bool (by simp [hasB]; omega), below_drewN ((Below.refl _ _).alloc (Nat.le_refl _) _) _⟩
  · have d1 : decide (0 ≤ f) = true := by simp; omega
    have d2 : decide (0 ≤ k) = true := by simp; omega
    have d3 : decide (f ≤ (xs.length : Int)) = false := by simp; omega
    go_enter Tryz.func187, Tryz.ntmps187
    go_wp2
    go_quiet (fail)
    go_wp2
    go_ret
    exact ⟨ret_bool (by simp [hasB]; omega), below_drewN ((Below.refl _ _).alloc (Nat.le_refl _) _) _⟩
  · have d1 : decide (0 ≤ f) = true := by simp; omega
    have d2 : decide (0 ≤ k) = true := by simp; omega
    have d3 : decide (f ≤ (xs.length : Int)) = true := by simp; omega
    have d5 : IntKind.i64.wrap ((xs.length : Int) - f) = (xs.length : Int) - f := IntWalk.i64_in _ (by omega)
    have d4 : decide (k ≤ (xs.length : Int) - f) = false := by simp; omega
    go_enter Tryz.func187, Tryz.ntmps187
    go_wp2
    go_quiet (fail)
    go_wp2
    go_ret
    exact ⟨ret_bool (by simp [hasB]; omega), below_drewN ((Below.refl _ _).alloc (Nat.le_refl _) _) _⟩
  · have d1 : decide (0 ≤ f) = true := by simp; omega
    have d2 : decide (0 ≤ k) = true := by simp; omega
    have d3 : decide (f ≤ (xs.length : Int)) = true := by simp; omega
    have d5 : IntKind.i64.wrap ((xs.length : Int) - f) = (xs.length : Int) - f := IntWalk.i64_in _ (by omega)
    have d4 : decide (k ≤ (xs.length : Int) - f) = true := by simp; omega
    go_enter Tryz.func187, Tryz.ntmps187
    go_wp2
    go_quiet (fail)
    go_wp2
    go_ret
    exact ⟨ret_bool (by simp [hasB]; omega), below_drewN ((Below.refl _ _).alloc (Nat.le_refl _) _) _⟩
end Go.Proofs.YtcenagpkfimkbaaGreatDoor
/-
  bits.Row: Mark.
-/
namespace Go.Proofs.YtcenagpkfimkbaaGreatDoor
open Go Go.RowKit

/-- The marks when a run's are laid. -/
def markL (xs : List Bool) (f k : Nat) (on : Bool) : List Bool := xs.take f ++ (List.replicate k on ++ xs.drop (f + k))
def markX (xs : List Bool) (f k : Int) (on : Bool) : List Bool := if hasB xs.length f k = true then markL xs f.toNat k.toNat on else xs
def markE (n : Nat) (f k : Int) : Int := if hasB n f k = true then 0 else 8

theorem wrap_pow (m : Nat) (hm : m < 64) : IntKind.u64.wrap (2 ^ m) = ((2 ^ m : Nat) : Int) := by
  have h : 2 ^ m < 2 ^ 64 := Nat.pow_lt_pow_right (by omega) hm
  obtain ⟨y, hy⟩ : ∃ y, 2 ^ m = y := ⟨_, rfl⟩
  have e : ((2 : Int) ^ m) = (y : Int) := by rw [← hy]; push_cast; rfl
  rw [e, hy]
  rw [hy] at h
  rw [IntKind.wrap_u64]
  omega
theorem clear_bit (v m : Nat) (hv : v < 2 ^ 64) (hm : m < 64) : ∃ v1 : Nat, bits .andNot .u64 (v : Int) (IntKind.u64.wrap (2 ^ m)) = (v1 : Int) ∧ v1 < 2 ^ 64 ∧ ∀ i, i < 64 → v1.testBit i = (v.testBit i && !decide (i = m)) := by
  have h : 2 ^ m < 2 ^ 64 := Nat.pow_lt_pow_right (by omega) hm
  refine ⟨v &&& (18446744073709551615 - 2 ^ m), ?_, Nat.lt_of_le_of_lt Nat.and_le_left hv, fun i hi => ?_⟩
  · rw [wrap_pow m hm]
    exact u64_andNot_nat v (2 ^ m) (by omega) (by omega)
  · rw [Nat.testBit_and, show 18446744073709551615 - 2 ^ m = 2 ^ 64 - (2 ^ m + 1) by omega, Nat.testBit_two_pow_sub_succ h, Nat.testBit_two_pow]
    congr 1
    simp [hi]
    by_cases e : i = m
    · simp [e]
    · simp [e]; omega
theorem set_bit (v m : Nat) (hv : v < 2 ^ 64) (hm : m < 64) : ∃ v1 : Nat, bits .or .u64 (v : Int) (IntKind.u64.wrap (2 ^ m)) = (v1 : Int) ∧ v1 < 2 ^ 64 ∧ ∀ i, i < 64 → v1.testBit i = (v.testBit i || decide (i = m)) := by
  have h : 2 ^ m < 2 ^ 64 := Nat.pow_lt_pow_right (by omega) hm
  refine ⟨v ||| 2 ^ m, ?_, Nat.or_lt_two_pow hv h, fun i hi => ?_⟩
  · rw [wrap_pow m hm]
    obtain ⟨y, hy⟩ : ∃ y, 2 ^ m = y := ⟨_, rfl⟩
    rw [hy] at h ⊢
    have := u64_or (v : Int) (y : Int) (by omega) (by omega) (by omega) (by omega)
    simpa using this
  · rw [Nat.testBit_or, Nat.testBit_two_pow]
    congr 1
    by_cases e : i = m
    · simp [e]
    · simp [e]; omega
/-- One mark turned. -/
theorem BitsOf.set {ws : List Int} {xs : List Bool} (h : BitsOf ws xs) (q : Nat) (hq : q < xs.length) (on : Bool) (v v' : Nat) (hv : ws[q / 64]? = some (v : Int)) (hv' : v' < 2 ^ 64) (ht : ∀ i, i < 64 → v'.testBit i = if i = q % 64 then on else v.testBit i) :
    BitsOf (ws.set (q / 64) (v' : Int)) (xs.set q on) := by
  obtain ⟨hl, hb⟩ := h
  refine ⟨by simpa using hl, fun j hj => ?_⟩
  rw [List.length_set] at hj
  by_cases e : j = q / 64
  · subst e
    refine ⟨v', by simp [hj], hv', fun i hi => ?_⟩
    obtain ⟨u, hu, _, hu3⟩ := hb _ hj
    rw [hv] at hu
    obtain rfl : v = u := by simp at hu; omega
    rw [ht i hi]
    by_cases e2 : i = q % 64
    · subst e2
      rw [if_pos rfl, show 64 * (q / 64) + q % 64 = q by omega]
      simp [hq]
    · rw [if_neg e2, hu3 i hi]
      have : q ≠ 64 * (q / 64) + i := by omega
      simp [this]
  · obtain ⟨u, hu, hu2, hu3⟩ := hb j hj
    refine ⟨u, by rw [List.getElem?_set_ne (fun h => e h.symm)]; exact hu, hu2, fun i hi => ?_⟩
    rw [hu3 i hi]
    have : q ≠ 64 * j + i := by omega
    simp [this]
theorem markL_zero (xs : List Bool) (f : Nat) (on : Bool) : markL xs f 0 on = xs := by simp [markL]
theorem markL_len (xs : List Bool) (f k : Nat) (on : Bool) (h : f + k ≤ xs.length) : (markL xs f k on).length = xs.length := by simp [markL]; omega
theorem markL_succ (xs : List Bool) (f j : Nat) (on : Bool) (h : f + j < xs.length) : (markL xs f j on).set (f + j) on = markL xs f (j + 1) on := by
  apply List.ext_getElem?
  intro i
  simp only [markL, List.getElem?_set, List.length_append, List.length_take, List.length_replicate, List.length_drop, List.getElem?_append, List.getElem?_take, List.getElem?_replicate, List.getElem?_drop]
  repeat' split
  all_goals first | rfl | omega | (congr 1; omega) | skip
theorem mset (w : World) (g i : Nat) (v : Value) : Moved (fun q => q = g) w (w.setCell ⟨g, i, none⟩ v).drew :=
  (Moved.of_set (S := fun q => q = g) w g i v rfl).trans (Moved.drew (fun q => q = g) _) (fun _ e => .inl e)
/-- A row's blocks, its words known. -/
def RowW (w : World) (b g : Nat) (ws : List Int) (xs : List Bool) : Prop :=
  BitsOf ws xs ∧ w.heap[b]? = some (.cells #[.slice (some ⟨g, 0, none⟩) ws.length ws.length, .int .i64 xs.length] 231 (0, 0)) ∧ w.heap[g]? = some (.cells (u64s ws) 34 (0, 0)) ∧ xs.length ≤ 16384
theorem RowW.row {w : World} {b g : Nat} {ws : List Int} {xs : List Bool} (h : RowW w b g ws xs) : RowAt w b g xs := ⟨ws, h⟩
theorem RowW.set {w : World} {b g : Nat} {ws : List Int} {xs : List Bool} (h : RowW w b g ws xs) (q : Nat) (hq : q < xs.length) (on : Bool) (v v' : Nat) (hv : ws[q / 64]? = some (v : Int)) (hv' : v' < 2 ^ 64) (ht : ∀ i, i < 64 → v'.testBit i = if i = q % 64 then on else v.testBit i) : RowW (w.setCell ⟨g, q / 64, none⟩ (.int .u64 (v' : Int))) b g (ws.set (q / 64) (v' : Int)) (xs.set q on) := by
  have hne := h.row.ne
  obtain ⟨h0, h1, h2, h3⟩ := h
  refine ⟨h0.set q hq on v v' hv hv' ht, ?_, ?_, by simpa using h3⟩
  · rw [heap_set_ne hne]; simpa using h1
  · rw [heap_set h2]; simp [u64s, List.map_set]
theorem RowW.moved {w w' : World} {b g : Nat} {ws : List Int} {xs : List Bool} {T : Nat → Prop} (h : RowW w b g ws xs) (hm : Moved T w w') (hb : ¬ T b) (hg : ¬ T g) : RowW w' b g ws xs :=
  ⟨h.1, hm.heap h.2.1 hb, hm.heap h.2.2.1 hg, h.2.2.2⟩
theorem RowW.drew {w : World} {b g : Nat} {ws : List Int} {xs : List Bool} (h : RowW w b g ws xs) : RowW w.drew b g ws xs := h

set_option maxRecDepth 100000 in
set_option maxHeartbeats 1000000 in
theorem bMark_any (b g : Nat) (xs : List Bool) (f k : Int) (on : Bool) (w : World) (h : RowAt w b g xs) :
    Calls Tryz.prog 158 #[.pointer (some ⟨b, 0, none⟩), .agg #[.int .i64 f, .int .i64 k], .bool on] w fun e w' => e = .returned (.int .i64 (markE xs.length f k)) ∧ Moved (fun q => q = g) w w' ∧ RowAt w' b g (markX xs f k on) := by
  have H := Lib.hid h
  have hbA : Below w.heap.size w (w.alloc (.cells #[.int .i64 f, .int .i64 k] 160)) := (Below.refl _ _).alloc (Nat.le_refl _) _
  have hH := bfits_any b g xs f k _ (h.later hbA)
  clear h
  by_cases hB : hasB xs.length f k = true
  · have e1 : Hid (markE xs.length f k = 0) := Lib.hid (by rw [markE, if_pos hB])
    have e2 : Hid (markX xs f k on = markL xs f.toNat k.toNat on) := Lib.hid (by rw [markX, if_pos hB])
    rw [hB] at hH
    obtain ⟨h0, h1, h2, h3⟩ : 0 ≤ f ∧ 0 ≤ k ∧ f ≤ xs.length ∧ k ≤ xs.length - f := by simpa [hasB] using hB
    obtain ⟨f, rfl⟩ := Int.eq_ofNat_of_zero_le h0
    obtain ⟨k, rfl⟩ := Int.eq_ofNat_of_zero_le h1
    simp only [Int.toNat_natCast] at e2
    have hn : xs.length ≤ 16384 := by obtain ⟨_, _, _, _, h⟩ := H.out; exact h
    have hfk : f + k ≤ xs.length := by omega
    have HB := Lib.hid hbA
    have HBx := Lib.hid (heap_alloc_eq w (.cells #[.int .i64 f, .int .i64 k] 160))
    clear hB hbA h0 h1 h2 h3
    go_enter Tryz.func158, Tryz.ntmps158
    go_wp2_with fail
    refine hH.mono ?_
    rintro e w1 ⟨rfl, hb1⟩
    have HX := Lib.hid (heap_below hb1 HBx.out (heap_lt HBx.out))
    have HR := Lib.hid ((H.out.later HB.out).later hb1)
    have HM := Lib.hid ((Moved.of_below HB.out (fun q => q = g)).trans (Moved.of_below hb1 (fun q => q = g)) (fun q e => .inl e))
    clear hb1 hH
    have hx0 := heap_cell HX.out 0
    simp only [List.getElem?_toArray, List.getElem?_cons_zero] at hx0
    go_wp2
    clear hx0
    have hneg : w.heap.size ≠ g := by obtain ⟨_, _, _, h, _⟩ := H.out; have := heap_lt h; omega
    go_loopw [7] (fun a wr => ∃ j : Nat, j ≤ k ∧ a = .int .i64 ((f + j : Nat) : Int) ∧ Hid (RowAt wr b g (markL xs f j on) ∧ Moved (fun q => q = g) w wr ∧ wr.heap[w.heap.size]? = some (.cells #[.int .i64 f, .int .i64 k] 160 (0, 0)))) (fun a _ => f + k - (intOf a).toNat)
    case atStart => exact ⟨0, Nat.zero_le _, rfl, Lib.hid ⟨by rw [markL_zero]; exact HR.out, HM.out, HX.out⟩⟩
    case round =>
      obtain ⟨j, hj, rfl, HV⟩ := hrel
      have hx0 := heap_cell HV.out.2.2 0
      have hx1 := heap_cell HV.out.2.2 1
      simp only [List.getElem?_toArray, List.getElem?_cons_zero, List.getElem?_cons_succ] at hx0 hx1
      obtain ⟨q, hq⟩ : ∃ x, f + j = x := ⟨_, rfl⟩
      rw [hq]
      by_cases hlt : j < k
      · obtain ⟨ws, ⟨hl, hbt⟩, r1, r2, r3⟩ := HV.out.1
        have hml : (markL xs f j on).length = xs.length := markL_len _ _ _ _ (by omega)
        rw [hml] at hl
        have hqw : q / 64 < ws.length := by omega
        obtain ⟨v, hv, hv2, hv3⟩ := hbt (q / 64) hqw
        have c0 := heap_cell r1 0
        have c2 := heap_cell r2 (q / 64)
        have d2 := heap_free r2 (q / 64)
        simp [u64s, hv] at c0 c2
        obtain ⟨v1, E1, l1, t1⟩ := clear_bit v (q % 64) hv2 (by omega)
        obtain ⟨v2, E2, l2, t2⟩ := set_bit v1 (q % 64) l1 (by omega)
        have HA := Lib.hid (RowW.set (w := wr) (b := b) (g := g) ⟨⟨by rw [hml]; exact hl, hbt⟩, r1, r2, r3⟩ q (by rw [hml]; omega) false v v1 hv l1 (fun i hi => by rw [t1 i hi]; by_cases e : i = q % 64 <;> simp [e]))
        have HS := Lib.hid (HA.out.set q (by rw [List.length_set, hml]; omega) true v1 v2 (by simp [hqw]) l2 (fun i hi => by rw [t2 i hi]; by_cases e : i = q % 64 <;> simp [e]))
        obtain ⟨wl, hwl⟩ : ∃ x, ws.length = x := ⟨_, rfl⟩
        rw [hwl] at c0 hqw
        obtain ⟨d, hd⟩ : ∃ x, q / 64 = x := ⟨_, rfl⟩
        obtain ⟨m, hm⟩ : ∃ x, q % 64 = x := ⟨_, rfl⟩
        have i2 : (q : Int) < (f : Int) + (k : Int) := by omega
        have i4 : IntKind.i64.wrap ((q : Int) / 64) = (d : Int) := by rw [IntKind.wrap_i64]; omega
        have i5 : (q : Int).tmod 64 = (m : Int) := by rw [Int.tmod_eq_emod_of_nonneg (by omega)]; omega
        have i6 : (m : Int) < 64 := by omega
        have i7 : (0 : Int) ≤ (m : Int) := by omega
        rw [hd] at hqw c2 d2 HA HS
        rw [hm] at E1 E2
        have i0 : (0 : Int) ≤ (d : Int) := by omega
        have i1 : (d : Int) < (wl : Int) := by omega
        have i8 : (q : Int) + 1 ≤ 20000 := by omega
        have HQ := Lib.hid (And.intro hq (markL_succ xs f j on (by omega)))
        have HL := Lib.hid hwl
        clear hl hbt r1 r2 r3 hml hv hv2 hv3 hwl hq hd hm t1 t2 l1 l2
        cases on
        · go_wp2
          go_still_tail 13, (by kernel_rfl)
          change wpList _ _ _ _ _ wr.drew
          go_wp2
          go_roundw
          case rel =>
            refine ⟨j + 1, by omega, by rw [← HQ.out.1]; simp; omega, Lib.hid ⟨?_, ?_, ?_⟩⟩
            · have := HA.out.row
              rw [← HQ.out.1, HQ.out.2] at this
              exact this
            · exact HV.out.2.1.trans (mset wr g d _) (fun _ e => .inl e)
            · exact (Moved.of_set (S := fun q => q = g) wr g d _ rfl).heap HV.out.2.2 hneg
          case measure => simp [intOf]; omega
        · go_wp2
          go_still_tail 13, (by kernel_rfl)
          change wpList _ _ _ _ _ wr.drew
          go_wp2
          have hA := HA.out
          have c0' := heap_cell hA.2.1 0
          have c2' := heap_cell hA.2.2.1 d
          have d2' := heap_free hA.2.2.1 d
          have hlw : d < ws.length := by rw [HL.out]; exact hqw
          simp [u64s, hlw] at c0' c2'
          rw [HL.out] at c0'
          have hm2 : Moved (fun q => q = g) wr (wr.setCell ⟨g, d, none⟩ (.int .u64 (v1 : Int))).drew := mset wr g d _
          have c0'' : (wr.setCell ⟨g, d, none⟩ (.int .u64 (v1 : Int))).drew.cell? ⟨b, 0, none⟩ = some (.slice (some ⟨g, 0, none⟩) wl wl) := c0'
          have c2'' : (wr.setCell ⟨g, d, none⟩ (.int .u64 (v1 : Int))).drew.cell? ⟨g, d, none⟩ = some (.int .u64 v1) := c2'
          have d2'' : (wr.setCell ⟨g, d, none⟩ (.int .u64 (v1 : Int))).drew.frozen? ⟨g, d, none⟩ = false := d2'
          have HM2 := Lib.hid hm2
          clear hA c0' c2' d2' hlw hm2 c0 c2 d2 hx0 hx1
          generalize hW2 : World.drew _ = w2
          rw [hW2] at c0'' c2'' d2''
          have HW2 := Lib.hid hW2
          clear hW2
          go_still_tail 13, (by kernel_rfl)
          change wpList _ _ _ _ _ w2.drew
          go_wp2
          go_roundw
          case rel =>
            have hW2 := HW2.out
            subst hW2
            refine ⟨j + 1, by omega, by rw [← HQ.out.1]; simp; omega, Lib.hid ⟨?_, ?_, ?_⟩⟩
            · have := HS.out.row
              rw [List.set_set, ← HQ.out.1, HQ.out.2] at this
              exact this
            · exact (HV.out.2.1.trans HM2.out (fun _ e => .inl e)).trans (mset _ g d _) (fun _ e => .inl e)
            · exact (Moved.of_set (S := fun q => q = g) _ g d _ rfl).heap (HM2.out.heap HV.out.2.2 hneg) hneg
          case measure => simp [intOf]; omega
      · obtain rfl : j = k := by omega
        have i2 : ¬ (q : Int) < (f : Int) + (j : Int) := by omega
        have i9 : (f : Int) + (j : Int) ≤ 20000 := by omega
        go_wp2
        go_ret
        exact ⟨by rw [e1.out]; rfl, HV.out.2.1, by rw [e2.out]; exact HV.out.1⟩
  · have hB' : hasB xs.length f k = false := by simpa using hB
    have e1 : Hid (markE xs.length f k = 8) := Lib.hid (by rw [markE, if_neg hB])
    have e2 : Hid (markX xs f k on = xs) := Lib.hid (by rw [markX, if_neg hB])
    rw [hB'] at hH
    have HB := Lib.hid hbA
    clear hB hB' hbA
    go_enter Tryz.func158, Tryz.ntmps158
    go_wp2_with fail
    refine hH.mono ?_
    rintro e w1 ⟨rfl, hb1⟩
    go_wp2
    go_ret
    exact ⟨by rw [e1.out]; rfl, (Moved.of_below HB.out _).trans (Moved.of_below hb1 (fun q => q = g)) (fun q e => .inl e), by rw [e2.out]; exact (H.out.later HB.out).later hb1⟩
end Go.Proofs.YtcenagpkfimkbaaGreatDoor
/-
  bits.Row: Whole, Next.
-/
namespace Go.Proofs.YtcenagpkfimkbaaGreatDoor
open Go Go.RowKit

theorem hasM_nat (xs : List Bool) (i : Nat) : hasM xs (i : Int) = xs.getD i false := by
  unfold hasM
  split
  · rfl
  · rw [List.getD_eq_getElem?_getD, List.getElem?_eq_none (by omega)]; rfl

/-- Are all places of a run there, and alike? -/
def wholeM (xs : List Bool) (f k : Int) (on : Bool) : Bool := hasB xs.length f k && decide (∀ i, i < k.toNat → xs.getD (f.toNat + i) false = on)

set_option maxRecDepth 100000 in
set_option maxHeartbeats 1000000 in
theorem bWhole_any (b g : Nat) (xs : List Bool) (f k : Int) (on : Bool) (w : World) (h : RowAt w b g xs) :
    Calls Tryz.prog 188 #[.pointer (some ⟨b, 0, none⟩), .agg #[.int .i64 f, .int .i64 k], .bool on] w fun e w' => e = .returned (.bool (wholeM xs f k on)) ∧ Below w.heap.size w w' := by
  have H := Lib.hid h
  have hbA : Below w.heap.size w (w.alloc (.cells #[.int .i64 f, .int .i64 k] 160)) := (Below.refl _ _).alloc (Nat.le_refl _) _
  have hH := bfits_any b g xs f k _ (h.later hbA)
  clear h
  by_cases hB : hasB xs.length f k = true
  · rw [hB] at hH
    obtain ⟨h0, h1, h2, h3⟩ : 0 ≤ f ∧ 0 ≤ k ∧ f ≤ xs.length ∧ k ≤ xs.length - f := by simpa [hasB] using hB
    obtain ⟨f, rfl⟩ := Int.eq_ofNat_of_zero_le h0
    obtain ⟨k, rfl⟩ := Int.eq_ofNat_of_zero_le h1
    have hn : xs.length ≤ 16384 := by obtain ⟨_, _, _, _, h⟩ := H.out; exact h
    have hfk : f + k ≤ xs.length := by omega
    have hW : Hid (wholeM xs f k on = decide (∀ i, i < k → xs.getD (f + i) false = on)) := Lib.hid (by rw [wholeM, hB]; simp)
    have HB := Lib.hid hbA
    have HBx := Lib.hid (heap_alloc_eq w (.cells #[.int .i64 f, .int .i64 k] 160))
    clear hB hbA h0 h1 h2 h3
    go_enter Tryz.func188, Tryz.ntmps188
    go_wp2_with fail
    refine hH.mono ?_
    rintro e w1 ⟨rfl, hb1⟩
    have HX := Lib.hid (heap_below hb1 HBx.out (heap_lt HBx.out))
    have HR := Lib.hid ((H.out.later HB.out).later hb1)
    have HM := Lib.hid (HB.out.trans (hb1.mono HB.out.size))
    clear hb1 hH
    have hx0 := heap_cell HX.out 0
    have hx1 := heap_cell HX.out 1
    simp only [List.getElem?_toArray, List.getElem?_cons_zero, List.getElem?_cons_succ] at hx0 hx1
    go_wp2
    go_loopw [7] (fun a wr => ∃ j : Nat, j ≤ k ∧ a = .int .i64 ((f + j : Nat) : Int) ∧ wr = w1 ∧ Hid (∀ i, i < j → xs.getD (f + i) false = on)) (fun a _ => f + k - (intOf a).toNat)
    case atStart => exact ⟨0, Nat.zero_le _, rfl, rfl, Lib.hid (fun i hi => by omega)⟩
    case round =>
      obtain ⟨j, hj, rfl, rfl, HV⟩ := hrel
      obtain ⟨q, hq⟩ : ∃ x, f + j = x := ⟨_, rfl⟩
      rw [hq]
      by_cases hlt : j < k
      · have i2 : (q : Int) < (f : Int) + (k : Int) := by omega
        have i8 : (f : Int) + (k : Int) ≤ 20000 := by omega
        have hh := bHas_any b g xs q wr HR.out
        rw [hasM_nat] at hh
        obtain ⟨x, hx⟩ : ∃ x, xs.getD q false = x := ⟨_, rfl⟩
        rw [hx] at hh
        have HQ := Lib.hid (And.intro hq hx)
        clear hq hx
        go_wp2_with fail
        refine hh.mono ?_
        rintro e w2 ⟨rfl, rfl⟩
        clear hh
        by_cases hv : x = on
        · have e9 : (!x == on) = false := by rw [hv]; cases on <;> rfl
          have HV2 : Hid (∀ i, i < j + 1 → xs.getD (f + i) false = on) := Lib.hid fun i hi => by
            by_cases e : i = j
            · subst e; rw [HQ.out.1, HQ.out.2]; exact hv
            · exact HV.out i (by omega)
          clear hv
          go_wp2
          go_roundw
          case rel => exact ⟨j + 1, by omega, by rw [← HQ.out.1]; simp; omega, trivial, HV2⟩
          case measure => simp [intOf]; omega
        · have e9 : (!x == on) = true := by cases x <;> cases on <;> first | rfl | exact absurd rfl hv
          have HF : Hid (decide (∀ i, i < k → xs.getD (f + i) false = on) = false) := Lib.hid (by
            rw [decide_eq_false_iff_not]
            intro h
            have := h j hlt
            rw [HQ.out.1, HQ.out.2] at this
            exact hv this)
          clear hv
          go_wp2
          go_ret
          exact ⟨ret_bool (by rw [hW.out, HF.out]), HM.out⟩
      · obtain rfl : j = k := by omega
        have i2 : ¬ (q : Int) < (f : Int) + (j : Int) := by omega
        have i8 : (f : Int) + (j : Int) ≤ 20000 := by omega
        have HF : Hid (decide (∀ i, i < j → xs.getD (f + i) false = on) = true) := Lib.hid (by rw [decide_eq_true_iff]; exact HV.out)
        clear hq
        go_wp2
        go_ret
        exact ⟨ret_bool (by rw [hW.out, HF.out]), HM.out⟩
  · have hB' : hasB xs.length f k = false := by simpa using hB
    have e1 : Hid (wholeM xs f k on = false) := Lib.hid (by rw [wholeM, hB']; rfl)
    rw [hB'] at hH
    have HB := Lib.hid hbA
    clear hB hB' hbA
    go_enter Tryz.func188, Tryz.ntmps188
    go_wp2_with fail
    refine hH.mono ?_
    rintro e w1 ⟨rfl, hb1⟩
    go_wp2
    go_ret
    exact ⟨ret_bool e1.out.symm, HB.out.trans (hb1.mono HB.out.size)⟩

/-- The first marked place from another one on. -/
def nextM (xs : List Bool) (f : Int) : Option Nat := (List.range xs.length).find? fun i => decide (f ≤ i) && xs.getD i false
theorem nextM_some {xs : List Bool} {f : Int} {q : Nat} (hq : q < xs.length) (h1 : f ≤ q) (h2 : xs.getD q false = true) (h3 : ∀ i, i < q → f ≤ i → xs.getD i false = false) : nextM xs f = some q := by
  unfold nextM
  rw [List.find?_range_eq_some]
  refine ⟨by simp [h1]; simpa using h2, by simpa using hq, fun i hi => ?_⟩
  by_cases e : f ≤ (i : Int)
  · have := h3 i hi e
    simp [e]
    simpa using this
  · simp [e]
theorem nextM_none {xs : List Bool} {f : Int} (h3 : ∀ i, i < xs.length → f ≤ i → xs.getD i false = false) : nextM xs f = none := by
  unfold nextM
  rw [List.find?_range_eq_none]
  intro i hi
  by_cases e : f ≤ (i : Int)
  · have := h3 i hi e
    simp [e]
    simpa using this
  · simp [e]

set_option maxRecDepth 100000 in
set_option maxHeartbeats 1000000 in
theorem bNext_any (b g : Nat) (xs : List Bool) (f : Int) (w : World) (h : RowAt w b g xs) :
    Calls Tryz.prog 186 #[.pointer (some ⟨b, 0, none⟩), .int .i64 f] w fun e w' => e = .returned (.tuple #[.int .i64 ((nextM xs f).getD 0 : Nat), .bool (nextM xs f).isSome]) ∧ w = w' := by
  have H := Lib.hid h
  have hn : xs.length ≤ 16384 := by obtain ⟨_, _, _, _, h⟩ := h; exact h
  obtain ⟨n, hN⟩ : ∃ x, xs.length = x := ⟨_, rfl⟩
  have c1 : w.cell? ⟨b, 1, none⟩ = some (.int .i64 n) := by
    obtain ⟨_, _, h1, _, _⟩ := h
    have := heap_cell h1 1
    simpa [hN] using this
  rw [hN] at hn
  have HN := Lib.hid hN
  obtain ⟨s, hs⟩ : ∃ s : Nat, (s : Int) = max f 0 := ⟨(max f 0).toNat, by omega⟩
  have hs1 : (if f < 0 then (0 : Int) else f) = (s : Int) := by split <;> omega
  have hs2 : (if f ≤ 0 then (0 : Int) else f) = (s : Int) := by split <;> omega
  have HF := Lib.hid hs
  clear h hN hs
  go_enter Tryz.func186, Tryz.ntmps186
  go_wp2
  go_loopw [6] (fun a wr => ∃ q : Nat, s ≤ q ∧ (q ≤ n ∨ q = s) ∧ a = .int .i64 q ∧ wr = w ∧ Hid (∀ i, s ≤ i → i < q → xs.getD i false = false)) (fun a _ => n - (intOf a).toNat)
  case atStart => exact ⟨s, Nat.le_refl _, .inr rfl, rfl, rfl, Lib.hid (fun i h1 h2 => by omega)⟩
  case round =>
    obtain ⟨q, hq1, hq2, rfl, rfl, HV⟩ := hrel
    by_cases hlt : q < n
    · have i1 : (q : Int) < (n : Int) := by omega
      have hh := bHas_any b g xs q wr H.out
      rw [hasM_nat] at hh
      obtain ⟨x, hx⟩ : ∃ x, xs.getD q false = x := ⟨_, rfl⟩
      rw [hx] at hh
      have HX := Lib.hid hx
      clear hx hs1 hs2
      go_wp2_with fail
      refine hh.mono ?_
      rintro e w2 ⟨rfl, rfl⟩
      clear hh
      cases x
      · have HV2 : Hid (∀ i, s ≤ i → i < q + 1 → xs.getD i false = false) := Lib.hid fun i h1 h2 => by
          by_cases e : i = q
          · subst e; exact HX.out
          · exact HV.out i h1 (by omega)
        go_wp2
        go_roundw
        case rel => exact ⟨q + 1, by omega, .inl (by omega), by simp, trivial, HV2⟩
        case measure => simp [intOf]; omega
      · have HE : Hid (nextM xs f = some q) := Lib.hid (nextM_some (by rw [HN.out]; exact hlt) (by have := HF.out; omega) HX.out fun i h1 h2 => HV.out i (by have := HF.out; omega) h1)
        go_wp2
        go_ret2
        exact ⟨by rw [HE.out]; rfl, rfl⟩
    · have i1 : ¬ (q : Int) < (n : Int) := by omega
      have HE : Hid (nextM xs f = none) := Lib.hid (nextM_none fun i h1 h2 => HV.out i (by have := HF.out; omega) (by rw [HN.out] at h1; omega))
      clear hs1 hs2
      go_wp2
      go_ret2
      exact ⟨by rw [HE.out]; rfl, rfl⟩
end Go.Proofs.YtcenagpkfimkbaaGreatDoor
