/-
  Contracts of functions of the program, laid together.
-/
import Derived.Test.YtcenagpkfimkbaaGreatDoorTopSlotsM2
import Derived.Maps.OwnSet
import Derived.Maps.OwnOps
namespace Go.Proofs.YtcenagpkfimkbaaGreatDoor
open Go Go.RowKit

abbrev IM (α : Type) := List (Int × α)
section
variable {α : Type}
def lk (m : IM α) (k : Int) : Option α := (m.find? (fun p => decide (p.1 = k))).map (·.2)
def mins (x : Int × α) : IM α → IM α
  | [] => [x]
  | y :: r => if x.1 < y.1 then x :: y :: r else y :: mins x r
def mdel (m : IM α) (k : Int) : IM α := m.filter fun p => decide (p.1 ≠ k)
def mput (m : IM α) (k : Int) (v : α) : IM α := mins (k, v) (mdel m k)
def Rising (m : IM α) : Prop := m.Pairwise (fun p r => p.1 < r.1)

theorem mem_mins {x y : Int × α} {m : IM α} : y ∈ mins x m ↔ y = x ∨ y ∈ m := by
  induction m with
  | nil => simp [mins]
  | cons z r ih =>
    unfold mins
    split
    · simp
    · simp [ih]
      constructor
      · rintro (h | h | h)
        · exact .inr (.inl h)
        · exact .inl h
        · exact .inr (.inr h)
      · rintro (h | h | h)
        · exact .inr (.inl h)
        · exact .inl h
        · exact .inr (.inr h)
theorem mem_mdel {y : Int × α} {m : IM α} {k : Int} : y ∈ mdel m k ↔ y ∈ m ∧ y.1 ≠ k := by simp [mdel]
theorem Rising.del {m : IM α} (h : Rising m) (k : Int) : Rising (mdel m k) := h.filter _
theorem Rising.ins {m : IM α} (h : Rising m) (x : Int × α) (hx : ∀ y ∈ m, y.1 ≠ x.1) : Rising (mins x m) := by
  induction m with
  | nil => simp [mins, Rising]
  | cons z r ih =>
    obtain ⟨h1, h2⟩ := List.pairwise_cons.1 h
    unfold mins
    split
    · rename_i hlt
      refine List.pairwise_cons.2 ⟨fun y hy => ?_, h⟩
      rcases List.mem_cons.1 hy with rfl | hy
      · exact hlt
      · have := h1 y hy; omega
    · rename_i hlt
      have hz := hx z (by simp)
      refine List.pairwise_cons.2 ⟨fun y hy => ?_, ih h2 (fun y hy => hx y (by simp [hy]))⟩
      rcases mem_mins.1 hy with rfl | hy
      · omega
      · exact h1 y hy
theorem Rising.put {m : IM α} (h : Rising m) (k : Int) (v : α) : Rising (mput m k v) :=
  (h.del k).ins _ (fun _ hy => (mem_mdel.1 hy).2)
theorem lk_some {m : IM α} (h : Rising m) {k : Int} {v : α} : lk m k = some v ↔ (k, v) ∈ m := by
  induction m with
  | nil => simp [lk]
  | cons z r ih =>
    obtain ⟨h1, h2⟩ := List.pairwise_cons.1 h
    have ih := ih h2
    unfold lk at ih ⊢
    by_cases e : z.1 = k
    · rw [List.find?_cons_of_pos (by simpa using e)]
      simp only [Option.map_some, Option.some.injEq, List.mem_cons]
      constructor
      · rintro rfl; exact .inl (by rw [← e])
      · rintro (h | h)
        · rw [← h]
        · have := h1 _ h; simp at this; omega
    · rw [List.find?_cons_of_neg (by simpa using e), ih, List.mem_cons]
      constructor
      · exact .inr
      · rintro (h | h)
        · rw [← h] at e; simp at e
        · exact h
theorem lk_none {m : IM α} (h : Rising m) {k : Int} : lk m k = none ↔ ∀ v, (k, v) ∉ m := by
  constructor
  · intro e v hv
    rw [(lk_some h).2 hv] at e
    cases e
  · intro hv
    cases e : lk m k with
    | none => rfl
    | some v => exact absurd ((lk_some h).1 e) (hv v)
theorem lk_put {m : IM α} (h : Rising m) (k : Int) (v : α) (j : Int) : lk (mput m k v) j = if j = k then some v else lk m j := by
  by_cases e : j = k
  · subst e
    rw [if_pos rfl, lk_some (h.put _ _)]
    exact mem_mins.2 (.inl rfl)
  · rw [if_neg e]
    cases hj : lk m j with
    | none =>
      rw [lk_none (h.put _ _)]
      intro u hu
      rcases mem_mins.1 hu with hu | hu
      · simp at hu; exact e hu.1
      · exact (lk_none h).1 hj u (mem_mdel.1 hu).1
    | some u =>
      rw [lk_some (h.put _ _)]
      exact mem_mins.2 (.inr (mem_mdel.2 ⟨(lk_some h).1 hj, e⟩))
theorem lk_del {m : IM α} (h : Rising m) (k : Int) (j : Int) : lk (mdel m k) j = if j = k then none else lk m j := by
  by_cases e : j = k
  · subst e
    rw [if_pos rfl, lk_none (h.del _)]
    intro v hv
    exact (mem_mdel.1 hv).2 rfl
  · rw [if_neg e]
    cases hj : lk m j with
    | none =>
      rw [lk_none (h.del _)]
      intro u hu
      exact (lk_none h).1 hj u (mem_mdel.1 hu).1
    | some u =>
      rw [lk_some (h.del _)]
      exact mem_mdel.2 ⟨(lk_some h).1 hj, e⟩
def mapV {β : Type} (f : α → β) (m : IM α) : IM β := m.map fun p => (p.1, f p.2)
theorem lk_mapV {β : Type} (f : α → β) (m : IM α) (k : Int) : lk (mapV f m) k = (lk m k).map f := by
  unfold lk mapV
  rw [List.find?_map]
  simp only [Function.comp_def]
  cases m.find? (fun p => decide (p.1 = k)) <;> rfl
theorem mdel_mapV {β : Type} (f : α → β) (m : IM α) (k : Int) : mdel (mapV f m) k = mapV f (mdel m k) := by
  unfold mdel mapV
  rw [List.filter_map]
  rfl
theorem mins_mapV {β : Type} (f : α → β) (m : IM α) (k : Int) (v : α) : mins (k, f v) (mapV f m) = mapV f (mins (k, v) m) := by
  induction m with
  | nil => rfl
  | cons z r ih =>
    have e : mapV f (z :: r) = (z.1, f z.2) :: mapV f r := rfl
    rw [e]
    unfold mins
    simp only
    split
    · rfl
    · rw [ih]; rfl
theorem mput_mapV {β : Type} (f : α → β) (m : IM α) (k : Int) (v : α) : mput (mapV f m) k (f v) = mapV f (mput m k v) := by
  unfold mput
  rw [mdel_mapV, mins_mapV]
theorem mapV_length {β : Type} (f : α → β) (m : IM α) : (mapV f m).length = m.length := by simp [mapV]
theorem rising_mapV {β : Type} (f : α → β) (m : IM α) : Rising (mapV f m) ↔ Rising m := by
  unfold Rising mapV
  rw [List.pairwise_map]
theorem mins_length (x : Int × α) (m : IM α) : (mins x m).length = m.length + 1 := by
  induction m with
  | nil => rfl
  | cons z r ih =>
    unfold mins
    split
    · rfl
    · simp [ih]
theorem mput_length (m : IM α) (k : Int) (v : α) : (mput m k v).length ≤ m.length + 1 := by
  unfold mput
  rw [mins_length]
  have := List.length_filter_le (fun p : Int × α => decide (p.1 ≠ k)) m
  unfold mdel
  omega
theorem mdel_length (m : IM α) (k : Int) : (mdel m k).length ≤ m.length := List.length_filter_le _ _
end

/-! ### As the library's maps -/
def idElem : Value → Option (DataW Value × List MemPlace) := fun v => some (.held v, [])
def encM (q : IntKind) (m : IM Value) : DataW Value := .map (m.map fun p => (Lit.int q p.1, .held p.2))
theorem enc_find (q : IntKind) (m : IM Value) (k : Int) : (m.map fun p => (Lit.int q p.1, (DataW.held p.2 : DataW Value))).find? (fun p => p.1.sameKey (.int q k)) = (lk m k).map fun v => (Lit.int q k, .held v) := by
  induction m with
  | nil => rfl
  | cons z r ih =>
    unfold lk at ih ⊢
    by_cases e : z.1 = k
    · rw [List.map_cons, List.find?_cons_of_pos (by simp [Lit.sameKey, e]), List.find?_cons_of_pos (by simpa using e)]
      simp [e]
    · rw [List.map_cons, List.find?_cons_of_neg (by simp [Lit.sameKey, e]), List.find?_cons_of_neg (by simpa using e), ih]
theorem enc_at (q : IntKind) (m : IM Value) (k : Int) (z : Value) : (encM q m).atKey (.int q k) (.held z) = .held ((lk m k).getD z) := by
  unfold DataW.atKey encM
  simp only [enc_find]
  cases lk m k <;> rfl
theorem enc_has (q : IntKind) (m : IM Value) (k : Int) : Maps.has (encM q m) (.int q k) = (lk m k).isSome := by
  unfold encM
  rw [Maps.has_eq, ← List.isSome_find?, enc_find]
  cases lk m k <;> rfl
theorem enc_filter (q : IntKind) (m : IM Value) (k : Int) : (m.map fun p => (Lit.int q p.1, (DataW.held p.2 : DataW Value))).filter (fun p => !p.1.sameKey (.int q k)) = (mdel m k).map fun p => (Lit.int q p.1, .held p.2) := by
  unfold mdel
  rw [List.filter_map]
  congr 1
  apply List.filter_congr
  intro p _
  simp [Lit.sameKey]
theorem enc_ins (q : IntKind) (m : IM Value) (k : Int) (v : Value) : DataW.insert (Lit.int q k, (DataW.held v : DataW Value)) (m.map fun p => (Lit.int q p.1, .held p.2)) = (mins (k, v) m).map fun p => (Lit.int q p.1, .held p.2) := by
  induction m with
  | nil => rfl
  | cons z r ih =>
    rw [List.map_cons]
    unfold DataW.insert mins
    simp only [Lit.before, decide_eq_true_eq]
    split
    · rfl
    · rw [List.map_cons, ih]
theorem enc_put (q : IntKind) (m : IM Value) (k : Int) (v : Value) : (encM q m).put (.int q k) (.held v) = encM q (mput m k v) := by
  unfold DataW.put encM mput
  simp only [enc_filter, enc_ins]
theorem enc_del (q : IntKind) (m : IM Value) (k : Int) : (encM q m).del (.int q k) = encM q (mdel m k) := by
  unfold DataW.del encM
  simp only [enc_filter]

def MapAt (q : IntKind) (k : TypeId) (w : World) (b : Nat) (m : IM Value) : Prop := w.ownsMap Tryz.prog k idElem b m.length (encM q m) ∧ Rising m
theorem MapAt.rising {q : IntKind} {k : TypeId} {w : World} {b : Nat} {m : IM Value} (h : MapAt q k w b m) : Rising m := h.2
theorem MapAt.lt {q : IntKind} {k : TypeId} {w : World} {b : Nat} {m : IM Value} (h : MapAt q k w b m) : b < w.heap.size := h.1.lt
theorem MapAt.moved {q : IntKind} {k : TypeId} {w w' : World} {b : Nat} {m : IM Value} {T : Nat → Prop} (h : MapAt q k w b m) (hm : Moved T w w') (hb : ¬ T b) : MapAt q k w' b m := by
  obtain ⟨⟨es, clock, hh, F, hs, hD⟩, hr⟩ := h
  exact ⟨⟨es, clock, hm.heap hh hb, F, hs, hD⟩, hr⟩
theorem MapAt.later {q : IntKind} {k : TypeId} {w w' : World} {b : Nat} {m : IM Value} (h : MapAt q k w b m) (hb : Below w.heap.size w w') : MapAt q k w' b m :=
  h.moved (Moved.of_below hb (fun _ => False)) id
theorem MapAt.block {q : IntKind} {k : TypeId} {w : World} {b : Nat} {m : IM Value} (h : MapAt q k w b m) : ∃ es clock, w.heap[b]? = some (.map es clock) := by
  obtain ⟨⟨es, clock, hh, _⟩, _⟩ := h
  exact ⟨es, clock, hh⟩
theorem own_tight {q : IntKind} {k : TypeId} {w : World} {b n : Nat} {m : IM Value} (h : w.ownsMap Tryz.prog k idElem b n (encM q m)) : w.ownsMap Tryz.prog k idElem b m.length (encM q m) := by
  obtain ⟨es, clock, hh, F, hs, hD⟩ := h
  refine ⟨es, clock, hh, F, ?_, hD⟩
  have : (m.map fun p => (Lit.int q p.1, (DataW.held p.2 : DataW Value))).length = es.size := by
    have e : (m.map fun p => (Lit.int q p.1, (DataW.held p.2 : DataW Value))) = (es.toList.map (Go.WideElems.rg Tryz.prog k idElem)).foldr DataW.insert [] := by
      simpa [encM] using hD
    rw [e, length_sorted]
    simp
  simp at this
  omega
theorem MapAt.made {q : IntKind} {k : TypeId} (w : World) : MapAt q k (w.alloc (.map #[] 0)) w.heap.size [] :=
  ⟨World.ownsMap_made w Tryz.prog k idElem, List.Pairwise.nil⟩
section
variable {q : IntKind} {k t e : TypeId} {w : World} {b : Nat} {m : IM Value}
theorem MapAt.lookup (h : MapAt q k w b m) (hk : Tryz.prog.underlying k = some (.int q)) (ht : Tryz.prog.underlying t = some (.map k e)) {z : Value} (hz : (zeroValue e).run Tryz.prog w = .ok z w) (x : Int) (hx : (Lit.int q x).wf = true) :
    (Instr.lookup t (.map (some b)) (.int q x) false).run Tryz.prog w = .ok ((lk m x).getD z) w := by
  obtain ⟨v, ps, hr, hv⟩ := h.1.lookup (Maps.int_keyed hk) ht hz (zd := .held z) (zp := []) rfl (key := .int q x) (kl := .int q x) (by simp [keyOf, mapKey, hk, hx])
  rw [enc_at] at hv
  simp [idElem] at hv
  rw [hr, hv.1]
theorem MapAt.look_ok (h : MapAt q k w b m) (hk : Tryz.prog.underlying k = some (.int q)) (ht : Tryz.prog.underlying t = some (.map k e)) {z : Value} (hz : (zeroValue e).run Tryz.prog w = .ok z w) (x : Int) (hx : (Lit.int q x).wf = true) :
    (Instr.lookup t (.map (some b)) (.int q x) true).run Tryz.prog w = .ok (.tuple #[(lk m x).getD z, .bool (lk m x).isSome]) w := by
  obtain ⟨v, ps, hr, hv⟩ := h.1.look_ok (Maps.int_keyed hk) ht hz (zd := .held z) (zp := []) rfl (key := .int q x) (kl := .int q x) (by simp [keyOf, mapKey, hk, hx])
  rw [enc_at] at hv
  simp [idElem] at hv
  rw [hr, hv.1, enc_has]
theorem MapAt.store (h : MapAt q k w b m) (hk : Tryz.prog.underlying k = some (.int q)) (ht : Tryz.prog.underlying t = some (.map k e)) (hn : m.length < maxLen) (x : Int) (v : Value) (hx : (Lit.int q x).wf = true) :
    ∃ w', (Instr.mapUpdate t (.map (some b)) (.int q x) v).run Tryz.prog w = .ok () w' ∧ MapAt q k w' b (mput m x v) ∧ w.mapTurned w' b := by
  obtain ⟨w', hr, ho, hg⟩ := h.1.store (Maps.int_keyed hk) ht hn (key := .int q x) (kl := .int q x) (d := .held v) (ps := []) (by simp [keyOf, mapKey, hk, hx]) rfl
  rw [enc_put] at ho
  exact ⟨w', hr, ⟨own_tight ho, h.2.put x v⟩, hg⟩
theorem MapAt.drop (h : MapAt q k w b m) (hk : Tryz.prog.underlying k = some (.int q)) (ht : Tryz.prog.underlying t = some (.map k e)) (x : Int) (hx : (Lit.int q x).wf = true) (ty : TypeId) :
    ∃ w', (Builtin.delete_ #[t, k] ty #[.map (some b), .int q x]).run Tryz.prog w = .ok (.tuple #[]) w' ∧ MapAt q k w' b (mdel m x) ∧ w.mapTurned w' b := by
  obtain ⟨w', hr, ho, hg⟩ := h.1.drop (Maps.int_keyed hk) ht (key := .int q x) (kl := .int q x) (by simp [keyOf, mapKey, hk, hx]) ty
  rw [enc_del] at ho
  exact ⟨w', hr, ⟨own_tight ho, h.2.del x⟩, hg⟩
theorem MapAt.len (h : MapAt q k w b m) (ht : Tryz.prog.underlying t = some (.map k e)) (ty : TypeId) : (Builtin.len_ #[t] ty #[.map (some b)]).run Tryz.prog w = .ok (.int .i64 m.length) w := by
  rw [h.1.len ht ty]
  simp [encM, Maps.size]
end
theorem Moved.turned {w w' : World} {b : Nat} (h : w.mapTurned w' b) : Moved (fun k => k = b) w w' := .of_grown h.grown (fun k e => by cases e; rfl)
end Go.Proofs.YtcenagpkfimkbaaGreatDoor
