/-
  Objects in a row; walk.each.
-/
import Derived.Test.YtojcdljpgginjaaDoorEach
import Derived.Test.YtojcdljpgginjaaDoorAppO
namespace Go.Proofs.YtojcdljpgginjaaDoor
open Go Go.RowKit Go.Shelf

/-- An object's eight cells. -/
def objCells (xs : List Int) (ds : List (List Int)) (at_ : Int) (y1 y2 : Option Addr) (c1 c2 : Nat) : List Value :=
  [.int .i64 (onI xs ds at_ at_), .int .i64 0, .bool (onA xs ds at_), .int .i64 (onI xs ds at_ (gK (onX xs at_))), .int .i64 (onI xs ds at_ (gT (onX xs at_))), .int .i64 (onI xs ds at_ (gN (onX xs at_))), .slice y1 (onK xs ds at_).length c1, .slice y2 (onV xs ds at_).length c2]
/-- The j-th object of a row's cells, its own rows apart from some blocks. -/
def ObjIn (xs : List Int) (ds : List (List Int)) (w : World) (S : Nat → Prop) (flat : List Value) (j : Nat) (at_ : Int) : Prop :=
  ∃ (y1 y2 : Option Addr) (c1 c2 : Nat), (flat.drop (j * 8)).take 8 = objCells xs ds at_ y1 y2 c1 c2 ∧ Reads .i64 w y1 (onK xs ds at_) ∧ Reads .u64 w y2 (onV xs ds at_) ∧
    (onK xs ds at_ = [] ∨ ∀ p, y1 = some p → ¬ S p.block) ∧ (onV xs ds at_ = [] ∨ ∀ p, y2 = some p → ¬ S p.block)
theorem Reads.nil {k : IntKind} {w : World} {a : Option Addr} : Reads k w a [] := .inl rfl
theorem reads_turn {k : IntKind} {a b : World} {p : Option Addr} {xs : List Int} {S T : Nat → Prop} (hm : Moved T a b) (hr : Reads k a p xs) (hs : xs = [] ∨ ∀ q, p = some q → ¬ S q.block) (hT : ∀ q, q < a.heap.size → T q → S q) : Reads k b p xs := by
  rcases hs with rfl | hs
  · exact .inl rfl
  · rcases hr.lt_or with rfl | hl
    · exact .inl rfl
    · exact hm.reads hr fun q hq ht => hs q hq (hT _ (hl q hq) ht)
theorem ObjIn.turn {xs : List Int} {ds : List (List Int)} {a b : World} {S S' T : Nat → Prop} {flat : List Value} {j : Nat} {at_ : Int} (h : ObjIn xs ds a S flat j at_) (hm : Moved T a b) (hT : ∀ q, q < a.heap.size → T q → S q) (hS : ∀ q, q < a.heap.size → S' q → S q) : ObjIn xs ds b S' flat j at_ := by
  obtain ⟨y1, y2, c1, c2, h0, h1, h2, h3, h4⟩ := h
  refine ⟨y1, y2, c1, c2, h0, reads_turn hm h1 h3 hT, reads_turn hm h2 h4 hT, ?_, ?_⟩
  · rcases h3 with h3 | h3
    · exact .inl h3
    · rcases h1.lt_or with h | hl
      · exact .inl h
      · exact .inr fun p hp hs => h3 p hp (hS _ (hl p hp) hs)
  · rcases h4 with h4 | h4
    · exact .inl h4
    · rcases h2.lt_or with h | hl
      · exact .inl h
      · exact .inr fun p hp hs => h4 p hp (hS _ (hl p hp) hs)
theorem ObjIn.snoc {xs : List Int} {ds : List (List Int)} {w : World} {S : Nat → Prop} {flat more : List Value} {j : Nat} {at_ : Int} (h : ObjIn xs ds w S flat j at_) (hl : j * 8 + 8 ≤ flat.length) : ObjIn xs ds w S (flat ++ more) j at_ := by
  obtain ⟨y1, y2, c1, c2, h0, h1⟩ := h
  refine ⟨y1, y2, c1, c2, ?_, h1⟩
  rw [List.drop_append_of_le_length (by omega), List.take_append_of_le_length (by simp; omega)]
  exact h0
theorem ObjIn.last {xs : List Int} {ds : List (List Int)} {w : World} {S : Nat → Prop} {flat : List Value} {j : Nat} {at_ : Int} {y1 y2 : Option Addr} {c1 c2 : Nat} (hl : flat.length = j * 8) (h1 : Reads .i64 w y1 (onK xs ds at_)) (h2 : Reads .u64 w y2 (onV xs ds at_))
    (h3 : onK xs ds at_ = [] ∨ ∀ p, y1 = some p → ¬ S p.block) (h4 : onV xs ds at_ = [] ∨ ∀ p, y2 = some p → ¬ S p.block) : ObjIn xs ds w S (flat ++ objCells xs ds at_ y1 y2 c1 c2) j at_ := by
  refine ⟨y1, y2, c1, c2, ?_, h1, h2, h3, h4⟩
  rw [← hl, List.drop_left]
  rfl

/-- The error's number of things. -/
def objE (xs : List Int) (ds : List (List Int)) : List (Int × Int) → Int
  | [] => 0
  | (f, k) :: r => if thE xs ds f k = 0 then objE xs ds r else thE xs ds f k
theorem objE_all {xs : List Int} {ds : List (List Int)} : ∀ {rs : List (Int × Int)}, (∀ (j : Nat) (f k : Int), rs[j]? = some (f, k) → thE xs ds f k = 0) → objE xs ds rs = 0
  | [], _ => rfl
  | (f, k) :: r, h => by
    rw [objE, if_pos (h 0 f k rfl)]
    exact objE_all fun j f' k' hj => h (j + 1) f' k' hj
theorem objE_at {xs : List Int} {ds : List (List Int)} : ∀ {rs : List (Int × Int)} {q : Nat} {f k : Int}, rs[q]? = some (f, k) → thE xs ds f k ≠ 0 → (∀ j, j < q → ∀ (f k : Int), rs[j]? = some (f, k) → thE xs ds f k = 0) → objE xs ds rs = thE xs ds f k
  | [], _, _, _, h, _, _ => by simp at h
  | (f', k') :: r, 0, f, k, h, hE, _ => by
    simp at h
    obtain ⟨rfl, rfl⟩ := h
    rw [objE, if_neg hE]
  | (f', k') :: r, q + 1, f, k, h, hE, hp => by
    rw [objE, if_pos (hp 0 (by omega) f' k' rfl)]
    exact objE_at (by simpa using h) hE fun j hj f k hjk => hp (j + 1) (by omega) f k (by simpa using hjk)

theorem each_in (n : Nat) (b : Nat) (pa : Option Addr) (rl pc : Nat) (ta : Option Addr) (dl tc : Nat) (w : World) :
    CallsIn Fence.wide n Tryd.prog 32 #[.pointer (some ⟨b, 0, none⟩), .slice pa rl pc, .slice ta dl tc] w fun e w' => e = .returned (.func (.func 42) #[] #[.pointer (some ⟨w.heap.size + 1, 0, none⟩), .pointer (some ⟨w.heap.size, 0, none⟩), .pointer (some ⟨w.heap.size + 1 + 1, 0, none⟩)]) ∧
      w' = ((w.alloc (.cells #[.pointer (some ⟨b, 0, none⟩)] 28)).alloc (.cells #[.slice pa rl pc] 38)).alloc (.cells #[.slice ta dl tc] 51) := by
  refine callsIn_of_wp Tryd.func32 rfl trivial ?_ rfl
  simp only [Tryd.ntmps32, List.size_toArray, List.length_cons, List.length_nil, Nat.reduceAdd, Nat.reduceSub, Array.replicate_succ, Array.replicate_zero, List.push_toArray, List.append_toArray, List.nil_append, List.cons_append]
  gi_wp2
  go_ret
  exact ⟨rfl, rfl⟩

theorem results_cells2 {fn : Func} {p q : Tmp} {ty tq : TypeId} (h : fn.results = #[.cell p ty, .cell q tq]) (tmps : Array Value) (P : Program) (w : World) (a1 a2 : Addr) (v1 v2 : Value)
    (hp : tmps.getD p undef = .pointer (some a1)) (hq : tmps.getD q undef = .pointer (some a2)) (h1 : (loadVar ty a1).run P w = .ok v1 w) (h2 : (loadVar tq a2).run P w = .ok v2 w) :
    (results fn tmps).run P w = .ok (.tuple #[v1, v2]) w := by
  have hp' : tmps[p]?.getD undef = .pointer (some a1) := by simpa using hp
  have hq' : tmps[q]?.getD undef = .pointer (some a2) := by simpa using hq
  simp only [results, h]
  simp [Sem.run_bind, Result.andThen, hp', hq', asAddr, h1, h2]

theorem objsNil_any (pa : Option Addr) (rl pc : Nat) (ta : Option Addr) (dl tc : Nat) (w : World) :
    CallsIn Fence.wide 3 Tryd.prog 16 #[.pointer none, .slice pa rl pc, .slice ta dl tc] w fun e w' => e = .returned (.tuple #[.slice none 0 0, .int .i64 1]) ∧ Below w.heap.size w w' := by
  refine callsIn_of_wp_marks Tryd.func16 rfl trivial ?_ rfl
  simp only [Tryd.ntmps16, List.size_toArray, List.length_cons, List.length_nil, Nat.reduceAdd, Nat.reduceSub, Array.replicate_succ, Array.replicate_zero, List.push_toArray, List.append_toArray, List.nil_append, List.cons_append]
  gi_wp2
  refine ⟨_, results_cells2 rfl _ _ _ ⟨w.heap.size, 0, none⟩ ⟨w.heap.size + 1, 0, none⟩ (.slice none 0 0) (.int .i64 1) rfl rfl (by go_simp) (by go_simp), rfl, ?_⟩
  exact ((Below.refl _ _).alloc (Nat.le_refl _) _).alloc (by simp) _
end Go.Proofs.YtojcdljpgginjaaDoor
