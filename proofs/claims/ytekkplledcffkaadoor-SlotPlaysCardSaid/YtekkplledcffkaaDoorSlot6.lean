/-
  The refused calls of slot: no memory. What stays while SlotPlays runs.
-/
import Derived.Test.YtekkplledcffkaaDoorSlot5
import Derived.Test.YtekkplledcffkaaDoorOSame
import Derived.Test.YtekkplledcffkaaDoorSame4
import Derived.Deep.RegionHeld3
namespace Go.Proofs.YtekkplledcffkaaDoor
open Go Go.RowKit

/-- Without a memory. -/
def niE (n : Nat) (i : Int) : Int := if atB n i = true then 1 else 8

theorem LoadNil_any (at_ rg k t n : Int) (arr : Bool) (ka : Option Addr) (ks : List Int) (kc : Nat) (va : Option Addr) (vs : List Int) (vc : Nat) (i : Int) (w : World) (hK : Reads .i64 w ka ks) (hl : ks.length ≤ 100) (h0 : 0 ≤ i) (h1 : i ≤ 18446744073709551615) :
    Calls Tryd.prog 8 #[.pointer none, .agg #[.int .i64 at_, .int .i64 rg, .bool arr, .int .i64 k, .int .i64 t, .int .i64 n, .slice ka ks.length kc, .slice va vs.length vc], .int .u64 i] w
      fun e w' => e = .returned (.tuple #[.int .u64 0, .int .i64 (niE ks.length i)]) ∧ Below w.heap.size w w' := by
  have hbo : Below w.heap.size w (w.alloc (.cells #[.int .i64 at_, .int .i64 rg, .bool arr, .int .i64 k, .int .i64 t, .int .i64 n, .slice ka ks.length kc, .slice va vs.length vc] 27)) := (Below.refl _ _).alloc (Nat.le_refl _) _
  have hA := At_any at_ rg k t n arr ka ks kc va vs.length vc i _ (hK.below hbo) hl h0 h1
  generalize hW : w.alloc (.cells #[.int .i64 at_, .int .i64 rg, .bool arr, .int .i64 k, .int .i64 t, .int .i64 n, .slice ka ks.length kc, .slice va vs.length vc] 27) = W at hbo hA
  have HW := Lib.hid hW
  clear hW hK
  obtain ⟨y, hy⟩ : ∃ y, kiV ks i = y := ⟨_, rfl⟩
  obtain ⟨z, hz⟩ : ∃ z, atV at_ ks.length i = z := ⟨_, rfl⟩
  rw [hy, hz] at hA
  by_cases hi : atB ks.length i = true
  · have e1 : niE ks.length i = 1 := by rw [niE, if_pos hi]
    have e3 : atE ks.length i = 0 := by rw [atE, if_pos hi]
    rw [e3] at hA
    rw [e1]
    clear hi e1 e3 hy hz
    go_enter Tryd.func8, Tryd.ntmps8
    go_wp2_with fail
    rw [HW.out]
    refine hA.mono ?_
    rintro e w1 ⟨rfl, hb1⟩
    clear hA
    go_wp2
    go_ret2
    exact ⟨rfl, hbo.trans (hb1.mono hbo.size)⟩
  · have e1 : niE ks.length i = 8 := by rw [niE, if_neg hi]
    have e3 : atE ks.length i = 8 := by rw [atE, if_neg hi]
    rw [e3] at hA
    rw [e1]
    clear hi e1 e3 hy hz
    go_enter Tryd.func8, Tryd.ntmps8
    go_wp2_with fail
    rw [HW.out]
    refine hA.mono ?_
    rintro e w1 ⟨rfl, hb1⟩
    clear hA
    go_wp2
    go_ret2
    exact ⟨rfl, hbo.trans (hb1.mono hbo.size)⟩

set_option maxRecDepth 100000 in
set_option maxHeartbeats 2000000 in
theorem StoreNil_any (at_ rg k t n : Int) (arr : Bool) (ka : Option Addr) (ks : List Int) (kc : Nat) (va : Option Addr) (vs : List Int) (vc : Nat) (i v : Int) (w : World) (hK : Reads .i64 w ka ks) (hl : ks.length ≤ 100) (h0 : 0 ≤ i) (h1 : i ≤ 18446744073709551615) :
    Calls Tryd.prog 10 #[.pointer none, .agg #[.int .i64 at_, .int .i64 rg, .bool arr, .int .i64 k, .int .i64 t, .int .i64 n, .slice ka ks.length kc, .slice va vs.length vc], .int .u64 i, .int .u64 v] w
      fun e w' => e = .returned (.tuple #[.agg #[.int .i64 0, .int .i64 0, .bool false, .int .i64 0, .int .i64 0, .int .i64 0, .slice none 0 0, .slice none 0 0], .int .i64 (niE ks.length i)]) ∧ Below w.heap.size w w' := by
  obtain ⟨W, hW⟩ : ∃ W, W = (w.alloc (.cells #[.int .i64 at_, .int .i64 rg, .bool arr, .int .i64 k, .int .i64 t, .int .i64 n, .slice ka ks.length kc, .slice va vs.length vc] 27)).alloc (.cells #[.int .i64 0, .int .i64 0, .bool false, .int .i64 0, .int .i64 0, .int .i64 0, .slice none 0 0, .slice none 0 0] 27) := ⟨_, rfl⟩
  have hbo : Below w.heap.size w W := by rw [hW]; exact ((Below.refl _ _).alloc (Nat.le_refl _) _).alloc (by simp) _
  have hA := At_any at_ rg k t n arr ka ks kc va vs.length vc i W (hK.below hbo) hl h0 h1
  have hO2 : W.heap[w.heap.size + 1]? = some (.cells #[.int .i64 0, .int .i64 0, .bool false, .int .i64 0, .int .i64 0, .int .i64 0, .slice none 0 0, .slice none 0 0] 27 (0, 0)) := by
    rw [hW]
    have := heap_alloc_eq (w.alloc (.cells #[.int .i64 at_, .int .i64 rg, .bool arr, .int .i64 k, .int .i64 t, .int .i64 n, .slice ka ks.length kc, .slice va vs.length vc] 27)) (.cells #[.int .i64 0, .int .i64 0, .bool false, .int .i64 0, .int .i64 0, .int .i64 0, .slice none 0 0, .slice none 0 0] 27)
    rw [show (w.alloc (.cells #[.int .i64 at_, .int .i64 rg, .bool arr, .int .i64 k, .int .i64 t, .int .i64 n, .slice ka ks.length kc, .slice va vs.length vc] 27)).heap.size = w.heap.size + 1 by simp] at this
    exact this
  have HW := Lib.hid hW
  clear hW hK
  obtain ⟨y, hy⟩ : ∃ y, kiV ks i = y := ⟨_, rfl⟩
  obtain ⟨z, hz⟩ : ∃ z, atV at_ ks.length i = z := ⟨_, rfl⟩
  rw [hy, hz] at hA
  rcases (show (atE ks.length i = 0 ∧ niE ks.length i = 1) ∨ (atE ks.length i = 8 ∧ niE ks.length i = 8) by unfold atE niE; split <;> simp) with ⟨e3, e1⟩ | ⟨e3, e1⟩
  all_goals
    rw [e3] at hA
    rw [e1]
    clear e1 e3 hy hz
    go_enter Tryd.func10, Tryd.ntmps10
    go_wp2_with fail
    rw [← HW.out]
    refine hA.mono ?_
    rintro e w2 ⟨rfl, hb2⟩
    have hO3 := heap_below hb2 hO2 (heap_lt hO2)
    have hB2 := hbo.trans (hb2.mono hbo.size)
    clear hA hb2
    have q0 := heap_cell hO3 0
    have q1 := heap_cell hO3 1
    have q2 := heap_cell hO3 2
    have q3 := heap_cell hO3 3
    have q4 := heap_cell hO3 4
    have q5 := heap_cell hO3 5
    have q6 := heap_cell hO3 6
    have q7 := heap_cell hO3 7
    simp at q0 q1 q2 q3 q4 q5 q6 q7
    have f0 := heap_free hO3 0
    have f1 := heap_free hO3 1
    have f2 := heap_free hO3 2
    have f3 := heap_free hO3 3
    have f4 := heap_free hO3 4
    have f5 := heap_free hO3 5
    have f6 := heap_free hO3 6
    have f7 := heap_free hO3 7
    have HO3 := Lib.hid (And.intro hO3 hB2)
    clear hO3 hB2
    go_wp2
    have h8 := set8_at HO3.out.1 (.int .i64 0) (.int .i64 0) (.bool false) (.int .i64 0) (.int .i64 0) (.int .i64 0) (.slice none 0 0) (.slice none 0 0)
    change bodyPost _ _ _ _ _ (set8 w2 (w.heap.size + 1) (.int .i64 0) (.int .i64 0) (.bool false) (.int .i64 0) (.int .i64 0) (.int .i64 0) (.slice none 0 0) (.slice none 0 0))
    generalize set8 w2 (w.heap.size + 1) (.int .i64 0) (.int .i64 0) (.bool false) (.int .i64 0) (.int .i64 0) (.int .i64 0) (.slice none 0 0) (.slice none 0 0) = w8 at h8 ⊢
    obtain ⟨hO8, hg8⟩ := h8
    clear q0 q1 q2 q3 q4 q5 q6 q7 f0 f1 f2 f3 f4 f5 f6 f7
    have q0 := heap_cell hO8 0
    have q1 := heap_cell hO8 1
    have q2 := heap_cell hO8 2
    have q3 := heap_cell hO8 3
    have q4 := heap_cell hO8 4
    have q5 := heap_cell hO8 5
    have q6 := heap_cell hO8 6
    have q7 := heap_cell hO8 7
    simp at q0 q1 q2 q3 q4 q5 q6 q7
    first
      | refine bodyPost_ret (v := .tuple #[.agg #[.int .i64 0, .int .i64 0, .bool false, .int .i64 0, .int .i64 0, .int .i64 0, .slice none 0 0, .slice none 0 0], .int .i64 1]) (by simp [results, Tryd.results10, go_sem, q0, q1, q2, q3, q4, q5, q6, q7]) rfl ⟨rfl, ?_⟩
      | refine bodyPost_ret (v := .tuple #[.agg #[.int .i64 0, .int .i64 0, .bool false, .int .i64 0, .int .i64 0, .int .i64 0, .slice none 0 0, .slice none 0 0], .int .i64 8]) (by simp [results, Tryd.results10, go_sem, q0, q1, q2, q3, q4, q5, q6, q7]) rfl ⟨rfl, ?_⟩
    exact HO3.out.2.grown hg8 HO3.out.2.size (fun k e => by cases e; omega)

/-- What stays: the arguments, the table. -/
structure PInv (w0 : World) (la : Option Addr) (xs : List Int) (ka : Option Addr) (ks : List Int) (va : Option Addr) (vs : List Int) (O P : Array Value) (w : World) : Prop where
  x : Reads .u64 w la xs
  k : Reads .i64 w ka ks
  v : Reads .u64 w va vs
  o : w.heap[w0.heap.size]? = some (.cells O 27 (0, 0))
  p : w.heap[w0.heap.size + 1]? = some (.cells P 29 (0, 0))
  b : Below w0.heap.size w0 w
  t : Tab w
  lx : xs = [] ∨ ∀ q, la = some q → q.block < w0.heap.size
  lk : ks = [] ∨ ∀ q, ka = some q → q.block < w0.heap.size
  lv : vs = [] ∨ ∀ q, va = some q → q.block < w0.heap.size
  lt : 0 < w0.heap.size
theorem PInv.below {w0 : World} {la : Option Addr} {xs : List Int} {ka : Option Addr} {ks : List Int} {va : Option Addr} {vs : List Int} {O P : Array Value} {w w' : World} (h : PInv w0 la xs ka ks va vs O P w) (hb : Below w.heap.size w w') : PInv w0 la xs ka ks va vs O P w' :=
  ⟨h.x.below hb, h.k.below hb, h.v.below hb, heap_below hb h.o (heap_lt h.o), heap_below hb h.p (heap_lt h.p), h.b.trans (hb.mono h.b.size), h.t.below h.t.lt hb, h.lx, h.lk, h.lv, h.lt⟩
theorem PInv.grown {w0 : World} {la : Option Addr} {xs : List Int} {ka : Option Addr} {ks : List Int} {va : Option Addr} {vs : List Int} {O P : Array Value} {w w' : World} {g : Nat} (h : PInv w0 la xs ka ks va vs O P w) (hg : w.grownBy w' (some g)) (h2 : w0.heap.size + 1 < g) : PInv w0 la xs ka ks va vs O P w' := by
  have hb : Below (w0.heap.size + 2) w w' := ⟨hg.os, hg.tape, hg.output, hg.size, fun k hk => hg.block k (by have := heap_lt h.p; omega) (fun e => by cases e; omega)⟩
  have hs := h.b.size
  refine ⟨h.x.grown_or hg (h.lx.imp_right fun hq q e => by have := hq q e; omega), h.k.grown_or hg (h.lk.imp_right fun hq q e => by have := hq q e; omega), h.v.grown_or hg (h.lv.imp_right fun hq q e => by have := hq q e; omega), heap_grown hg h.o (by omega), heap_grown hg h.p (by omega),
    h.b.grown hg h.b.size (fun k e => by cases e; omega), h.t.below (B := w0.heap.size + 2) (by have := h.lt; omega) hb, h.lx, h.lk, h.lv, h.lt⟩
/-- Two like answers. -/
theorem StoreObj.two {E at_ rg k t n : Int} {arr : Bool} {ks vs : List Int} {i v x1 x2 x4 x5 x6 x1' x2' x4' x5' x6' : Int} {x3 x3' : Bool} {y1 y2 z1 z2 : Option Addr} {l1 l2 m1 m2 : Nat} {w w' : World}
    (h : StoreObj E at_ rg k t n arr ks vs i v x1 x2 x4 x5 x6 x3 y1 y2 l1 l2 w) (h' : StoreObj E at_ rg k t n arr ks vs i v x1' x2' x4' x5' x6' x3' z1 z2 m1 m2 w') :
    x1 = x1' ∧ x2 = x2' ∧ x4 = x4' ∧ x5 = x5' ∧ x6 = x6' ∧ x3 = x3' ∧ ∃ K V : List Int, l1 = K.length ∧ m1 = K.length ∧ Reads .i64 w y1 K ∧ Reads .i64 w' z1 K ∧ l2 = V.length ∧ m2 = V.length ∧ Reads .u64 w y2 V ∧ Reads .u64 w' z2 V ∧ K.length ≤ ks.length ∧ V.length ≤ vs.length := by
  have hl : (vset vs i v).length = vs.length := by unfold vset; split <;> simp
  rcases h with ⟨e, rfl, rfl, rfl, rfl, rfl, rfl, rfl, r1, rfl, r2⟩ | ⟨e, rfl, rfl, rfl, rfl, rfl, rfl, rfl, rfl⟩
  · rcases h' with ⟨_, rfl, rfl, rfl, rfl, rfl, rfl, rfl, s1, rfl, s2⟩ | ⟨e', _⟩
    · exact ⟨rfl, rfl, rfl, rfl, rfl, rfl, ks, vset vs i v, rfl, rfl, r1, s1, hl.symm, hl.symm, r2, s2, by omega, by omega⟩
    · omega
  · rcases h' with ⟨e', _⟩ | ⟨_, rfl, rfl, rfl, rfl, rfl, rfl, rfl, rfl⟩
    · omega
    · exact ⟨rfl, rfl, rfl, rfl, rfl, rfl, [], [], rfl, rfl, .inl rfl, .inl rfl, rfl, rfl, .inl rfl, .inl rfl, by simp, by simp⟩
end Go.Proofs.YtekkplledcffkaaDoor
