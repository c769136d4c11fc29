/-
  The law WalkPuts, walked.
-/
import Derived.Test.YtojcdljpgginjaaDoorWFix
import Derived.Test.YtojcdljpgginjaaDoorPut2
import Derived.Test.YtojcdljpgginjaaDoorLaid3
import Derived.Test.YtojcdljpgginjaaDoorOSame
namespace Go.Proofs.YtojcdljpgginjaaDoor
open Go Go.RowKit

/-- What stays. -/
structure WpInv (w0 : World) (la : Option Addr) (xs : List Int) (f k : Int) (a : Bool) (q t n : Int) (w : World) : Prop where
  x : Reads .u64 w la xs
  r : w.heap[w0.heap.size]? = some (.cells #[.int .i64 f, .int .i64 k] 24 (0, 0))
  h : w.heap[w0.heap.size + 1]? = some (.cells #[.bool a, .int .i64 q, .int .i64 t, .int .i64 n] 26 (0, 0))
  bb : Below w0.heap.size w0 w
  t : Tab w
  lx : xs = [] ∨ ∀ q, la = some q → q.block < w0.heap.size
  lt : 0 < w0.heap.size
theorem WpInv.below {w0 : World} {la : Option Addr} {xs : List Int} {f k : Int} {a : Bool} {q t n : Int} {w w' : World} (h : WpInv w0 la xs f k a q t n w) (hb : Below w.heap.size w w') : WpInv w0 la xs f k a q t n w' :=
  ⟨h.x.below hb, heap_below hb h.r (heap_lt h.r), heap_below hb h.h (heap_lt h.h), h.bb.trans (hb.mono h.bb.size), h.t.below h.t.lt hb, h.lx, h.lt⟩
theorem grown_or {k : IntKind} {w w' : World} {a : Option Addr} {xs : List Int} {g : Nat} (h : Reads k w a xs) (hg : w.grownBy w' (some g)) (hn : xs = [] ∨ ∀ q, a = some q → q.block ≠ g) : Reads k w' a xs := by
  rcases hn with hn | hn
  · exact .inl hn
  · exact h.grown hg hn
theorem WpInv.grown {w0 : World} {la : Option Addr} {xs : List Int} {f k : Int} {a : Bool} {q t n : Int} {w w' : World} {g : Nat} (h : WpInv w0 la xs f k a q t n w) (hg : w.grownBy w' (some g)) (h2 : w0.heap.size + 1 < g) : WpInv w0 la xs f k a q t n w' := by
  have hb : Below (w0.heap.size + 2) w w' := ⟨hg.os, hg.tape, hg.output, hg.size, fun k hk => hg.block k (by have := heap_lt h.h; omega) (fun e => by cases e; omega)⟩
  exact ⟨grown_or h.x hg (h.lx.imp_right fun hq q e => by have := hq q e; omega), heap_grown hg h.r (by omega), heap_grown hg h.h (by omega), h.bb.grown hg h.bb.size (fun k e => by cases e; omega), h.t.below (B := w0.heap.size + 2) (by have := h.lt; omega) hb, h.lx, h.lt⟩

set_option maxRecDepth 100000 in
set_option maxHeartbeats 8000000 in
theorem WalkPuts_any (la : Option Addr) (xs : List Int) (lc : Nat) (f k : Int) (a : Bool) (q t n : Int) (w : World) (hT : Tab w) (hX : Reads .u64 w la xs) (hnil : la = none → xs = [] ∧ lc = 0) :
    Calls Tryd.prog 3 #[.slice la xs.length lc, .agg #[.int .i64 f, .int .i64 k], .agg #[.bool a, .int .i64 q, .int .i64 t, .int .i64 n]] w fun e w' => e = .returned (.bool true) ∧ Below w.heap.size w w' := by
  obtain ⟨W, hW⟩ : ∃ W, W = (w.alloc (.cells #[.int .i64 f, .int .i64 k] 24)).alloc (.cells #[.bool a, .int .i64 q, .int .i64 t, .int .i64 n] 26) := ⟨_, rfl⟩
  have hbo : Below w.heap.size w W := by rw [hW]; exact ((Below.refl _ _).alloc (Nat.le_refl _) _).alloc (by simp) _
  have hO1 : W.heap[w.heap.size]? = some (.cells #[.int .i64 f, .int .i64 k] 24 (0, 0)) := by
    rw [hW]; exact heap_alloc_lt (heap_alloc_eq _ _) _
  have hO2 : W.heap[w.heap.size + 1]? = some (.cells #[.bool a, .int .i64 q, .int .i64 t, .int .i64 n] 26 (0, 0)) := by
    rw [hW]
    have := heap_alloc_eq (w.alloc (.cells #[.int .i64 f, .int .i64 k] 24)) (.cells #[.bool a, .int .i64 q, .int .i64 t, .int .i64 n] 26)
    rw [show (w.alloc (.cells #[.int .i64 f, .int .i64 k] 24)).heap.size = w.heap.size + 1 by simp] at this
    exact this
  have hszW : W.heap.size = w.heap.size + 2 := by rw [hW]; simp
  have HW := Lib.hid hW
  have H0 : Hid (WpInv w la xs f k a q t n W) := Lib.hid ⟨hX.below hbo, hO1, hO2, hbo, hT.below hT.lt hbo, hX.lt_or, hT.lt⟩
  clear hW hT hX hbo hO1 hO2
  by_cases hg : xs.length ≤ 300
  · have hl := laid_any la xs lc W H0.out.x hg
    obtain ⟨E, hE⟩ : ∃ x, puE xs f k a q t n = x := ⟨_, rfl⟩
    obtain ⟨ys, hys⟩ : ∃ x, puL xs f k a q t n = x := ⟨_, rfl⟩
    have hyl : ys.length = xs.length := by rw [← hys]; exact puL_length _ _ _ _ _ _ _
    have HE := Lib.hid (And.intro hE (And.intro hys hyl))
    have HSZ := Lib.hid hszW
    have y1 : (E == E) = true := by simp
    clear hE hys hyl hszW
    go_enter Tryd.func3, Tryd.ntmps3
    go_wp2_with fail
    rw [← HW.out]
    refine hl.mono ?_
    rintro e w1 ⟨rfl, hb, hM1⟩
    have H1 := Lib.hid (H0.out.below hb)
    have hp := Put_any (W.heap.size + 1) W.heap.size xs f k a q t n w1 H1.out.t hM1
    rw [HE.out.1, HE.out.2.1] at hp
    clear hl hb hM1
    have o0 := heap_cell H1.out.r 0
    have o1 := heap_cell H1.out.r 1
    simp at o0 o1
    have p0 := heap_cell H1.out.h 0
    have p1 := heap_cell H1.out.h 1
    have p2 := heap_cell H1.out.h 2
    have p3 := heap_cell H1.out.h 3
    simp at p0 p1 p2 p3
    go_wp2_with fail
    refine hp.mono ?_
    rintro e w2 ⟨rfl, hg2, hM2⟩
    have H2 := Lib.hid (H1.out.grown hg2 (by have := HSZ.out; omega))
    have HM2 := Lib.hid hM2
    have hp := rPut12_any la xs lc f k a q t n w2 H2.out.t H2.out.x hnil hg
    rw [HE.out.1, HE.out.2.1] at hp
    clear hg2 hM2 o0 o1 p0 p1 p2 p3
    have o0 := heap_cell H2.out.r 0
    have o1 := heap_cell H2.out.r 1
    simp at o0 o1
    have p0 := heap_cell H2.out.h 0
    have p1 := heap_cell H2.out.h 1
    have p2 := heap_cell H2.out.h 2
    have p3 := heap_cell H2.out.h 3
    simp at p0 p1 p2 p3
    go_wp2_with fail
    refine hp.mono ?_
    rintro e w3 ⟨ar, cr, rfl, hb, hr3⟩
    have H3 := Lib.hid (H2.out.below hb)
    have HM3 := Lib.hid (HM2.out.later hb)
    have HR3 := Lib.hid hr3
    clear hp hb hr3 o0 o1 p0 p1 p2 p3
    go_wp2_with fail
    refine (wfixed_any _ H3.out.t).mono ?_
    rintro e w4 ⟨rfl, hb⟩
    have H4 := Lib.hid (H3.out.below hb)
    have hM4 := HM3.out.later hb
    have HR4 := Lib.hid (HR3.out.below hb)
    clear hb
    go_wp2_with fail
    refine (wAll_any _ _ _ _ hM4).mono ?_
    rintro e w5 ⟨v5, rfl, hb, ho5⟩
    obtain ⟨a5, c5, rfl, hr5, _⟩ := owns_reads ho5
    have H5 := Lib.hid (H4.out.below hb)
    have hs := Same_any a5 ar c5 cr ys ys w5 hr5 (HR4.out.below hb) (by have := HE.out.2.2; omega)
    rw [show decide (ys = ys) = true by simp] at hs
    clear hb ho5 hr5 hM4
    go_wp2_with fail
    refine hs.mono ?_
    rintro e w6 ⟨rfl, hb⟩
    have H6 := Lib.hid (H5.out.below hb)
    clear hs hb
    have o0 := heap_cell H6.out.r 0
    have o1 := heap_cell H6.out.r 1
    simp at o0 o1
    have p0 := heap_cell H6.out.h 0
    have p1 := heap_cell H6.out.h 1
    have p2 := heap_cell H6.out.h 2
    have p3 := heap_cell H6.out.h 3
    simp at p0 p1 p2 p3
    go_wp2_with fail
    refine (PutNil_any f k a q t n w6 H6.out.t).mono ?_
    rintro e w7 ⟨rfl, hb⟩
    have hBe := H6.out.bb.trans (hb.mono H6.out.bb.size)
    clear hb o0 o1 p0 p1 p2 p3
    go_wp2
    go_ret
    exact ⟨rfl, hBe⟩
  · clear hszW
    have i1 : 300 < xs.length := by omega
    clear hg
    go_enter Tryd.func3, Tryd.ntmps3
    go_wp2_with fail
    rw [← HW.out]
    refine (wfixed_any _ H0.out.t).mono ?_
    rintro e w6 ⟨rfl, hb6⟩
    have hB6 := H0.out.bb.trans (hb6.mono H0.out.bb.size)
    clear hb6
    go_wp2
    go_ret
    exact ⟨rfl, hB6⟩
end Go.Proofs.YtojcdljpgginjaaDoor
