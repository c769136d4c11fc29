/-
  desc.Kinds, and the document's: the kinds of an object's fields.
-/
import Derived.Test.YtojcdljpgginjaaDoorDescs
import Derived.Test.YtojcdljpgginjaaDoorCloneI
import Derived.Test.YtojcdljpgginjaaDoorRep
namespace Go.Proofs.YtojcdljpgginjaaDoor
open Go Go.RowKit

def knE (ds : List (List Int)) (arr : Bool) (k t n : Int) : Int :=
  if arr = true then (if kindB k = true then (if 0 ≤ n ∧ n ≤ 4000 then 0 else 1) else 4)
  else (if 0 ≤ t ∧ t < ds.length then (if n = (ds.getD t.toNat []).length then 0 else 1) else 2)
def knL (ds : List (List Int)) (arr : Bool) (k t n : Int) : List Int :=
  if knE ds arr k t n = 0 then (if arr = true then List.replicate n.toNat k else ds.getD t.toNat []) else []
theorem knL_no {ds : List (List Int)} {arr : Bool} {k t n : Int} (h : knE ds arr k t n ≠ 0) : knL ds arr k t n = [] := by rw [knL, if_neg h]
theorem knL_length {ds : List (List Int)} {arr : Bool} {k t n : Int} (h : ∀ d ∈ ds, d.length ≤ 100) : (knL ds arr k t n).length ≤ 4000 := by
  unfold knL
  split
  · rename_i h0
    split
    · rename_i h1
      unfold knE at h0
      rw [if_pos h1] at h0
      split at h0
      · split at h0
        · simp; omega
        · omega
      · omega
    · rename_i h1
      unfold knE at h0
      rw [if_neg h1] at h0
      split at h0
      · rename_i h2
        have h3 : t.toNat < ds.length := by omega
        have := h (ds.getD t.toNat []) (by simp [h3])
        omega
      · omega
  · simp

/-- A row of kinds of its own comes back, and an error's number. -/
def RetKinds (L : List Int) (E : Int) (w : World) (e : Ending) (w' : World) : Prop :=
  ∃ v, e = .returned (.tuple #[v, .int .i64 E]) ∧ Below w.heap.size w w' ∧ w'.ownsRow w.heap.size 3 1 v L.length (L.map (Value.int .i64))
/-- A row of kinds comes back, and an error's number. -/
def RetKindsR (L : List Int) (E : Int) (w : World) (e : Ending) (w' : World) : Prop :=
  ∃ a c, e = .returned (.tuple #[.slice a L.length c, .int .i64 E]) ∧ Below w.heap.size w w' ∧ Reads .i64 w' a L ∧ (a = none → L = [] ∧ c = 0)

theorem owns_le {w : World} {B B' : Nat} {t : TypeId} {size n : Nat} {v : Value} {xs : List Value} (h : w.ownsRow B t size v n xs) (hb : B' ≤ B) : w.ownsRow B' t size v n xs :=
  ⟨h.1, h.2.elim .inl fun ⟨g, cap, cur, hv, hg, r⟩ => .inr ⟨g, cap, cur, hv, Nat.le_trans hb hg, r⟩⟩

set_option maxHeartbeats 2000000 in
theorem Kinds_any (a : Option Addr) (ds : List (List Int)) (c : Nat) (arr : Bool) (k t n : Int) (w : World) (hT : Tab w) (hD : Descs w a ds) (hd : ∀ d ∈ ds, d.length ≤ 100) (_hn : ds.length ≤ 9223372036854775807) :
    Calls Tryd.prog 35 #[.slice a ds.length c, .agg #[.bool arr, .int .i64 k, .int .i64 t, .int .i64 n]] w (RetKinds (knL ds arr k t n) (knE ds arr k t n) w) := by
  have hbo : Below w.heap.size w (w.alloc (.cells #[.bool arr, .int .i64 k, .int .i64 t, .int .i64 n] 26)) := (Below.refl _ _).alloc (Nat.le_refl _) _
  have HB := Lib.hid hbo
  clear hbo
  cases arr
  · clear hT
    rcases (show t < 0 ∨ (0 ≤ t ∧ ds.length ≤ t) ∨ (0 ≤ t ∧ t < ds.length) by omega) with h | ⟨h0, h⟩ | ⟨h0, h⟩
    · have e1 : knE ds false k t n = 2 := by rw [knE, if_neg (by simp), if_neg (by omega)]
      rw [knL_no (by omega), e1]
      clear hD e1
      go_enter Tryd.func35, Tryd.ntmps35
      go_wp2
      go_ret2
      exact ⟨_, rfl, HB.out, World.ownsRow_nil _ _ _ _⟩
    · have e1 : knE ds false k t n = 2 := by rw [knE, if_neg (by simp), if_neg (by omega)]
      rw [knL_no (by omega), e1]
      clear hD e1
      go_enter Tryd.func35, Tryd.ntmps35
      go_wp2
      go_ret2
      exact ⟨_, rfl, HB.out, World.ownsRow_nil _ _ _ _⟩
    · obtain ⟨t, rfl⟩ := Int.eq_ofNat_of_zero_le h0
      obtain ⟨b, off, fa, fc, d, rfl, hdt, hc, hr, hnil⟩ := hD.at_ t (by omega)
      have hdl := hd d (List.mem_of_getElem? hdt)
      have e0 : ds.getD (t : Int).toNat [] = d := by simp [hdt]
      have hc2 := cell_alloc_old (.cells #[.bool false, .int .i64 k, .int .i64 t, .int .i64 n] 26) hc
      have hr2 := hr.below HB.out
      by_cases hnd : n = d.length
      · have e1 : knE ds false k t n = 0 := by rw [knE, if_neg (by simp), if_pos (by omega), e0, if_pos hnd]
        have e2 : knL ds false k t n = d := by rw [knL, if_pos e1, if_neg (by simp), e0]
        rw [e1, e2]
        subst hnd
        have hb : ((d.length : Int) != (d.length : Int)) = false := by simp
        have hcl := fun m => Clone_int_any fa d fc _ (hr2.below (below_drewN (Below.refl _ _) m)) (by omega) hnil
        have HD := Lib.hid (And.intro hD hd)
        clear e1 e2 hD hd hdt e0 hr hr2 hc
        go_enter Tryd.func35, Tryd.ntmps35
        go_wp2
        go_quiet (fail)
        go_wp2_with fail
        refine (hcl _).mono ?_
        rintro e w1 ⟨v, rfl, hb1, ho⟩
        clear hcl
        go_wp2
        go_ret2
        exact ⟨_, rfl, (below_drewN HB.out _).trans (hb1.mono HB.out.size), owns_le ho HB.out.size⟩
      · have e1 : knE ds false k t n = 1 := by rw [knE, if_neg (by simp), if_pos (by omega), e0, if_neg hnd]
        rw [knL_no (by omega), e1]
        have hb : ((n : Int) != (d.length : Int)) = true := by simp [hnd]
        clear e1 hD hd hdt e0 hr hr2 hc hnil
        go_enter Tryd.func35, Tryd.ntmps35
        go_wp2
        go_quiet (fail)
        go_wp2
        go_ret2
        exact ⟨_, rfl, below_drewN HB.out _, World.ownsRow_nil _ _ _ _⟩
  · have hK := Kind_any k _ (hT.below hT.lt HB.out)
    clear hT hD
    cases hk : kindB k
    · have e1 : knE ds true k t n = 4 := by rw [knE, if_pos rfl, if_neg (by simp [hk])]
      rw [knL_no (by omega), e1]
      rw [hk] at hK
      clear e1 hk hd
      go_enter Tryd.func35, Tryd.ntmps35
      go_wp2_with (go_at_call 43; refine hK.mono ?_; rintro e w' ⟨rfl, rfl⟩)
      go_ret2
      exact ⟨_, rfl, HB.out, World.ownsRow_nil _ _ _ _⟩
    · rw [hk] at hK
      by_cases hr : 0 ≤ n ∧ n ≤ 4000
      · have e1 : knE ds true k t n = 0 := by rw [knE, if_pos rfl, if_pos hk, if_pos hr]
        have e2 : knL ds true k t n = List.replicate n.toNat k := by rw [knL, if_pos e1, if_pos rfl]
        rw [e1, e2]
        obtain ⟨h0, h1⟩ := hr
        obtain ⟨n, rfl⟩ := Int.eq_ofNat_of_zero_le h0
        have hbo2 : Below w.heap.size w ((w.alloc (.cells #[.bool true, .int .i64 k, .int .i64 t, .int .i64 n] 26)).alloc (.cells #[.int .i64 k] 3)) := HB.out.alloc HB.out.size _
        have HB2 := Lib.hid hbo2
        have hrep := Repeat_any (w.heap.size + 1) 0 1 k n ((w.alloc (.cells #[.bool true, .int .i64 k, .int .i64 t, .int .i64 n] 26)).alloc (.cells #[.int .i64 k] 3)) (by
          have := heap_alloc_eq (w.alloc (.cells #[.bool true, .int .i64 k, .int .i64 t, .int .i64 n] 26)) (.cells #[.int .i64 k] 3)
          rw [show (w.alloc (.cells #[.bool true, .int .i64 k, .int .i64 t, .int .i64 n] 26)).heap.size = w.heap.size + 1 by simp] at this
          rw [heap_cell this]
          rfl) (by omega)
        rw [Int.toNat_natCast]
        clear e1 e2 hk hd hbo2
        go_enter Tryd.func35, Tryd.ntmps35
        go_wp2_with (first | (go_at_call 43; refine hK.mono ?_; rintro e w' ⟨rfl, rfl⟩) | (go_at_call 44; refine hrep.mono ?_; rintro e w1 ⟨v, rfl, hb1, ho⟩))
        go_ret2
        exact ⟨_, rfl, HB2.out.trans (hb1.mono HB2.out.size), owns_le ho HB2.out.size⟩
      · have e1 : knE ds true k t n = 1 := by rw [knE, if_pos rfl, if_pos hk, if_neg hr]
        rw [knL_no (by omega), e1]
        clear e1 hk hd
        rcases (show n < 0 ∨ (¬ n < 0 ∧ 4000 < n) by omega) with h | ⟨h0, h⟩
        all_goals
          clear hr
          go_enter Tryd.func35, Tryd.ntmps35
          go_wp2_with (go_at_call 43; refine hK.mono ?_; rintro e w' ⟨rfl, rfl⟩)
          go_ret2
          exact ⟨_, rfl, HB.out, World.ownsRow_nil _ _ _ _⟩
end Go.Proofs.YtojcdljpgginjaaDoor
