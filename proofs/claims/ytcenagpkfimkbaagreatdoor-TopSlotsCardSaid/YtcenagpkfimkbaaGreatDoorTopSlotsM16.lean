/-
  Contracts of functions of the program, laid together.
-/
import Derived.Test.YtcenagpkfimkbaaGreatDoorTopSlotsM3
import Derived.Test.YtcenagpkfimkbaaGreatDoorTopSlotsM10
import Derived.Test.YtcenagpkfimkbaaGreatDoorTopSlotsM15
namespace Go.Proofs.YtcenagpkfimkbaaGreatDoor
open Go Go.RowKit

def ptrV : Nat → Value := fun b => .pointer (some ⟨b, 0, none⟩)
def groupRow (ow : Nat → Int) (k : Nat) : List Int := (List.range 32).map fun i => ow (32 * k + i)
def ints (l : List Int) : Array Value := (l.map (Value.int .i64)).toArray
structure OwnerAt (w : World) (ob om : Nat) (gm : IM Nat) (n : Nat) (ow : Nat → Int) : Prop where
  blk : w.heap[ob]? = some (.cells #[.map (some om), .int .i64 n] 184 (0, 0))
  map : MapAt .i64 3 w om (mapV ptrV gm)
  grp : ∀ (k : Int) (b : Nat), lk gm k = some b → 0 ≤ k ∧ k < 32 ∧ w.heap[b]? = some (.cells (ints (groupRow ow k.toNat)) 252 (0, 0))
  inj : ∀ (k j : Int) (b : Nat), lk gm k = some b → lk gm j = some b → k = j
  zero : ∀ k : Nat, lk gm (k : Int) = none → ∀ i, i < 32 → ow (32 * k + i) = 0
  len : n ≤ 1024
theorem OwnerAt.moved {w w' : World} {ob om : Nat} {gm : IM Nat} {n : Nat} {ow : Nat → Int} {T : Nat → Prop} (h : OwnerAt w ob om gm n ow) (hm : Moved T w w') (h1 : ¬ T ob) (h2 : ¬ T om) (h3 : ∀ k b, lk gm k = some b → ¬ T b) : OwnerAt w' ob om gm n ow :=
  ⟨hm.heap h.blk h1, h.map.moved hm h2, fun k b hk => ⟨(h.grp k b hk).1, (h.grp k b hk).2.1, hm.heap (h.grp k b hk).2.2 (h3 k b hk)⟩, h.inj, h.zero, h.len⟩
theorem OwnerAt.later {w w' : World} {ob om : Nat} {gm : IM Nat} {n : Nat} {ow : Nat → Int} (h : OwnerAt w ob om gm n ow) (hb : Below w.heap.size w w') : OwnerAt w' ob om gm n ow :=
  h.moved (Moved.of_below hb (fun _ => False)) id id (fun _ _ _ => id)
theorem OwnerAt.rising {w : World} {ob om : Nat} {gm : IM Nat} {n : Nat} {ow : Nat → Int} (h : OwnerAt w ob om gm n ow) : Rising gm := (rising_mapV _ gm).1 h.map.rising
theorem OwnerAt.apart {w : World} {ob om : Nat} {gm : IM Nat} {n : Nat} {ow : Nat → Int} (h : OwnerAt w ob om gm n ow) : ob ≠ om ∧ ∀ k b, lk gm k = some b → b ≠ ob ∧ b ≠ om := by
  obtain ⟨es, clock, hh⟩ := h.map.block
  refine ⟨heap_ne h.blk hh (by simp), fun k b hk => ?_⟩
  have hg := (h.grp k b hk).2.2
  exact ⟨heap_ne hg h.blk (by simp [ints]), heap_ne hg hh (by simp)⟩
def OwnerP (ob om : Nat) (n : Nat) (ow : Nat → Int) : HP := fun w S => ∃ gm, OwnerAt w ob om gm n ow ∧ ∀ k, S k ↔ k = ob ∨ k = om ∨ ∃ j, lk gm j = some k
theorem OwnerP.ok (ob om : Nat) (n : Nat) (ow : Nat → Int) : (OwnerP ob om n ow).Ok := by
  constructor
  · rintro w w' S T ⟨gm, h, hs⟩ hm hd
    exact ⟨gm, h.moved hm (hd _ ((hs _).2 (.inl rfl))) (hd _ ((hs _).2 (.inr (.inl rfl)))) (fun k b hk => hd _ ((hs _).2 (.inr (.inr ⟨k, hk⟩)))), hs⟩
  · rintro w S ⟨gm, h, hs⟩ k hk
    rcases (hs k).1 hk with rfl | rfl | ⟨j, hj⟩
    · exact heap_lt h.blk
    · exact h.map.lt
    · exact heap_lt (h.grp j k hj).2.2

theorem zero_group (w : World) : (zeroValue 250).run Tryz.prog w = .ok (.pointer none) w := by kernel_rfl
theorem look_group {w : World} {om : Nat} {gm : IM Nat} (h : MapAt .i64 3 w om (mapV ptrV gm)) (x : Int) (h0 : -9223372036854775808 ≤ x) (h1 : x ≤ 9223372036854775807) :
    (Instr.lookup 182 (.map (some om)) (.int .i64 x) false).run Tryz.prog w = .ok (.pointer ((lk gm x).map fun b => ⟨b, 0, none⟩)) w := by
  have hl := h.lookup Tryz.underlying3 Tryz.underlying182 (zero_group w) x (wf_i64 h0 h1)
  rw [lk_mapV] at hl
  rw [hl]
  cases lk gm x <;> rfl

set_option maxRecDepth 100000 in
theorem oNew_any (n : Nat) (w : World) (hn : n ≤ 1024) :
    Calls Tryz.prog 39 #[.int .i64 n] w fun e w' => e = .returned (.pointer (some ⟨w.heap.size + 1, 0, none⟩)) ∧ Below w.heap.size w w' ∧ OwnerAt w' (w.heap.size + 1) w.heap.size [] n (fun _ => 0) := by
  have y1 : (if (n : Int) < 0 then (0 : Int) else n) = n := by split <;> omega
  have y2 : (if (n : Int) ≤ 0 then (0 : Int) else n) = n := by split <;> omega
  have y3 : (if (1024 : Int) < n then (1024 : Int) else n) = n := by split <;> omega
  have y4 : (if (1024 : Int) ≤ n then (1024 : Int) else n) = n := by split <;> omega
  have hmm := @run_makeMap Tryz.prog
  go_enter Tryz.func39, Tryz.ntmps39
  go_wp2
  go_ret
  refine ⟨rfl, ((Below.refl _ _).alloc (Nat.le_refl _) _).alloc (by simp) _, ⟨?_, ?_, (fun k b hk => by cases hk), (fun k j b hk => by cases hk), fun _ _ _ _ => rfl, hn⟩⟩
  · simpa using heap_alloc_eq (w.alloc (.map #[] 0)) (.cells #[.map (some w.heap.size), .int .i64 n] 184)
  · exact (MapAt.made w).later ((Below.refl _ _).alloc (Nat.le_refl _) _)

theorem groupRow_at (ow : Nat → Int) (k i : Nat) (hi : i < 32) : (ints (groupRow ow k))[i]? = some (.int .i64 (ow (32 * k + i))) := by
  simp [ints, groupRow, hi]

def owP (n : Nat) (ow : Nat → Int) (p : Int) : Int := if 0 ≤ p ∧ p < n then ow p.toNat else 0

set_option maxRecDepth 100000 in
theorem oPage_any {w : World} {ob om : Nat} {gm : IM Nat} {n : Nat} {ow : Nat → Int} (h : OwnerAt w ob om gm n ow) (p : Int) :
    Calls Tryz.prog 195 #[.pointer (some ⟨ob, 0, none⟩), .int .i64 p] w fun e w' => e = .returned (.int .i64 (owP n ow p)) ∧ w = w' := by
  have c0 := heap_cell h.blk 0
  have c1 := heap_cell h.blk 1
  simp at c0 c1
  by_cases h0 : p < 0
  · have e1 : Hid (owP n ow p = 0) := Lib.hid (by rw [owP, if_neg (by omega)])
    clear h c0 c1
    go_enter Tryz.func195, Tryz.ntmps195
    go_wp2
    go_ret
    exact ⟨by rw [e1.out]; rfl, rfl⟩
  by_cases h1 : (n : Int) ≤ p
  · have e1 : Hid (owP n ow p = 0) := Lib.hid (by rw [owP, if_neg (by omega)])
    clear h c0
    go_enter Tryz.func195, Tryz.ntmps195
    go_wp2
    go_ret
    exact ⟨by rw [e1.out]; rfl, rfl⟩
  obtain ⟨p, rfl⟩ := Int.eq_ofNat_of_zero_le (show 0 ≤ p by omega)
  have hn := h.len
  have e1 : Hid (owP n ow (p : Int) = ow p) := Lib.hid (by rw [owP, if_pos (by omega), Int.toNat_natCast])
  have hl := look_group h.map ((p : Int) / 32) (by omega) (by omega)
  cases hg : lk gm ((p : Int) / 32) with
  | none =>
    have hz := h.zero (p / 32) (by rw [show ((p / 32 : Nat) : Int) = (p : Int) / 32 by omega]; exact hg) (p % 32) (by omega)
    rw [show 32 * (p / 32) + p % 32 = p by omega] at hz
    have HZ := Lib.hid hz
    rw [hg] at hl
    simp only [Option.map_none] at hl
    clear h hg hz
    go_enter Tryz.func195, Tryz.ntmps195
    go_wp2
    go_ret
    exact ⟨by rw [e1.out, HZ.out]; rfl, rfl⟩
  | some b =>
    have hb := (h.grp _ b hg).2.2
    have cg := heap_cell hb (p % 32)
    rw [groupRow_at ow _ _ (by omega), show 32 * ((p : Int) / 32).toNat + p % 32 = p by omega] at cg
    obtain ⟨v, hv⟩ : ∃ v, ow p = v := ⟨_, rfl⟩
    rw [hv] at cg e1
    rw [hg] at hl
    simp only [Option.map_some] at hl
    obtain ⟨m, hm⟩ : ∃ m, p % 32 = m := ⟨_, rfl⟩
    rw [hm] at cg
    have y1 : (p : Int) % 32 = (m : Int) := by omega
    have y2 : (m : Int) < 32 := by omega
    clear h hg hb hv hm
    go_enter Tryz.func195, Tryz.ntmps195
    go_wp2
    go_ret
    exact ⟨by rw [e1.out]; rfl, rfl⟩

def owW (n : Nat) (ow : Nat → Int) (a : Int) : Int := if a < 0 then 0 else owP n ow (a / 16)
set_option maxRecDepth 100000 in
theorem oWord_any {w : World} {ob om : Nat} {gm : IM Nat} {n : Nat} {ow : Nat → Int} (h : OwnerAt w ob om gm n ow) (a : Int) (h1 : a ≤ 9223372036854775807) :
    Calls Tryz.prog 166 #[.pointer (some ⟨ob, 0, none⟩), .int .i64 a] w fun e w' => e = .returned (.int .i64 (owW n ow a)) ∧ w = w' := by
  have hp := oPage_any h (a / 16)
  by_cases h0 : a < 0
  · have e1 : Hid (owW n ow a = 0) := Lib.hid (if_pos h0)
    clear h hp
    go_enter Tryz.func166, Tryz.ntmps166
    go_wp2
    go_ret
    exact ⟨by rw [e1.out]; rfl, rfl⟩
  · have e1 : Hid (owW n ow a = owP n ow (a / 16)) := Lib.hid (if_neg h0)
    have h2 : 0 ≤ a := by omega
    obtain ⟨y, hy⟩ : ∃ y, owP n ow (a / 16) = y := ⟨_, rfl⟩
    rw [hy] at hp e1
    clear h hy
    go_enter Tryz.func166, Tryz.ntmps166
    go_wp2_with fail
    refine hp.mono ?_
    rintro e w1 ⟨rfl, rfl⟩
    clear hp
    go_wp2
    go_ret
    exact ⟨by rw [e1.out]; rfl, rfl⟩
end Go.Proofs.YtcenagpkfimkbaaGreatDoor
namespace Go.Proofs.YtcenagpkfimkbaaGreatDoor
open Go Go.RowKit

def owSet (ow : Nat → Int) (f k : Nat) (o : Int) : Nat → Int := fun p => if f ≤ p ∧ p < f + k then o else ow p
theorem owSet_zero (ow : Nat → Int) (f : Nat) (o : Int) : owSet ow f 0 o = ow := by funext p; unfold owSet; rw [if_neg (by omega)]
theorem owSet_succ (ow : Nat → Int) (f j : Nat) (o : Int) : (fun p => if p = f + j then o else owSet ow f j o p) = owSet ow f (j + 1) o := by
  funext p
  unfold owSet
  by_cases h : p = f + j
  · rw [if_pos h, if_pos (by omega)]
  · rw [if_neg h]
    by_cases h2 : f ≤ p ∧ p < f + j
    · rw [if_pos h2, if_pos (by omega)]
    · rw [if_neg h2, if_neg (by omega)]
def oE (n : Nat) (f k o : Int) : Int := if o < 0 then 1 else if hasB n f k = true then 0 else 8
def oW (n : Nat) (ow : Nat → Int) (f k o : Int) : Nat → Int := if oE n f k o = 0 then owSet ow f.toNat k.toNat o else ow

theorem groupRow_set (ow : Nat → Int) (q : Nat) (o : Int) : groupRow (fun p => if p = q then o else ow p) (q / 32) = (groupRow ow (q / 32)).set (q % 32) o := by
  apply List.ext_getElem?
  intro i
  rw [List.getElem?_set]
  simp only [groupRow, List.length_map, List.length_range, List.getElem?_map]
  by_cases hi : i < 32
  · rw [List.getElem?_range hi]
    by_cases e : q % 32 = i
    · rw [if_pos e, if_pos (by omega)]
      simp only [Option.map_some, Option.some.injEq]
      rw [if_pos (by omega)]
    · rw [if_neg e]
      simp only [Option.map_some, Option.some.injEq]
      rw [if_neg (by omega)]
  · rw [List.getElem?_eq_none (by simpa using hi)]
    by_cases e : q % 32 = i
    · omega
    · rw [if_neg e]; rfl
theorem groupRow_other (ow : Nat → Int) (q k : Nat) (o : Int) (h : k ≠ q / 32) : groupRow (fun p => if p = q then o else ow p) k = groupRow ow k := by
  unfold groupRow
  apply List.map_congr_left
  intro i hi
  rw [List.mem_range] at hi
  show (if 32 * k + i = q then o else ow (32 * k + i)) = ow (32 * k + i)
  rw [if_neg (by omega)]
theorem OwnerAt.store {w : World} {ob om : Nat} {gm : IM Nat} {n : Nat} {ow : Nat → Int} (h : OwnerAt w ob om gm n ow) {q b : Nat} (hq : lk gm ((q / 32 : Nat) : Int) = some b) (o : Int) :
    OwnerAt (w.setCell ⟨b, q % 32, none⟩ (.int .i64 o)) ob om gm n (fun p => if p = q then o else ow p) := by
  have hap := h.apart
  have hm : Moved (fun k => k = b) w (w.setCell ⟨b, q % 32, none⟩ (.int .i64 o)) := Moved.of_set (S := fun k => k = b) w b _ _ rfl
  refine ⟨hm.heap h.blk (fun e => (hap.2 _ _ hq).1 e.symm), h.map.moved hm (fun e => (hap.2 _ _ hq).2 e.symm), fun k c hk => ⟨(h.grp k c hk).1, (h.grp k c hk).2.1, ?_⟩, h.inj, fun k hk i hi => ?_, h.len⟩
  · have h0 := (h.grp k c hk).1
    by_cases e : c = b
    · subst e
      have hkq := h.inj _ _ _ hk hq
      subst hkq
      have := heap_set (h.grp _ _ hk).2.2 (q % 32) (.int .i64 o)
      rw [Int.toNat_natCast] at this ⊢
      rw [this, groupRow_set]
      simp [ints, List.map_set]
    · rw [groupRow_other _ _ _ _ (fun e2 => e (by rw [show k = ((q / 32 : Nat) : Int) by omega, hq] at hk; cases hk; rfl))]
      exact hm.heap (h.grp k c hk).2.2 e
  · show (if 32 * k + i = q then o else ow (32 * k + i)) = 0
    rw [if_neg]
    · exact h.zero k hk i hi
    · intro e
      have : k = q / 32 := by omega
      subst this
      rw [hk] at hq
      cases hq
theorem groupRow_zero {ow : Nat → Int} {k : Nat} (h : ∀ i, i < 32 → ow (32 * k + i) = 0) : groupRow ow k = List.replicate 32 0 := by
  apply List.ext_getElem?
  intro i
  simp only [groupRow, List.getElem?_map, List.getElem?_replicate]
  by_cases hi : i < 32
  · rw [List.getElem?_range hi, if_pos hi]
    simp [h i hi]
  · rw [List.getElem?_eq_none (by simpa using hi), if_neg hi]; rfl
theorem OwnerAt.make {w w2 : World} {ob om : Nat} {gm : IM Nat} {n : Nat} {ow : Nat → Int} (h : OwnerAt w ob om gm n ow) {k : Nat} (hk : lk gm (k : Int) = none) (hk2 : k < 32) {cs : Array Value} (hc : cs = ints (List.replicate 32 0))
    (hm : MapAt .i64 3 w2 om (mput (mapV ptrV gm) (k : Int) (.pointer (some ⟨w.heap.size, 0, none⟩)))) (ht : (w.alloc (.cells cs 252)).mapTurned w2 om) : OwnerAt w2 ob om (mput gm (k : Int) w.heap.size) n ow := by
  have hap := h.apart
  have hmv : Moved (fun q => q = om) w w2 := (Moved.alloc _ w _).trans (Moved.turned ht) (fun _ e => .inl e)
  have hlt : ∀ j b, lk gm j = some b → b < w.heap.size := fun j b hj => heap_lt (h.grp j b hj).2.2
  have hnew : w2.heap[w.heap.size]? = some (.cells cs 252 (0, 0)) := (Moved.turned ht).heap (heap_alloc_eq w _) (by have := h.map.lt; omega)
  have hr := h.rising
  refine ⟨hmv.heap h.blk hap.1, by rw [← mput_mapV]; exact hm, fun j b hj => ?_, fun j i b hj hi => ?_, fun j hj i hi => ?_, h.len⟩
  · rw [lk_put hr] at hj
    split at hj
    · rename_i e
      subst e
      cases hj
      refine ⟨by omega, by omega, ?_⟩
      rw [Int.toNat_natCast, groupRow_zero (h.zero k hk), ← hc]
      exact hnew
    · exact ⟨(h.grp j b hj).1, (h.grp j b hj).2.1, hmv.heap (h.grp j b hj).2.2 (hap.2 j b hj).2⟩
  · rw [lk_put hr] at hj hi
    split at hj
    · split at hi
      · rename_i e1 e2; omega
      · cases hj; have := hlt _ _ hi; omega
    · split at hi
      · cases hi; have := hlt _ _ hj; omega
      · exact h.inj _ _ _ hj hi
  · rw [lk_put hr] at hj
    split at hj
    · cases hj
    · exact h.zero j hj i hi

theorem rising_len {α : Type} : ∀ (m : IM α) (a b : Int), Rising m → (∀ p ∈ m, a ≤ p.1 ∧ p.1 < b) → m.length ≤ (b - a).toNat
  | [], _, _, _, _ => by simp
  | x :: r, a, b, h, hb => by
    obtain ⟨h1, h2⟩ := List.pairwise_cons.1 h
    have hx := hb x (by simp)
    have := rising_len r (x.1 + 1) b h2 (fun p hp => ⟨by have := h1 p hp; omega, (hb p (by simp [hp])).2⟩)
    rw [List.length_cons]
    omega
theorem OwnerAt.gmlen {w : World} {ob om : Nat} {gm : IM Nat} {n : Nat} {ow : Nat → Int} (h : OwnerAt w ob om gm n ow) : gm.length ≤ 32 := by
  have := rising_len gm 0 32 h.rising (fun p hp => by
    have := h.grp p.1 p.2 ((lk_some h.rising).2 hp)
    exact ⟨this.1, this.2.1⟩)
  simpa using this
structure OInv (w0 : World) (ob om : Nat) (gm0 : IM Nat) (f k : Int) (n : Nat) (W : World) (gm : IM Nat) (ow : Nat → Int) : Prop where
  o : OwnerAt W ob om gm n ow
  mv : Moved (fun q => q = ob ∨ q = om ∨ ∃ j, lk gm0 j = some q) w0 W
  g : ∀ j b, lk gm j = some b → lk gm0 j = some b ∨ w0.heap.size ≤ b
  x : W.heap[w0.heap.size]? = some (.cells #[.int .i64 f, .int .i64 k] 160 (0, 0))

set_option maxRecDepth 100000 in
set_option maxHeartbeats 2000000 in
theorem oSet_any {w : World} {ob om : Nat} {gm : IM Nat} {n : Nat} {ow : Nat → Int} (h : OwnerAt w ob om gm n ow) (f k o : Int) :
    Calls Tryz.prog 111 #[.pointer (some ⟨ob, 0, none⟩), .agg #[.int .i64 f, .int .i64 k], .int .i64 o] w fun e w' => e = .returned (.int .i64 (oE n f k o)) ∧ ∃ gm', OwnerAt w' ob om gm' n (oW n ow f k o) ∧ Moved (fun q => q = ob ∨ q = om ∨ ∃ j, lk gm j = some q) w w' ∧ ∀ j b, lk gm' j = some b → lk gm j = some b ∨ w.heap.size ≤ b := by
  have hbA : Below w.heap.size w (w.alloc (.cells #[.int .i64 f, .int .i64 k] 160)) := (Below.refl _ _).alloc (Nat.le_refl _) _
  have HI := Lib.hid (OInv.mk (k := k) (f := f) (h.later hbA) (Moved.of_below hbA _) (fun j b hj => .inl hj) (heap_alloc_eq w _))
  have hn := h.len
  have e8 : Hid (oE n f k o ≠ 0 → oW n ow f k o = ow) := Lib.hid (fun e => by rw [oW, if_neg e])
  have hne : ob ≠ w.heap.size := by have := heap_lt h.blk; omega
  have c1 : (w.alloc (.cells #[.int .i64 f, .int .i64 k] 160)).cell? ⟨ob, 1, none⟩ = some (.int .i64 n) := by
    have := heap_cell HI.out.o.blk 1
    simpa using this
  have hlt := heap_lt h.blk
  have c1' := heap_cell h.blk 1
  simp at c1'
  clear h hbA c1
  rcases (show o < 0 ∨ (0 ≤ o ∧ f < 0) ∨ (0 ≤ o ∧ 0 ≤ f ∧ k < 0) ∨ (0 ≤ o ∧ 0 ≤ f ∧ 0 ≤ k ∧ (n : Int) < f) ∨ (0 ≤ o ∧ 0 ≤ f ∧ 0 ≤ k ∧ f ≤ n ∧ n - f < k) ∨ (0 ≤ o ∧ 0 ≤ f ∧ 0 ≤ k ∧ f ≤ n ∧ k ≤ n - f) by omega) with h1 | ⟨h0, h1⟩ | ⟨h0, h1, h2⟩ | ⟨h0, h1, h2, h3⟩ | ⟨h0, h1, h2, h3, h4⟩ | ⟨h0, h1, h2, h3, h4⟩
  · have e1 : Hid (oE n f k o = 1) := Lib.hid (by rw [oE, if_pos h1])
    go_enter Tryz.func111, Tryz.ntmps111
    go_wp2
    go_ret
    exact ⟨by rw [e1.out]; rfl, gm, by rw [e8.out (by rw [e1.out]; decide)]; exact HI.out.o, HI.out.mv, HI.out.g⟩
  · have e1 : Hid (oE n f k o = 8) := Lib.hid (by rw [oE, if_neg (by omega), if_neg (by simp [hasB]; omega)])
    have d1 : decide (f < 0) = true := by simp; omega
    go_enter Tryz.func111, Tryz.ntmps111
    go_wp2
    go_quiet (fail)
    go_wp2
    go_ret
    exact ⟨by rw [e1.out]; rfl, gm, by rw [e8.out (by rw [e1.out]; decide)]; exact HI.out.o.moved (Moved.drewN (fun _ => False) _ _) id id (fun _ _ _ => id), HI.out.mv.trans (Moved.drewN (fun _ => False) _ _) (fun _ e => e.elim), HI.out.g⟩
  · have e1 : Hid (oE n f k o = 8) := Lib.hid (by rw [oE, if_neg (by omega), if_neg (by simp [hasB]; omega)])
    have d1 : decide (f < 0) = false := by simp; omega
    have d2 : decide (k < 0) = true := by simp; omega
    go_enter Tryz.func111, Tryz.ntmps111
    go_wp2
    go_quiet (fail)
    go_wp2
    go_ret
    exact ⟨by rw [e1.out]; rfl, gm, by rw [e8.out (by rw [e1.out]; decide)]; exact HI.out.o.moved (Moved.drewN (fun _ => False) _ _) id id (fun _ _ _ => id), HI.out.mv.trans (Moved.drewN (fun _ => False) _ _) (fun _ e => e.elim), HI.out.g⟩
  · have e1 : Hid (oE n f k o = 8) := Lib.hid (by rw [oE, if_neg (by omega), if_neg (by simp [hasB]; omega)])
    have d1 : decide (f < 0) = false := by simp; omega
    have d2 : decide (k < 0) = false := by simp; omega
    have d3 : decide ((n : Int) < f) = true := by simp; omega
    go_enter Tryz.func111, Tryz.ntmps111
    go_wp2
    go_quiet (fail)
    go_wp2
    go_ret
    exact ⟨by rw [e1.out]; rfl, gm, by rw [e8.out (by rw [e1.out]; decide)]; exact HI.out.o.moved (Moved.drewN (fun _ => False) _ _) id id (fun _ _ _ => id), HI.out.mv.trans (Moved.drewN (fun _ => False) _ _) (fun _ e => e.elim), HI.out.g⟩
  · have e1 : Hid (oE n f k o = 8) := Lib.hid (by rw [oE, if_neg (by omega), if_neg (by simp [hasB]; omega)])
    have d1 : decide (f < 0) = false := by simp; omega
    have d2 : decide (k < 0) = false := by simp; omega
    have d3 : decide ((n : Int) < f) = false := by simp; omega
    have d5 : IntKind.i64.wrap ((n : Int) - f) = (n : Int) - f := IntWalk.i64_in _ (by omega)
    have d4 : decide ((n : Int) - f < k) = true := by simp; omega
    go_enter Tryz.func111, Tryz.ntmps111
    go_wp2
    go_quiet (fail)
    go_wp2
    go_ret
    exact ⟨by rw [e1.out]; rfl, gm, by rw [e8.out (by rw [e1.out]; decide)]; exact HI.out.o.moved (Moved.drewN (fun _ => False) _ _) id id (fun _ _ _ => id), HI.out.mv.trans (Moved.drewN (fun _ => False) _ _) (fun _ e => e.elim), HI.out.g⟩
  · have e1 : Hid (oE n f k o = 0) := Lib.hid (by rw [oE, if_neg (by omega), if_pos (by simp [hasB]; omega)])
    have e2 : Hid (oW n ow f k o = owSet ow f.toNat k.toNat o) := Lib.hid (by rw [oW, if_pos e1.out])
    have d1 : decide (f < 0) = false := by simp; omega
    have d2 : decide (k < 0) = false := by simp; omega
    have d3 : decide ((n : Int) < f) = false := by simp; omega
    have d5 : IntKind.i64.wrap ((n : Int) - f) = (n : Int) - f := IntWalk.i64_in _ (by omega)
    have d4 : decide ((n : Int) - f < k) = false := by simp; omega
    go_enter Tryz.func111, Tryz.ntmps111
    go_wp2
    go_quiet (fail)
    go_wp2
    clear d1 d2 d3 d4 d5
    obtain ⟨f, rfl⟩ := Int.eq_ofNat_of_zero_le h1
    obtain ⟨k, rfl⟩ := Int.eq_ofNat_of_zero_le h2
    simp only [Int.toNat_natCast] at e2
    have hfk : f + k ≤ n := by omega
    clear c1'
    go_loopw [7] (fun a wr => ∃ j : Nat, j ≤ k ∧ a = .int .i64 ((f + j : Nat) : Int) ∧ Hid (∃ gm', OInv w ob om gm f k n wr gm' (owSet ow f j o))) (fun a _ => f + k - (intOf a).toNat)
    case atStart => exact ⟨0, Nat.zero_le _, rfl, Lib.hid ⟨gm, by rw [owSet_zero]; exact ⟨HI.out.o.moved (Moved.drewN (fun _ => False) _ _) id id (fun _ _ _ => id), HI.out.mv.trans (Moved.drewN (fun _ => False) _ _) (fun _ e => e.elim), HI.out.g, HI.out.x⟩⟩⟩
    case round =>
      obtain ⟨j, hj, rfl, HV⟩ := hrel
      obtain ⟨gm', hV⟩ := HV.out
      have HV2 := Lib.hid hV
      have hx0 := heap_cell hV.x 0
      have hx1 := heap_cell hV.x 1
      simp only [List.getElem?_toArray, List.getElem?_cons_zero, List.getElem?_cons_succ] at hx0 hx1
      obtain ⟨q, hq⟩ : ∃ x, f + j = x := ⟨_, rfl⟩
      rw [hq]
      have i8 : (f : Int) + (k : Int) ≤ 20000 := by omega
      by_cases hlt : j < k
      · have i2 : (q : Int) < (f : Int) + (k : Int) := by omega
        have c0 := heap_cell hV.o.blk 0
        simp at c0
        obtain ⟨m, hm⟩ : ∃ m, q % 32 = m := ⟨_, rfl⟩
        have y1 : (q : Int) % 32 = (m : Int) := by omega
        have y2 : (m : Int) < 32 := by omega
        obtain ⟨d, hd⟩ : ∃ d, q / 32 = d := ⟨_, rfl⟩
        have y3 : (q : Int) / 32 = (d : Int) := by omega
        have hl := look_group hV.o.map (d : Int) (by omega) (by omega)
        have HQ := Lib.hid (And.intro hq (And.intro hm hd))
        cases hg : lk gm' (d : Int) with
        | some b =>
          have hb := (hV.o.grp _ b hg).2.2
          have cg := heap_cell hb m
          have dg := heap_free hb m
          rw [groupRow_at _ _ _ (by omega)] at cg
          obtain ⟨v, hv⟩ : ∃ v, owSet ow f j o (32 * (d : Int).toNat + m) = v := ⟨_, rfl⟩
          rw [hv] at cg
          rw [hg] at hl
          simp only [Option.map_some] at hl
          have hst := hV.o.store (q := q) (by rw [hd]; exact hg) o
          rw [hm, ← hq, owSet_succ] at hst
          have hmm : Moved (fun q => q = b) wr (wr.setCell ⟨b, m, none⟩ (.int .i64 o)) := Moved.of_set (S := fun q => q = b) wr b m _ rfl
          have hxb : w.heap.size ≠ b := heap_ne hV.x hb (by simp [ints])
          have HN : Hid (OInv w ob om gm f k n (wr.setCell ⟨b, m, none⟩ (.int .i64 o)) gm' (owSet ow f (j + 1) o)) := Lib.hid ⟨hst, hV.mv.trans hmm (fun q e => by subst e; exact (hV.g _ _ hg).imp_left (fun h => .inr (.inr ⟨_, h⟩))), hV.g, hmm.heap hV.x hxb⟩
          clear hV hg hb hv hm hd hq hst hmm hxb
          go_wp2
          go_roundw
          case rel => exact ⟨j + 1, by omega, by rw [← HQ.out.1]; simp; omega, Lib.hid ⟨gm', HN.out⟩⟩
          case measure => simp [intOf]; omega
        | none =>
          rw [hg] at hl
          simp only [Option.map_none] at hl
          have hd32 : d < 32 := by omega
          have hbz : Below wr.heap.size wr (wr.alloc (.cells #[.int .i64 0, .int .i64 0, .int .i64 0, .int .i64 0, .int .i64 0, .int .i64 0, .int .i64 0, .int .i64 0, .int .i64 0, .int .i64 0, .int .i64 0, .int .i64 0, .int .i64 0, .int .i64 0, .int .i64 0, .int .i64 0, .int .i64 0, .int .i64 0, .int .i64 0, .int .i64 0, .int .i64 0, .int .i64 0, .int .i64 0, .int .i64 0, .int .i64 0, .int .i64 0, .int .i64 0, .int .i64 0, .int .i64 0, .int .i64 0, .int .i64 0, .int .i64 0] 252)) := (Below.refl _ _).alloc (Nat.le_refl _) _
          obtain ⟨w3, hr3, hm3, ht3⟩ := (hV.o.map.later hbz).store Tryz.underlying3 Tryz.underlying182 (by rw [mapV_length]; have := hV.o.gmlen; unfold maxLen; omega) (d : Int) (.pointer (some ⟨wr.heap.size, 0, none⟩)) (wf_i64 (by omega) (by omega))
          have hmk := hV.o.make hg hd32 (by simp [ints]) hm3 ht3
          have hm13 : Moved (fun q => q = om) wr w3 := (Moved.of_below hbz _).trans (Moved.turned ht3) (fun _ e => .inl e)
          have hr := hV.o.rising
          have hst := hmk.store (q := q) (b := wr.heap.size) (by rw [hd, lk_put hr, if_pos rfl]) o
          rw [hm, ← hq, owSet_succ] at hst
          have hxo : w.heap.size ≠ om := by
            obtain ⟨es, clock, hh⟩ := hV.o.map.block
            exact heap_ne hV.x hh (by simp)
          have hx3 := hm13.heap hV.x hxo
          have hgb := (hmk.grp (d : Int) wr.heap.size (by rw [lk_put hr, if_pos rfl])).2.2
          have cg := heap_cell hgb m
          have dg := heap_free hgb m
          rw [groupRow_at _ _ _ (by omega)] at cg
          obtain ⟨v, hv⟩ : ∃ v, owSet ow f j o (32 * (d : Int).toNat + m) = v := ⟨_, rfl⟩
          rw [hv] at cg
          have hwl := hV.mv.size
          have hmm : Moved (fun q => q = wr.heap.size) w3 (w3.setCell ⟨wr.heap.size, m, none⟩ (.int .i64 o)) := Moved.of_set (S := fun q => q = wr.heap.size) w3 _ m _ rfl
          have hxs := heap_lt hV.x
          have HN : Hid (OInv w ob om gm f k n (w3.setCell ⟨wr.heap.size, m, none⟩ (.int .i64 o)) (mput gm' (d : Int) wr.heap.size) (owSet ow f (j + 1) o)) := Lib.hid ⟨hst, (hV.mv.trans hm13 (fun q e => .inl (.inr (.inl e)))).trans hmm (fun q e => .inr (by omega)), fun a b hab => by
              rw [lk_put hr] at hab
              split at hab
              · cases hab; exact .inr hwl
              · exact hV.g a b hab, hmm.heap hx3 (by omega)⟩
          have hoz : ob < wr.heap.size := heap_lt hV.o.blk
          have hoz2 : ¬ wr.heap.size = ob := by omega
          have c0z := (hbz.cell (p := ⟨ob, 0, none⟩) hoz).trans c0
          clear hV hg hd32 hbz hm3 ht3 hmk hm13 hr hst hxo hx3 hgb hv hwl hmm hxs hm hd hq
          go_wp2
          go_roundw
          case rel => exact ⟨j + 1, by omega, by rw [← HQ.out.1]; simp; omega, Lib.hid ⟨_, HN.out⟩⟩
          case measure => simp [intOf]; omega
      · obtain rfl : j = k := by omega
        have i2 : ¬ (q : Int) < (f : Int) + (j : Int) := by omega
        clear hV hq
        go_wp2
        go_ret
        exact ⟨by rw [e1.out]; rfl, gm', by rw [e2.out]; exact HV2.out.o, HV2.out.mv, HV2.out.g⟩
end Go.Proofs.YtcenagpkfimkbaaGreatDoor
