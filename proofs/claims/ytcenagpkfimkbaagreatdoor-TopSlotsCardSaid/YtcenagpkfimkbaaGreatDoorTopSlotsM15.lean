/-
  Contracts of functions of the program, laid together.
-/
import Derived.Test.YtcenagpkfimkbaaGreatDoorTopSlotsM3
import Derived.Test.YtcenagpkfimkbaaGreatDoorTopSlotsM14
namespace Go.Proofs.YtcenagpkfimkbaaGreatDoor
open Go Go.RowKit

structure PagesAt (w : World) (pb rb rw mb mw : Nat) (gs : List Bool) (ms : List Int) : Prop where
  blk : w.heap[pb]? = some (.cells #[.pointer (some ⟨rb, 0, none⟩), .pointer (some ⟨mb, 0, none⟩)] 179 (0, 0))
  row : RowAt w rb rw gs
  mem : MemAt w mb mw ms
  len : ms.length = 16 * gs.length
  lo : 1 ≤ gs.length
  hi : gs.length ≤ 1024
  ne : rw ≠ mw
theorem MemAt.moved {w w' : World} {b g : Nat} {xs : List Int} {T : Nat → Prop} (h : MemAt w b g xs) (hm : Moved T w w') (hb : ¬ T b) (hg : ¬ T g) : MemAt w' b g xs :=
  ⟨hm.heap h.1 hb, hm.heap h.2.1 hg, h.2.2⟩
theorem PagesAt.moved {w w' : World} {pb rb rw mb mw : Nat} {gs : List Bool} {ms : List Int} {T : Nat → Prop} (h : PagesAt w pb rb rw mb mw gs ms) (hm : Moved T w w') (h1 : ¬ T pb) (h2 : ¬ T rb) (h3 : ¬ T rw) (h4 : ¬ T mb) (h5 : ¬ T mw) : PagesAt w' pb rb rw mb mw gs ms :=
  ⟨hm.heap h.blk h1, h.row.moved hm h2 h3, h.mem.moved hm h4 h5, h.len, h.lo, h.hi, h.ne⟩
theorem PagesAt.later {w w' : World} {pb rb rw mb mw : Nat} {gs : List Bool} {ms : List Int} (h : PagesAt w pb rb rw mb mw gs ms) (hb : Below w.heap.size w w') : PagesAt w' pb rb rw mb mw gs ms :=
  h.moved (Moved.of_below hb (fun _ => False)) id id id id id
theorem heap_ne {w : World} {a b : Nat} {x y : Obj} (h : w.heap[a]? = some x) (k : w.heap[b]? = some y) (hne : x ≠ y) : a ≠ b := by
  rintro rfl
  rw [h] at k
  exact hne (Option.some.inj k)
theorem RowAt.blocks {w : World} {b g : Nat} {xs : List Bool} (h : RowAt w b g xs) : (∃ cs, w.heap[b]? = some (.cells cs 231 (0, 0))) ∧ ∃ cs, w.heap[g]? = some (.cells cs 34 (0, 0)) := by
  obtain ⟨ws, _, h1, h2, _⟩ := h
  exact ⟨⟨_, h1⟩, ⟨_, h2⟩⟩
theorem PagesAt.apart {w : World} {pb rb rw mb mw : Nat} {gs : List Bool} {ms : List Int} (h : PagesAt w pb rb rw mb mw gs ms) :
    pb ≠ rb ∧ pb ≠ rw ∧ pb ≠ mb ∧ pb ≠ mw ∧ rb ≠ rw ∧ rb ≠ mb ∧ rb ≠ mw ∧ rw ≠ mb ∧ rw ≠ mw ∧ mb ≠ mw := by
  obtain ⟨⟨_, r1⟩, ⟨_, r2⟩⟩ := h.row.blocks
  exact ⟨heap_ne h.blk r1 (by simp), heap_ne h.blk r2 (by simp), heap_ne h.blk h.mem.1 (by simp), heap_ne h.blk h.mem.2.1 (by simp), heap_ne r1 r2 (by simp), heap_ne r1 h.mem.1 (by simp), heap_ne r1 h.mem.2.1 (by simp), heap_ne r2 h.mem.1 (by simp), h.ne, heap_ne h.mem.1 h.mem.2.1 (by simp)⟩
def PagesP (pb rb rw mb mw : Nat) (gs : List Bool) (ms : List Int) : HP := fun w S => PagesAt w pb rb rw mb mw gs ms ∧ ∀ k, S k ↔ k = pb ∨ k = rb ∨ k = rw ∨ k = mb ∨ k = mw
theorem PagesP.ok (pb rb rw mb mw : Nat) (gs : List Bool) (ms : List Int) : (PagesP pb rb rw mb mw gs ms).Ok := by
  constructor
  · rintro w w' S T ⟨h, hs⟩ hm hd
    exact ⟨h.moved hm (hd _ ((hs _).2 (by simp))) (hd _ ((hs _).2 (by simp))) (hd _ ((hs _).2 (by simp))) (hd _ ((hs _).2 (by simp))) (hd _ ((hs _).2 (by simp))), hs⟩
  · rintro w S ⟨h, hs⟩ k hk
    obtain ⟨⟨_, r1⟩, ⟨_, r2⟩⟩ := h.row.blocks
    rcases (hs k).1 hk with rfl | rfl | rfl | rfl | rfl
    · exact heap_lt h.blk
    · exact heap_lt r1
    · exact heap_lt r2
    · exact heap_lt h.mem.1
    · exact heap_lt h.mem.2.1

set_option maxRecDepth 100000 in
theorem pNew_any (n : Nat) (w : World) (h1 : 1 ≤ n) (h2 : n ≤ 1024) :
    Calls Tryz.prog 36 #[.int .i64 n] w fun e w' => ∃ pb rb rw mb mw, e = .returned (.tuple #[.pointer (some ⟨pb, 0, none⟩), .int .i64 0]) ∧ Below w.heap.size w w' ∧ PagesAt w' pb rb rw mb mw (List.replicate n false) (List.replicate (16 * n) 0) ∧ (w.heap.size ≤ pb ∧ w.heap.size ≤ rb ∧ w.heap.size ≤ rw ∧ w.heap.size ≤ mb ∧ w.heap.size ≤ mw) := by
  have hb := bNew_any n w (by omega)
  go_enter Tryz.func36, Tryz.ntmps36
  go_wp2_with fail
  refine hb.mono ?_
  rintro e w1 ⟨rfl, hb1, hr⟩
  have hw := wNew_any (16 * n) w1 (by omega)
  rw [show ((16 * n : Nat) : Int) = (n : Int) * 16 by omega] at hw
  obtain ⟨rb, hrb⟩ : ∃ x, w.heap.size + 1 = x := ⟨_, rfl⟩
  rw [hrb] at hr ⊢
  have HR := Lib.hid (And.intro hr (And.intro hb1 hrb))
  clear hb hr hb1 hrb
  go_wp2_with fail
  refine hw.mono ?_
  rintro e w2 ⟨rfl, hb2, hm⟩
  have HM := Lib.hid (And.intro hm hb2)
  clear hw hm hb2
  go_wp2
  go_ret2
  have hb3 : Below w2.heap.size w2 (w2.alloc (.cells #[.pointer (some ⟨rb, 0, none⟩), .pointer (some ⟨w1.heap.size + 1, 0, none⟩)] 179)) := (Below.refl _ _).alloc (Nat.le_refl _) _
  have hs1 := HR.out.2.1.size
  have hs2 := HM.out.2.size
  have hrw : w.heap.size < w1.heap.size := by
    obtain ⟨_, ⟨_, h⟩⟩ := HR.out.1.blocks
    exact heap_lt h
  have hrr := HR.out.2.2
  refine ⟨_, rb, w.heap.size, w1.heap.size + 1, w1.heap.size, rfl, (HR.out.2.1.trans (HM.out.2.mono hs1)).trans (hb3.mono (by omega)), ⟨heap_alloc_eq _ _, (HR.out.1.later HM.out.2).later hb3, HM.out.1.later hb3, by simp, by simpa using h1, by simpa using h2, by omega⟩, by omega, by omega, by omega, by omega, by omega⟩
theorem pNew_bad (n : Int) (w : World) (h : n < 1 ∨ 1024 < n) :
    Calls Tryz.prog 36 #[.int .i64 n] w fun e w' => e = .returned (.tuple #[.pointer none, .int .i64 1]) ∧ w = w' := by
  rcases h with h | h
  · go_enter Tryz.func36, Tryz.ntmps36
    go_wp2
    go_ret2
    exact ⟨rfl, rfl⟩
  · have h1 : ¬ n < 1 := by omega
    go_enter Tryz.func36, Tryz.ntmps36
    go_wp2
    go_ret2
    exact ⟨rfl, rfl⟩

theorem pMem_any {pb rb rw mb mw : Nat} {gs : List Bool} {ms : List Int} {w : World} (h : PagesAt w pb rb rw mb mw gs ms) :
    Calls Tryz.prog 89 #[.pointer (some ⟨pb, 0, none⟩)] w fun e w' => e = .returned (.pointer (some ⟨mb, 0, none⟩)) ∧ w = w' := by
  have c1 := heap_cell h.blk 1
  simp at c1
  clear h
  go_enter Tryz.func89, Tryz.ntmps89
  go_wp2
  go_ret
  exact ⟨rfl, rfl⟩

def grE (gs : List Bool) (n : Int) : Int := if n < 1 then 1 else if (findM gs n).isSome = true then 0 else 3
def grS (gs : List Bool) (n : Int) : List Bool := match findM gs n with | none => gs | some a => markX gs a n true
def grM (gs : List Bool) (ms : List Int) (n : Int) : List Int := match findM gs n with | none => ms | some a => fillL ms (16 * a) (16 * n) 0
theorem markX_len (xs : List Bool) (f k : Int) (on : Bool) : (markX xs f k on).length = xs.length := by
  unfold markX
  split
  · rename_i h
    exact markL_len _ _ _ _ (by simp [hasB] at h; omega)
  · rfl
theorem grS_len (gs : List Bool) (n : Int) : (grS gs n).length = gs.length := by
  unfold grS
  split
  · rfl
  · exact markX_len _ _ _ _
theorem grM_len (gs : List Bool) (ms : List Int) (n : Int) : (grM gs ms n).length = ms.length := by
  unfold grM
  split
  · rfl
  · exact fillL_length _ _ _ _
theorem findM_le {xs : List Bool} {n : Int} {a : Nat} (h : findM xs n = some a) : 1 ≤ n ∧ (a : Int) + n ≤ xs.length := by
  unfold findM at h
  split at h
  · cases h
  · rw [List.find?_range_eq_some] at h
    have := h.1
    simp only [freeB, Bool.and_eq_true, decide_eq_true_eq] at this
    exact ⟨by omega, by omega⟩
theorem findM_neg {xs : List Bool} {n : Int} (h : n < 1) : findM xs n = none := by rw [findM, if_pos h]

set_option maxRecDepth 100000 in
set_option maxHeartbeats 1000000 in
theorem pGrant_any {pb rb rw mb mw : Nat} {gs : List Bool} {ms : List Int} {w : World} (h : PagesAt w pb rb rw mb mw gs ms) (n : Int) (hn : n ≤ 9223372036854775807) :
    Calls Tryz.prog 191 #[.pointer (some ⟨pb, 0, none⟩), .int .i64 n] w fun e w' => e = .returned (.tuple #[.int .i64 ((findM gs n).getD 0 : Nat), .int .i64 (grE gs n)]) ∧ Moved (fun q => q = rw ∨ q = mw) w w' ∧ PagesAt w' pb rb rw mb mw (grS gs n) (grM gs ms n) := by
  have H := Lib.hid h
  have c0 := heap_cell h.blk 0
  simp at c0
  have hf := bFind_any rb rw gs n w h.row hn
  by_cases h1 : n < 1
  · have e1 : Hid (findM gs n = none) := Lib.hid (findM_neg h1)
    have e2 : Hid (grE gs n = 1) := Lib.hid (by rw [grE, if_pos h1])
    clear h c0 hf
    go_enter Tryz.func191, Tryz.ntmps191
    go_wp2
    go_ret2
    refine ⟨by rw [e1.out, e2.out]; rfl, Moved.refl _ _, ?_⟩
    rw [grS, grM, e1.out]
    exact H.out
  · cases hq : findM gs n with
    | none =>
      have e2 : Hid (grE gs n = 3) := Lib.hid (by rw [grE, if_neg h1, hq]; rfl)
      have e3 : Hid (grS gs n = gs) := Lib.hid (by rw [grS, hq])
      have e4 : Hid (grM gs ms n = ms) := Lib.hid (by rw [grM, hq])
      rw [hq] at hf
      simp only [Option.getD_none, Option.isSome_none] at hf
      clear h hq
      go_enter Tryz.func191, Tryz.ntmps191
      go_wp2_with fail
      refine hf.mono ?_
      rintro e w1 ⟨rfl, rfl⟩
      clear hf
      go_wp2
      go_ret2
      exact ⟨by rw [e2.out]; rfl, Moved.refl _ _, by rw [e3.out, e4.out]; exact H.out⟩
    | some a =>
      have hle := findM_le hq
      have hhi := h.hi
      have e2 : Hid (grE gs n = 0) := Lib.hid (by rw [grE, if_neg h1, hq]; rfl)
      have e3 : Hid (grS gs n = markX gs a n true) := Lib.hid (by rw [grS, hq])
      have e4 : Hid (grM gs ms n = fillL ms (16 * a) (16 * n) 0) := Lib.hid (by rw [grM, hq])
      rw [hq] at hf
      simp only [Option.getD_some, Option.isSome_some] at hf
      have hmk := bMark_any rb rw gs a n true w h.row
      have hap := h.apart
      have i1 : (a : Int) ≤ 1024 := by omega
      have i2 : n ≤ 1024 := by omega
      have HA := Lib.hid hap
      clear h hq hap hle hhi
      go_enter Tryz.func191, Tryz.ntmps191
      go_wp2_with fail
      refine hf.mono ?_
      rintro e w1 ⟨rfl, rfl⟩
      clear hf
      go_wp2_with fail
      refine hmk.mono ?_
      rintro e w2 ⟨rfl, hm2, hr2⟩
      have hM2 := H.out.mem.moved hm2 (fun e => HA.out.2.2.2.2.2.2.2.1 e.symm) (fun e => H.out.ne e.symm)
      have hblk := hm2.heap H.out.blk HA.out.2.1
      have c1 := heap_cell hblk 1
      simp at c1
      have hfl := wFill_any mb mw ms (16 * a) (16 * n) 0 w2 hM2
      rw [show (16 * (a : Int)) = (a : Int) * 16 by omega, show 16 * n = n * 16 by omega] at hfl
      have HH := Lib.hid (And.intro hm2 (And.intro hr2 hblk))
      clear hmk hm2 hr2 hM2 hblk c0
      go_wp2_with fail
      refine hfl.mono ?_
      rintro e w3 ⟨rfl, hg3, hm3⟩
      have hmv : Moved (fun q => q = mw) w2 w3 := .of_grown hg3 (fun k e => by cases e; rfl)
      have HI := Lib.hid (And.intro hmv hm3)
      clear hfl hg3 hm3 hmv c1
      go_wp2
      go_ret2
      refine ⟨by rw [e2.out]; rfl, ?_, ?_⟩
      · have k1 : Moved (fun q => q = rw ∨ q = mw) w w2 := ⟨HH.out.1.os, HH.out.1.tape, HH.out.1.output, HH.out.1.size, fun k hk hs => HH.out.1.block k hk (fun e => hs (.inl e))⟩
        exact k1.trans HI.out.1 (fun q e => .inl (.inr e))
      · rw [e3.out, e4.out]
        have := HI.out.2
        rw [show (a : Int) * 16 = 16 * (a : Int) by omega, show n * 16 = 16 * n by omega] at this
        exact ⟨HI.out.1.heap HH.out.2.2 HA.out.2.2.2.1, HH.out.2.1.moved HI.out.1 HA.out.2.2.2.2.2.2.1 HA.out.2.2.2.2.2.2.2.2.1, this, by rw [fillL_length, markX_len, H.out.len], by rw [markX_len]; exact H.out.lo, by rw [markX_len]; exact H.out.hi, H.out.ne⟩
end Go.Proofs.YtcenagpkfimkbaaGreatDoor
namespace Go.Proofs.YtcenagpkfimkbaaGreatDoor
open Go Go.RowKit

structure StartsAt (w : World) (sb rb rw : Nat) (st : List Bool) : Prop where
  blk : w.heap[sb]? = some (.cells #[.pointer (some ⟨rb, 0, none⟩)] 186 (0, 0))
  row : RowAt w rb rw st
section
variable {w w' : World} {sb rb rw : Nat} {st : List Bool}
theorem StartsAt.moved {T : Nat → Prop} (h : StartsAt w sb rb rw st) (hm : Moved T w w') (h1 : ¬ T sb) (h2 : ¬ T rb) (h3 : ¬ T rw) : StartsAt w' sb rb rw st := ⟨hm.heap h.blk h1, h.row.moved hm h2 h3⟩
theorem StartsAt.later (h : StartsAt w sb rb rw st) (hb : Below w.heap.size w w') : StartsAt w' sb rb rw st := h.moved (Moved.of_below hb (fun _ => False)) id id id
theorem StartsAt.apart (h : StartsAt w sb rb rw st) : sb ≠ rb ∧ sb ≠ rw ∧ rb ≠ rw := by
  obtain ⟨⟨_, r1⟩, ⟨_, r2⟩⟩ := h.row.blocks
  exact ⟨heap_ne h.blk r1 (by simp), heap_ne h.blk r2 (by simp), heap_ne r1 r2 (by simp)⟩
theorem StartsAt.len (h : StartsAt w sb rb rw st) : st.length ≤ 16384 := by obtain ⟨_, _, _, _, h⟩ := h.row; exact h
end
def StartsP (sb rb rw : Nat) (st : List Bool) : HP := fun w S => StartsAt w sb rb rw st ∧ ∀ k, S k ↔ k = sb ∨ k = rb ∨ k = rw
theorem StartsP.ok (sb rb rw : Nat) (st : List Bool) : (StartsP sb rb rw st).Ok := by
  constructor
  · rintro w w' S T ⟨h, hs⟩ hm hd
    exact ⟨h.moved hm (hd _ ((hs _).2 (by simp))) (hd _ ((hs _).2 (by simp))) (hd _ ((hs _).2 (by simp))), hs⟩
  · rintro w S ⟨h, hs⟩ k hk
    obtain ⟨⟨_, r1⟩, ⟨_, r2⟩⟩ := h.row.blocks
    rcases (hs k).1 hk with rfl | rfl | rfl
    · exact heap_lt h.blk
    · exact heap_lt r1
    · exact heap_lt r2

set_option maxRecDepth 100000 in
theorem sNew2_any (n : Nat) (w : World) (hn : n ≤ 16384) :
    Calls Tryz.prog 40 #[.int .i64 n] w fun e w' => ∃ sb rb rw, e = .returned (.pointer (some ⟨sb, 0, none⟩)) ∧ Below w.heap.size w w' ∧ StartsAt w' sb rb rw (List.replicate n false) ∧ w.heap.size ≤ sb ∧ w.heap.size ≤ rb ∧ w.heap.size ≤ rw := by
  have hb := bNew_any n w hn
  have y1 : (if (n : Int) < 0 then (0 : Int) else n) = n := by split <;> omega
  have y2 : (if (n : Int) ≤ 0 then (0 : Int) else n) = n := by split <;> omega
  have y3 : (if (16384 : Int) < n then (16384 : Int) else n) = n := by split <;> omega
  have y4 : (if (16384 : Int) ≤ n then (16384 : Int) else n) = n := by split <;> omega
  go_enter Tryz.func40, Tryz.ntmps40
  go_wp2_with fail
  refine hb.mono ?_
  rintro e w1 ⟨rfl, hb1, hr1⟩
  have HR := Lib.hid (And.intro hb1 hr1)
  clear hb hb1 hr1
  go_wp2
  go_ret
  have hb2 : Below w1.heap.size w1 (w1.alloc (.cells #[.pointer (some ⟨w.heap.size + 1, 0, none⟩)] 186)) := (Below.refl _ _).alloc (Nat.le_refl _) _
  have := HR.out.1.size
  exact ⟨_, _, _, rfl, HR.out.1.trans (hb2.mono HR.out.1.size), ⟨heap_alloc_eq _ _, HR.out.2.later hb2⟩, by omega, by omega, by omega⟩

def isM (st : List Bool) (v : Int) : Bool := hasM st v
set_option maxRecDepth 100000 in
theorem sIs_any {w : World} {sb rb rw : Nat} {st : List Bool} (h : StartsAt w sb rb rw st) (v : Int) (h0 : 0 ≤ v) (h1 : v ≤ 18446744073709551615) :
    Calls Tryz.prog 165 #[.pointer (some ⟨sb, 0, none⟩), .int .u64 v] w fun e w' => e = .returned (.bool (hasM st v)) ∧ w = w' := by
  have c0 := heap_cell h.blk 0
  simp at c0
  have hL := bLen_any rb rw st w h.row
  have hl := h.len
  have hw : IntKind.u64.wrap (st.length : Int) = st.length := by rw [IntKind.wrap_u64]; omega
  have hH := bHas_any rb rw st v w h.row
  have e1 : Hid (¬ v < st.length → hasM st v = false) := Lib.hid (fun h => by rw [hasM, if_neg (fun e => h e.2)])
  obtain ⟨n, hn⟩ : ∃ n, st.length = n := ⟨_, rfl⟩
  rw [hn] at hL hl hw e1
  clear h hn
  by_cases hv : v < (n : Int)
  · have y1 : IntKind.i64.wrap v = v := by rw [IntKind.wrap_i64]; omega
    go_enter Tryz.func165, Tryz.ntmps165
    go_wp2_with fail
    refine hL.mono ?_
    rintro e w1 ⟨rfl, rfl⟩
    clear hL
    go_wp2_with fail
    refine hH.mono ?_
    rintro e w1 ⟨rfl, rfl⟩
    clear hH
    go_wp2
    go_ret
    exact ⟨rfl, rfl⟩
  · clear hH
    go_enter Tryz.func165, Tryz.ntmps165
    go_wp2_with fail
    refine hL.mono ?_
    rintro e w1 ⟨rfl, rfl⟩
    clear hL
    go_wp2
    go_ret
    exact ⟨ret_bool (e1.out hv).symm, rfl⟩

def spE (st : List Bool) (a : Int) : Int := if a < 1 ∨ (st.length : Int) ≤ a then 8 else if hasM st a = true then 6 else 0
def spL (st : List Bool) (a : Int) : List Bool := if spE st a = 0 then st.set a.toNat true else st
theorem spL_len (st : List Bool) (a : Int) : (spL st a).length = st.length := by unfold spL; split <;> simp

set_option maxRecDepth 100000 in
set_option maxHeartbeats 1000000 in
theorem sPut2_any {w : World} {sb rb rw : Nat} {st : List Bool} (h : StartsAt w sb rb rw st) (a : Int) :
    Calls Tryz.prog 164 #[.pointer (some ⟨sb, 0, none⟩), .int .i64 a] w fun e w' => e = .returned (.int .i64 (spE st a)) ∧ Moved (fun q => q = rw) w w' ∧ StartsAt w' sb rb rw (spL st a) := by
  have H := Lib.hid h
  have c0 := heap_cell h.blk 0
  simp at c0
  have hL := bLen_any rb rw st w h.row
  have hH := bHas_any rb rw st a w h.row
  have hM := bMark_any rb rw st a 1 true w h.row
  have e8 : Hid (spE st a ≠ 0 → spL st a = st) := Lib.hid (fun h => by rw [spL, if_neg h])
  have hap := h.apart
  have HA := Lib.hid hap
  clear h hap
  by_cases h1 : a < 1
  · have e1 : Hid (spE st a = 8) := Lib.hid (by rw [spE, if_pos (.inl h1)])
    clear hL hH hM c0
    go_enter Tryz.func164, Tryz.ntmps164
    go_wp2
    go_ret
    exact ⟨by rw [e1.out]; rfl, Moved.refl _ _, by rw [e8.out (by rw [e1.out]; decide)]; exact H.out⟩
  · by_cases h2 : (st.length : Int) ≤ a
    · have e1 : Hid (spE st a = 8) := Lib.hid (by rw [spE, if_pos (.inr h2)])
      clear hH hM
      go_enter Tryz.func164, Tryz.ntmps164
      go_wp2_with fail
      refine hL.mono ?_
      rintro e w1 ⟨rfl, rfl⟩
      clear hL
      go_wp2
      go_ret
      exact ⟨by rw [e1.out]; rfl, Moved.refl _ _, by rw [e8.out (by rw [e1.out]; decide)]; exact H.out⟩
    · cases hs : hasM st a
      · have e1 : Hid (spE st a = 0) := Lib.hid (by rw [spE, if_neg (by omega), hs]; rfl)
        have hB : hasB st.length a 1 = true := by simp [hasB]; omega
        have e4 : markE st.length a 1 = 0 := by rw [markE, if_pos hB]
        have e5 : markX st a 1 true = st.set a.toNat true := by
          rw [markX, if_pos hB]
          have := markL_succ st a.toNat 0 true (by omega)
          rw [markL_zero] at this
          simpa using this.symm
        rw [e4, e5] at hM
        have e6 : Hid (spL st a = st.set a.toNat true) := Lib.hid (by rw [spL, if_pos e1.out])
        rw [hs] at hH
        clear hs hB e4 e5
        go_enter Tryz.func164, Tryz.ntmps164
        go_wp2_with fail
        refine hL.mono ?_
        rintro e w1 ⟨rfl, rfl⟩
        clear hL
        go_wp2_with fail
        refine hH.mono ?_
        rintro e w1 ⟨rfl, rfl⟩
        clear hH
        go_wp2_with fail
        refine hM.mono ?_
        rintro e w2 ⟨rfl, hm2, hr2⟩
        have HZ := Lib.hid (And.intro hm2 hr2)
        clear hM hm2 hr2
        go_wp2
        go_ret
        exact ⟨by rw [e1.out]; rfl, HZ.out.1, by rw [e6.out]; exact ⟨HZ.out.1.heap H.out.blk HA.out.2.1, HZ.out.2⟩⟩
      · have e1 : Hid (spE st a = 6) := Lib.hid (by rw [spE, if_neg (by omega), hs]; rfl)
        rw [hs] at hH
        clear hs hM
        go_enter Tryz.func164, Tryz.ntmps164
        go_wp2_with fail
        refine hL.mono ?_
        rintro e w1 ⟨rfl, rfl⟩
        clear hL
        go_wp2_with fail
        refine hH.mono ?_
        rintro e w1 ⟨rfl, rfl⟩
        clear hH
        go_wp2
        go_ret
        exact ⟨by rw [e1.out]; rfl, Moved.refl _ _, by rw [e8.out (by rw [e1.out]; decide)]; exact H.out⟩
end Go.Proofs.YtcenagpkfimkbaaGreatDoor
