/-
  desc.Relax and the document's: the same types, with counted pointers alone.
-/
import Derived.Test.YtppdiikjigacpaaDoorDescs
import Derived.Test.YtppdiikjigacpaaDoorPtr
namespace Go.Proofs.YtppdiikjigacpaaDoor
open Go Go.RowKit

def relK (k : Int) : Int := if isPtr k = true then 1 else k
def relD (d : List Int) : List Int := d.map relK
theorem relK_ptr (k : Int) : isPtr (relK k) = isPtr k := by
  unfold relK
  split
  · rename_i h; rw [h]; decide
  · rfl
theorem relK_kind (k : Int) : kindB (relK k) = kindB k := by
  unfold relK
  split
  · rename_i h
    have : kindB k = true := by simp [isPtr] at h; simp [kindB]; omega
    rw [this]; decide
  · rfl
theorem relK_twice (k : Int) : relK (relK k) = relK k := by
  by_cases h : isPtr k = true
  · have : relK k = 1 := by unfold relK; rw [if_pos h]
    rw [this]; decide
  · have : relK k = k := by unfold relK; rw [if_neg h]
    rw [this, this]
theorem relD_length (d : List Int) : (relD d).length = d.length := by simp [relD]
theorem relD_twice (d : List Int) : relD (relD d) = relD d := by simp [relD, relK_twice]
theorem relD_take_succ {d : List Int} {j : Nat} {x : Int} (h : d[j]? = some x) : relD (d.take (j + 1)) = relD (d.take j) ++ [relK x] := by
  rw [List.take_add_one, h]; simp [relD]

theorem info_desc : (Tryd.prog.info? 36).map (fun i => (i.zero, i.size, i.bytes)) = some (some (.agg #[.slice none 0 0]), 1, 24) := by kernel_rfl

theorem owns_le2 {w : World} {B B' : Nat} {t : TypeId} {size n : Nat} {v : Value} {xs : List Value} (h : w.ownsRow B t size v n xs) (hb : B' ≤ B) : w.ownsRow B' t size v n xs :=
  ⟨h.1, h.2.elim .inl fun ⟨g, cap, cur, hv, hg, r⟩ => .inr ⟨g, cap, cur, hv, Nat.le_trans hb hg, r⟩⟩
theorem owns_ne {w : World} {B B' : Nat} {t t' : TypeId} {size size' : Nat} {v v' : Value} {n n' : Nat} {xs xs' : List Value} (h : w.ownsRow B t size v n xs) (h' : w.ownsRow B' t' size' v' n' xs') (ht : t ≠ t') : v.ownBlock = none ∨ v.ownBlock ≠ v'.ownBlock := by
  rcases h.2 with ⟨rfl, _⟩ | ⟨g, cap, cur, rfl, _, hg, _⟩
  · exact .inl rfl
  · refine .inr fun e => ?_
    rcases h'.2 with ⟨rfl, _⟩ | ⟨g', cap', cur', rfl, _, hg', _⟩
    · simp [Value.ownBlock] at e
    · simp [Value.ownBlock] at e
      subst e
      rw [hg] at hg'
      simp at hg'
      exact ht hg'.2

/-- The rows of a list of types, each its own. -/
def RowsOf (w : World) (B : Nat) (us : List Value) (ds : List (List Int)) : Prop :=
  us.length = ds.length ∧ ∀ (q : Nat) (d : List Int), ds[q]? = some d → ∃ u, us[q]? = some u ∧ w.ownsRow B 3 1 u d.length (d.map (Value.int .i64))
theorem RowsOf.below {w w' : World} {B : Nat} {us : List Value} {ds : List (List Int)} (h : RowsOf w B us ds) (hb : Below w.heap.size w w') : RowsOf w' B us ds :=
  ⟨h.1, fun q d hq => by obtain ⟨u, h1, h2⟩ := h.2 q d hq; exact ⟨u, h1, (Moved.of_below hb (fun _ => False)).owns h2 (fun _ _ e => e)⟩⟩
theorem RowsOf.grown {w w' : World} {B B' : Nat} {us : List Value} {ds : List (List Int)} {t : TypeId} {v : Value} {n : Nat} {xs : List Value} (h : RowsOf w B us ds) (ho : w.ownsRow B' t 1 v n xs) (ht : 3 ≠ t) (hg : w.grownBy w' v.ownBlock) : RowsOf w' B us ds :=
  ⟨h.1, fun q d hq => by obtain ⟨u, h1, h2⟩ := h.2 q d hq; exact ⟨u, h1, h2.kept hg (owns_ne h2 ho ht)⟩⟩
theorem RowsOf.snoc {w : World} {B : Nat} {us : List Value} {ds : List (List Int)} (h : RowsOf w B us ds) {u : Value} {d : List Int} (hr : w.ownsRow B 3 1 u d.length (d.map (Value.int .i64))) : RowsOf w B (us ++ [u]) (ds ++ [d]) := by
  refine ⟨by simp [h.1], fun q d' hq => ?_⟩
  by_cases e : q < ds.length
  · rw [List.getElem?_append_left e] at hq
    obtain ⟨u', h1, h2⟩ := h.2 q d' hq
    exact ⟨u', by rw [List.getElem?_append_left (by rw [h.1]; exact e)]; exact h1, h2⟩
  · have hl := (List.getElem?_eq_some_iff.1 hq).1
    obtain rfl : q = ds.length := by simp at hl; omega
    simp at hq
    subst hq
    exact ⟨u, by rw [← h.1]; simp, hr⟩
theorem descs_of_rows {w : World} {B B' : Nat} {v : Value} {us : List Value} {ds : List (List Int)} (h : w.ownsRow B 36 1 v us.length us) (hr : RowsOf w B' us ds) :
    ∃ a c, v = .slice a ds.length c ∧ Descs w a ds := by
  rcases h.2 with ⟨rfl, h0⟩ | ⟨g, cap, cur, rfl, hB, hg, hn, hm, hs, ht⟩
  · have : ds = [] := List.length_eq_zero_iff.1 (by rw [← hr.1]; exact h0)
    subst this
    exact ⟨none, 0, rfl, .inl rfl⟩
  · refine ⟨some ⟨g, 0, none⟩, cap, by rw [hr.1], .inr ⟨g, 0, rfl, fun i hi => ?_⟩⟩
    have hx : ds[i]? = some (ds.getD i []) := by simp [hi]
    obtain ⟨u, h1, h2⟩ := hr.2 i _ hx
    obtain ⟨fa, c, rfl, hrd, _, _⟩ := owns_reads h2
    obtain ⟨fa', c', e, _, h3, _⟩ := owns_slice h2
    simp only [Value.slice.injEq] at e
    obtain ⟨rfl, _, rfl⟩ := e
    refine ⟨fa, c, ?_, hrd, fun e => ⟨List.length_eq_zero_iff.1 (h3 e).1, (h3 e).2⟩⟩
    rw [Nat.zero_add, heap_cell hg]
    have : (cur.toList.take (us.length * 1))[i]? = us[i]? := by rw [ht]
    rw [Nat.mul_one, List.getElem?_take, if_pos (by rw [hr.1]; exact hi)] at this
    simpa [h1] using this

/-- A list of types comes back. -/
def RetDescs (ds : List (List Int)) (w : World) (e : Ending) (w' : World) : Prop :=
  ∃ a c, e = .returned (.slice a ds.length c) ∧ Below w.heap.size w w' ∧ Descs w' a ds

theorem new_cell (w : World) (v : Value) (t : TypeId) : ∀ (j : Nat) (u : Value), [v][j]? = some u → (w.alloc (.cells #[v] t)).cell? ((⟨w.heap.size, 0, none⟩ : Addr).add j) = some u := by
  intro j u h
  match j, h with
  | 0, h => simp at h; subst h; simp [Addr.add]
theorem one_ok (v : Value) (h : v.oneCell' = true) : ∀ u ∈ [v], u.oneCell' = true := by
  intro u hu; simp at hu; subst hu; exact h
theorem take_all {α : Type} {xs : List α} {m : Nat} (h : xs.length ≤ m) : xs.take m = xs := List.take_of_length_le h

set_option maxRecDepth 100000 in
set_option maxHeartbeats 4000000 in
theorem Relax_any (a : Option Addr) (ds : List (List Int)) (c : Nat) (w : World) (h0 : Tab w) (hD : Descs w a ds) (hd : ∀ d ∈ ds, d.length ≤ 100) (hn : ds.length ≤ 60) :
    Calls Tryd.prog 17 #[.slice a ds.length c] w (RetDescs (ds.map relD) w) := by
  obtain ⟨i0, hi, hz0, hz1, hz2⟩ := info_parts info_int
  obtain ⟨j0, hji, hjz0, hjz1, hjz2⟩ := info_parts info_desc
  have H := Lib.hid (And.intro h0 (And.intro hD hd))
  clear h0 hD hd
  go_enter Tryd.func17, Tryd.ntmps17
  go_wp2
  go_loopw [3, 11] (fun v i wr => ∃ j : Nat, j ≤ ds.length ∧ i = .int .i64 j ∧ (∃ us : List Value, us.length = j ∧ wr.ownsRow w.heap.size 36 1 v us.length us ∧ RowsOf wr w.heap.size us ((ds.take j).map relD)) ∧ Below w.heap.size w wr) (fun _ i _ => ds.length - (intOf i).toNat)
  case atStart => exact ⟨0, Nat.zero_le _, rfl, ⟨[], rfl, World.ownsRow_nil _ _ _ _, by simp [RowsOf]⟩, Below.refl _ _⟩
  case round =>
    obtain ⟨j, hj, rfl, ⟨us, hul, hown, hrows⟩, hB⟩ := hrel
    obtain ⟨wo, rfl⟩ : ∃ wo : World, wo = wr := ⟨_, rfl⟩
    by_cases hlt : j < ds.length
    · obtain ⟨b, off, fa, fc, d, rfl, hx2, hc, hr, _⟩ := (H.out.2.1.below hB).at_ j hlt
      have hdl := H.out.2.2 d (List.mem_of_getElem? hx2)
      have hmap : (ds.take (j + 1)).map relD = (ds.take j).map relD ++ [relD d] := by rw [List.take_add_one, hx2]; simp
      obtain ⟨W0, hW0⟩ : ∃ W0, W0 = wo.alloc (.cells #[.slice fa d.length fc] 36) := ⟨_, rfl⟩
      have hbn : Below wo.heap.size wo W0 := by rw [hW0]; exact (Below.refl _ _).alloc (Nat.le_refl _) _
      have hc0 : W0.cell? ⟨wo.heap.size, 0, none⟩ = some (.slice fa d.length fc) := by rw [hW0, heap_cell (heap_alloc_eq _ _)]; rfl
      have HW0 := Lib.hid hW0
      have hB0 := hB.trans (hbn.mono hB.size)
      have hT0 := H.out.1.below H.out.1.lt hB0
      have HO := Lib.hid (And.intro ((Moved.of_below hbn (fun _ => False)).owns hown (fun _ _ e => e)) (And.intro (hrows.below hbn) (And.intro hB0 (And.intro (hr.below hbn) (And.intro hT0 hmap)))))
      clear hown hrows hx2 hr hbn hmap hW0 hB0 hT0
      have HUL := Lib.hid hul
      clear hul hB
      go_wp2_with fail
      rw [← HW0.out]
      clear hc
      go_wp2
      go_loopw [6, 18, 8] (fun v i _ wr => ∃ m : Nat, m ≤ d.length ∧ i = .int .i64 m ∧ wr.ownsRow W0.heap.size 3 1 v (relD (d.take m)).length ((relD (d.take m)).map (Value.int .i64)) ∧ Below W0.heap.size W0 wr) (fun _ i _ _ => d.length - (intOf i).toNat)
      case atStart => exact ⟨0, Nat.zero_le _, rfl, World.ownsRow_nil _ _ _ _, Below.refl _ _⟩
      case round =>
        obtain ⟨m, hm, rfl, hown, hB⟩ := hrel
        have hlen : (relD (d.take m)).length ≤ 100 := by rw [relD_length, List.length_take]; omega
        by_cases hlm : m < d.length
        · obtain ⟨b1, o1, rfl, k1⟩ := (HO.out.2.2.2.1.below hB).at_ m hlm
          obtain ⟨x, hx⟩ : ∃ x, d[m]?.getD 0 = x := ⟨_, rfl⟩
          have hx2 : d[m]? = some x := by rw [List.getElem?_eq_getElem hlm] at hx ⊢; simp only [Option.getD_some] at hx; rw [hx]
          rw [hx] at k1
          have hsn := relD_take_succ hx2
          have hP := Pointer_any x wr (HO.out.2.2.2.2.1.below HO.out.2.2.2.2.1.lt hB)
          obtain ⟨y, hy⟩ : ∃ y, relK x = y := ⟨_, rfl⟩
          rw [hy] at hsn
          have HSN := Lib.hid hsn
          have hyk : (isPtr x = false ∧ y = x) ∨ (isPtr x = true ∧ y = 1) := by
            rw [← hy]
            unfold relK
            cases h : isPtr x
            · exact .inl ⟨rfl, by simp⟩
            · exact .inr ⟨rfl, by simp⟩
          clear hx hx2 hsn hy
          rcases hyk with ⟨hp, rfl⟩ | ⟨hp, rfl⟩
          all_goals
            rw [hp] at hP
            clear hp
            go_wp2_with (first | (go_at_call 16; refine hP.mono ?_; rintro e w' ⟨rfl, rfl⟩) | (at_builtin; refine wpList_append_own _ rfl _ _ 27 rfl W0.heap.size 3 i0 (.int .i64 0) 1 8 Tryd.underlying27 hi hz0 hz1 hz2 rfl (by decide) _ _ _ rfl (hown.alloc _) ⟨wr.heap.size, 0, none⟩ 1 1 [_] rfl rfl (new_cell _ _ _) (one_ok _ rfl) (by unfold maxLen; omega) (by omega) (by have := hB.size; simp; omega) ?_))
            intro v' w1 hown' hgrow _
            have hB1 := (hB.alloc hB.size (.cells _ 3)).grown hgrow (by have := hB.size; simp; omega) (fun k e => (hown.lt k e).1)
            have ho2 : w1.ownsRow W0.heap.size 3 1 v' (relD (d.take (m + 1))).length ((relD (d.take (m + 1))).map (Value.int .i64)) := by
              rw [HSN.out]; simpa using hown'
            clear hown' hgrow hown hB hP hlen
            go_wp2
            go_roundw
            case rel => exact ⟨m + 1, by omega, by go_num, ho2, hB1⟩
            case measure => simp [intOf]; omega
        · obtain rfl : m = d.length := by omega
          rw [take_all (Nat.le_refl _)] at hown hlen
          have hrow2 := owns_le2 hown HO.out.2.2.1.size
          obtain ⟨af, cf, rfl, _, _, _⟩ := owns_slice hown
          have hownO := (Moved.of_below hB (fun _ => False)).owns HO.out.1 (fun _ _ e => e)
          have hrowsO := HO.out.2.1.below hB
          have hBw := HO.out.2.2.1.trans (hB.mono HO.out.2.2.1.size)
          have HX := Lib.hid (And.intro hrow2 hrowsO)
          clear hown hB hrow2 hrowsO
          go_wp2_with (at_builtin; refine wpList_append_own _ rfl _ _ 22 rfl w.heap.size 36 j0 (.agg #[.slice none 0 0]) 1 24 Tryd.underlying22 hji hjz0 hjz1 hjz2 rfl (by decide) _ _ _ rfl (hownO.alloc _) ⟨wr.heap.size, 0, none⟩ 1 1 [.slice af (relD d).length cf] rfl rfl (new_cell _ _ _) (one_ok _ rfl) (by have := HUL.out; unfold maxLen; omega) (by have := HUL.out; omega) (by have := hBw.size; simp; omega) ?_)
          intro v' w1 hown' hgrow _
          have hba : Below wr.heap.size wr (wr.alloc (.cells #[.slice af (relD d).length cf] 36)) := (Below.refl _ _).alloc (Nat.le_refl _) _
          have hB1 := (hBw.alloc hBw.size (.cells #[.slice af (relD d).length cf] 36)).grown hgrow (by have := hBw.size; simp; omega) (fun k e => (hownO.lt k e).1)
          have hr1 := ((HX.out.2.below hba).grown (hownO.alloc _) (by decide) hgrow).snoc (((Moved.of_below hba (fun _ => False)).owns HX.out.1 (fun _ _ e => e)).kept hgrow (owns_ne ((Moved.of_below hba (fun _ => False)).owns HX.out.1 (fun _ _ e => e)) (hownO.alloc _) (by decide)))
          rw [← HO.out.2.2.2.2.2] at hr1
          have ho2 : w1.ownsRow w.heap.size 36 1 v' (us ++ [Value.slice af (relD d).length cf]).length (us ++ [Value.slice af (relD d).length cf]) := by
            simpa using hown'
          have HR1 := Lib.hid (And.intro hr1 ho2)
          have HU2 : Hid ((us ++ [Value.slice af (relD d).length cf]).length = j + 1) := by refine Lib.hid ?_; rw [List.length_append, HUL.out]; rfl
          clear hr1 ho2 hown' hgrow hba hownO hBw
          go_wp2
          go_roundw
          case rel => exact ⟨j + 1, by omega, by go_num, ⟨_, HU2.out, HR1.out.2, HR1.out.1⟩, hB1⟩
          case measure => simp [intOf]; omega
    · obtain rfl : j = ds.length := by omega
      rw [List.take_length] at hrows
      obtain ⟨a2, c2, rfl, hD2⟩ := descs_of_rows hown hrows
      clear hown hrows
      go_wp2
      go_ret
      exact ⟨_, _, rfl, hB, hD2⟩
end Go.Proofs.YtppdiikjigacpaaDoor
