/-
  Contracts of functions of the program, laid together.
-/
import Derived.Test.YtcenagpkfimkbaaGreatDoorTopSlotsM1
import Derived.Test.YtcenagpkfimkbaaGreatDoorTopSlotsM2
import Derived.Deep.RegionLaw
namespace Go.Proofs.YtcenagpkfimkbaaGreatDoor
open Go Go.RowKit

def stE (m : Nat) (at_ : Int) (n : Nat) (i : Int) : Int := if atB n i = true then wrE m (wrap64 (at_ + i)) else 8
def stL (xs : List Int) (at_ : Int) (n : Nat) (i v : Int) : List Int := if atB n i = true then wrL xs (wrap64 (at_ + i)) v else xs

theorem Reads.grown_or {k : IntKind} {w w' : World} {a : Option Addr} {xs : List Int} {g : Nat} (h : Reads k w a xs) (hg : w.grownBy w' (some g)) (hn : xs = [] ∨ ∀ q, a = some q → q.block ≠ g) : Reads k w' a xs := by
  rcases hn with hn | hn
  · exact .inl hn
  · exact h.grown hg hn

def vset (vs : List Int) (i v : Int) : List Int := if i < vs.length then vs.set i.toNat v else vs
def StoreObj (E at_ rg k t n : Int) (arr : Bool) (ks vs : List Int) (i v x1 x2 x4 x5 x6 : Int) (x3 : Bool) (y1 y2 : Option Addr) (l1 l2 : Nat) (w' : World) : Prop :=
  (E = 0 ∧ x1 = at_ ∧ x2 = rg ∧ x4 = k ∧ x5 = t ∧ x6 = n ∧ x3 = arr ∧ l1 = ks.length ∧ Reads .i64 w' y1 ks ∧ l2 = vs.length ∧ Reads .u64 w' y2 (vset vs i v)) ∨
  (E = 8 ∧ x1 = 0 ∧ x2 = 0 ∧ x4 = 0 ∧ x5 = 0 ∧ x6 = 0 ∧ x3 = false ∧ l1 = 0 ∧ l2 = 0)
def StoreRet (E at_ rg k t n : Int) (arr : Bool) (ks vs : List Int) (i v : Int) (ys : List Int) (b g : Nat) (w : World) (e : Ending) (w' : World) : Prop :=
  ∃ (x1 x2 x4 x5 x6 : Int) (x3 : Bool) (y1 y2 : Option Addr) (l1 l2 c1 c2 : Nat), e = .returned (.tuple #[.agg #[.int .i64 x1, .int .i64 x2, .bool x3, .int .i64 x4, .int .i64 x5, .int .i64 x6, .slice y1 l1 c1, .slice y2 l2 c2], .int .i64 E]) ∧
    w.grownBy w' (some g) ∧ MemAt w' b g ys ∧ StoreObj E at_ rg k t n arr ks vs i v x1 x2 x4 x5 x6 x3 y1 y2 l1 l2 w'

theorem clones_laid {w2 wX w7 : World} {ob rb b g : Nat} {ys : List Int} {u0 u1 u2 u3 u4 u5 u6 u7 v6 v7 V K : Value} {t t2 tk : TypeId} {R : Obj} {n nk : Nat} {cs ck : List Value} (hb : Below w2.heap.size w2 wX)
    (ho : w2.heap[ob]? = some (.cells #[u0, u1, u2, u3, u4, u5, u6, u7] t (0, 0))) (hr : w2.heap[rb]? = some R) (hne : rb ≠ ob) (hM : MemAt w2 b g ys) (hnb : b ≠ ob) (hng : g ≠ ob) (hV : wX.ownsRow w2.heap.size t2 1 V n cs) (hK : wX.ownsRow w2.heap.size tk 1 K nk ck)
    (hw : (wX.setCell ⟨ob, 6, none⟩ v6).setCell ⟨ob, 7, none⟩ v7 = w7) :
    w7.heap[ob]? = some (.cells #[u0, u1, u2, u3, u4, u5, v6, v7] t (0, 0)) ∧ w7.heap[rb]? = some R ∧ MemAt w7 b g ys ∧ w7.ownsRow w2.heap.size t2 1 V n cs ∧ w2.grownBy w7 (some ob) ∧ w7.ownsRow w2.heap.size tk 1 K nk ck := by
  have hob := heap_lt ho
  have h1 := heap_below hb ho hob
  have h2 := heap_set (heap_set h1 6 v6) 7 v7
  have hg : wX.grownBy w7 (some ob) := by rw [← hw]; exact grown_trans (grown_set wX ob 6 v6) (grown_set _ ob 7 v7)
  refine ⟨?_, heap_grown hg (heap_below hb hr (heap_lt hr)) hne, (hM.later hb).grown hg hnb hng, ?_, grown_trans (grown_of_below hb (some ob)) hg, (Moved.of_grown hg (S := fun k => k = ob) (fun k e => by cases e; rfl)).owns hK (fun k hk e => by have := (hK.lt k hk).1; omega)⟩
  · rw [← hw]; simpa using h2
  · exact (Moved.of_grown hg (S := fun k => k = ob) (fun k e => by cases e; rfl)).owns hV (fun k hk e => by have := (hV.lt k hk).1; omega)

set_option maxRecDepth 100000 in
set_option maxHeartbeats 4000000 in
theorem Store_any (b g : Nat) (xs : List Int) (at_ rg k t n : Int) (arr : Bool) (ka : Option Addr) (ks : List Int) (kc : Nat) (va : Option Addr) (vs : List Int) (vc : Nat) (i v : Int) (w : World) (hM : MemAt w b g xs) (hK : Reads .i64 w ka ks) (hl : ks.length ≤ 4000) (hV : Reads .u64 w va vs) (hvl : vs.length ≤ 4000) (hv0 : va = none → vs = [] ∧ vc = 0) (hk0 : ka = none → ks = [] ∧ kc = 0) (hkg : ks = [] ∨ ∀ q, ka = some q → q.block ≠ g) (hvg : vs = [] ∨ ∀ q, va = some q → q.block ≠ g) (h0 : 0 ≤ i) (h1 : i ≤ 18446744073709551615) :
    Calls Tryz.prog 124 #[.pointer (some ⟨b, 0, none⟩), .agg #[.int .i64 at_, .int .i64 rg, .bool arr, .int .i64 k, .int .i64 t, .int .i64 n, .slice ka ks.length kc, .slice va vs.length vc], .int .u64 i, .int .u64 v] w
      (StoreRet (stE xs.length at_ ks.length i) at_ rg k t n arr ks vs i v (stL xs at_ ks.length i v) b g w) := by
  have hsz : ∀ o : Obj, (w.alloc o).heap.size = w.heap.size + 1 := fun o => by simp
  obtain ⟨W, hW⟩ : ∃ W, W = (w.alloc (.cells #[.int .i64 at_, .int .i64 rg, .bool arr, .int .i64 k, .int .i64 t, .int .i64 n, .slice ka ks.length kc, .slice va vs.length vc] 104)).alloc (.cells #[.int .i64 0, .int .i64 0, .bool false, .int .i64 0, .int .i64 0, .int .i64 0, .slice none 0 0, .slice none 0 0] 104) := ⟨_, rfl⟩
  have hbo : Below w.heap.size w W := by rw [hW]; exact ((Below.refl _ _).alloc (Nat.le_refl _) _).alloc (by simp) _
  have hA := At_any at_ rg k t n arr ka ks kc va vs.length vc i W (hK.below hbo) hl h0 h1
  have hM1 := hM.later hbo
  have hM0 := Lib.hid hM
  have hO1 : W.heap[w.heap.size]? = some (.cells #[.int .i64 at_, .int .i64 rg, .bool arr, .int .i64 k, .int .i64 t, .int .i64 n, .slice ka ks.length kc, .slice va vs.length vc] 104 (0, 0)) := by
    rw [hW]; exact heap_alloc_lt (heap_alloc_eq _ _) _
  have hO2 : W.heap[w.heap.size + 1]? = some (.cells #[.int .i64 0, .int .i64 0, .bool false, .int .i64 0, .int .i64 0, .int .i64 0, .slice none 0 0, .slice none 0 0] 104 (0, 0)) := by
    rw [hW]
    have := heap_alloc_eq (w.alloc (.cells #[.int .i64 at_, .int .i64 rg, .bool arr, .int .i64 k, .int .i64 t, .int .i64 n, .slice ka ks.length kc, .slice va vs.length vc] 104)) (.cells #[.int .i64 0, .int .i64 0, .bool false, .int .i64 0, .int .i64 0, .int .i64 0, .slice none 0 0, .slice none 0 0] 104)
    rw [hsz] at this
    exact this
  have hszW : W.heap.size = w.heap.size + 2 := by rw [hW]; simp
  have HW := Lib.hid hW
  clear hW hsz
  by_cases hi : atB ks.length i = true
  · have e3 : atE ks.length i = 0 := by rw [atE, if_pos hi]
    have e4 : atV at_ ks.length i = wrap64 (at_ + i) := by rw [atV, if_pos hi]
    have e1 : Hid (stE xs.length at_ ks.length i = wrE xs.length (wrap64 (at_ + i))) := by show _ = _; rw [stE, if_pos hi]
    have e2 : Hid (stL xs at_ ks.length i v = wrL xs (wrap64 (at_ + i)) v) := by show _ = _; rw [stL, if_pos hi]
    obtain ⟨y, hy⟩ : ∃ y, kiV ks i = y := ⟨_, rfl⟩
    obtain ⟨z, hz⟩ : ∃ z, wrap64 (at_ + i) = z := ⟨_, rfl⟩
    rw [e3, e4, hy, hz] at hA
    rw [hz] at e1 e2
    have hip : i < ks.length := by simpa [atB] using hi
    clear hi e3 e4 hy hz hM
    have hlt1 := heap_lt hM1.1
    have hne1 : b ≠ w.heap.size + 1 := by have := heap_lt hM0.out.1; omega
    have hne2 : g ≠ w.heap.size + 1 := by have := heap_lt hM0.out.2.1; omega
    have hne3 : b ≠ w.heap.size := by have := heap_lt hM0.out.1; omega
    have hne4 : g ≠ w.heap.size := by have := heap_lt hM0.out.2.1; omega
    by_cases hz : inB xs.length z = true
    · have e5 : wrE xs.length z = 0 := by rw [wrE, if_pos hz]
      obtain ⟨ys, e6⟩ : ∃ ys, wrL xs z v = ys := ⟨_, rfl⟩
      rw [e6] at e2
      rw [e5] at e1
      clear hz
      have E5 := Lib.hid (And.intro e5 e6)
      clear e5 e6
      have hKW := hK.below hbo
      have hVW := hV.below hbo
      have HKV := Lib.hid (And.intro hKW hVW)
      clear hK hV hKW hVW
      go_enter Tryz.func124, Tryz.ntmps124
      go_wp2_with fail
      rw [← HW.out]
      refine hA.mono ?_
      rintro e w1 ⟨rfl, hb1⟩
      have hM2 := hM1.later hb1
      have hO4 := heap_below hb1 hO2 (heap_lt hO2)
      have hO5 := heap_below hb1 hO1 (heap_lt hO1)
      have hB2 := hbo.trans (hb1.mono hbo.size)
      have HKV1 := Lib.hid (And.intro (HKV.out.1.below hb1) (HKV.out.2.below hb1))
      clear hM1 hO1 hO2 hA
      go_wp2_with fail
      refine (wWrite_any b g xs z v _ hM2).mono ?_
      rw [E5.out.1, E5.out.2]
      rintro e w2 ⟨rfl, hg2, hM3⟩
      have hO3 := heap_grown hg2 hO4 (fun e => hne2 e.symm)
      have hO6 := heap_grown hg2 hO5 (fun e => hne4 e.symm)
      have hG2 : w.grownBy w2 (some g) := grown_trans (grown_of_below hB2 (some g)) hg2
      have hK2 := HKV1.out.1.grown_or hg2 hkg
      have hV2 := HKV1.out.2.grown_or hg2 hvg
      have hlob : w.heap.size < w2.heap.size := heap_lt hO6
      have hcK : ∀ w', Below w2.heap.size w2 w' → Calls Tryz.prog 171 #[.slice ka ks.length kc] w' fun e w3 => ∃ a c, e = .returned (.slice a ks.length c) ∧ Below w'.heap.size w' w3 ∧ Below w2.heap.size w2 w3 ∧
          (∀ w4, Below w3.heap.size w3 w4 → w4.ownsRow w2.heap.size 3 1 (.slice a ks.length c) ks.length (ks.map (Value.int .i64))) ∧
          w3.cell? ⟨w.heap.size, 6, none⟩ = some (.slice ka ks.length kc) ∧ w3.cell? ⟨w.heap.size, 7, none⟩ = some (.slice va vs.length vc) ∧ w3.frozen? ⟨w.heap.size, 6, none⟩ = false ∧ w3.frozen? ⟨w.heap.size, 7, none⟩ = false ∧ (∀ q, a = some q → w'.heap.size ≤ q.block ∧ q.block < w3.heap.size) := by
        intro w' hb'
        refine (Clone_int_any ka ks kc w' (hK2.below hb') (by omega) hk0).mono ?_
        rintro e w3 ⟨v3, rfl, hb3, ho3⟩
        obtain ⟨a3, c3, rfl, _, hq3, _⟩ := owns_reads ho3
        have hb23 := hb'.trans (hb3.mono hb'.size)
        have hO7 := heap_below hb23 hO6 hlob
        refine ⟨a3, c3, rfl, hb3, hb23, fun w4 hb4 => ?_, by rw [heap_cell hO7]; rfl, by rw [heap_cell hO7]; rfl, heap_free hO7 6, heap_free hO7 7, hq3⟩
        have ho4 := (Moved.of_below hb4 (fun _ => False)).owns ho3 (fun _ _ e => e)
        refine ⟨ho4.1, ho4.2.imp_right ?_⟩
        rintro ⟨g', cap', cur', e', hB', rest⟩
        exact ⟨g', cap', cur', e', Nat.le_trans hb'.size hB', rest⟩
      have hcV : ∀ w', Below w2.heap.size w2 w' → Calls Tryz.prog 91 #[.slice va vs.length vc] w' fun e w3 => ∃ a c, e = .returned (.slice a vs.length c) ∧ Below w'.heap.size w' w3 ∧ Below w2.heap.size w2 w3 ∧
          (∀ w4, Below w3.heap.size w3 w4 → w4.ownsRow w2.heap.size 34 1 (.slice a vs.length c) vs.length (vs.map (Value.int .u64))) ∧
          w3.cell? ⟨w.heap.size, 6, none⟩ = some (.slice ka ks.length kc) ∧ w3.cell? ⟨w.heap.size, 7, none⟩ = some (.slice va vs.length vc) ∧ w3.frozen? ⟨w.heap.size, 6, none⟩ = false ∧ w3.frozen? ⟨w.heap.size, 7, none⟩ = false ∧ (∀ q, a = some q → w'.heap.size ≤ q.block ∧ q.block < w3.heap.size) := by
        intro w' hb'
        refine (Clone_u64_any va vs vc w' (hV2.below hb') (by omega) hv0).mono ?_
        rintro e w3 ⟨v3, rfl, hb3, ho3⟩
        obtain ⟨a3, c3, rfl, _, hq3, _⟩ := owns_reads ho3
        have hb23 := hb'.trans (hb3.mono hb'.size)
        have hO7 := heap_below hb23 hO6 hlob
        refine ⟨a3, c3, rfl, hb3, hb23, fun w4 hb4 => ?_, by rw [heap_cell hO7]; rfl, by rw [heap_cell hO7]; rfl, heap_free hO7 6, heap_free hO7 7, hq3⟩
        have ho4 := (Moved.of_below hb4 (fun _ => False)).owns ho3 (fun _ _ e => e)
        refine ⟨ho4.1, ho4.2.imp_right ?_⟩
        rintro ⟨g', cap', cur', e', hB', rest⟩
        exact ⟨g', cap', cur', e', Nat.le_trans hb'.size hB', rest⟩
      have c6 : w2.cell? ⟨w.heap.size, 6, none⟩ = some (.slice ka ks.length kc) := by rw [heap_cell hO6]; rfl
      have c7 : w2.cell? ⟨w.heap.size, 7, none⟩ = some (.slice va vs.length vc) := by rw [heap_cell hO6]; rfl
      have hB0 : Below w2.heap.size w2 w2.drew := ⟨rfl, rfl, rfl, Nat.le_refl _, fun _ _ => rfl⟩
      have HO3 := Lib.hid (And.intro hO3 hO6)
      clear hM2 hO4 hO5 hO3 hO6 hg2 hB2 hK2 hV2 hkg hvg hk0 hv0
      go_wp2
      go_region_law (first | (go_simp; go_at_call 171; refine (hcK _ (by first | exact hB0 | assumption)).mono ?_; rintro e wK ⟨aK, cK, rfl, hbK, hBK, hrK, c6, c7, f6, f7, hqK⟩) | (go_simp; go_at_call 91; refine (hcV _ (by first | exact hB0 | assumption)).mono ?_; rintro e wV ⟨aV, cV, rfl, hbV, hBV, hrV, c6, c7, f6, f7, hqV⟩))
      all_goals
        generalize hW7 : World.setCell (World.setCell _ _ _) _ _ = w7
        have hCL : w7.heap[w.heap.size]? = some (.cells #[.int .i64 at_, .int .i64 rg, .bool arr, .int .i64 k, .int .i64 t, .int .i64 n, .slice aK ks.length cK, .slice aV vs.length cV] 104 (0, 0)) ∧ w7.heap[w.heap.size + 1]? = some (.cells #[.int .i64 0, .int .i64 0, .bool false, .int .i64 0, .int .i64 0, .int .i64 0, .slice none 0 0, .slice none 0 0] 104 (0, 0)) ∧ MemAt w7 b g ys ∧ w7.ownsRow w2.heap.size 34 1 (.slice aV vs.length cV) vs.length (vs.map (Value.int .u64)) ∧ w2.grownBy w7 (some w.heap.size) ∧ w7.ownsRow w2.heap.size 3 1 (.slice aK ks.length cK) ks.length (ks.map (Value.int .i64)) := by
          first
            | exact clones_laid hBV HO3.out.2 HO3.out.1 (by omega) hM3 hne3 hne4 (hrV _ (Below.refl _ _)) (hrK _ hbV) hW7
            | exact clones_laid hBK HO3.out.2 HO3.out.1 (by omega) hM3 hne3 hne4 (hrV _ hbK) (hrK _ (Below.refl _ _)) hW7
        have HQ : Hid (∀ p q, aK = some p → aV = some q → p.block ≠ q.block) := Lib.hid (fun p q hp hq => by have := hqK p hp; have := hqV q hq; omega)
        have HCL := Lib.hid hCL
        obtain ⟨k1, k2, k3, k4, k5, k6⟩ := hCL
        have q7 := heap_cell k1 7
        simp at q7
        have hwl : IntKind.u64.wrap (vs.length : Int) = vs.length := by rw [IntKind.wrap_u64]; omega
        clear hW7 c6 c7 f6 f7 hqK hqV hcK hcV k1 k2 k3 k4 k5 k6 hBK hBV hrK hrV hbK hbV hB0 hM3
        by_cases hiv : i < vs.length
        · obtain ⟨i, rfl⟩ := Int.eq_ofNat_of_zero_le h0
          obtain ⟨gV, cV', cur, hsv, hBg, hgV⟩ := own_shape HCL.out.2.2.2.1 (by omega)
          simp only [Value.slice.injEq] at hsv
          obtain ⟨rfl, _, rfl⟩ := hsv
          have hG7 : w.grownBy w7 (some g) := grown_new hG2 HCL.out.2.2.2.2.1 (Nat.le_refl _)
          have l1 := HCL.out.2.2.2.1.cellAt (g := gV) i (by omega)
          have l2 := HCL.out.2.2.2.1.frozenAt (g := gV) i
          rw [List.getElem?_map, List.getElem?_eq_getElem (by omega), Option.map_some] at l1
          have i1 : (i : Int) < (vs.length : Int) := by omega
          have hgW : w.grownBy (w7.setCell ⟨gV, i, none⟩ (.int .u64 v)) (some g) := grown_new hG7 (grown_set w7 gV i (.int .u64 v)) (by omega)
          have hgs := grown_set w7 gV i (.int .u64 v)
          have j1 := heap_grown hgs HCL.out.1 (by omega)
          have j2 := heap_grown hgs HCL.out.2.1 (by have := heap_lt HO3.out.1; omega)
          have j3 := HCL.out.2.2.1.grown hgs (by have := heap_lt hM0.out.1; omega) (by have := heap_lt hM0.out.2.1; omega)
          have hlr := heap_lt HO3.out.1
          have j4 := own_set HCL.out.2.2.2.1 i v (by omega)
          have j5 := (Moved.of_grown hgs (S := fun q => q = gV) (fun q e => by cases e; rfl)).owns HCL.out.2.2.2.2.2 (fun q hq e => by
            subst e
            cases haK : aK with
            | none => rw [haK] at hq; cases hq
            | some p =>
              rw [haK] at hq
              have e9 : p.block = q := by
                obtain ⟨pb, po, ps⟩ := p
                simp [Value.ownBlock] at hq
                exact hq
              exact HQ.out p _ haK rfl e9)
          have J := Lib.hid (And.intro j1 (And.intro j2 (And.intro j3 (And.intro hgW (And.intro j4 j5)))))
          have hgb2 : w.heap.size ≠ gV := by omega
          have hgb3 : w.heap.size + 1 ≠ gV := by have := heap_lt HO3.out.1; omega
          have hgb4 : gV ≠ w.heap.size := fun e => hgb2 e.symm
          have hgb5 : gV ≠ w.heap.size + 1 := fun e => hgb3 e.symm
          clear hgs hgV j1 j2 j3 j4 j5 hgW
          have o0 := heap_cell HCL.out.1 0
          have o1 := heap_cell HCL.out.1 1
          have o2 := heap_cell HCL.out.1 2
          have o3 := heap_cell HCL.out.1 3
          have o4 := heap_cell HCL.out.1 4
          have o5 := heap_cell HCL.out.1 5
          have o6 := heap_cell HCL.out.1 6
          have o7 := heap_cell HCL.out.1 7
          simp at o0 o1 o2 o3 o4 o5 o6 o7
          have r0 := heap_cell HCL.out.2.1 0
          have f0 := heap_free HCL.out.2.1 0
          have r1 := heap_cell HCL.out.2.1 1
          have f1 := heap_free HCL.out.2.1 1
          have r2 := heap_cell HCL.out.2.1 2
          have f2 := heap_free HCL.out.2.1 2
          have r3 := heap_cell HCL.out.2.1 3
          have f3 := heap_free HCL.out.2.1 3
          have r4 := heap_cell HCL.out.2.1 4
          have f4 := heap_free HCL.out.2.1 4
          have r5 := heap_cell HCL.out.2.1 5
          have f5 := heap_free HCL.out.2.1 5
          have r6 := heap_cell HCL.out.2.1 6
          have f6 := heap_free HCL.out.2.1 6
          have r7 := heap_cell HCL.out.2.1 7
          have f7 := heap_free HCL.out.2.1 7
          simp at r0 r1 r2 r3 r4 r5 r6 r7
          go_wp2
          have h8 := set8_at J.out.2.1 (.int .i64 at_) (.int .i64 rg) (.bool arr) (.int .i64 k) (.int .i64 t) (.int .i64 n) (.slice aK ks.length cK) (.slice (some ⟨gV, 0, none⟩) vs.length cV)
          change bodyPost _ _ _ _ _ (set8 (w7.setCell ⟨gV, i, none⟩ (.int .u64 v)) (w.heap.size + 1) (.int .i64 at_) (.int .i64 rg) (.bool arr) (.int .i64 k) (.int .i64 t) (.int .i64 n) (.slice aK ks.length cK) (.slice (some ⟨gV, 0, none⟩) vs.length cV))
          generalize set8 (w7.setCell ⟨gV, i, none⟩ (.int .u64 v)) (w.heap.size + 1) (.int .i64 at_) (.int .i64 rg) (.bool arr) (.int .i64 k) (.int .i64 t) (.int .i64 n) (.slice aK ks.length cK) (.slice (some ⟨gV, 0, none⟩) vs.length cV) = w8 at h8 ⊢
          obtain ⟨hO8, hg8⟩ := h8
          clear o0 o1 o2 o3 o4 o5 o6 o7 r0 r1 r2 r3 r4 r5 r6 r7 f0 f1 f2 f3 f4 f5 f6 f7
          have q0 := heap_cell hO8 0
          have q1 := heap_cell hO8 1
          have q2 := heap_cell hO8 2
          have q3 := heap_cell hO8 3
          have q4 := heap_cell hO8 4
          have q5 := heap_cell hO8 5
          have q6 := heap_cell hO8 6
          have q7 := heap_cell hO8 7
          simp at q0 q1 q2 q3 q4 q5 q6 q7
          refine bodyPost_ret (v := .tuple #[.agg #[.int .i64 at_, .int .i64 rg, .bool arr, .int .i64 k, .int .i64 t, .int .i64 n, .slice aK ks.length cK, .slice (some ⟨gV, 0, none⟩) vs.length cV], .int .i64 0]) (by simp [results, Tryz.results124, go_sem, q0, q1, q2, q3, q4, q5, q6, q7]) rfl ⟨_, _, _, _, _, _, _, _, _, _, _, _, by rw [e1.out], ?_, ?_, ?_⟩
          · exact grown_new J.out.2.2.2.1 hg8 (by omega)
          · rw [e2.out]; exact (J.out.2.2.1).grown hg8 hne1 hne2
          · obtain ⟨a9, c9, he9, hr9, _⟩ := owns_reads (k := .u64) (xs := vs.set i v) (by rw [List.length_set]; exact (Moved.of_grown hg8 (S := fun q => q = w.heap.size + 1) (fun q e => by cases e; rfl)).owns J.out.2.2.2.2.1 (fun q hq e => by have := (J.out.2.2.2.2.1.lt q hq).1; omega))
            obtain ⟨a10, c10, he10, hr10, _⟩ := owns_reads ((Moved.of_grown hg8 (S := fun q => q = w.heap.size + 1) (fun q e => by cases e; rfl)).owns J.out.2.2.2.2.2 (fun q hq e => by have := (J.out.2.2.2.2.2.lt q hq).1; omega))
            simp only [Value.slice.injEq] at he9 he10
            refine .inl ⟨e1.out, rfl, rfl, rfl, rfl, rfl, rfl, rfl, by rw [he10.1]; exact hr10, rfl, ?_⟩
            rw [he9.1]
            unfold vset
            rw [if_pos (by omega), Int.toNat_natCast]
            exact hr9
        · have hG7 : w.grownBy w7 (some g) := grown_new hG2 HCL.out.2.2.2.2.1 (Nat.le_refl _)
          have o0 := heap_cell HCL.out.1 0
          have o1 := heap_cell HCL.out.1 1
          have o2 := heap_cell HCL.out.1 2
          have o3 := heap_cell HCL.out.1 3
          have o4 := heap_cell HCL.out.1 4
          have o5 := heap_cell HCL.out.1 5
          have o6 := heap_cell HCL.out.1 6
          have o7 := heap_cell HCL.out.1 7
          simp at o0 o1 o2 o3 o4 o5 o6 o7
          have r0 := heap_cell HCL.out.2.1 0
          have f0 := heap_free HCL.out.2.1 0
          have r1 := heap_cell HCL.out.2.1 1
          have f1 := heap_free HCL.out.2.1 1
          have r2 := heap_cell HCL.out.2.1 2
          have f2 := heap_free HCL.out.2.1 2
          have r3 := heap_cell HCL.out.2.1 3
          have f3 := heap_free HCL.out.2.1 3
          have r4 := heap_cell HCL.out.2.1 4
          have f4 := heap_free HCL.out.2.1 4
          have r5 := heap_cell HCL.out.2.1 5
          have f5 := heap_free HCL.out.2.1 5
          have r6 := heap_cell HCL.out.2.1 6
          have f6 := heap_free HCL.out.2.1 6
          have r7 := heap_cell HCL.out.2.1 7
          have f7 := heap_free HCL.out.2.1 7
          simp at r0 r1 r2 r3 r4 r5 r6 r7
          go_wp2
          have h8 := set8_at HCL.out.2.1 (.int .i64 at_) (.int .i64 rg) (.bool arr) (.int .i64 k) (.int .i64 t) (.int .i64 n) (.slice aK ks.length cK) (.slice aV vs.length cV)
          change bodyPost _ _ _ _ _ (set8 w7 (w.heap.size + 1) (.int .i64 at_) (.int .i64 rg) (.bool arr) (.int .i64 k) (.int .i64 t) (.int .i64 n) (.slice aK ks.length cK) (.slice aV vs.length cV))
          generalize set8 w7 (w.heap.size + 1) (.int .i64 at_) (.int .i64 rg) (.bool arr) (.int .i64 k) (.int .i64 t) (.int .i64 n) (.slice aK ks.length cK) (.slice aV vs.length cV) = w8 at h8 ⊢
          obtain ⟨hO8, hg8⟩ := h8
          clear o0 o1 o2 o3 o4 o5 o6 o7 r0 r1 r2 r3 r4 r5 r6 r7 f0 f1 f2 f3 f4 f5 f6 f7
          have q0 := heap_cell hO8 0
          have q1 := heap_cell hO8 1
          have q2 := heap_cell hO8 2
          have q3 := heap_cell hO8 3
          have q4 := heap_cell hO8 4
          have q5 := heap_cell hO8 5
          have q6 := heap_cell hO8 6
          have q7 := heap_cell hO8 7
          simp at q0 q1 q2 q3 q4 q5 q6 q7
          refine bodyPost_ret (v := .tuple #[.agg #[.int .i64 at_, .int .i64 rg, .bool arr, .int .i64 k, .int .i64 t, .int .i64 n, .slice aK ks.length cK, .slice aV vs.length cV], .int .i64 0]) (by simp [results, Tryz.results124, go_sem, q0, q1, q2, q3, q4, q5, q6, q7]) rfl ⟨_, _, _, _, _, _, _, _, _, _, _, _, by rw [e1.out], ?_, ?_, ?_⟩
          · exact grown_new hG7 hg8 (by omega)
          · rw [e2.out]; exact (HCL.out.2.2.1).grown hg8 hne1 hne2
          · have hlr := heap_lt HO3.out.1
            obtain ⟨a9, c9, he9, hr9, _⟩ := owns_reads ((Moved.of_grown hg8 (S := fun q => q = w.heap.size + 1) (fun q e => by cases e; rfl)).owns HCL.out.2.2.2.1 (fun q hq e => by have := (HCL.out.2.2.2.1.lt q hq).1; omega))
            obtain ⟨a10, c10, he10, hr10, _⟩ := owns_reads ((Moved.of_grown hg8 (S := fun q => q = w.heap.size + 1) (fun q e => by cases e; rfl)).owns HCL.out.2.2.2.2.2 (fun q hq e => by have := (HCL.out.2.2.2.2.2.lt q hq).1; omega))
            simp only [Value.slice.injEq] at he9 he10
            refine .inl ⟨e1.out, rfl, rfl, rfl, rfl, rfl, rfl, rfl, by rw [he10.1]; exact hr10, rfl, ?_⟩
            rw [he9.1]
            unfold vset
            rw [if_neg (by omega)]
            exact hr9
    · have e5 : wrE xs.length z = 8 := by rw [wrE, if_neg hz]
      have e6 : wrL xs z v = xs := by rw [wrL, if_neg hz]
      rw [e6] at e2
      rw [e5] at e1
      clear hz hK hV
      have E5 := Lib.hid (And.intro e5 e6)
      clear e5 e6
      go_enter Tryz.func124, Tryz.ntmps124
      go_wp2_with fail
      rw [← HW.out]
      refine hA.mono ?_
      rintro e w1 ⟨rfl, hb1⟩
      have hM2 := hM1.later hb1
      have hO4 := heap_below hb1 hO2 (heap_lt hO2)
      have hB2 := hbo.trans (hb1.mono hbo.size)
      clear hM1 hO1 hO2 hA
      go_wp2_with fail
      refine (wWrite_any b g xs z v _ hM2).mono ?_
      rw [E5.out.1, E5.out.2]
      rintro e w2 ⟨rfl, hg2, hM3⟩
      have hO3 := heap_grown hg2 hO4 (fun e => hne2 e.symm)
      have hG2 : w.grownBy w2 (some g) := grown_trans (grown_of_below hB2 (some g)) hg2
      clear hM2 hO4 hg2 hB2
      have q0 := heap_cell hO3 0
      have f0 := heap_free hO3 0
      have q1 := heap_cell hO3 1
      have f1 := heap_free hO3 1
      have q2 := heap_cell hO3 2
      have f2 := heap_free hO3 2
      have q3 := heap_cell hO3 3
      have f3 := heap_free hO3 3
      have q4 := heap_cell hO3 4
      have f4 := heap_free hO3 4
      have q5 := heap_cell hO3 5
      have f5 := heap_free hO3 5
      have q6 := heap_cell hO3 6
      have f6 := heap_free hO3 6
      have q7 := heap_cell hO3 7
      have f7 := heap_free hO3 7
      simp at q0 q1 q2 q3 q4 q5 q6 q7
      have hO3 := Lib.hid hO3
      go_wp2
      have h8 := set8_at hO3.out (.int .i64 0) (.int .i64 0) (.bool false) (.int .i64 0) (.int .i64 0) (.int .i64 0) (.slice none 0 0) (.slice none 0 0)
      change bodyPost _ _ _ _ _ (set8 w2 (w.heap.size + 1) (.int .i64 0) (.int .i64 0) (.bool false) (.int .i64 0) (.int .i64 0) (.int .i64 0) (.slice none 0 0) (.slice none 0 0))
      generalize set8 w2 (w.heap.size + 1) (.int .i64 0) (.int .i64 0) (.bool false) (.int .i64 0) (.int .i64 0) (.int .i64 0) (.slice none 0 0) (.slice none 0 0) = w8 at h8 ⊢
      obtain ⟨hO8, hg8⟩ := h8
      clear q0 q1 q2 q3 q4 q5 q6 q7 f0 f1 f2 f3 f4 f5 f6 f7
      have q0 := heap_cell hO8 0
      have q1 := heap_cell hO8 1
      have q2 := heap_cell hO8 2
      have q3 := heap_cell hO8 3
      have q4 := heap_cell hO8 4
      have q5 := heap_cell hO8 5
      have q6 := heap_cell hO8 6
      have q7 := heap_cell hO8 7
      simp at q0 q1 q2 q3 q4 q5 q6 q7
      refine bodyPost_ret (v := .tuple #[.agg #[.int .i64 0, .int .i64 0, .bool false, .int .i64 0, .int .i64 0, .int .i64 0, .slice none 0 0, .slice none 0 0], .int .i64 8]) (by simp [results, Tryz.results124, go_sem, q0, q1, q2, q3, q4, q5, q6, q7]) rfl ⟨_, _, _, _, _, _, _, _, _, _, _, _, by rw [e1.out], ?_, ?_, ?_⟩
      · exact grown_new hG2 hg8 (by omega)
      · rw [e2.out]; exact hM3.grown hg8 hne1 hne2
      · exact .inr ⟨e1.out, rfl, rfl, rfl, rfl, rfl, rfl, rfl, rfl⟩
  · have e1 : Hid (stE xs.length at_ ks.length i = 8) := by show _ = _; rw [stE, if_neg hi]
    have e2 : Hid (stL xs at_ ks.length i v = xs) := by show _ = _; rw [stL, if_neg hi]
    have e3 : atE ks.length i = 8 := by rw [atE, if_neg hi]
    obtain ⟨y, hy⟩ : ∃ y, kiV ks i = y := ⟨_, rfl⟩
    obtain ⟨z, hz⟩ : ∃ z, atV at_ ks.length i = z := ⟨_, rfl⟩
    rw [e3, hy, hz] at hA
    clear hi e3 hy hz hM hK hV
    go_enter Tryz.func124, Tryz.ntmps124
    go_wp2_with fail
    rw [← HW.out]
    refine hA.mono ?_
    rintro e w1 ⟨rfl, hb1⟩
    have hO3 := heap_below hb1 hO2 (heap_lt hO2)
    have q0 := heap_cell hO3 0
    have q1 := heap_cell hO3 1
    have q2 := heap_cell hO3 2
    have q3 := heap_cell hO3 3
    have q4 := heap_cell hO3 4
    have q5 := heap_cell hO3 5
    have q6 := heap_cell hO3 6
    have q7 := heap_cell hO3 7
    have f0 := heap_free hO3 0
    have f1 := heap_free hO3 1
    have f2 := heap_free hO3 2
    have f3 := heap_free hO3 3
    have f4 := heap_free hO3 4
    have f5 := heap_free hO3 5
    have f6 := heap_free hO3 6
    have f7 := heap_free hO3 7
    simp at q0 q1 q2 q3 q4 q5 q6 q7
    clear hO1 hO2
    have hO3 := Lib.hid hO3
    go_wp2
    have h8 := set8_at hO3.out (.int .i64 0) (.int .i64 0) (.bool false) (.int .i64 0) (.int .i64 0) (.int .i64 0) (.slice none 0 0) (.slice none 0 0)
    have hB2 := hbo.trans (hb1.mono hbo.size)
    have hM2 := hM1.later hb1
    change bodyPost _ _ _ _ _ (set8 w1 (w.heap.size + 1) (.int .i64 0) (.int .i64 0) (.bool false) (.int .i64 0) (.int .i64 0) (.int .i64 0) (.slice none 0 0) (.slice none 0 0))
    generalize set8 w1 (w.heap.size + 1) (.int .i64 0) (.int .i64 0) (.bool false) (.int .i64 0) (.int .i64 0) (.int .i64 0) (.slice none 0 0) (.slice none 0 0) = w8 at h8 ⊢
    obtain ⟨hO8, hg8⟩ := h8
    clear q0 q1 q2 q3 q4 q5 q6 q7 f0 f1 f2 f3 f4 f5 f6 f7
    have q0 := heap_cell hO8 0
    have q1 := heap_cell hO8 1
    have q2 := heap_cell hO8 2
    have q3 := heap_cell hO8 3
    have q4 := heap_cell hO8 4
    have q5 := heap_cell hO8 5
    have q6 := heap_cell hO8 6
    have q7 := heap_cell hO8 7
    simp at q0 q1 q2 q3 q4 q5 q6 q7
    have hlt1 := heap_lt hM1.1
    have hne1 : b ≠ w.heap.size + 1 := by have := heap_lt hM0.out.1; omega
    have hne2 : g ≠ w.heap.size + 1 := by have := heap_lt hM0.out.2.1; omega
    refine bodyPost_ret (v := .tuple #[.agg #[.int .i64 0, .int .i64 0, .bool false, .int .i64 0, .int .i64 0, .int .i64 0, .slice none 0 0, .slice none 0 0], .int .i64 8]) (by simp [results, Tryz.results124, go_sem, q0, q1, q2, q3, q4, q5, q6, q7]) rfl ⟨_, _, _, _, _, _, _, _, _, _, _, _, by rw [e1.out], ?_, ?_, ?_⟩
    · exact grown_new (grown_of_below hB2 (some g)) hg8 (by omega)
    · rw [e2.out]; exact hM2.grown hg8 hne1 hne2
    · exact .inr ⟨e1.out, rfl, rfl, rfl, rfl, rfl, rfl, rfl, rfl⟩
end Go.Proofs.YtcenagpkfimkbaaGreatDoor
