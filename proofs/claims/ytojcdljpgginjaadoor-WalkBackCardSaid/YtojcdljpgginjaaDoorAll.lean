/-
  The document's All: the same rows of objects.
-/
import Derived.Test.YtojcdljpgginjaaDoorRObjs
import Derived.Test.YtojcdljpgginjaaDoorOSame
import Derived.Deep.RegionHeld3
namespace Go.Proofs.YtojcdljpgginjaaDoor
open Go Go.RowKit Go.Shelf

theorem onK_len (xs : List Int) (ds : List (List Int)) (a : Int) : (onK xs ds a).length ≤ xs.length := by
  rw [onK]
  split
  · rename_i h
    rw [onE] at h
    split at h
    · rename_i h1
      split at h
      · split at h
        · split at h
          · omega
          · cases h
        · rename_i h2 h3; exact absurd h h3
      · cases h
    · cases h
  · simp
theorem onV_len (xs : List Int) (ds : List (List Int)) (a : Int) : (onV xs ds a).length ≤ xs.length := by
  rw [onV]
  split
  · simp; omega
  · simp

/-- A row of objects, as it is read. -/
def Objs (xs : List Int) (ds : List (List Int)) (w : World) (a : Option Addr) (ats : List Int) : Prop :=
  ats = [] ∨ ∃ b off, a = some ⟨b, off, none⟩ ∧ ∀ i, i < ats.length → ∃ (y1 y2 : Option Addr) (c1 c2 : Nat),
    (∀ j u, (objCells xs ds (ats.getD i 0) y1 y2 c1 c2)[j]? = some u → w.cell? ⟨b, off + i * 8 + j, none⟩ = some u) ∧ Reads .i64 w y1 (onK xs ds (ats.getD i 0)) ∧ Reads .u64 w y2 (onV xs ds (ats.getD i 0))
theorem Objs.below {xs : List Int} {ds : List (List Int)} {w w' : World} {a : Option Addr} {ats : List Int} (h : Objs xs ds w a ats) (hb : Below w.heap.size w w') : Objs xs ds w' a ats := by
  rcases h with h | ⟨b, off, ha, hc⟩
  · exact .inl h
  · refine .inr ⟨b, off, ha, fun i hi => ?_⟩
    obtain ⟨y1, y2, c1, c2, h1, h2, h3⟩ := hc i hi
    exact ⟨y1, y2, c1, c2, fun j u hu => (hb.cell (cell_lt (h1 j u hu))).trans (h1 j u hu), h2.below hb, h3.below hb⟩
theorem objs_of_own {xs : List Int} {ds : List (List Int)} {rs : List (Int × Int)} {w : World} {B : Nat} {v : Value} {flat : List Value} {S : Nat → Prop} (h : w.ownsRow B 53 8 v rs.length flat) (ho : ∀ j, j < rs.length → ∀ (f k : Int), rs[j]? = some (f, k) → ObjIn xs ds w S flat j (thA f)) :
    ∃ a c, v = .slice a (rs.map (fun p => thA p.1)).length c ∧ Objs xs ds w a (rs.map (fun p => thA p.1)) := by
  obtain ⟨a, c, rfl, _⟩ := owns_slice h
  refine ⟨a, c, by simp, ?_⟩
  rcases h.2 with ⟨e, h0⟩ | ⟨g, cap, cur, e, _⟩
  · exact .inl (by rw [List.length_eq_zero_iff.1 h0]; rfl)
  · cases e
    refine .inr ⟨g, 0, rfl, fun i hi => ?_⟩
    rw [List.length_map] at hi
    obtain ⟨y1, y2, c1, c2, h1, h2, h3, _⟩ := ho i hi rs[i].1 rs[i].2 (by simp [hi])
    have e : (rs.map (fun p => thA p.1)).getD i 0 = thA rs[i].1 := by simp [hi]
    rw [e]
    refine ⟨y1, y2, c1, c2, fun j u hu => ?_, h2, h3⟩
    rw [← h1, List.getElem?_take] at hu
    split at hu
    · rw [List.getElem?_drop] at hu
      have := h.cells rfl (i * 8 + j) u hu
      rw [addr_add_none] at this
      rw [Nat.add_assoc]
      exact this
    · cases hu

theorem all_keep {bA oA bB oB q : Nat} {v1 v3 v4 v5 : Int} {v2 : Bool} {v6 v7 : Nat} {y1 y2 z1 z2 : Option Addr} {c1 c2 d1 d2 : Nat} {ks vs : List Int} {w0 w1 w2 : World} (hb : Below w1.heap.size w1 w2) (h : w1.cell? ⟨bA, oA + q * 8, none⟩ = some (.int .i64 v1) ∧ w1.cell? ⟨bA, oA + q * 8 + 1, none⟩ = some (.int .i64 0) ∧ w1.cell? ⟨bA, oA + q * 8 + 2, none⟩ = some (.bool v2) ∧ w1.cell? ⟨bA, oA + q * 8 + 3, none⟩ = some (.int .i64 v3) ∧ w1.cell? ⟨bA, oA + q * 8 + 4, none⟩ = some (.int .i64 v4) ∧ w1.cell? ⟨bA, oA + q * 8 + 5, none⟩ = some (.int .i64 v5) ∧ w1.cell? ⟨bA, oA + q * 8 + 6, none⟩ = some (.slice y1 v6 c1) ∧ w1.cell? ⟨bA, oA + q * 8 + 7, none⟩ = some (.slice y2 v7 c2) ∧ w1.cell? ⟨bB, oB + q * 8, none⟩ = some (.int .i64 v1) ∧ w1.cell? ⟨bB, oB + q * 8 + 1, none⟩ = some (.int .i64 0) ∧ w1.cell? ⟨bB, oB + q * 8 + 2, none⟩ = some (.bool v2) ∧ w1.cell? ⟨bB, oB + q * 8 + 3, none⟩ = some (.int .i64 v3) ∧ w1.cell? ⟨bB, oB + q * 8 + 4, none⟩ = some (.int .i64 v4) ∧ w1.cell? ⟨bB, oB + q * 8 + 5, none⟩ = some (.int .i64 v5) ∧ w1.cell? ⟨bB, oB + q * 8 + 6, none⟩ = some (.slice z1 v6 d1) ∧ w1.cell? ⟨bB, oB + q * 8 + 7, none⟩ = some (.slice z2 v7 d2) ∧ Reads .i64 w1 y1 ks ∧ Reads .u64 w1 y2 vs ∧ Reads .i64 w1 z1 ks ∧ Reads .u64 w1 z2 vs ∧ Below w0.heap.size w0 w1) :
    w2.cell? ⟨bA, oA + q * 8, none⟩ = some (.int .i64 v1) ∧ w2.cell? ⟨bA, oA + q * 8 + 1, none⟩ = some (.int .i64 0) ∧ w2.cell? ⟨bA, oA + q * 8 + 2, none⟩ = some (.bool v2) ∧ w2.cell? ⟨bA, oA + q * 8 + 3, none⟩ = some (.int .i64 v3) ∧ w2.cell? ⟨bA, oA + q * 8 + 4, none⟩ = some (.int .i64 v4) ∧ w2.cell? ⟨bA, oA + q * 8 + 5, none⟩ = some (.int .i64 v5) ∧ w2.cell? ⟨bA, oA + q * 8 + 6, none⟩ = some (.slice y1 v6 c1) ∧ w2.cell? ⟨bA, oA + q * 8 + 7, none⟩ = some (.slice y2 v7 c2) ∧ w2.cell? ⟨bB, oB + q * 8, none⟩ = some (.int .i64 v1) ∧ w2.cell? ⟨bB, oB + q * 8 + 1, none⟩ = some (.int .i64 0) ∧ w2.cell? ⟨bB, oB + q * 8 + 2, none⟩ = some (.bool v2) ∧ w2.cell? ⟨bB, oB + q * 8 + 3, none⟩ = some (.int .i64 v3) ∧ w2.cell? ⟨bB, oB + q * 8 + 4, none⟩ = some (.int .i64 v4) ∧ w2.cell? ⟨bB, oB + q * 8 + 5, none⟩ = some (.int .i64 v5) ∧ w2.cell? ⟨bB, oB + q * 8 + 6, none⟩ = some (.slice z1 v6 d1) ∧ w2.cell? ⟨bB, oB + q * 8 + 7, none⟩ = some (.slice z2 v7 d2) ∧ Reads .i64 w2 y1 ks ∧ Reads .u64 w2 y2 vs ∧ Reads .i64 w2 z1 ks ∧ Reads .u64 w2 z2 vs ∧ Below w0.heap.size w0 w2 := by
  obtain ⟨h0, h1, h2, h3, h4, h5, h6, h7, h8, h9, h10, h11, h12, h13, h14, h15, h16, h17, h18, h19, h20⟩ := h
  exact ⟨(hb.cell (cell_lt h0)).trans h0, (hb.cell (cell_lt h1)).trans h1, (hb.cell (cell_lt h2)).trans h2, (hb.cell (cell_lt h3)).trans h3, (hb.cell (cell_lt h4)).trans h4, (hb.cell (cell_lt h5)).trans h5, (hb.cell (cell_lt h6)).trans h6, (hb.cell (cell_lt h7)).trans h7, (hb.cell (cell_lt h8)).trans h8, (hb.cell (cell_lt h9)).trans h9, (hb.cell (cell_lt h10)).trans h10, (hb.cell (cell_lt h11)).trans h11, (hb.cell (cell_lt h12)).trans h12, (hb.cell (cell_lt h13)).trans h13, (hb.cell (cell_lt h14)).trans h14, (hb.cell (cell_lt h15)).trans h15, h16.below hb, h17.below hb, h18.below hb, h19.below hb, h20.trans (hb.mono h20.size)⟩
theorem all_call {bA oA bB oB q : Nat} {v1 v3 v4 v5 : Int} {v2 : Bool} {v6 v7 : Nat} {y1 y2 z1 z2 : Option Addr} {c1 c2 d1 d2 : Nat} {ks vs : List Int} {w0 w1 : World} (h : w1.cell? ⟨bA, oA + q * 8, none⟩ = some (.int .i64 v1) ∧ w1.cell? ⟨bA, oA + q * 8 + 1, none⟩ = some (.int .i64 0) ∧ w1.cell? ⟨bA, oA + q * 8 + 2, none⟩ = some (.bool v2) ∧ w1.cell? ⟨bA, oA + q * 8 + 3, none⟩ = some (.int .i64 v3) ∧ w1.cell? ⟨bA, oA + q * 8 + 4, none⟩ = some (.int .i64 v4) ∧ w1.cell? ⟨bA, oA + q * 8 + 5, none⟩ = some (.int .i64 v5) ∧ w1.cell? ⟨bA, oA + q * 8 + 6, none⟩ = some (.slice y1 v6 c1) ∧ w1.cell? ⟨bA, oA + q * 8 + 7, none⟩ = some (.slice y2 v7 c2) ∧ w1.cell? ⟨bB, oB + q * 8, none⟩ = some (.int .i64 v1) ∧ w1.cell? ⟨bB, oB + q * 8 + 1, none⟩ = some (.int .i64 0) ∧ w1.cell? ⟨bB, oB + q * 8 + 2, none⟩ = some (.bool v2) ∧ w1.cell? ⟨bB, oB + q * 8 + 3, none⟩ = some (.int .i64 v3) ∧ w1.cell? ⟨bB, oB + q * 8 + 4, none⟩ = some (.int .i64 v4) ∧ w1.cell? ⟨bB, oB + q * 8 + 5, none⟩ = some (.int .i64 v5) ∧ w1.cell? ⟨bB, oB + q * 8 + 6, none⟩ = some (.slice z1 v6 d1) ∧ w1.cell? ⟨bB, oB + q * 8 + 7, none⟩ = some (.slice z2 v7 d2) ∧ Reads .i64 w1 y1 ks ∧ Reads .u64 w1 y2 vs ∧ Reads .i64 w1 z1 ks ∧ Reads .u64 w1 z2 vs ∧ Below w0.heap.size w0 w1) (e6 : ks.length = v6) (e7 : vs.length = v7) (hk : ks.length ≤ 16384) (hv : vs.length ≤ 16384) :
    Calls Tryd.prog 20 #[.agg #[.int .i64 v1, .int .i64 0, .bool v2, .int .i64 v3, .int .i64 v4, .int .i64 v5, .slice y1 v6 c1, .slice y2 v7 c2], .agg #[.int .i64 v1, .int .i64 0, .bool v2, .int .i64 v3, .int .i64 v4, .int .i64 v5, .slice z1 v6 d1, .slice z2 v7 d2]] w1 fun e w' => e = .returned (.bool true) ∧ Below w1.heap.size w1 w' := by
  subst e6 e7
  exact oSame_any _ _ _ _ _ _ _ _ _ _ _ _ _ _ ks vs _ h.2.2.2.2.2.2.2.2.2.2.2.2.2.2.2.2.1 h.2.2.2.2.2.2.2.2.2.2.2.2.2.2.2.2.2.2.1 h.2.2.2.2.2.2.2.2.2.2.2.2.2.2.2.2.2.1 h.2.2.2.2.2.2.2.2.2.2.2.2.2.2.2.2.2.2.2.1 (by omega) (by omega)

set_option maxRecDepth 100000 in
set_option maxHeartbeats 4000000 in
theorem All_any (xs : List Int) (ds : List (List Int)) (hm : xs.length ≤ 16384) (a1 a2 : Option Addr) (cA cB : Nat) (ats : List Int) (w : World) (h1 : Objs xs ds w a1 ats) (h2 : Objs xs ds w a2 ats) (hn : ats.length ≤ 1000) :
    Calls Tryd.prog 22 #[.slice a1 ats.length cA, .slice a2 ats.length cB] w fun e w' => e = .returned (.bool true) ∧ Below w.heap.size w w' := by
  have H0 := Lib.hid (And.intro h1 h2)
  clear h1 h2
  go_enter Tryd.func22, Tryd.ntmps22
  go_wp2
  go_loopw [5] (fun i wr => ∃ q : Nat, q ≤ ats.length ∧ i = .int .i64 q ∧ Below w.heap.size w wr) (fun i _ => ats.length - (intOf i).toNat)
  case atStart => exact ⟨0, Nat.zero_le _, rfl, Below.refl _ _⟩
  case round =>
    obtain ⟨q, hq, rfl, hB⟩ := hrel
    by_cases hlt : q < ats.length
    · rcases H0.out.1.below hB with e | ⟨bA, oA, rfl, hA⟩
      · rw [e] at hlt; simp at hlt
      rcases H0.out.2.below hB with e | ⟨bB, oB, rfl, hBB⟩
      · rw [e] at hlt; simp at hlt
      obtain ⟨y1, y2, c1, c2, hcA, hk1, hv1⟩ := hA q hlt
      obtain ⟨z1, z2, d1, d2, hcB, hk2, hv2⟩ := hBB q hlt
      have hkl := onK_len xs ds (ats.getD q 0)
      have hvl := onV_len xs ds (ats.getD q 0)
      rw [objCells] at hcA hcB
      generalize onK xs ds (ats.getD q 0) = ks at hcA hcB hk1 hk2 hkl
      generalize onV xs ds (ats.getD q 0) = vs at hcA hcB hv1 hv2 hvl
      generalize onI xs ds (ats.getD q 0) (gK (onX xs (ats.getD q 0))) = v3 at hcA hcB
      generalize onI xs ds (ats.getD q 0) (gT (onX xs (ats.getD q 0))) = v4 at hcA hcB
      generalize onI xs ds (ats.getD q 0) (gN (onX xs (ats.getD q 0))) = v5 at hcA hcB
      generalize onI xs ds (ats.getD q 0) (ats.getD q 0) = v1 at hcA hcB
      generalize onA xs ds (ats.getD q 0) = v2 at hcA hcB
      obtain ⟨v6, e6⟩ : ∃ x, ks.length = x := ⟨_, rfl⟩
      obtain ⟨v7, e7⟩ : ∃ x, vs.length = x := ⟨_, rfl⟩
      rw [e6, e7] at hcA hcB
      have hS : wr.cell? ⟨bA, oA + q * 8, none⟩ = some (.int .i64 v1) ∧ wr.cell? ⟨bA, oA + q * 8 + 1, none⟩ = some (.int .i64 0) ∧ wr.cell? ⟨bA, oA + q * 8 + 2, none⟩ = some (.bool v2) ∧ wr.cell? ⟨bA, oA + q * 8 + 3, none⟩ = some (.int .i64 v3) ∧ wr.cell? ⟨bA, oA + q * 8 + 4, none⟩ = some (.int .i64 v4) ∧ wr.cell? ⟨bA, oA + q * 8 + 5, none⟩ = some (.int .i64 v5) ∧ wr.cell? ⟨bA, oA + q * 8 + 6, none⟩ = some (.slice y1 v6 c1) ∧ wr.cell? ⟨bA, oA + q * 8 + 7, none⟩ = some (.slice y2 v7 c2) ∧ wr.cell? ⟨bB, oB + q * 8, none⟩ = some (.int .i64 v1) ∧ wr.cell? ⟨bB, oB + q * 8 + 1, none⟩ = some (.int .i64 0) ∧ wr.cell? ⟨bB, oB + q * 8 + 2, none⟩ = some (.bool v2) ∧ wr.cell? ⟨bB, oB + q * 8 + 3, none⟩ = some (.int .i64 v3) ∧ wr.cell? ⟨bB, oB + q * 8 + 4, none⟩ = some (.int .i64 v4) ∧ wr.cell? ⟨bB, oB + q * 8 + 5, none⟩ = some (.int .i64 v5) ∧ wr.cell? ⟨bB, oB + q * 8 + 6, none⟩ = some (.slice z1 v6 d1) ∧ wr.cell? ⟨bB, oB + q * 8 + 7, none⟩ = some (.slice z2 v7 d2) ∧ Reads .i64 wr y1 ks ∧ Reads .u64 wr y2 vs ∧ Reads .i64 wr z1 ks ∧ Reads .u64 wr z2 vs ∧ Below w.heap.size w wr :=
        ⟨hcA 0 _ rfl, hcA 1 _ rfl, hcA 2 _ rfl, hcA 3 _ rfl, hcA 4 _ rfl, hcA 5 _ rfl, hcA 6 _ rfl, hcA 7 _ rfl, hcB 0 _ rfl, hcB 1 _ rfl, hcB 2 _ rfl, hcB 3 _ rfl, hcB 4 _ rfl, hcB 5 _ rfl, hcB 6 _ rfl, hcB 7 _ rfl, hk1, hv1, hk2, hv2, hB⟩
      have HS := Lib.hid hS
      clear hS hcA hcB hk1 hv1 hk2 hv2 hA hBB hB
      have hks : ks.length ≤ 16384 := by omega
      have hvs : vs.length ≤ 16384 := by omega
      go_wp2
      have hS := HS.out
      clear HS
      have hSd := all_keep (w1 := wr) (w2 := wr.drew) ⟨rfl, rfl, rfl, Nat.le_refl _, fun _ _ => rfl⟩ hS
      obtain ⟨h0, h1, h2, h3, h4, h5, h6, h7, h8, h9, h10, h11, h12, h13, h14, h15, h16, h17, h18, h19, h20⟩ := hS
      go_region_held3 (fun w' => w'.cell? ⟨bA, oA + q * 8, none⟩ = some (.int .i64 v1) ∧ w'.cell? ⟨bA, oA + q * 8 + 1, none⟩ = some (.int .i64 0) ∧ w'.cell? ⟨bA, oA + q * 8 + 2, none⟩ = some (.bool v2) ∧ w'.cell? ⟨bA, oA + q * 8 + 3, none⟩ = some (.int .i64 v3) ∧ w'.cell? ⟨bA, oA + q * 8 + 4, none⟩ = some (.int .i64 v4) ∧ w'.cell? ⟨bA, oA + q * 8 + 5, none⟩ = some (.int .i64 v5) ∧ w'.cell? ⟨bA, oA + q * 8 + 6, none⟩ = some (.slice y1 v6 c1) ∧ w'.cell? ⟨bA, oA + q * 8 + 7, none⟩ = some (.slice y2 v7 c2) ∧ w'.cell? ⟨bB, oB + q * 8, none⟩ = some (.int .i64 v1) ∧ w'.cell? ⟨bB, oB + q * 8 + 1, none⟩ = some (.int .i64 0) ∧ w'.cell? ⟨bB, oB + q * 8 + 2, none⟩ = some (.bool v2) ∧ w'.cell? ⟨bB, oB + q * 8 + 3, none⟩ = some (.int .i64 v3) ∧ w'.cell? ⟨bB, oB + q * 8 + 4, none⟩ = some (.int .i64 v4) ∧ w'.cell? ⟨bB, oB + q * 8 + 5, none⟩ = some (.int .i64 v5) ∧ w'.cell? ⟨bB, oB + q * 8 + 6, none⟩ = some (.slice z1 v6 d1) ∧ w'.cell? ⟨bB, oB + q * 8 + 7, none⟩ = some (.slice z2 v7 d2) ∧ Reads .i64 w' y1 ks ∧ Reads .u64 w' y2 vs ∧ Reads .i64 w' z1 ks ∧ Reads .u64 w' z2 vs ∧ Below w.heap.size w w')
        (first | assumption | exact hSd | exact hSd.1 | (go_keep; done) | exact all_keep (by assumption) (by assumption))
        (first | (go_at_call 20; refine (all_call (by assumption) e6 e7 hks hvs).mono ?_; rintro e w' ⟨rfl, hb'⟩))
      rename_i hS
      have hB2 := hS.2.2.2.2.2.2.2.2.2.2.2.2.2.2.2.2.2.2.2.2
      clear hS hSd h0 h1 h2 h3 h4 h5 h6 h7 h8 h9 h10 h11 h12 h13 h14 h15 h16 h17 h18 h19 h20
      go_wp2
      go_roundw
      case rel => exact ⟨q + 1, by omega, by go_num, hB2⟩
      case measure => simp [intOf]; omega
    · obtain rfl : q = ats.length := by omega
      go_wp2
      go_ret
      exact ⟨rfl, hB⟩
end Go.Proofs.YtojcdljpgginjaaDoor
