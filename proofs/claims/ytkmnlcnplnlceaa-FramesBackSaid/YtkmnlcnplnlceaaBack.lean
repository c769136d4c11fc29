/-
  The law FramesBack, walked.
-/
import Derived.Test.YtkmnlcnplnlceaaStack4
namespace Go.Proofs.Ytkmnlcnplnlceaa
open Go Go.RowKit

/-- A fresh frame of q slots of which r are set. -/
def row (q r : Nat) : List Int := List.replicate r 5 ++ List.replicate (q - r) 0
theorem row_zero (q : Nat) : row q 0 = List.replicate q 0 := by simp [row]
theorem row_length {q r : Nat} (h : r ≤ q) : (row q r).length = q := by simp [row]; omega
theorem row_get (q r : Nat) : ((row q r)[r]?).getD 0 = 0 := by
  unfold row
  rw [List.getElem?_append_right (by simp), List.length_replicate, List.getElem?_replicate]
  split <;> rfl
theorem row_set {q r : Nat} (h : r < q) : (row q r).set r 5 = row q (r + 1) := by
  unfold row
  rw [List.set_append_right _ _ (by simp), List.length_replicate, Nat.sub_self, show q - r = (q - (r + 1)) + 1 by omega, List.replicate_succ, List.set_cons_zero, List.replicate_succ', List.append_assoc]
  rfl

set_option maxRecDepth 100000 in
set_option maxHeartbeats 8000000 in
theorem FramesBack_any (a : Option Addr) (m cap : Nat) (K P V : Nat → Int) (n : Int) (w : World) (hA : ActsAt w a m K P V) (hn0 : 0 ≤ n) (hn1 : n ≤ 255) :
    Calls Try.prog 4 #[.slice a m cap, .int .u8 n] w fun e w' => e = .returned (.bool true) ∧ Below w.heap.size w w' := by
  by_cases hm : 100 < m
  · have hm' : (100 : Int) < (m : Int) := by omega
    go_enter Try.func4, Try.ntmps4
    go_wp2_with fail
    refine (fixed_any _).mono ?_
    rintro e w1 ⟨rfl, hb1⟩
    go_wp2
    go_ret
    exact ⟨rfl, hb1⟩
  · have hm' : ¬ (100 : Int) < (m : Int) := by omega
    go_enter Try.func4, Try.ntmps4
    go_wp2_with fail
    refine (sNew_any _).mono ?_
    rintro e w1 ⟨rfl, hb1, hS1⟩
    have hM1 := Held.new hS1 rfl hb1
    clear hS1 hb1
    go_wp2
    go_loopw [29] (fun i wr => ∃ j : Nat, j ≤ m ∧ i = .int .i64 j ∧ ∃ xss, Mine w wr w.heap.size xss) (fun i _ => m - (intOf i).toNat)
    case atStart => exact ⟨0, Nat.zero_le _, rfl, _, hM1⟩
    case round =>
      obtain ⟨j, hj, rfl, xss, hM⟩ := hrel
      by_cases hlt : j < m
      · obtain ⟨b, off, rfl, f0, f1, f2, p0, p1⟩ := hA j hlt
        have hB := moved_none hM.choose_spec.2.2
        obtain ⟨k0, hk⟩ : ∃ q, K j = q := ⟨_, rfl⟩
        obtain ⟨p, hp⟩ : ∃ q, P j = q := ⟨_, rfl⟩
        obtain ⟨v, hv⟩ : ∃ q, V j = q := ⟨_, rfl⟩
        rw [hk] at f0
        rw [hp] at f1 p0 p1
        rw [hv] at f2
        have g0 := (hB.cell (cell_lt f0)).trans f0
        have g1 := (hB.cell (cell_lt f1)).trans f1
        have g2 := (hB.cell (cell_lt f2)).trans f2
        have hOB := heap_alloc_eq wr (.cells #[.int .i64 k0, .int .u64 p, .int .u64 v] 29)
        have hMo := hM.later ((Below.refl _ _).alloc (Nat.le_refl _) (.cells #[.int .i64 k0, .int .u64 p, .int .u64 v] 29))
        clear hk hp hv f0 f1 f2 hA hM1 hM hB
        rcases (show k0 = 0 ∨ k0 = 1 ∨ k0 = 2 ∨ (k0 ≠ 0 ∧ k0 ≠ 1 ∧ k0 ≠ 2) by omega) with rfl | rfl | rfl | ⟨q0, q1, q2⟩
        · go_wp2_with fail
          refine (mPush hMo p p0).mono ?_
          rintro e w2 ⟨rfl, hM2⟩
          go_wp2
          go_roundw
          case rel => exact ⟨j + 1, by omega, by go_num, _, hM2⟩
          case measure => simp [intOf]; omega
        · go_wp2_with fail
          refine (mPop hMo).mono ?_
          rintro e w2 ⟨v2, rfl, hM2, _⟩
          go_wp2
          go_roundw
          case rel => exact ⟨j + 1, by omega, by go_num, _, hM2⟩
          case measure => simp [intOf]; omega
        · go_wp2_with fail
          refine (mSet hMo p v p0 p1).mono ?_
          rintro e w2 ⟨rfl, hM2⟩
          go_wp2
          go_roundw
          case rel => exact ⟨j + 1, by omega, by go_num, _, hM2⟩
          case measure => simp [intOf]; omega
        · go_wp2
          go_roundw
          case rel => exact ⟨j + 1, by omega, by go_num, _, hMo⟩
          case measure => simp [intOf]; omega
      · obtain rfl : j = m := by omega
        clear hA hM1
        obtain ⟨S3, hS0, hS3w, hm0⟩ := hM
        have hSlt := S_lt hS0
        have hfew := flat_len (S_few hS0).2
        have hfew2 := (S_few hS0).1
        have hal := sAll_any hS0
        obtain ⟨fl, hfl⟩ : ∃ fl, xss.flatten = fl := ⟨_, rfl⟩
        rw [hfl] at hal hfew
        have HFL := Lib.hid hfl
        have hd0 : ∀ w', Below wr.heap.size wr w' → StackAt w' w.heap.size xss S3 := fun w' h => hS0.later h
        clear hfl
        go_wp2_with fail
        refine hal.mono ?_
        rintro e w3 ⟨v2, rfl, hb2, ho2⟩
        have hS3 := hd0 w3 hb2
        go_wp2_with fail
        refine (Depth_any hS3).mono ?_
        rintro e w4 ⟨rfl, rfl⟩
        have hB3 : Below w.heap.size w w4 := (moved_none hm0).trans (hb2.mono (moved_none hm0).size)
        obtain ⟨av, cv, rfl, hrv, hav, _⟩ := owns_reads ho2
        have hH3 : Held S3 w4 w4 w.heap.size (xss ++ []) := by rw [List.append_nil]; exact Held.start hS3
        have hvS : ∀ q, av = some q → ¬ S3 q.block := fun q hq e => by
          have h1 := (hav q hq).1
          have h2 := hSlt _ e
          omega
        obtain ⟨w3, rfl⟩ : ∃ w3, w3 = w4 := ⟨_, rfl⟩
        obtain ⟨N, hN, hN4⟩ : ∃ N : Nat, n % 5 = N ∧ N ≤ 4 := ⟨(n % 5).toNat, by omega, by omega⟩
        clear ho2 hb2 hS3 hS0 hal hd0 hm0 hav hSlt
        go_wp2
        rw [hN]
        clear hN hn0 hn1
        go_loopw [10, 61] (fun p i wq => ∃ q : Nat, q ≤ N ∧ i = .int .i64 q ∧ p = .int .i64 q ∧ ∃ ex : List (List Int), ex.length = q ∧ Held S3 w3 wq w.heap.size (xss ++ ex)) (fun p i _ => N - (intOf i).toNat)
        case atStart => exact ⟨0, Nat.zero_le _, rfl, rfl, [], rfl, hH3⟩
        case round =>
          obtain ⟨q, hq, rfl, rfl, ex, hex, hH⟩ := hrel
          have HX := Lib.hid hex
          clear hex hH3
          by_cases hlt2 : q < N
          · have hwq : IntKind.u64.wrap (q : Int) = q := by rw [IntKind.wrap_u64]; omega
            have hwq1 : IntKind.i64.wrap ((q : Int) + 1) = (q : Int) + 1 := by rw [IntKind.wrap_i64]; omega
            by_cases hl : (xss ++ ex).length ≤ 63
            · have hp1 : pushE (xss ++ ex).length q = 0 := by rw [pushE, if_neg (by omega), if_neg (by omega)]
              have hp2 : pushL (xss ++ ex) q = xss ++ ex ++ [List.replicate q 0] := by rw [pushL, if_pos ⟨by omega, hl⟩, Int.toNat_natCast]
              have HP := Lib.hid (And.intro hp1 hp2)
              clear hp1 hp2
              go_wp2_with fail
              refine (mPush hH q (by omega)).mono ?_
              rw [HP.out.1, HP.out.2]
              rintro e w4 ⟨rfl, hH4⟩
              go_wp2_with fail
              refine (mAll hH4).mono ?_
              rintro e w5 ⟨v5, rfl, hH5, ho5, hb5⟩
              have ef : (xss ++ ex ++ [List.replicate q (0 : Int)]).flatten = (xss ++ ex).flatten ++ List.replicate q 0 := by simp
              rw [ef, List.length_append, List.length_replicate] at ho5
              have hfe := (hH5.few).2.2
              rw [ef, List.length_append, List.length_replicate] at hfe
              obtain ⟨zs, hzs⟩ : ∃ zs, (xss ++ ex).flatten = zs := ⟨_, rfl⟩
              rw [hzs] at ho5 hfe
              have hcell : ∀ r, r < q → ∃ g c, w5.cell? ⟨g, zs.length + r, none⟩ = some (.int .u64 0) ∧ v5 = .slice (some ⟨g, 0, none⟩) (zs.length + q) c ∧ c ≠ zs.length := fun r hr => by
                obtain ⟨g, c, cur, hv, _, _⟩ := own_shape ho5 (by omega)
                subst hv
                obtain ⟨_, _, e9, h9, _⟩ := owns_slice ho5
                simp only [Value.slice.injEq] at e9
                obtain ⟨_, _, rfl⟩ := e9
                refine ⟨g, c, ?_, rfl, by omega⟩
                refine (ho5.cellAt (g := g) (zs.length + r) (by omega)).trans ?_
                rw [List.map_append, List.getElem?_append_right (by simp)]
                simp [hr]
              obtain ⟨L, hL⟩ : ∃ L, zs.length = L := ⟨_, rfl⟩
              rw [hL] at ho5 hfe hcell
              obtain ⟨a5, c5, rfl, hc5, hn5, hz5⟩ := owns_slice ho5
              have hmin : (if (q : Int) < (L : Int) + (q : Int) then (q : Int) else (L : Int) + (q : Int)) = q := by split <;> omega
              have hL0 : (0 : Int) ≤ (L : Int) := by omega
              have hL1 : (L : Int) ≤ (L : Int) + (q : Int) := by omega
              have HL := Lib.hid hL
              rw [← row_zero] at hH5
              clear hzs ef hH4 hL ho5 hn5 hz5 hH
              go_wp2
              all_goals
                go_loopw [83] (fun i wr' => ∃ r : Nat, r ≤ q ∧ i = .int .i64 r ∧ wr' = w5) (fun i _ => q - (intOf i).toNat)
                case atStart => exact ⟨0, Nat.zero_le _, rfl, rfl⟩
                case round =>
                  obtain ⟨r, hr, rfl, rfl⟩ := hrel
                  by_cases hlt3 : r < q
                  · obtain ⟨g, c, hcz, he5, hne⟩ := hcell r hlt3
                    simp only [Value.slice.injEq] at he5
                    obtain ⟨rfl, _, rfl⟩ := he5
                    clear hcell
                    by_cases hcl : c5 = L
                    · exact absurd hcl hne
                    · first
                        | (exfalso; omega)
                        | (go_wp2
                           go_roundw
                           case rel => exact ⟨r + 1, by omega, by go_num, by trivial⟩
                           case measure => simp [intOf]; omega)
                  · obtain rfl : r = q := by omega
                    clear hcell hmin hL0 hL1 hB3
                    go_wp2
                    go_loopw [91] (fun i wr' => ∃ k : Nat, k ≤ r ∧ i = .int .i64 k ∧ Held S3 w3 wr' w.heap.size (xss ++ ex ++ [row r k])) (fun i _ => r - (intOf i).toNat)
                    case atStart => exact ⟨0, Nat.zero_le _, rfl, hH5⟩
                    case round =>
                      obtain ⟨k, hk, rfl, hH6⟩ := hrel
                      by_cases hlt4 : k < r
                      · have hwk : IntKind.u64.wrap (k : Int) = k := by rw [IntKind.wrap_u64]; omega
                        have e1 : Hid (getV (xss ++ ex ++ [row r k]) k = 0) := by show _ = _; rw [getV_concat, Int.toNat_natCast]; exact row_get _ _
                        have e2 : Hid (getE (xss ++ ex ++ [row r k]) k = 0) := by show _ = _; rw [getE_concat, if_pos (by rw [row_length (by omega)]; omega)]
                        have e3 : Hid (setTop (xss ++ ex ++ [row r k]) k 5 = xss ++ ex ++ [row r (k + 1)]) := by show _ = _; rw [setTop_concat, Int.toNat_natCast, row_set hlt4]
                        go_wp2_with fail
                        refine (mSet hH6 k 5 (by omega) (by omega)).mono ?_
                        rw [e1.out, e2.out, e3.out]
                        rintro e w7 ⟨rfl, hH7⟩
                        clear hH6
                        go_wp2
                        go_roundw
                        case rel => exact ⟨k + 1, by omega, by go_num, hH7⟩
                        case measure => simp [intOf]; omega
                      · obtain rfl : k = r := by omega
                        rw [List.append_assoc] at hH6
                        go_wp2
                        go_roundw
                        case rel => exact ⟨k + 1, by omega, by go_num, by go_num, ex ++ [row k k], by rw [List.length_append, HX.out]; rfl, hH6⟩
                        case measure => simp [intOf]; omega
            · have hp1 : pushE (xss ++ ex).length q = 3 := by rw [pushE, if_neg (by omega), if_pos (by omega)]
              have hp2 : pushL (xss ++ ex) q = xss ++ ex := by rw [pushL, if_neg (by omega)]
              have HP := Lib.hid (And.intro hp1 hp2)
              clear hp1 hp2
              go_wp2_with fail
              refine (mPush hH q (by omega)).mono ?_
              rw [HP.out.1, HP.out.2]
              rintro e w4 ⟨rfl, hH'⟩
              clear hH
              have hH := hH'
              clear hH'
              go_wp2
              have hq9 : (q : Int) ≤ (q : Int) := Int.le_refl _
              go_loopw [110] (fun i wr9 => ∃ r : Nat, r ≤ q ∧ i = .int .i64 r ∧ ∃ ex9 : List (List Int), ex9.length = q - r ∧ Held S3 w3 wr9 w.heap.size (xss ++ ex9)) (fun i _ => q - (intOf i).toNat)
              case atStart => exact ⟨0, Nat.zero_le _, rfl, ex, by rw [HX.out]; rfl, hH⟩
              case round =>
                obtain ⟨r, hr, rfl, ex9, hex9, hH9⟩ := hrel
                have HX9 := Lib.hid hex9
                clear hex9 hH hq9
                by_cases hlt9 : r < q
                · have hne : ex9 ≠ [] := fun e => by have := HX9.out; rw [e] at this; simp at this; omega
                  have hpe : Hid (popE (xss ++ ex9) = 0) := by show _ = _; simp [popE, hne]
                  have hdl : Hid ((xss ++ ex9).dropLast = xss ++ ex9.dropLast) := List.dropLast_append_of_ne_nil hne
                  clear hne
                  go_wp2_with fail
                  refine (mPop hH9).mono ?_
                  rw [hpe.out, hdl.out]
                  rintro e w8 ⟨v8, rfl, hH8, _⟩
                  clear hH9
                  go_wp2
                  go_roundw
                  case rel => exact ⟨r + 1, by omega, by go_num, ex9.dropLast, by rw [List.length_dropLast, HX9.out]; omega, hH8⟩
                  case measure => simp [intOf]; omega
                · obtain rfl : r = q := by omega
                  have he9 : ex9 = [] := List.length_eq_zero_iff.1 (by rw [HX9.out]; omega)
                  subst he9
                  rw [List.append_nil] at hH9
                  go_wp2_with fail
                  refine (fixed_any _).mono ?_
                  rintro e wA ⟨rfl, hbA⟩
                  have hHA := hH9.later hbA
                  clear hH9 hbA
                  go_wp2_with fail
                  refine (mDepth hHA).mono ?_
                  rintro e wB ⟨rfl, rfl⟩
                  go_wp2_with fail
                  refine (mAll hHA).mono ?_
                  rw [HFL.out]
                  rintro e wC ⟨vC, rfl, hHC, hoC, hbC⟩
                  obtain ⟨aC, cC, rfl, hrC, _⟩ := owns_reads hoC
                  have hrv9 : Reads .u64 wC av fl := hHC.choose_spec.2.2.reads hrv hvS
                  have hBC : Below w.heap.size w wC := Moved.below hB3 hHC.choose_spec.2.2 hB3.size (fun k hk => (hS3w k hk).elim (fun e => e.elim) id)
                  clear hoC hHA hHC hbC
                  go_wp2_with fail
                  refine (Same_any aC av cC cv fl fl _ hrC hrv9 (by omega)).mono ?_
                  rintro e wD ⟨rfl, hbD⟩
                  clear hrC hrv9
                  go_wp2
                  go_ret
                  exact ⟨ret_bool (by simp), hBC.trans (hbD.mono hBC.size)⟩
          · obtain rfl : q = N := by omega
            go_wp2
            have hq9 : (q : Int) ≤ (q : Int) := Int.le_refl _
            go_loopw [110] (fun i wr9 => ∃ r : Nat, r ≤ q ∧ i = .int .i64 r ∧ ∃ ex9 : List (List Int), ex9.length = q - r ∧ Held S3 w3 wr9 w.heap.size (xss ++ ex9)) (fun i _ => q - (intOf i).toNat)
            case atStart => exact ⟨0, Nat.zero_le _, rfl, ex, by rw [HX.out]; rfl, hH⟩
            case round =>
              obtain ⟨r, hr, rfl, ex9, hex9, hH9⟩ := hrel
              have HX9 := Lib.hid hex9
              clear hex9 hH hq9
              by_cases hlt9 : r < q
              · have hne : ex9 ≠ [] := fun e => by have := HX9.out; rw [e] at this; simp at this; omega
                have hpe : Hid (popE (xss ++ ex9) = 0) := by show _ = _; simp [popE, hne]
                have hdl : Hid ((xss ++ ex9).dropLast = xss ++ ex9.dropLast) := List.dropLast_append_of_ne_nil hne
                clear hne
                go_wp2_with fail
                refine (mPop hH9).mono ?_
                rw [hpe.out, hdl.out]
                rintro e w8 ⟨v8, rfl, hH8, _⟩
                clear hH9
                go_wp2
                go_roundw
                case rel => exact ⟨r + 1, by omega, by go_num, ex9.dropLast, by rw [List.length_dropLast, HX9.out]; omega, hH8⟩
                case measure => simp [intOf]; omega
              · obtain rfl : r = q := by omega
                have he9 : ex9 = [] := List.length_eq_zero_iff.1 (by rw [HX9.out]; omega)
                subst he9
                rw [List.append_nil] at hH9
                go_wp2_with fail
                refine (fixed_any _).mono ?_
                rintro e wA ⟨rfl, hbA⟩
                have hHA := hH9.later hbA
                clear hH9 hbA
                go_wp2_with fail
                refine (mDepth hHA).mono ?_
                rintro e wB ⟨rfl, rfl⟩
                go_wp2_with fail
                refine (mAll hHA).mono ?_
                rw [HFL.out]
                rintro e wC ⟨vC, rfl, hHC, hoC, hbC⟩
                obtain ⟨aC, cC, rfl, hrC, _⟩ := owns_reads hoC
                have hrv9 : Reads .u64 wC av fl := hHC.choose_spec.2.2.reads hrv hvS
                have hBC : Below w.heap.size w wC := Moved.below hB3 hHC.choose_spec.2.2 hB3.size (fun k hk => (hS3w k hk).elim (fun e => e.elim) id)
                clear hoC hHA hHC hbC
                go_wp2_with fail
                refine (Same_any aC av cC cv fl fl _ hrC hrv9 (by omega)).mono ?_
                rintro e wD ⟨rfl, hbD⟩
                clear hrC hrv9
                go_wp2
                go_ret
                exact ⟨ret_bool (by simp), hBC.trans (hbD.mono hBC.size)⟩
end Go.Proofs.Ytkmnlcnplnlceaa
