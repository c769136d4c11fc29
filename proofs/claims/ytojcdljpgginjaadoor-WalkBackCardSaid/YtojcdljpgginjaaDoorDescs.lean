/-
  Lists of types: what they are in the model; desc.Kind, Pointer; kraallaw07.Great.
-/
import Derived.Test.YtojcdljpgginjaaDoorOwnK
import Derived.Test.YtojcdljpgginjaaDoorTab
namespace Go.Proofs.YtojcdljpgginjaaDoor
open Go Go.RowKit

def kindB (k : Int) : Bool := decide (0 ≤ k ∧ k < 4)
theorem kindB_ofK (k : Int) : (ofK k != 2) = kindB k := by
  unfold ofK kindB
  rw [Bool.eq_iff_iff]
  simp
  repeat' split
  all_goals omega
theorem Kind_any (k : Int) (w : World) (h0 : Tab w) :
    Calls Tryd.prog 43 #[.int .i64 k] w fun e w' => e = .returned (.bool (kindB k)) ∧ w = w' := by
  go_enter Tryd.func43, Tryd.ntmps43
  go_wp2_with (go_at_call 46; refine (of_any _ _ h0).mono ?_; rintro e w' ⟨rfl, rfl⟩)
  go_ret
  refine ⟨?_, rfl⟩
  rw [← kindB_ofK]
  rfl

theorem Reads.lt_or {k : IntKind} {w : World} {a : Option Addr} {xs : List Int} (h : Reads k w a xs) : xs = [] ∨ ∀ q, a = some q → q.block < w.heap.size := by
  rcases h with h | ⟨b, off, rfl, hc⟩
  · exact .inl h
  · rcases Nat.eq_zero_or_pos xs.length with hz | hz
    · exact .inl (List.length_eq_zero_iff.1 hz)
    · exact .inr (fun q e => by cases e; exact cell_lt (hc 0 hz))

/-- A list of types, as it is read. -/
def Descs (w : World) (a : Option Addr) (ds : List (List Int)) : Prop :=
  ds = [] ∨ ∃ b off, a = some ⟨b, off, none⟩ ∧ ∀ i, i < ds.length → ∃ (fa : Option Addr) (c : Nat), w.cell? ⟨b, off + i, none⟩ = some (.slice fa (ds.getD i []).length c) ∧ Reads .i64 w fa (ds.getD i []) ∧ (fa = none → ds.getD i [] = [] ∧ c = 0)
theorem Descs.below {w w' : World} {a : Option Addr} {ds : List (List Int)} (h : Descs w a ds) (hb : Below w.heap.size w w') : Descs w' a ds := by
  rcases h with h | ⟨b, off, ha, hc⟩
  · exact .inl h
  · refine .inr ⟨b, off, ha, fun i hi => ?_⟩
    obtain ⟨fa, c, h1, h2, h3⟩ := hc i hi
    exact ⟨fa, c, (hb.cell (cell_lt h1)).trans h1, h2.below hb, h3⟩
theorem Descs.at_ {w : World} {a : Option Addr} {ds : List (List Int)} (h : Descs w a ds) (i : Nat) (hi : i < ds.length) :
    ∃ (b off : Nat) (fa : Option Addr) (c : Nat) (d : List Int), a = some ⟨b, off, none⟩ ∧ ds[i]? = some d ∧ w.cell? ⟨b, off + i, none⟩ = some (.slice fa d.length c) ∧ Reads .i64 w fa d ∧ (fa = none → d = [] ∧ c = 0) := by
  rcases h with rfl | ⟨b, off, rfl, hc⟩
  · simp at hi
  · obtain ⟨fa, c, h1, h2, h3⟩ := hc i hi
    refine ⟨b, off, fa, c, ds.getD i [], rfl, ?_, h1, h2, h3⟩
    simp [hi]

/-- More than are gone through? -/
def greatB (ds : List (List Int)) : Bool := ds.any (fun d => decide (100 < d.length)) || decide (60 < ds.length)
theorem greatB_false {ds : List (List Int)} (h : greatB ds = false) : ds.length ≤ 60 ∧ ∀ d ∈ ds, d.length ≤ 100 := by
  unfold greatB at h
  simp at h
  exact ⟨h.2, fun d hd => h.1 d hd⟩

set_option maxHeartbeats 1000000 in
theorem Great_any (a : Option Addr) (ds : List (List Int)) (c : Nat) (w : World) (hD : Descs w a ds) (hn : ds.length ≤ 9223372036854775807) :
    Calls Tryd.prog 17 #[.slice a ds.length c] w fun e w' => e = .returned (.bool (greatB ds)) ∧ Below w.heap.size w w' := by
  go_enter Tryd.func17, Tryd.ntmps17
  go_wp2
  go_loopw [7] (fun i wr => ∃ j : Nat, j ≤ ds.length ∧ i = .int .i64 j ∧ (∀ d ∈ ds.take j, d.length ≤ 100) ∧ Below w.heap.size w wr) (fun i _ => ds.length - (intOf i).toNat)
  case atStart => exact ⟨0, Nat.zero_le _, rfl, by simp, Below.refl _ _⟩
  case round =>
    obtain ⟨j, hj, rfl, hall, hB⟩ := hrel
    have HA := Lib.hid hall
    clear hall
    by_cases hlt : j < ds.length
    · obtain ⟨b, off, fa, c', d, rfl, hd, hc, hr, _⟩ := (hD.below hB).at_ j hlt
      have HD := Lib.hid hd
      clear hd hD
      have hbo := hB.alloc hB.size (.cells #[.slice fa d.length c'] 50)
      by_cases hg : 100 < d.length
      · go_wp2
        go_ret
        refine ⟨ret_bool ?_, hbo⟩
        symm
        unfold greatB
        have : d ∈ ds := List.mem_of_getElem? HD.out
        simp only [Bool.or_eq_true, List.any_eq_true, decide_eq_true_eq]
        exact .inl ⟨d, this, hg⟩
      · go_wp2
        go_roundw
        case rel =>
          refine ⟨j + 1, by omega, by go_num, ?_, hbo⟩
          intro x hx
          rw [List.take_add_one, HD.out] at hx
          simp at hx
          rcases hx with hx | rfl
          · exact HA.out x hx
          · omega
        case measure => simp [intOf]; omega
    · obtain rfl : j = ds.length := by omega
      go_wp2
      go_ret
      refine ⟨ret_bool ?_, hB⟩
      unfold greatB
      have h1 := HA.out
      rw [List.take_length] at h1
      have h2 : ds.any (fun d => decide (100 < d.length)) = false := by
        rw [List.any_eq_false]
        intro d hd
        have := h1 d hd
        simp
        omega
      rw [h2]
      simp
      omega
end Go.Proofs.YtojcdljpgginjaaDoor
