/-
  The contracts of package slot: At, Load.
-/
import Derived.Test.YtekkplledcffkaaDoorLaid2
namespace Go.Proofs.YtekkplledcffkaaDoor
open Go Go.RowKit

/-- Where a field stands, its kind, and the error's number. -/
def atB (n : Nat) (i : Int) : Bool := decide (i < n)
def atE (n : Nat) (i : Int) : Int := if atB n i = true then 0 else 8
def atV (at_ : Int) (n : Nat) (i : Int) : Int := if atB n i = true then wrap64 (at_ + i) else 0
def kiV (ks : List Int) (i : Int) : Int := if atB ks.length i = true then (ks[i.toNat]?).getD 0 else 0

theorem At_any (at_ rg k t n : Int) (arr : Bool) (ka : Option Addr) (ks : List Int) (kc : Nat) (va : Option Addr) (vl vc : Nat) (i : Int) (w : World) (hK : Reads .i64 w ka ks) (hl : ks.length ≤ 100) (h0 : 0 ≤ i) (h1 : i ≤ 18446744073709551615) :
    Calls Tryd.prog 6 #[.agg #[.int .i64 at_, .int .i64 rg, .bool arr, .int .i64 k, .int .i64 t, .int .i64 n, .slice ka ks.length kc, .slice va vl vc], .int .u64 i] w
      fun e w' => e = .returned (.tuple #[.int .i64 (atV at_ ks.length i), .int .i64 (kiV ks i), .int .i64 (atE ks.length i)]) ∧ Below w.heap.size w w' := by
  have hw : IntKind.u64.wrap (ks.length : Int) = ks.length := by rw [IntKind.wrap_u64]; omega
  by_cases hi : i < ks.length
  · obtain ⟨i, rfl⟩ := Int.eq_ofNat_of_zero_le h0
    have hi' : i < ks.length := by omega
    have e1 : Hid (atV at_ ks.length i = wrap64 (at_ + i)) := by show _ = _; simp [atV, atB, hi']
    have e2 : Hid (kiV ks i = (ks[i]?).getD 0) := by show _ = _; simp [kiV, atB, hi']
    have e3 : Hid (atE ks.length i = 0) := by show _ = _; simp [atE, atB, hi']
    obtain ⟨b, off, rfl, hc⟩ := hK.at_ i hi'
    have hc2 := cell_alloc_old (.cells #[.int .i64 at_, .int .i64 rg, .bool arr, .int .i64 k, .int .i64 t, .int .i64 n, .slice (some ⟨b, off, none⟩) ks.length kc, .slice va vl vc] 27) hc
    obtain ⟨x, hx⟩ : ∃ x, (ks[i]?).getD 0 = x := ⟨_, rfl⟩
    rw [hx] at hc2 e2
    have hwi : IntKind.i64.wrap (i : Int) = i := by rw [IntKind.wrap_i64]; omega
    clear hc hx hK
    go_enter Tryd.func6, Tryd.ntmps6
    go_wp2
    go_quiet (fail)
    go_wp2
    go_ret3
    refine ⟨?_, below_drewN ((Below.refl _ _).alloc (Nat.le_refl _) _) _⟩
    rw [e1.out, e2.out, e3.out]
    rfl
  · have e1 : Hid (atV at_ ks.length i = 0) := by show _ = _; simp [atV, atB, hi]
    have e2 : Hid (kiV ks i = 0) := by show _ = _; simp [kiV, atB, hi]
    have e3 : Hid (atE ks.length i = 8) := by show _ = _; simp [atE, atB, hi]
    clear hK
    go_enter Tryd.func6, Tryd.ntmps6
    go_wp2
    go_ret3
    refine ⟨?_, (Below.refl _ _).alloc (Nat.le_refl _) _⟩
    rw [e1.out, e2.out, e3.out]
    rfl

/-- What Load answers. -/
def ldV (xs : List Int) (at_ : Int) (n : Nat) (i : Int) : Int := if atB n i = true then rdV xs (wrap64 (at_ + i)) else 0
def ldE (m : Nat) (at_ : Int) (n : Nat) (i : Int) : Int := if atB n i = true then wrE m (wrap64 (at_ + i)) else 8

theorem Load_any (b g : Nat) (xs : List Int) (at_ rg k t n : Int) (arr : Bool) (ka : Option Addr) (ks : List Int) (kc : Nat) (va : Option Addr) (vl vc : Nat) (i : Int) (w : World) (hM : MemAt w b g xs) (hK : Reads .i64 w ka ks) (hl : ks.length ≤ 100) (h0 : 0 ≤ i) (h1 : i ≤ 18446744073709551615) :
    Calls Tryd.prog 8 #[.pointer (some ⟨b, 0, none⟩), .agg #[.int .i64 at_, .int .i64 rg, .bool arr, .int .i64 k, .int .i64 t, .int .i64 n, .slice ka ks.length kc, .slice va vl vc], .int .u64 i] w
      fun e w' => e = .returned (.tuple #[.int .u64 (ldV xs at_ ks.length i), .int .i64 (ldE xs.length at_ ks.length i)]) ∧ Below w.heap.size w w' := by
  have hbo : Below w.heap.size w (w.alloc (.cells #[.int .i64 at_, .int .i64 rg, .bool arr, .int .i64 k, .int .i64 t, .int .i64 n, .slice ka ks.length kc, .slice va vl vc] 27)) := (Below.refl _ _).alloc (Nat.le_refl _) _
  have hA := At_any at_ rg k t n arr ka ks kc va vl vc i _ (hK.below hbo) hl h0 h1
  have hM1 := hM.later hbo
  generalize hW : w.alloc (.cells #[.int .i64 at_, .int .i64 rg, .bool arr, .int .i64 k, .int .i64 t, .int .i64 n, .slice ka ks.length kc, .slice va vl vc] 27) = W at hbo hA hM1
  have HW := Lib.hid hW
  clear hW hK hM
  by_cases hi : atB ks.length i = true
  · have e1 : Hid (ldV xs at_ ks.length i = rdV xs (wrap64 (at_ + i))) := by show _ = _; rw [ldV, if_pos hi]
    have e2 : Hid (ldE xs.length at_ ks.length i = wrE xs.length (wrap64 (at_ + i))) := by show _ = _; rw [ldE, if_pos hi]
    have e3 : atE ks.length i = 0 := by rw [atE, if_pos hi]
    have e4 : atV at_ ks.length i = wrap64 (at_ + i) := by rw [atV, if_pos hi]
    obtain ⟨y, hy⟩ : ∃ y, kiV ks i = y := ⟨_, rfl⟩
    obtain ⟨z, hz⟩ : ∃ z, wrap64 (at_ + i) = z := ⟨_, rfl⟩
    rw [e3, e4, hy, hz] at hA
    rw [hz] at e1 e2
    rw [e1.out, e2.out]
    clear hi e1 e2 e3 e4 hy hz
    obtain ⟨p, hp⟩ : ∃ p, rdV xs z = p := ⟨_, rfl⟩
    obtain ⟨q, hq⟩ : ∃ q, wrE xs.length z = q := ⟨_, rfl⟩
    rw [hp, hq]
    have HPQ := Lib.hid (And.intro hp hq)
    clear hp hq
    go_enter Tryd.func8, Tryd.ntmps8
    go_wp2_with fail
    rw [HW.out]
    refine hA.mono ?_
    rintro e w1 ⟨rfl, hb1⟩
    have hM2 := hM1.later hb1
    clear hA hM1
    go_wp2_with fail
    refine (wRead_any b g xs z _ hM2).mono ?_
    rw [HPQ.out.1, HPQ.out.2]
    rintro e w2 ⟨rfl, rfl⟩
    clear hM2
    go_wp2
    go_ret2
    exact ⟨rfl, hbo.trans (hb1.mono hbo.size)⟩
  · have e1 : Hid (ldV xs at_ ks.length i = 0) := by show _ = _; rw [ldV, if_neg hi]
    have e2 : Hid (ldE xs.length at_ ks.length i = 8) := by show _ = _; rw [ldE, if_neg hi]
    have e3 : atE ks.length i = 8 := by rw [atE, if_neg hi]
    obtain ⟨y, hy⟩ : ∃ y, kiV ks i = y := ⟨_, rfl⟩
    obtain ⟨z, hz⟩ : ∃ z, atV at_ ks.length i = z := ⟨_, rfl⟩
    rw [e3, hy, hz] at hA
    rw [e1.out, e2.out]
    clear hi e1 e2 e3 hy hz
    go_enter Tryd.func8, Tryd.ntmps8
    go_wp2_with fail
    rw [HW.out]
    refine hA.mono ?_
    rintro e w1 ⟨rfl, hb1⟩
    clear hA hM1
    go_wp2
    go_ret2
    exact ⟨rfl, hbo.trans (hb1.mono hbo.size)⟩
end Go.Proofs.YtekkplledcffkaaDoor
