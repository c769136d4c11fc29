/-
  Contracts of functions of the program, laid together.
-/
import Derived.Test.YtcenagpkfimkbaaGreatDoorTopSlotsM1
import Derived.Test.YtcenagpkfimkbaaGreatDoorTopSlotsM11
import Derived.Laws.EntriesVeiled
namespace Go.Proofs.YtcenagpkfimkbaaGreatDoor
open Go Go.RowKit

abbrev plainF (f : Nat) : Value := .func (.func f) #[] #[]
theorem rules_any (w : World) : Calls Tryz.prog 168 #[] w fun e w' => e = .returned (.agg #[.nilFunc, plainF 196, plainF 197, plainF 198]) ∧ Below w.heap.size w w' := by
  go_enter Tryz.func168, Tryz.ntmps168
  go_wp2
  refine bodyPost_ret (v := .agg #[.nilFunc, plainF 196, plainF 197, plainF 198]) (by simp [results, Tryz.results168, go_sem]) rfl ⟨rfl, ?_⟩
  exact (Below.refl _ _).alloc (Nat.le_refl _) _
theorem rule1_any (t : Value) (h k : Int) (w : World) : Calls Tryz.prog 196 #[t, .int .i64 h, .int .i64 k] w fun e w' => e = .returned (.bool true) ∧ w = w' := by
  go_enter Tryz.func196, Tryz.ntmps196
  go_wp2
  go_ret
  exact ⟨rfl, rfl⟩
theorem rule2_any (t : Value) (h k : Int) (w : World) : Calls Tryz.prog 197 #[t, .int .i64 h, .int .i64 k] w fun e w' => e = .returned (.bool (decide (h = k))) ∧ w = w' := by
  by_cases e : h = k
  · have y : (h == k) = true := by simpa using e
    have e1 : Hid (decide (h = k) = true) := Lib.hid (by simpa using e)
    clear e
    go_enter Tryz.func197, Tryz.ntmps197
    go_wp2
    go_ret
    exact ⟨by rw [e1.out]; rfl, rfl⟩
  · have y : (h == k) = false := by simpa using e
    have e1 : Hid (decide (h = k) = false) := Lib.hid (by simpa using e)
    clear e
    go_enter Tryz.func197, Tryz.ntmps197
    go_wp2
    go_ret
    exact ⟨by rw [e1.out]; rfl, rfl⟩
theorem rule3_any {t : Value} {h k : Int} {w : World} {b : Bool} (H : Calls Tryz.prog 199 #[t, .int .i64 h, .int .i64 k] w fun e w' => e = .returned (.bool b) ∧ Below w.heap.size w w') : Calls Tryz.prog 198 #[t, .int .i64 h, .int .i64 k] w fun e w' => e = .returned (.bool b) ∧ Below w.heap.size w w' := by
  go_enter Tryz.func198, Tryz.ntmps198
  go_wp2_with fail
  refine H.mono ?_
  rintro e w1 ⟨rfl, hb⟩
  have HB := Lib.hid hb
  clear hb H
  go_wp2
  go_ret
  exact ⟨rfl, HB.out⟩

def letsB (m : IM Int) (M kind holder target : Int) : Bool := if kind = 1 then true else if kind = 2 then decide (holder = target) else withinB m M holder target
def chkE (m : IM Int) (M kind holder target : Int) : Int :=
  if target = 0 then 0 else if (lk m holder).isSome = false ∨ (lk m target).isSome = false then 2 else if letsB m M kind holder target = true then 0 else 5

set_option maxRecDepth 100000 in
set_option maxHeartbeats 4000000 in
theorem aCheck_any {tb tm : Nat} {m : IM Int} {M : Int} {w : World} (h : TreeAt w tb tm m) (hT : Tab w) (hm : Downs m M) (hl : m.length ≤ 1000000) (hwl : ∀ id, (wkL m M id).length ≤ 1000000) (k x y : Int) (hk : isPtr k = true) (hx0 : -9223372036854775808 ≤ x) (hx1 : x ≤ 9223372036854775807) (hy0 : -9223372036854775808 ≤ y) (hy1 : y ≤ 9223372036854775807) :
    Calls Tryz.prog 121 #[.pointer (some ⟨tb, 0, none⟩), .int .i64 k, .int .i64 x, .int .i64 y] w fun e w' => e = .returned (.int .i64 (chkE m M k x y)) ∧ Below w.heap.size w w' := by
  have hP := Pointer_any k w hT
  rw [hk] at hP
  have hX := trHas_any h x hx0 hx1
  have hY := trHas_any h y hy0 hy1
  by_cases z : y = 0
  · have z1 : (y == 0) = true := by simpa using z
    have e1 : Hid (chkE m M k x y = 0) := Lib.hid (by rw [chkE, if_pos z])
    clear z h hm hT hX hY hk
    go_enter Tryz.func121, Tryz.ntmps121
    go_wp2_with fail
    refine hP.mono ?_
    rintro e w1 ⟨rfl, rfl⟩
    clear hP
    go_wp2
    go_ret
    exact ⟨by rw [e1.out]; rfl, Below.refl _ _⟩
  · have z1 : (y == 0) = false := by simpa using z
    cases hxs : (lk m x).isSome
    · have e1 : Hid (chkE m M k x y = 2) := Lib.hid (by rw [chkE, if_neg z, if_pos (.inl hxs)])
      rw [hxs] at hX
      clear z h hm hT hY hk hxs
      go_enter Tryz.func121, Tryz.ntmps121
      go_wp2_with fail
      refine hP.mono ?_
      rintro e w1 ⟨rfl, rfl⟩
      clear hP
      go_wp2_with fail
      refine hX.mono ?_
      rintro e w1 ⟨rfl, rfl⟩
      clear hX
      go_wp2
      go_ret
      exact ⟨by rw [e1.out]; rfl, Below.refl _ _⟩
    · cases hys : (lk m y).isSome
      · have e1 : Hid (chkE m M k x y = 2) := Lib.hid (by rw [chkE, if_neg z, if_pos (.inr hys)])
        rw [hxs] at hX
        rw [hys] at hY
        clear z h hm hT hk hxs hys
        go_enter Tryz.func121, Tryz.ntmps121
        go_wp2_with fail
        refine hP.mono ?_
        rintro e w1 ⟨rfl, rfl⟩
        clear hP
        go_wp2_with fail
        refine hX.mono ?_
        rintro e w1 ⟨rfl, rfl⟩
        clear hX
        go_wp2_with fail
        refine hY.mono ?_
        rintro e w1 ⟨rfl, rfl⟩
        clear hY
        go_wp2
        go_ret
        exact ⟨by rw [e1.out]; rfl, Below.refl _ _⟩
      · have e1 : Hid (chkE m M k x y = if letsB m M k x y = true then 0 else 5) := Lib.hid (by rw [chkE, if_neg z, if_neg (by rw [hxs, hys]; simp)])
        have hRu := rules_any w
        have h3 := fun (w' : World) (hb : Below w.heap.size w w') => rule3_any (trWithin_any (h.later hb) hm hl hwl x y hx0 hx1 hy0 hy1 hxs hys)
        rw [hxs] at hX
        rw [hys] at hY
        have H3 := Lib.hid h3
        have hk3 : k = 1 ∨ k = 2 ∨ k = 3 := by simp [isPtr] at hk; omega
        clear z h hm hT hk hxs hys h3
        rcases hk3 with rfl | rfl | rfl
        · have hix : ∀ (w : World), (Instr.index 264 (.agg #[.nilFunc, plainF 196, plainF 197, plainF 198]) (.int .i64 1)).run Tryz.prog w = .ok (.agg #[plainF 196]) w := fun w => by kernel_rfl
          have hfl : ∀ (w : World), (Instr.field 263 (.agg #[plainF 196]) 0).run Tryz.prog w = .ok (plainF 196) w := fun w => by kernel_rfl
          have e2 : Hid (chkE m M 1 x y = 0) := Lib.hid (by rw [e1.out, letsB, if_pos rfl, if_pos rfl])
          go_enter Tryz.func121, Tryz.ntmps121
          go_wp2_with fail
          refine hP.mono ?_
          rintro e w1 ⟨rfl, rfl⟩
          clear hP
          go_wp2_with fail
          refine hX.mono ?_
          rintro e w1 ⟨rfl, rfl⟩
          clear hX
          go_wp2_with fail
          refine hY.mono ?_
          rintro e w1 ⟨rfl, rfl⟩
          clear hY
          go_wp2_with fail
          refine hRu.mono ?_
          rintro e w2 ⟨rfl, hb2⟩
          have HB := Lib.hid hb2
          clear hRu hb2
          go_wp2_with fail
          refine (rule1_any _ _ _ _).mono ?_
          rintro e w3 ⟨rfl, rfl⟩
          go_wp2
          go_ret
          exact ⟨by rw [e2.out]; rfl, HB.out⟩
        · have hix : ∀ (w : World), (Instr.index 264 (.agg #[.nilFunc, plainF 196, plainF 197, plainF 198]) (.int .i64 2)).run Tryz.prog w = .ok (.agg #[plainF 197]) w := fun w => by kernel_rfl
          have hfl : ∀ (w : World), (Instr.field 263 (.agg #[plainF 197]) 0).run Tryz.prog w = .ok (plainF 197) w := fun w => by kernel_rfl
          have e2 : Hid (chkE m M 2 x y = if decide (x = y) = true then 0 else 5) := Lib.hid (by rw [e1.out, show letsB m M 2 x y = decide (x = y) from rfl])
          have hr := fun w => rule2_any (.pointer (some ⟨tb, 0, none⟩)) x y w
          obtain ⟨b, hb⟩ : ∃ b, decide (x = y) = b := ⟨_, rfl⟩
          rw [hb] at e2
          simp only [hb] at hr
          have HR := Lib.hid hr
          clear hb hr
          go_enter Tryz.func121, Tryz.ntmps121
          go_wp2_with fail
          refine hP.mono ?_
          rintro e w1 ⟨rfl, rfl⟩
          clear hP
          go_wp2_with fail
          refine hX.mono ?_
          rintro e w1 ⟨rfl, rfl⟩
          clear hX
          go_wp2_with fail
          refine hY.mono ?_
          rintro e w1 ⟨rfl, rfl⟩
          clear hY
          go_wp2_with fail
          refine hRu.mono ?_
          rintro e w2 ⟨rfl, hb2⟩
          have HB := Lib.hid hb2
          clear hRu hb2
          go_wp2_with fail
          refine (HR.out _).mono ?_
          rintro e w3 ⟨rfl, rfl⟩
          cases b
          all_goals
            go_wp2
            go_ret
            exact ⟨by rw [e2.out]; rfl, HB.out⟩
        · have hix : ∀ (w : World), (Instr.index 264 (.agg #[.nilFunc, plainF 196, plainF 197, plainF 198]) (.int .i64 3)).run Tryz.prog w = .ok (.agg #[plainF 198]) w := fun w => by kernel_rfl
          have hfl : ∀ (w : World), (Instr.field 263 (.agg #[plainF 198]) 0).run Tryz.prog w = .ok (plainF 198) w := fun w => by kernel_rfl
          have e2 : Hid (chkE m M 3 x y = if withinB m M x y = true then 0 else 5) := Lib.hid (by rw [e1.out, show letsB m M 3 x y = withinB m M x y from rfl])
          obtain ⟨b, hb⟩ : ∃ b, withinB m M x y = b := ⟨_, rfl⟩
          rw [hb] at e2 H3
          clear hb
          go_enter Tryz.func121, Tryz.ntmps121
          go_wp2_with fail
          refine hP.mono ?_
          rintro e w1 ⟨rfl, rfl⟩
          clear hP
          go_wp2_with fail
          refine hX.mono ?_
          rintro e w1 ⟨rfl, rfl⟩
          clear hX
          go_wp2_with fail
          refine hY.mono ?_
          rintro e w1 ⟨rfl, rfl⟩
          clear hY
          go_wp2_with fail
          refine hRu.mono ?_
          rintro e w2 ⟨rfl, hb2⟩
          have h3 := H3.out w2 hb2
          have HB := Lib.hid hb2
          clear hRu hb2
          go_wp2_with fail
          refine h3.mono ?_
          rintro e w3 ⟨rfl, hb3⟩
          have HB3 := Lib.hid (HB.out.trans (hb3.mono HB.out.size))
          clear h3 hb3
          cases b
          all_goals
            go_wp2
            go_ret
            exact ⟨by rw [e2.out]; rfl, HB3.out⟩
end Go.Proofs.YtcenagpkfimkbaaGreatDoor
