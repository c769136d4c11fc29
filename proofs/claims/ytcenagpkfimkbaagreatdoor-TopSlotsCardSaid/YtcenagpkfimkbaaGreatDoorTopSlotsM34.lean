/-
  Contracts of functions of the program, laid together.
-/
import Derived.Test.YtcenagpkfimkbaaGreatDoorTopSlotsM31
import Derived.Test.YtcenagpkfimkbaaGreatDoorTopSlotsM32
import Derived.Test.YtcenagpkfimkbaaGreatDoorTopSlotsM33
namespace Go.Proofs.YtcenagpkfimkbaaGreatDoor
open Go Go.RowKit

def Apart2 (p q : Int × Int) : Prop := p.1 + p.2 ≤ q.1 ∨ q.1 + q.2 ≤ p.1
abbrev LiveR (H : HM) (id : Int) : Prop := (lk H.live id).isSome = true
structure Lay (Pg n : Nat) (H : HM) : Prop where
  on : H.on = Pg
  pg : Pg ≤ 1024
  gl : H.gs.length = Pg
  ml : H.ms.length = 16 * Pg
  sl : H.st.length = 16 * Pg
  ms : ∀ v ∈ H.ms, 0 ≤ v ∧ v < 18446744073709551616
  l0 : 0 ≤ H.last
  ln : H.last ≤ n
  nn : n ≤ 200
  rl : Rising H.live
  ra : Rising H.ar
  rp : Rising H.par
  lv : ∀ id, LiveR H id → 1 ≤ id ∧ id ≤ H.last
  ar : ∀ id, (lk H.ar id).isSome = true ↔ LiveR H id
  par : ∀ id, (lk H.par id).isSome = true ↔ LiveR H id
  up : ∀ id p, lk H.par id = some p → 0 ≤ p ∧ p < id ∧ (p = 0 ∨ LiveR H p)
  sz : ∀ id A, lk H.ar id = some A → A.rs.length ≤ n ∧ A.ts.length ≤ n
  r1 : ∀ id A, lk H.ar id = some A → ∀ r ∈ A.rs, 0 ≤ r.1 ∧ 1 ≤ r.2 ∧ r.1 + r.2 ≤ Pg ∧ ∀ q : Nat, r.1 ≤ q → (q : Int) < r.1 + r.2 → H.ow q = id
  r2 : ∀ q : Nat, q < Pg → H.ow q ≠ 0 → ∃ A, lk H.ar (H.ow q) = some A ∧ ∃ r ∈ A.rs, r.1 ≤ q ∧ (q : Int) < r.1 + r.2
  r3 : ∀ id A, lk H.ar id = some A → A.rs.Pairwise Apart2
  g : ∀ q : Nat, q < Pg → (H.gs.getD q false = true ↔ H.ow q ≠ 0)
  ob : ∀ q : Nat, 0 ≤ H.ow q ∧ H.ow q ≤ H.last
  t1 : ∀ id A, lk H.ar id = some A → A.ts.Pairwise Apart2
  t2 : ∀ id A, lk H.ar id = some A → ∀ p ∈ A.ts, 0 ≤ p.1 ∧ 2 ≤ p.2 ∧ p.1 + p.2 ≤ 16 * Pg ∧ ∀ x : Nat, p.1 ≤ x → (x : Int) < p.1 + p.2 → H.ow (x / 16) = id
  pl : ∀ id A, lk H.ar id = some A → (A.pg = -1 ∧ A.us = 16) ∨ (0 ≤ A.pg ∧ A.pg < Pg ∧ 0 ≤ A.us ∧ A.us ≤ 16 ∧ H.ow A.pg.toNat = id ∧ ∀ p ∈ A.ts, p.1 + p.2 ≤ 16 * A.pg + A.us ∨ 16 * A.pg + 16 ≤ p.1 ∨ p.1 + p.2 ≤ 16 * A.pg)
  s : ∀ x : Int, hasM H.st x = true ↔ ∃ id A p, lk H.ar id = some A ∧ p ∈ A.ts ∧ x = p.1 + 1
  h : ∀ id A, lk H.ar id = some A → ∀ p ∈ A.ts, onE H.ms H.ds (p.1 + 1) = 0 ∧ 1 + ((onK H.ms H.ds (p.1 + 1)).length : Int) ≤ p.2
  ds : ∀ d ∈ H.ds, d.length ≤ 60
  dl : H.ds.length ≤ 32
  dk : ∀ d ∈ H.ds, ∀ k ∈ d, 0 ≤ k ∧ k < 4
  t3 : ∀ id A, lk H.ar id = some A → ∀ p ∈ A.ts, p.1 % 16 < 15

section
variable {Pg n : Nat} {H : HM}
theorem Lay.dd (h : Lay Pg n H) : ∀ d ∈ H.ds, d.length ≤ 100 := fun d hd => by have := h.ds d hd; omega
theorem onK_len {ds : List (List Int)} (h : ∀ d ∈ ds, d.length ≤ 100) (ms : List Int) (a : Int) : (onK ms ds a).length ≤ 4000 := by
  unfold onK
  split
  · exact knL_length h
  · simp
theorem Lay.owner (h : Lay Pg n H) {id : Int} {A : AR} (hA : lk H.ar id = some A) {p : Int × Int} (hp : p ∈ A.ts) : owW H.on H.ow (p.1 + 1) = id := by
  obtain ⟨h0, h1, h2, h3⟩ := h.t2 id A hA p hp
  have e := h3 (p.1 + 1).toNat (by omega) (by omega)
  unfold owW owP
  rw [if_neg (by omega), h.on, if_pos (by omega)]
  rw [← e]
  congr 1
  omega
theorem Lay.idl (h : Lay Pg n H) {id : Int} {A : AR} (hA : lk H.ar id = some A) : LiveR H id ∧ 1 ≤ id ∧ id ≤ H.last := by
  have := (h.ar id).1 (by rw [hA]; rfl)
  exact ⟨this, h.lv id this⟩
theorem Lay.start (h : Lay Pg n H) {v : Int} (hv : hasM H.st v = true) : ∃ id A p, lk H.ar id = some A ∧ p ∈ A.ts ∧ v = p.1 + 1 ∧ tgt H v = id ∧ owW H.on H.ow v = id ∧ 1 ≤ id := by
  obtain ⟨id, A, p, hA, hp, rfl⟩ := (h.s v).1 hv
  have e := h.owner hA hp
  exact ⟨id, A, p, hA, hp, rfl, by rw [tgt, if_pos hv, e], e, (h.idl hA).2.1⟩
theorem Lay.tgt_no (_h : Lay Pg n H) {v : Int} (hv : hasM H.st v = false) : tgt H v = 0 := by
  rw [tgt, if_neg (by rw [hv]; simp)]
theorem Lay.apart (h : Lay Pg n H) {id id' : Int} {A A' : AR} (hA : lk H.ar id = some A) (hA' : lk H.ar id' = some A') {p p' : Int × Int} (hp : p ∈ A.ts) (hp' : p' ∈ A'.ts) : (id = id' ∧ p = p') ∨ Apart2 p p' := by
  by_cases e : id = id'
  · subst e
    rw [hA] at hA'
    cases hA'
    obtain ⟨i, hi, rfl⟩ := List.getElem_of_mem hp
    obtain ⟨j, hj, rfl⟩ := List.getElem_of_mem hp'
    have hpw := List.pairwise_iff_getElem.1 (h.t1 id A hA)
    rcases Nat.lt_trichotomy i j with hij | hij | hij
    · exact .inr (hpw i j hi hj hij)
    · subst hij; exact .inl ⟨rfl, rfl⟩
    · exact .inr ((hpw j i hj hi hij).symm)
  · refine .inr (Classical.byContradiction fun hn => ?_)
    obtain ⟨a0, a1, a2, a3⟩ := h.t2 id A hA p hp
    obtain ⟨b0, b1, b2, b3⟩ := h.t2 id' A' hA' p' hp'
    unfold Apart2 at hn
    have hx1 := a3 (max p.1 p'.1).toNat (by omega) (by omega)
    have hx2 := b3 (max p.1 p'.1).toNat (by omega) (by omega)
    exact e (hx1.symm.trans hx2)

theorem on_same {ms ms' : List Int} {ds : List (List Int)} {a : Int} (hl : ms'.length = ms.length) (hx : ms'.getD (a - 1).toNat 0 = ms.getD (a - 1).toNat 0) : onX ms' a = onX ms a ∧ onE ms' ds a = onE ms ds a ∧ onK ms' ds a = onK ms ds a := by
  have e1 : onX ms' a = onX ms a := hx
  have e2 : onE ms' ds a = onE ms ds a := by unfold onE; rw [e1, hl]
  exact ⟨e1, e2, by unfold onK; rw [e1, e2]⟩
theorem onV_at {ms : List Int} {ds : List (List Int)} {a : Int} (he : onE ms ds a = 0) {i : Nat} (hi : i < (onK ms ds a).length) : (onV ms ds a)[i]?.getD 0 = ms.getD (a.toNat + i) 0 := by
  unfold onV
  rw [if_pos he, List.getElem?_take, if_pos hi, List.getElem?_drop, List.getD_eq_getElem?_getD]
theorem Lay.fineA (h : Lay Pg n H) {id : Int} {A : AR} (hA : lk H.ar id = some A) : FineA A := by
  have hs := h.sz id A hA
  have hp := h.pg
  have hn := h.nn
  rcases h.pl id A hA with ⟨e1, e2⟩ | ⟨e1, e2, e3, e4, _, _⟩
  · exact ⟨by omega, by omega, by omega, by omega, fun _ => e2, by omega, by omega⟩
  · exact ⟨by omega, by omega, e3, e4, fun e => by omega, by omega, by omega⟩
theorem Lay.lives (h : Lay Pg n H) (r : Int) : livesB H r = true ↔ LiveR H r := by
  unfold livesB
  simp only [Bool.and_eq_true, decide_eq_true_eq]
  exact ⟨fun e => e.2, fun e => ⟨(h.lv r e).2, e⟩⟩
end
end Go.Proofs.YtcenagpkfimkbaaGreatDoor
namespace Go.Proofs.YtcenagpkfimkbaaGreatDoor
open Go Go.RowKit

def one (b : Bool) : Int := if b = true then 1 else 0
theorem one_nonneg (b : Bool) : 0 ≤ one b ∧ one b ≤ 1 := by unfold one; split <;> omega
theorem at0_swL {m : IM Int} (hr : Rising m) {a b : Int} (ha0 : 0 ≤ a) (hb0 : 0 ≤ b) (ha : a ≠ 0 → 1 ≤ at0 m a) (hb : at0 m b < 2147483647) (r : Int) (hr1 : r ≠ 0) : at0 (swL m a b) r = at0 m r - one (decide (r = a)) + one (decide (r = b)) := by
  have he : swE m a b = 0 := by
    unfold swE
    rw [if_neg (by omega), if_neg]
    rintro (⟨h1, h2⟩ | ⟨h1, h2, h3⟩)
    · have := ha h1; omega
    · omega
  have hM : ∀ y, y ≠ 0 → at0 (swM m a) y = at0 m y - one (decide (y = a)) := by
    intro y hy
    unfold swM one
    split
    · rw [at0_tSet hr]
      split
      · rename_i e; subst e; simp
      · rename_i e; simp [e]
    · rename_i e
      have : a = 0 := by simpa using e
      subst this
      simp [hy]
  unfold swL
  rw [if_pos he]
  split
  · rename_i h
    rw [at0_tSet (swM_rising hr a)]
    split
    · rename_i e
      subst e
      rw [hM _ h]
      simp [one]
    · rename_i e
      rw [hM _ hr1]
      simp [one, e]
  · rename_i h
    have : b = 0 := by simpa using h
    subst this
    rw [hM _ hr1]
    simp [one, hr1]
theorem taL_rising {m : IM Int} (hr : Rising m) (x n : Int) : Rising (taL m x n) := by
  unfold taL
  split
  · exact tSet_rising hr _ _
  · exact hr
theorem at0_taL {m : IM Int} (hr : Rising m) {x n : Int} (hx : 1 ≤ x) (h0 : 0 ≤ at0 m x + n) (h1 : at0 m x + n ≤ 2147483647) (y : Int) : at0 (taL m x n) y = at0 m y + (if y = x then n else 0) := by
  have he : taE m x n = 0 := by
    unfold taE
    rw [if_neg (by omega), if_neg (by omega)]
  unfold taL
  rw [if_pos he, at0_tSet hr]
  split
  · rename_i e; rw [e]
  · omega
end Go.Proofs.YtcenagpkfimkbaaGreatDoor
namespace Go.Proofs.YtcenagpkfimkbaaGreatDoor
open Go Go.RowKit

theorem mvd_ds (H : HM) (k h o v : Int) : (mvd H k h o v).ds = H.ds := rfl
theorem hsH_ds (H : HM) (M a i v : Int) : (hsH H M a i v).ds = H.ds := by
  unfold hsH
  split
  · show (if isPtr (fkI H a i) = true then mvd H (fkI H a i) (owW H.on H.ow a) (fvI H a i) v else H).ds = H.ds
    split <;> rfl
  · rfl
def delH (H : HM) (r : Int) : HM := if delE H r = 0 then dlH H r (arOf H r) else H
theorem delH_ds (H : HM) (r : Int) : (delH H r).ds = H.ds := by unfold delH; split <;> rfl

section
variable {B : HB} {H : HM} {O0 O1 : Obj} {mb : Nat} {fa : Option Addr} {fc : Nat} {S : Nat → Prop} {w : World} {M : Int}
theorem hSet_any (h : HeapSt B H O0 O1 w S) (hk : SetOk H M) (a i v : Int) (a0 : 0 ≤ a) (a1 : a ≤ 18446744073709551615) (i0 : 0 ≤ i) (i1 : i ≤ 18446744073709551615) (v0 : 0 ≤ v) (v1 : v ≤ 18446744073709551615) :
    Calls Tryz.prog 66 #[.pointer (some ⟨B.hb, 0, none⟩), .int .u64 a, .int .u64 i, .int .u64 v] w fun e w' => e = .returned (.int .i64 (hsE H M a i v)) ∧ ∃ S', HeapSt B (hsH H M a i v) O0 O1 w' S' ∧ Grows S S' w w' := by
  have no : hsE H M a i v ≠ 0 → Calls Tryz.prog 66 #[.pointer (some ⟨B.hb, 0, none⟩), .int .u64 a, .int .u64 i, .int .u64 v] w (fun e w' => e = .returned (.int .i64 (hsE H M a i v)) ∧ Below w.heap.size w w') → Calls Tryz.prog 66 #[.pointer (some ⟨B.hb, 0, none⟩), .int .u64 a, .int .u64 i, .int .u64 v] w (fun e w' => e = .returned (.int .i64 (hsE H M a i v)) ∧ ∃ S', HeapSt B (hsH H M a i v) O0 O1 w' S' ∧ Grows S S' w w') := fun hn hc =>
    hc.mono fun e w' ⟨he, hb⟩ => ⟨he, S, by rw [hsH, if_neg hn]; exact h.later hb, .below hb⟩
  cases hs : hasM H.st a
  · exact no (by rw [hsE, if_pos hs]; decide) (hSetA_any h a i v a0 a1 hs)
  · by_cases hi : i < (onK H.ms H.ds a).length
    · cases hp : isPtr (fkI H a i)
      · exact hSetC_any h hk a i v a0 i0 i1 hs hi hp
      · cases hm : mayP H v
        · exact no (by rw [hsE, if_neg (by rw [hs]; simp), if_neg (by simpa using hi), if_neg (by rw [hp]; simp), if_pos hm]; decide) (hSetD_any h hk a i v a0 i0 i1 v0 v1 hs hi hp hm)
        · by_cases hc : chkE H.par M (fkI H a i) (owW H.on H.ow a) (tgt H v) = 0
          · exact hSetF_any h hk a i v a0 i0 i1 v0 v1 hs hi hp hm hc
          · exact no (by rw [hsE, if_neg (by rw [hs]; simp), if_neg (by simpa using hi), if_neg (by rw [hp]; simp), if_neg (by rw [hm]; simp)]; exact hc) (hSetE_any h hk a i v a0 i0 i1 v0 v1 hs hi hp hm hc)
    · exact no (by rw [hsE, if_neg (by rw [hs]; simp), if_pos hi]; decide) (hSetB_any h hk a i v a0 i0 i1 hs hi)

variable (hM : MSt B H O0 O1 mb fa fc w S)
include hM
theorem doSet (hk : SetOk H M) (a b c : Int) (a0 : 0 ≤ a) (a1 : a ≤ 18446744073709551615) (b0 : 0 ≤ b) (b1 : b ≤ 18446744073709551615) (c0 : 0 ≤ c) (c1 : c ≤ 18446744073709551615) :
    Calls Tryz.prog 11 #[.pointer (some ⟨mb, 0, none⟩), opV 6 a b c] w (DoOut B O0 O1 mb fa fc S (fun v er H' => v = 0 ∧ er = hsE H M a b c ∧ H' = hsH H M a b c) w) := by
  refine (do6_any mb ⟨B.hb, 0, none⟩ a b c w (fun w1 v er w' => GS B O0 O1 S (fun v er H' => v = 0 ∧ er = hsE H M a b c ∧ H' = hsH H M a b c) w1 v er w') S hM.nm hM.lt hM.m0 (fun w1 hb1 => GS.none_ ?_)).mono fun e w' h => do_close hM (fun v er H' h => by rw [h.2.2, hsH_ds]) h
  refine act3_any B O0 O1 S _ ⟨B.hb, 0, none⟩ 6 a b c w1 (fun w2 hb2 => ?_)
  have hh := (HeapSt.ok B H O0 O1).below ((HeapSt.ok B H O0 O1).below hM.h hb1) hb2
  refine (hSet_any hh hk a b c a0 a1 b0 b1 c0 c1).mono ?_
  rintro e w' ⟨rfl, S', hh, hg⟩
  exact ⟨_, rfl, _, S', ⟨rfl, rfl, rfl⟩, hh, hg⟩
theorem doDelete (hF : Fine H) (a b c : Int) (a0 : 0 ≤ a) (a1 : a ≤ 18446744073709551615) (hk : delE H a = 0 → DelOk H a (arOf H a)) :
    Calls Tryz.prog 11 #[.pointer (some ⟨mb, 0, none⟩), opV 3 a b c] w (DoOut B O0 O1 mb fa fc S (fun v er H' => v = 0 ∧ er = delE H a ∧ H' = delH H a) w) := by
  refine (do3_any mb ⟨B.hb, 0, none⟩ a b c w (fun w1 v er w' => GS B O0 O1 S (fun v er H' => v = 0 ∧ er = delE H a ∧ H' = delH H a) w1 v er w') S hM.nm hM.lt hM.m0 (fun w1 hb1 => GS.none_ ?_)).mono fun e w' h => do_close hM (fun v er H' h => by rw [h.2.2, delH_ds]) h
  refine act2_any B O0 O1 S _ ⟨B.hb, 0, none⟩ 3 a b c w1 (fun w2 hb2 => ?_)
  have hh := (HeapSt.ok B H O0 O1).below ((HeapSt.ok B H O0 O1).below hM.h hb1) hb2
  by_cases hd : delE H a = 0
  · refine (hDelGo_any hh a a0 a1 (hk hd) hd).mono ?_
    rintro e w' ⟨rfl, S', hh, hg⟩
    exact ⟨_, rfl, _, S', ⟨rfl, hd.symm, by rw [delH, if_pos hd]⟩, hh, hg⟩
  · refine (hDelBad_any hh hF a a0 a1 hd).mono ?_
    rintro e w' ⟨rfl, hb⟩
    exact ⟨_, rfl, GS.of_below hh hb ⟨rfl, rfl, by rw [delH, if_neg hd]⟩⟩
end
end Go.Proofs.YtcenagpkfimkbaaGreatDoor
