/-
  Contracts of functions of the program, laid together.
-/
import Derived.Test.YtcenagpkfimkbaaGreatDoorTopSlotsM12
import Derived.Test.YtcenagpkfimkbaaGreatDoorTopSlotsM21
import Derived.Test.YtcenagpkfimkbaaGreatDoorTopSlotsM25
import Derived.Test.YtcenagpkfimkbaaGreatDoorTopSlotsM27
import Derived.Test.YtcenagpkfimkbaaGreatDoorTopSlotsM28
import Derived.Test.YtcenagpkfimkbaaGreatDoorTopSlotsM29
import Derived.Test.YtcenagpkfimkbaaGreatDoorTopSlotsM30
import Derived.Deep.AppendLies
import Derived.Deep.RegionLaw
namespace Go.Proofs.YtcenagpkfimkbaaGreatDoor
open Go Go.RowKit
attribute [local go_sem ↓] Go.wp_at_zero Go.wp_at_succ

theorem onV_length (xs : List Int) (ds : List (List Int)) (a : Int) : (onV xs ds a).length = (onK xs ds a).length := by
  by_cases h : onE xs ds a = 0
  · have h2 := h
    unfold onE at h2
    split at h2
    · rename_i h3
      split at h2
      · split at h2
        · split at h2
          · rename_i h4 h5 h6
            rw [onV, if_pos h, List.length_take, List.length_drop]
            rw [onK, if_pos h]
            omega
          · cases h2
        · rename_i h4 h5; exact absurd h2 h5
      · cases h2
    · cases h2
  · rw [onV, onK, if_neg h, if_neg h]
theorem onV_mem {xs : List Int} {ds : List (List Int)} {a x : Int} (h : x ∈ onV xs ds a) : x ∈ xs := by
  unfold onV at h
  split at h
  · exact List.mem_of_mem_drop (List.mem_of_mem_take h)
  · cases h
theorem onK_fits {xs : List Int} {ds : List (List Int)} {a : Int} (h : onE xs ds a = 0) : 1 ≤ a ∧ a + (onK xs ds a).length ≤ xs.length := by
  have h2 := h
  unfold onE at h2
  split at h2
  · rename_i h3
    split at h2
    · split at h2
      · split at h2
        · rename_i h4 h5 h6
          rw [onK, if_pos h]
          exact ⟨h3.1, h6⟩
        · cases h2
      · rename_i h4 h5; exact absurd h2 h5
    · cases h2
  · cases h2

theorem owW_le {H : HM} (hF : Fine H) (v : Int) : 0 ≤ owW H.on H.ow v ∧ owW H.on H.ow v ≤ 1000000 := by
  unfold owW
  split
  · omega
  · unfold owP
    split
    · exact hF.ob _
    · omega
def fkI (H : HM) (a i : Int) : Int := kiV (onK H.ms H.ds a) i
def fvI (H : HM) (a i : Int) : Int := ((onV H.ms H.ds a)[i.toNat]?).getD 0
def hsE (H : HM) (M a i v : Int) : Int :=
  if hasM H.st a = false then 9 else if ¬ i < (onK H.ms H.ds a).length then 8 else if isPtr (fkI H a i) = false then 0 else if mayP H v = false then 9 else chkE H.par M (fkI H a i) (owW H.on H.ow a) (tgt H v)
def hsH (H : HM) (M a i v : Int) : HM :=
  if hsE H M a i v = 0 then { (if isPtr (fkI H a i) = true then mvd H (fkI H a i) (owW H.on H.ow a) (fvI H a i) v else H) with ms := H.ms.set (a + i).toNat v } else H

structure SetOk (H : HM) (M : Int) : Prop where
  f : Fine H
  dd : ∀ d ∈ H.ds, d.length ≤ 100
  dl : H.ds.length ≤ 1000
  ms : ∀ v ∈ H.ms, 0 ≤ v ∧ v < 18446744073709551616
  ml : H.ms.length ≤ 1000000
  kl : ∀ v, (onK H.ms H.ds v).length ≤ 4000
  sm : ∀ v, hasM H.st v = true → v ≤ 1000000
  on : ∀ v, hasM H.st v = true → onE H.ms H.ds v = 0
  dn : Downs H.par M
  wk : ∀ id, (wkL H.par M id).length ≤ 1000000

section
variable {B : HB} {H : HM} {O0 O1 : Obj} {w : World} {S : Nat → Prop} {M : Int}
set_option maxRecDepth 100000 in
set_option maxHeartbeats 4000000 in
theorem hSetA_any (h : HeapSt B H O0 O1 w S) (a i v : Int) (a0 : 0 ≤ a) (a1 : a ≤ 18446744073709551615) (hs : hasM H.st a = false) :
    Calls Tryz.prog 66 #[.pointer (some ⟨B.hb, 0, none⟩), .int .u64 a, .int .u64 i, .int .u64 v] w fun e w' => e = .returned (.int .i64 (hsE H M a i v)) ∧ Below w.heap.size w w' := by
  have hO := hobjectNo_any h a a0 a1 hs
  have e1 : Hid (hsE H M a i v = 9) := Lib.hid (by rw [hsE, if_pos hs])
  clear h hs
  go_enter Tryz.func66, Tryz.ntmps66
  go_wp2_with fail
  refine hO.mono ?_
  rintro e w1 ⟨rfl, hb⟩
  have HB := Lib.hid hb
  clear hO hb
  go_wp2
  go_ret
  exact ⟨by rw [e1.out]; rfl, HB.out.alloc HB.out.size _⟩

structure ObjBox (H : HM) (B : HB) (O0 O1 : Obj) (S : Nat → Prop) (w : World) (b : Nat) (a : Int) (y1 y2 : Option Addr) (d1 d2 : Nat) (W : World) : Prop where
  bl : Below w.heap.size w W
  h : HeapSt B H O0 O1 W S
  o : W.heap[b]? = some (.cells #[.int .i64 (onI H.ms H.ds a a), .int .i64 (owW H.on H.ow a), .bool (onA H.ms H.ds a), .int .i64 (onI H.ms H.ds a (gK (onX H.ms a))), .int .i64 (onI H.ms H.ds a (gT (onX H.ms a))), .int .i64 (onI H.ms H.ds a (gN (onX H.ms a))), .slice y1 (onK H.ms H.ds a).length d1, .slice y2 (onV H.ms H.ds a).length d2] 104 (0, 0))
  r1 : Reads .i64 W y1 (onK H.ms H.ds a)
  r2 : Reads .u64 W y2 (onV H.ms H.ds a)
  n1 : onK H.ms H.ds a = [] ∨ ∀ p, y1 = some p → w.heap.size ≤ p.block
  n2 : onV H.ms H.ds a = [] ∨ ∀ p, y2 = some p → w.heap.size ≤ p.block
  bn : w.heap.size ≤ b
theorem ObjBox.mk_ {a : Int} {y1 y2 : Option Addr} {d1 d2 : Nat} {w1 : World} (h : HeapSt B H O0 O1 w S) (hb : Below w.heap.size w w1) (r1 : Reads .i64 w1 y1 (onK H.ms H.ds a)) (r2 : Reads .u64 w1 y2 (onV H.ms H.ds a)) (n1 : onK H.ms H.ds a = [] ∨ ∀ p, y1 = some p → w.heap.size ≤ p.block) (n2 : onV H.ms H.ds a = [] ∨ ∀ p, y2 = some p → w.heap.size ≤ p.block) :
    ObjBox H B O0 O1 S w w1.heap.size a y1 y2 d1 d2 (w1.alloc (.cells #[.int .i64 (onI H.ms H.ds a a), .int .i64 (owW H.on H.ow a), .bool (onA H.ms H.ds a), .int .i64 (onI H.ms H.ds a (gK (onX H.ms a))), .int .i64 (onI H.ms H.ds a (gT (onX H.ms a))), .int .i64 (onI H.ms H.ds a (gN (onX H.ms a))), .slice y1 (onK H.ms H.ds a).length d1, .slice y2 (onV H.ms H.ds a).length d2] 104)) := by
  have hbW : Below w1.heap.size w1 (w1.alloc (.cells #[.int .i64 (onI H.ms H.ds a a), .int .i64 (owW H.on H.ow a), .bool (onA H.ms H.ds a), .int .i64 (onI H.ms H.ds a (gK (onX H.ms a))), .int .i64 (onI H.ms H.ds a (gT (onX H.ms a))), .int .i64 (onI H.ms H.ds a (gN (onX H.ms a))), .slice y1 (onK H.ms H.ds a).length d1, .slice y2 (onV H.ms H.ds a).length d2] 104)) := (Below.refl _ _).alloc (Nat.le_refl _) _
  have hbw := hb.trans (hbW.mono hb.size)
  exact ⟨hbw, h.later hbw, heap_alloc_eq _ _, r1.below hbW, r2.below hbW, n1, n2, hb.size⟩
theorem ObjBox.later {b : Nat} {a : Int} {y1 y2 : Option Addr} {d1 d2 : Nat} {W W' : World} (h : ObjBox H B O0 O1 S w b a y1 y2 d1 d2 W) (hb : Below W.heap.size W W') : ObjBox H B O0 O1 S w b a y1 y2 d1 d2 W' :=
  ⟨h.bl.trans (hb.mono h.bl.size), h.h.later hb, heap_below hb h.o (heap_lt h.o), h.r1.below hb, h.r2.below hb, h.n1, h.n2, h.bn⟩

set_option maxRecDepth 100000 in
set_option maxHeartbeats 4000000 in
theorem hSetB_any (h : HeapSt B H O0 O1 w S) (hk : SetOk H M) (a i v : Int) (a0 : 0 ≤ a) (i0 : 0 ≤ i) (i1 : i ≤ 18446744073709551615) (hs : hasM H.st a = true) (hi : ¬ i < (onK H.ms H.ds a).length) :
    Calls Tryz.prog 66 #[.pointer (some ⟨B.hb, 0, none⟩), .int .u64 a, .int .u64 i, .int .u64 v] w fun e w' => e = .returned (.int .i64 (hsE H M a i v)) ∧ Below w.heap.size w w' := by
  have hO := hobjectYes_any h hk.dd hk.dl hk.ms a a0 (hk.sm a hs) hs
  have e1 : Hid (hsE H M a i v = 8) := Lib.hid (by rw [hsE, if_neg (by rw [hs]; simp), if_pos hi])
  have hkl := hk.kl a
  have ea : atE (onK H.ms H.ds a).length i = 8 := by rw [atE, if_neg (by simpa [atB] using hi)]
  have HH := Lib.hid (And.intro h (And.intro hkl ea))
  clear h hs hk hi hkl ea
  go_enter Tryz.func66, Tryz.ntmps66
  go_wp2_with fail
  refine hO.mono ?_
  rintro e w1 ⟨y1, y2, d1, d2, rfl, hb, r1, r2, n1, n2⟩
  have hB := ObjBox.mk_ (d1 := d1) (d2 := d2) HH.out.1 hb r1 r2 n1 n2
  obtain ⟨W, hW⟩ : ∃ W, w1.alloc (.cells #[.int .i64 (onI H.ms H.ds a a), .int .i64 (owW H.on H.ow a), .bool (onA H.ms H.ds a), .int .i64 (onI H.ms H.ds a (gK (onX H.ms a))), .int .i64 (onI H.ms H.ds a (gT (onX H.ms a))), .int .i64 (onI H.ms H.ds a (gN (onX H.ms a))), .slice y1 (onK H.ms H.ds a).length d1, .slice y2 (onV H.ms H.ds a).length d2] 104) = W := ⟨_, rfl⟩
  rw [hW] at hB
  have z0 := heap_cell hB.o 0
  have z1 := heap_cell hB.o 1
  have z2 := heap_cell hB.o 2
  have z3 := heap_cell hB.o 3
  have z4 := heap_cell hB.o 4
  have z5 := heap_cell hB.o 5
  have z6 := heap_cell hB.o 6
  have z7 := heap_cell hB.o 7
  simp at z0 z1 z2 z3 z4 z5 z6 z7
  have hA := At_any (onI H.ms H.ds a a) (owW H.on H.ow a) (onI H.ms H.ds a (gK (onX H.ms a))) (onI H.ms H.ds a (gT (onX H.ms a))) (onI H.ms H.ds a (gN (onX H.ms a))) (onA H.ms H.ds a) y1 (onK H.ms H.ds a) d1 y2 (onV H.ms H.ds a).length d2 i W hB.r1 HH.out.2.1 i0 i1
  rw [HH.out.2.2] at hA
  have HB := Lib.hid hB.bl
  clear hO hb r1 r2 n1 n2 hB
  go_wp2_with fail
  try rw [hW]
  go_wp2_with fail
  refine hA.mono ?_
  rintro e w2 ⟨rfl, hb2⟩
  have H2 := Lib.hid (HB.out.trans (hb2.mono HB.out.size))
  clear hA hb2
  go_wp2
  go_ret
  exact ⟨by rw [e1.out]; rfl, H2.out⟩
end
end Go.Proofs.YtcenagpkfimkbaaGreatDoor
namespace Go.Proofs.YtcenagpkfimkbaaGreatDoor
open Go Go.RowKit

def atM (L : List (Int × Int)) : IM Int := L.foldl (fun m p => mput m p.1 p.2) []
theorem atM_snoc (L : List (Int × Int)) (p : Int × Int) : atM (L ++ [p]) = mput (atM L) p.1 p.2 := by simp [atM]
theorem atM_length (L : List (Int × Int)) : (atM L).length ≤ L.length := by
  suffices h : ∀ (L : List (Int × Int)) (m : IM Int), (L.foldl (fun m p => mput m p.1 p.2) m).length ≤ m.length + L.length by simpa [atM] using h L []
  intro L
  induction L with
  | nil => intro m; simp
  | cons p r ih =>
    intro m
    refine Nat.le_trans (ih _) ?_
    have := mput_length m p.1 p.2
    simp
    omega
def upW (P : IM Int) (to : Int) : Nat → Int → Int
  | 0, x => x
  | f + 1, x => if x = 0 ∨ x = to then x else upW P to f (at0 P x)
theorem upW_zero (P : IM Int) (to : Int) (f : Nat) : upW P to f 0 = 0 := by
  cases f <;> simp [upW]
theorem upW_fuel {P : IM Int} (hP : ∀ x, 0 < x → 0 ≤ at0 P x ∧ at0 P x < x) (to : Int) : ∀ (f g : Nat) (x : Int), 0 ≤ x → x.toNat ≤ f → x.toNat ≤ g → upW P to f x = upW P to g x
  | 0, g, x, h0, hf, _ => by
    have : x = 0 := by omega
    subst this
    rw [upW_zero, upW_zero]
  | f + 1, 0, x, h0, _, hg => by
    have : x = 0 := by omega
    subst this
    rw [upW_zero, upW_zero]
  | f + 1, g + 1, x, h0, hf, hg => by
    unfold upW
    by_cases e : x = 0 ∨ x = to
    · rw [if_pos e, if_pos e]
    · rw [if_neg e, if_neg e]
      have := hP x (by omega)
      exact upW_fuel hP to f g _ this.1 (by omega) (by omega)
def upV (P : IM Int) (to x : Int) : Int := upW P to x.toNat x
theorem upV_stop (P : IM Int) (to x : Int) (h : x = 0 ∨ x = to) : upV P to x = x := by
  unfold upV
  cases x.toNat with
  | zero => rfl
  | succ n => simp [upW, h]
theorem upV_step {P : IM Int} (hP : ∀ x, 0 < x → 0 ≤ at0 P x ∧ at0 P x < x) (to x : Int) (h0 : 0 ≤ x) (h : ¬ (x = 0 ∨ x = to)) : upV P to x = upV P to (at0 P x) := by
  have hx := hP x (by omega)
  unfold upV
  obtain ⟨n, hn⟩ : ∃ n, x.toNat = n + 1 := ⟨x.toNat - 1, by omega⟩
  rw [hn, upW, if_neg h]
  exact upW_fuel hP to _ _ _ hx.1 (by omega) (Nat.le_refl _)
def FieldOk (P m : IM Int) (id k v : Int) : Prop := k = 0 ∨ v = 0 ∨ (at0 m v ≠ 0 ∧ (k = 2 → at0 m v = id) ∧ (k = 3 → upV P (at0 m v) id ≠ 0))
structure SoundOk (ms : List Int) (ds : List (List Int)) (L : List (Int × Int)) (roots : List Int) (P : IM Int) : Prop where
  at_ : ∀ p ∈ L, onI ms ds p.1 p.1 = p.1 ∧ 1 ≤ p.1 ∧ p.1 ≤ 100000 ∧ 1 ≤ p.2 ∧ p.2 ≤ 1000000
  new : ∀ (j : Nat) p, L[j]? = some p → at0 (atM (L.take j)) p.1 = 0
  fld : ∀ p ∈ L, ∀ (i : Nat), i < (onK ms ds p.1).length → FieldOk P (atM L) p.2 ((onK ms ds p.1)[i]?.getD 0) ((onV ms ds p.1)[i]?.getD 0)
  rts : ∀ v ∈ roots, v ≠ 0 → at0 (atM L) v ≠ 0
  vs : ∀ v ∈ ms, 0 ≤ v ∧ v < 18446744073709551616
  rs : ∀ v ∈ roots, 0 ≤ v ∧ v < 18446744073709551616
  par : ∀ x, 0 < x → 0 ≤ at0 P x ∧ at0 P x < x
  kl : ∀ a, (onK ms ds a).length ≤ 100000
  ll : L.length ≤ 100000
  rl : roots.length ≤ 100000

theorem wfU {x : Int} (h0 : 0 ≤ x) (h1 : x < 18446744073709551616) : (Lit.int .u64 x).wf = true := by
  simp [Lit.wf, IntKind.min, IntKind.max, IntKind.bits, IntKind.signed]
  omega
abbrev UMapAt (w : World) (b : Nat) (m : IM Int) : Prop := MapAt .u64 34 w b (mapV (Value.int .i64) m)
theorem look_u {w : World} {mb : Nat} {m : IM Int} (h : UMapAt w mb m) (x : Int) (h0 : 0 ≤ x) (h1 : x < 18446744073709551616) :
    (Instr.lookup 45 (.map (some mb)) (.int .u64 x) false).run Tryz.prog w = .ok (.int .i64 (at0 m x)) w := by
  have hl := h.lookup Tryz.underlying34 Tryz.underlying45 (zero_int w) x (wfU h0 h1)
  rw [lk_mapV] at hl
  rw [hl, at0]
  cases lk m x <;> rfl
theorem store_u {w : World} {mb : Nat} {m : IM Int} (h : UMapAt w mb m) (hl : m.length ≤ 1000000) (x v : Int) (h0 : 0 ≤ x) (h1 : x < 18446744073709551616) :
    ∃ w', (Instr.mapUpdate 45 (.map (some mb)) (.int .u64 x) (.int .i64 v)).run Tryz.prog w = .ok () w' ∧ UMapAt w' mb (mput m x v) ∧ w.mapTurned w' mb := by
  obtain ⟨w', hr, hm, ht⟩ := h.store Tryz.underlying34 Tryz.underlying45 (by rw [mapV_length]; unfold maxLen; omega) x (.int .i64 v) (wfU h0 h1)
  exact ⟨w', hr, by unfold UMapAt; rw [← mput_mapV]; exact hm, ht⟩

set_option maxRecDepth 100000 in
set_option maxHeartbeats 4000000 in
theorem sound_any {ms : List Int} {ds : List (List Int)} {L : List (Int × Int)} {w : World} {va : Value} {ga ca : Nat} {aa : Option Addr} (ha : ObjSl ms ds L w va ga ca aa) {roots : List Int} {ra : Option Addr} {rc : Nat} (hr : Reads .u64 w ra roots) {pb : Nat} {P : IM Int} (hP : MapAt .i64 3 w pb (mapV (Value.int .i64) P)) (hS : SoundOk ms ds L roots P) :
    Calls Tryz.prog 16 #[va, .slice ra roots.length rc, .map (some pb)] w fun e w' => e = .returned (.bool true) ∧ Below w.heap.size w w' := by
  have HA := Lib.hid ha
  obtain rfl := ha.v
  have HR := Lib.hid (And.intro hr (And.intro hP hS))
  have hll := hS.ll
  have hrl := hS.rl
  have hmm := @run_makeMap Tryz.prog
  obtain ⟨N, hN⟩ : ∃ N, L.length = N := ⟨_, rfl⟩
  obtain ⟨M, hM⟩ : ∃ M, roots.length = M := ⟨_, rfl⟩
  have HN := Lib.hid (And.intro hN hM)
  rw [hN] at hll ⊢
  rw [hM] at hrl ⊢
  clear hN hM ha hr hP hS
  go_enter Tryz.func16, Tryz.ntmps16
  go_wp2
  go_loopw [22] (fun i wr => ∃ j : Nat, j ≤ N ∧ i = .int .i64 j ∧ Hid (Below w.heap.size w wr ∧ UMapAt wr w.heap.size (atM (L.take j)))) (fun i _ => N - (intOf i).toNat)
  case atStart => exact ⟨0, Nat.zero_le _, rfl, Lib.hid ⟨(Below.refl _ _).alloc (Nat.le_refl _) _, by exact MapAt.made w⟩⟩
  case round =>
    obtain ⟨j, hj, rfl, HV⟩ := hrel
    by_cases hlt : j < N
    · obtain ⟨⟨a, id⟩, hx⟩ : ∃ x, L[j]? = some x := ⟨_, List.getElem?_eq_getElem (by rw [HN.out.1]; exact hlt)⟩
      have hne : L ≠ [] := fun e => by rw [e] at hx; simp at hx
      obtain ⟨y1, y2, c1, c2, h0, h1, h2, h3, h4, h5, h6, h7, r1, r2⟩ := (HA.out.below HV.out.1).row j a id hx
      obtain rfl := HA.out.nn hne
      have hat := HR.out.2.2.at_ (a, id) (List.mem_of_getElem? hx)
      have hnew := HR.out.2.2.new j _ hx
      obtain ⟨e1, e2, e3, e4, e5⟩ := hat
      rw [e1] at h0
      obtain ⟨v2, hv2⟩ : ∃ x, onA ms ds a = x := ⟨_, rfl⟩
      obtain ⟨v3, hv3⟩ : ∃ x, onI ms ds a (gK (onX ms a)) = x := ⟨_, rfl⟩
      obtain ⟨v4, hv4⟩ : ∃ x, onI ms ds a (gT (onX ms a)) = x := ⟨_, rfl⟩
      obtain ⟨v5, hv5⟩ : ∃ x, onI ms ds a (gN (onX ms a)) = x := ⟨_, rfl⟩
      obtain ⟨v6, hv6⟩ : ∃ x, (onK ms ds a).length = x := ⟨_, rfl⟩
      obtain ⟨v7, hv7⟩ : ∃ x, (onV ms ds a).length = x := ⟨_, rfl⟩
      rw [hv2] at h2
      rw [hv3] at h3
      rw [hv4] at h4
      rw [hv5] at h5
      rw [hv6] at h6
      rw [hv7] at h7
      have HX := Lib.hid (And.intro hx hnew)
      have hba : Below wr.heap.size wr (wr.alloc (.cells #[.int .i64 a, .int .i64 id, .bool v2, .int .i64 v3, .int .i64 v4, .int .i64 v5, .slice y1 v6 c1, .slice y2 v7 c2] 104)) := (Below.refl _ _).alloc (Nat.le_refl _) _
      have hlk := look_u (HV.out.2.later hba) a (by omega) (by omega)
      rw [hnew] at hlk
      have hml := atM_length (L.take j)
      rw [List.length_take] at hml
      obtain ⟨w2, hst, hm2, ht2⟩ := store_u (HV.out.2.later hba) (by omega) a id (by omega) (by omega)
      have hb2 : Below w.heap.size w w2 := Moved.below (HV.out.1.trans (hba.mono HV.out.1.size)) (Moved.turned ht2) (Nat.le_trans HV.out.1.size hba.size) (fun q e => by omega)
      have H2 := Lib.hid (And.intro hb2 hm2)
      have y1' : (decide (id < 1)) = false := by simp; omega
      clear hv2 hv3 hv4 hv5 hv6 hv7 r1 r2 hx hnew hba hml hm2 ht2 hb2
      go_wp2
      go_roundw
      case rel =>
        refine ⟨j + 1, by omega, by go_num, Lib.hid ⟨H2.out.1, ?_⟩⟩
        rw [List.take_add_one, HX.out.1]
        rw [Option.toList_some, atM_snoc]
        exact H2.out.2
      case measure => simp [intOf]; omega
    · obtain rfl : j = N := by omega
      have H0 : Hid (Below w.heap.size w wr ∧ UMapAt wr w.heap.size (atM L)) := Lib.hid ⟨HV.out.1, by have := HV.out.2; rw [← HN.out.1, List.take_length] at this; exact this⟩
      clear hj hlt HV
      go_wp2
      go_loopw [46] (fun i wr => ∃ q : Nat, q ≤ j ∧ i = .int .i64 q ∧ Hid (Below w.heap.size w wr ∧ UMapAt wr w.heap.size (atM L))) (fun i _ => j - (intOf i).toNat)
      case atStart => exact ⟨0, Nat.zero_le _, rfl, H0⟩
      case round =>
        obtain ⟨q, hq, rfl, HV⟩ := hrel
        by_cases hlt : q < j
        · obtain ⟨⟨a, id⟩, hx⟩ : ∃ x, L[q]? = some x := ⟨_, List.getElem?_eq_getElem (by rw [HN.out.1]; exact hlt)⟩
          have hne : L ≠ [] := fun e => by rw [e] at hx; simp at hx
          obtain ⟨y1, y2, c1, c2, h0, h1, h2, h3, h4, h5, h6, h7, r1, r2⟩ := (HA.out.below HV.out.1).row q a id hx
          obtain rfl := HA.out.nn hne
          have hmem := List.mem_of_getElem? hx
          obtain ⟨e1, e2, e3, e4, e5⟩ := HR.out.2.2.at_ (a, id) hmem
          have hfld := HR.out.2.2.fld (a, id) hmem
          have hkl := HR.out.2.2.kl a
          rw [e1] at h0
          obtain ⟨v2, hv2⟩ : ∃ x, onA ms ds a = x := ⟨_, rfl⟩
          obtain ⟨v3, hv3⟩ : ∃ x, onI ms ds a (gK (onX ms a)) = x := ⟨_, rfl⟩
          obtain ⟨v4, hv4⟩ : ∃ x, onI ms ds a (gT (onX ms a)) = x := ⟨_, rfl⟩
          obtain ⟨v5, hv5⟩ : ∃ x, onI ms ds a (gN (onX ms a)) = x := ⟨_, rfl⟩
          obtain ⟨K, hv6⟩ : ∃ x, (onK ms ds a).length = x := ⟨_, rfl⟩
          rw [hv2] at h2
          rw [hv3] at h3
          rw [hv4] at h4
          rw [hv5] at h5
          rw [hv6] at h6 hkl
          rw [onV_length, hv6] at h7
          obtain ⟨W1, hW1⟩ : ∃ W1, wr.alloc (.cells #[.int .i64 a, .int .i64 id, .bool v2, .int .i64 v3, .int .i64 v4, .int .i64 v5, .slice y1 K c1, .slice y2 K c2] 104) = W1 := ⟨_, rfl⟩
          have hb1 : Below wr.heap.size wr W1 := by rw [← hW1]; exact (Below.refl _ _).alloc (Nat.le_refl _) _
          have o1 : W1.heap[wr.heap.size]? = some (.cells #[.int .i64 a, .int .i64 id, .bool v2, .int .i64 v3, .int .i64 v4, .int .i64 v5, .slice y1 K c1, .slice y2 K c2] 104 (0, 0)) := by rw [← hW1]; exact heap_alloc_eq _ _
          have z1 := heap_cell o1 1
          have z6 := heap_cell o1 6
          have z7 := heap_cell o1 7
          simp at z1 z6 z7
          have H1 := Lib.hid (And.intro (HV.out.1.trans (hb1.mono HV.out.1.size)) (And.intro (HV.out.2.later hb1) (And.intro o1 (And.intro (r1.below hb1) (And.intro (r2.below hb1) (And.intro hv6 (And.intro hfld hmem)))))))
          clear hv2 hv3 hv4 hv5 hv6 r1 r2 hx hb1 o1 hfld hmem
          go_wp2_with fail
          try rw [hW1]
          go_wp2
          clear hW1 h0 h1 h2 h3 h4 h5 h6 h7
          go_loopw [53] (fun i wr => ∃ t : Nat, t ≤ K ∧ i = .int .i64 t ∧ Hid (Below W1.heap.size W1 wr)) (fun i _ => K - (intOf i).toNat)
          case atStart => exact ⟨0, Nat.zero_le _, rfl, Lib.hid (Below.refl _ _)⟩
          case round =>
            obtain ⟨t, ht, rfl, HW⟩ := hrel
            by_cases hlt2 : t < K
            · obtain ⟨b1, p1, rfl, q1⟩ := (H1.out.2.2.2.1.below HW.out).at_ t (by rw [H1.out.2.2.2.2.2.1]; exact hlt2)
              obtain ⟨b2, p2, rfl, q2⟩ := (H1.out.2.2.2.2.1.below HW.out).at_ t (by rw [onV_length, H1.out.2.2.2.2.2.1]; exact hlt2)
              have hf := H1.out.2.2.2.2.2.2.1 t (by rw [H1.out.2.2.2.2.2.1]; exact hlt2)
              obtain ⟨kk, hkk⟩ : ∃ x, (onK ms ds a)[t]?.getD 0 = x := ⟨_, rfl⟩
              obtain ⟨vv, hvv⟩ : ∃ x, (onV ms ds a)[t]?.getD 0 = x := ⟨_, rfl⟩
              have hvr : 0 ≤ vv ∧ vv < 18446744073709551616 := by
                have hl : t < (onV ms ds a).length := by rw [onV_length, H1.out.2.2.2.2.2.1]; exact hlt2
                refine HR.out.2.2.vs vv (onV_mem (a := a) (ds := ds) ?_)
                rw [← hvv, List.getElem?_eq_getElem hl]
                exact List.getElem_mem hl
              simp only [hkk, hvv] at q1 q2 hf
              have k1 := (Moved.of_below HW.out (fun _ => False)).cell z1 (fun h => h)
              have k7 := (Moved.of_below HW.out (fun _ => False)).cell z7 (fun h => h)
              have hlk := look_u (H1.out.2.1.later HW.out) vv hvr.1 hvr.2
              unfold FieldOk at hf
              obtain ⟨to, hto⟩ : ∃ to, at0 (atM L) vv = to := ⟨_, rfl⟩
              rw [hto] at hlk hf
              have HF := Lib.hid hf
              clear hkk hvv hvr hto hf z1 z6 z7
              by_cases hk0 : kk = 0
              · subst hk0
                go_wp2
                go_roundw
                case rel => exact ⟨t + 1, by omega, by go_num, HW⟩
                case measure => simp [intOf]; omega
              have y0 : (kk == 0) = false := by simpa using hk0
              by_cases hv0 : vv = 0
              · subst hv0
                clear hk0
                go_wp2
                go_roundw
                case rel => exact ⟨t + 1, by omega, by go_num, HW⟩
                case measure => simp [intOf]; omega
              have y1 : (vv == 0) = false := by simpa using hv0
              obtain ⟨f1, f2, f3⟩ := (HF.out.resolve_left hk0).resolve_left hv0
              have HG := Lib.hid (And.intro f1 (And.intro f2 f3))
              clear hk0 hv0 f1 f2 f3 HF
              go_wp2
              go_loopw [16] (fun o wr2 => ∃ up : Int, 0 ≤ up ∧ up ≤ 1000000 ∧ o = .int .i64 up ∧ upV P to up = upV P to id ∧ wr2 = wr) (fun o _ => (intOf o).toNat)
              case atStart => exact ⟨id, by omega, by omega, rfl, rfl, rfl⟩
              case round =>
                obtain ⟨up, hu0, hu1, rfl, hue, rfl⟩ := hrel
                have HPt := (HR.out.2.1.later H1.out.1).later HW.out
                have yt : (to == 0) = false := by simpa using HG.out.1
                have hP2 := HR.out.2.2.par
                have HW2 := Lib.hid (And.intro hu0 (And.intro hu1 (And.intro hue (And.intro HPt hP2))))
                clear HPt hP2
                by_cases hz : up = 0
                · subst hz
                  have k3 : ¬ kk = 3 := fun e => HG.out.2.2 e (by rw [← hue, upV_stop _ _ _ (.inl rfl)])
                  have y3 : (kk == 3) = false := by simpa using k3
                  clear hue hu0 hu1 k3
                  by_cases k2 : kk = 2
                  · obtain rfl := HG.out.2.1 k2
                    subst k2
                    go_wp2
                    exact ⟨⟨t + 1, by omega, by go_num, HW⟩, by simp [intOf]; omega⟩
                  · have y2 : (kk == 2) = false := by simpa using k2
                    clear k2
                    go_wp2
                    exact ⟨⟨t + 1, by omega, by go_num, HW⟩, by simp [intOf]; omega⟩
                · have yz : (up == 0) = false := by simpa using hz
                  have yz2 : (up != 0) = true := by simpa using hz
                  by_cases hut : up = to
                  · subst hut
                    clear hue hu0 hu1 hz
                    by_cases k2 : kk = 2
                    · obtain rfl := HG.out.2.1 k2
                      subst k2
                      go_wp2
                      exact ⟨⟨t + 1, by omega, by go_num, HW⟩, by simp [intOf]; omega⟩
                    · have y2 : (kk == 2) = false := by simpa using k2
                      clear k2
                      by_cases k3 : kk = 3
                      · subst k3
                        go_wp2
                        exact ⟨⟨t + 1, by omega, by go_num, HW⟩, by simp [intOf]; omega⟩
                      · have y3 : (kk == 3) = false := by simpa using k3
                        clear k3
                        go_wp2
                        exact ⟨⟨t + 1, by omega, by go_num, HW⟩, by simp [intOf]; omega⟩
                  · have yt2 : (up != to) = true := by simpa using hut
                    have hpr := HW2.out.2.2.2.2 up (by omega)
                    have hlp := look_int HW2.out.2.2.2.1 up (by omega) (by omega)
                    have hst := upV_step HW2.out.2.2.2.2 to up hu0 (by omega)
                    obtain ⟨pp, hpp⟩ : ∃ pp, at0 P up = pp := ⟨_, rfl⟩
                    rw [hpp] at hlp hst hpr
                    have HQ := Lib.hid (And.intro hst (And.intro hpr hz))
                    clear hst hpr hz hpp hut hue
                    go_wp2
                    go_roundw
                    case rel => exact ⟨pp, HQ.out.2.1.1, by have := HQ.out.2.1; omega, rfl, by rw [← HQ.out.1]; exact HW2.out.2.2.1, by trivial⟩
                    case measure => have := HQ.out.2.1; simp [intOf]; omega
            · obtain rfl : t = K := by omega
              have HN2 := Lib.hid (And.intro (H1.out.1.trans (HW.out.mono H1.out.1.size)) (H1.out.2.1.later HW.out))
              go_wp2
              exact ⟨⟨q + 1, by omega, by go_num, HN2⟩, by simp [intOf]; omega⟩
        · obtain rfl : q = j := by omega
          clear hq hlt H0
          go_wp2
          go_loopw [108] (fun i wr => ∃ q : Nat, q ≤ M ∧ i = .int .i64 q ∧ Hid (Below w.heap.size w wr ∧ UMapAt wr w.heap.size (atM L))) (fun i _ => M - (intOf i).toNat)
          case atStart => exact ⟨0, Nat.zero_le _, rfl, HV⟩
          case round =>
            obtain ⟨t, ht, rfl, HW⟩ := hrel
            by_cases hlt : t < M
            · obtain ⟨b1, p1, rfl, q1⟩ := (HR.out.1.below HW.out.1).at_ t (by rw [HN.out.2]; exact hlt)
              obtain ⟨vv, hvv⟩ : ∃ x, roots[t]?.getD 0 = x := ⟨_, rfl⟩
              have hmem : vv ∈ roots := by
                rw [← hvv, List.getElem?_eq_getElem (by rw [HN.out.2]; exact hlt)]
                exact List.getElem_mem _
              rw [hvv] at q1
              have hvr := HR.out.2.2.rs vv hmem
              have hro := HR.out.2.2.rts vv hmem
              have hlk := look_u HW.out.2 vv hvr.1 hvr.2
              obtain ⟨to, hto⟩ : ∃ to, at0 (atM L) vv = to := ⟨_, rfl⟩
              rw [hto] at hlk hro
              by_cases hv0 : vv = 0
              · subst hv0
                clear hro hvr hmem hvv hto
                go_wp2
                go_roundw
                case rel => exact ⟨t + 1, by omega, by go_num, HW⟩
                case measure => simp [intOf]; omega
              · have y1 : (vv != 0) = true := by simpa using hv0
                have y2 : (to == 0) = false := by simpa using hro hv0
                clear hro hvr hmem hvv hto hv0
                go_wp2
                go_roundw
                case rel => exact ⟨t + 1, by omega, by go_num, HW⟩
                case measure => simp [intOf]; omega
            · obtain rfl : t = M := by omega
              go_wp2
              go_ret
              exact ⟨rfl, HW.out.1⟩
end Go.Proofs.YtcenagpkfimkbaaGreatDoor
namespace Go.Proofs.YtcenagpkfimkbaaGreatDoor
open Go Go.RowKit

def GS (B : HB) (O0 O1 : Obj) (S : Nat → Prop) (Q : Int → Int → HM → Prop) (w : World) (v er : Int) (w' : World) : Prop :=
  ∃ H' S', Q v er H' ∧ HeapSt B H' O0 O1 w' S' ∧ Grows S S' w w'
theorem GS.after {B : HB} {O0 O1 : Obj} {S : Nat → Prop} {Q : Int → Int → HM → Prop} {w w1 w' : World} {v er : Int} (h : GS B O0 O1 S Q w1 v er w') (hb : Below w.heap.size w w1) : GS B O0 O1 S Q w v er w' := by
  obtain ⟨H', S', hq, hh, hg⟩ := h
  exact ⟨H', S', hq, hh, hg.after_below hb⟩
theorem GS.m {B : HB} {O0 O1 : Obj} {S : Nat → Prop} {Q : Int → Int → HM → Prop} {w w' : World} {v er : Int} (h : GS B O0 O1 S Q w v er w') : Moved S w w' := by
  obtain ⟨H', S', hq, hh, hg⟩ := h
  exact hg.m
theorem GS.of_below {B : HB} {O0 O1 : Obj} {S : Nat → Prop} {Q : Int → Int → HM → Prop} {H : HM} {w w' : World} {v er : Int} (h : HeapSt B H O0 O1 w S) (hb : Below w.heap.size w w') (hq : Q v er H) : GS B O0 O1 S Q w v er w' :=
  ⟨H, S, hq, h.later hb, .below hb⟩
theorem GS.mono {B : HB} {O0 O1 : Obj} {S : Nat → Prop} {Q Q' : Int → Int → HM → Prop} {w w' : World} {v er : Int} (h : GS B O0 O1 S Q w v er w') (hq : ∀ v er H, Q v er H → Q' v er H) : GS B O0 O1 S Q' w v er w' := by
  obtain ⟨H', S', hq', hh, hg⟩ := h
  exact ⟨H', S', hq _ _ _ hq', hh, hg⟩

set_option maxRecDepth 100000 in
set_option maxHeartbeats 1000000 in
theorem act1_any (B : HB) (O0 O1 : Obj) (S : Nat → Prop) (Q : Int → Int → HM → Prop) (hv : Addr) (k a b c : Int) (w : World)
    (h : ∀ w1, Below w.heap.size w w1 → Calls Tryz.prog 58 #[.pointer (some hv), .int .u64 0] w1 fun e w' => ∃ v er, e = .returned (.tuple #[.int .u64 v, .int .i64 er]) ∧ GS B O0 O1 S Q w1 v er w') :
    Calls Tryz.prog 57 #[.pointer (some hv), opV k a b c] w fun e w' => ∃ v er, e = .returned (.tuple #[.int .u64 v, .int .i64 er]) ∧ GS B O0 O1 S Q w v er w' := by
  obtain ⟨X, hX⟩ : ∃ X, w.alloc (.cells #[.int .i64 k, .int .u64 a, .int .u64 b, .int .u64 c] 36) = X := ⟨_, rfl⟩
  have hbX : Below w.heap.size w X := by rw [← hX]; exact (Below.refl _ _).alloc (Nat.le_refl _) _
  have oX : X.heap[w.heap.size]? = some (.cells #[.int .i64 k, .int .u64 a, .int .u64 b, .int .u64 c] 36 (0, 0)) := by rw [← hX]; exact heap_alloc_eq _ _
  have k1 := heap_cell oX 1
  have k2 := heap_cell oX 2
  have k3 := heap_cell oX 3
  simp at k1 k2 k3
  have H := h X hbX
  have HB := Lib.hid hbX
  clear h oX hbX
  go_enter Tryz.func57, Tryz.ntmps57
  go_wp2_with fail
  try rw [hX]
  go_wp2_with fail
  refine H.mono ?_
  rintro e w2 ⟨v, er, rfl, hP⟩
  have HP := Lib.hid (hP.after HB.out)
  clear hP
  go_wp2
  go_ret2
  exact ⟨_, _, rfl, HP.out⟩

set_option maxRecDepth 100000 in
set_option maxHeartbeats 1000000 in
theorem act2_any (B : HB) (O0 O1 : Obj) (S : Nat → Prop) (Q : Int → Int → HM → Prop) (hv : Addr) (k a b c : Int) (w : World)
    (h : ∀ w1, Below w.heap.size w w1 → Calls Tryz.prog 62 #[.pointer (some hv), .int .u64 a] w1 fun e w' => ∃ er, e = .returned (.int .i64 er) ∧ GS B O0 O1 S Q w1 0 er w') :
    Calls Tryz.prog 61 #[.pointer (some hv), opV k a b c] w fun e w' => ∃ er, e = .returned (.int .i64 er) ∧ GS B O0 O1 S Q w 0 er w' := by
  obtain ⟨X, hX⟩ : ∃ X, w.alloc (.cells #[.int .i64 k, .int .u64 a, .int .u64 b, .int .u64 c] 36) = X := ⟨_, rfl⟩
  have hbX : Below w.heap.size w X := by rw [← hX]; exact (Below.refl _ _).alloc (Nat.le_refl _) _
  have oX : X.heap[w.heap.size]? = some (.cells #[.int .i64 k, .int .u64 a, .int .u64 b, .int .u64 c] 36 (0, 0)) := by rw [← hX]; exact heap_alloc_eq _ _
  have k1 := heap_cell oX 1
  have k2 := heap_cell oX 2
  have k3 := heap_cell oX 3
  simp at k1 k2 k3
  have H := h X hbX
  have HB := Lib.hid hbX
  clear h oX hbX
  go_enter Tryz.func61, Tryz.ntmps61
  go_wp2_with fail
  try rw [hX]
  go_wp2_with fail
  refine H.mono ?_
  rintro e w2 ⟨er, rfl, hP⟩
  have HP := Lib.hid (hP.after HB.out)
  clear hP
  go_wp2
  go_ret
  exact ⟨_, rfl, HP.out⟩

set_option maxRecDepth 100000 in
set_option maxHeartbeats 1000000 in
theorem act3_any (B : HB) (O0 O1 : Obj) (S : Nat → Prop) (Q : Int → Int → HM → Prop) (hv : Addr) (k a b c : Int) (w : World)
    (h : ∀ w1, Below w.heap.size w w1 → Calls Tryz.prog 66 #[.pointer (some hv), .int .u64 a, .int .u64 b, .int .u64 c] w1 fun e w' => ∃ er, e = .returned (.int .i64 er) ∧ GS B O0 O1 S Q w1 0 er w') :
    Calls Tryz.prog 65 #[.pointer (some hv), opV k a b c] w fun e w' => ∃ er, e = .returned (.int .i64 er) ∧ GS B O0 O1 S Q w 0 er w' := by
  obtain ⟨X, hX⟩ : ∃ X, w.alloc (.cells #[.int .i64 k, .int .u64 a, .int .u64 b, .int .u64 c] 36) = X := ⟨_, rfl⟩
  have hbX : Below w.heap.size w X := by rw [← hX]; exact (Below.refl _ _).alloc (Nat.le_refl _) _
  have oX : X.heap[w.heap.size]? = some (.cells #[.int .i64 k, .int .u64 a, .int .u64 b, .int .u64 c] 36 (0, 0)) := by rw [← hX]; exact heap_alloc_eq _ _
  have k1 := heap_cell oX 1
  have k2 := heap_cell oX 2
  have k3 := heap_cell oX 3
  simp at k1 k2 k3
  have H := h X hbX
  have HB := Lib.hid hbX
  clear h oX hbX
  go_enter Tryz.func65, Tryz.ntmps65
  go_wp2_with fail
  try rw [hX]
  go_wp2_with fail
  refine H.mono ?_
  rintro e w2 ⟨er, rfl, hP⟩
  have HP := Lib.hid (hP.after HB.out)
  clear hP
  go_wp2
  go_ret
  exact ⟨_, rfl, HP.out⟩

set_option maxRecDepth 100000 in
set_option maxHeartbeats 1000000 in
theorem act4_any (B : HB) (O0 O1 : Obj) (S : Nat → Prop) (Q : Int → Int → HM → Prop) (hv : Addr) (k a b c : Int) (w : World)
    (h : ∀ w1, Below w.heap.size w w1 → Calls Tryz.prog 68 #[.pointer (some hv), .int .u64 a, .int .u64 b] w1 fun e w' => ∃ v er, e = .returned (.tuple #[.int .u64 v, .int .i64 er]) ∧ GS B O0 O1 S Q w1 v er w') :
    Calls Tryz.prog 67 #[.pointer (some hv), opV k a b c] w fun e w' => ∃ v er, e = .returned (.tuple #[.int .u64 v, .int .i64 er]) ∧ GS B O0 O1 S Q w v er w' := by
  obtain ⟨X, hX⟩ : ∃ X, w.alloc (.cells #[.int .i64 k, .int .u64 a, .int .u64 b, .int .u64 c] 36) = X := ⟨_, rfl⟩
  have hbX : Below w.heap.size w X := by rw [← hX]; exact (Below.refl _ _).alloc (Nat.le_refl _) _
  have oX : X.heap[w.heap.size]? = some (.cells #[.int .i64 k, .int .u64 a, .int .u64 b, .int .u64 c] 36 (0, 0)) := by rw [← hX]; exact heap_alloc_eq _ _
  have k1 := heap_cell oX 1
  have k2 := heap_cell oX 2
  have k3 := heap_cell oX 3
  simp at k1 k2 k3
  have H := h X hbX
  have HB := Lib.hid hbX
  clear h oX hbX
  go_enter Tryz.func67, Tryz.ntmps67
  go_wp2_with fail
  try rw [hX]
  go_wp2_with fail
  refine H.mono ?_
  rintro e w2 ⟨v, er, rfl, hP⟩
  have HP := Lib.hid (hP.after HB.out)
  clear hP
  go_wp2
  go_ret2
  exact ⟨_, _, rfl, HP.out⟩

set_option maxRecDepth 100000 in
set_option maxHeartbeats 1000000 in
theorem act5_any (B : HB) (O0 O1 : Obj) (S : Nat → Prop) (Q : Int → Int → HM → Prop) (hv : Addr) (k a b c : Int) (w : World)
    (h : ∀ w1, Below w.heap.size w w1 → Calls Tryz.prog 70 #[.pointer (some hv), .int .u64 a, .int .u64 b] w1 fun e w' => ∃ er, e = .returned (.int .i64 er) ∧ GS B O0 O1 S Q w1 0 er w') :
    Calls Tryz.prog 69 #[.pointer (some hv), opV k a b c] w fun e w' => ∃ er, e = .returned (.int .i64 er) ∧ GS B O0 O1 S Q w 0 er w' := by
  obtain ⟨X, hX⟩ : ∃ X, w.alloc (.cells #[.int .i64 k, .int .u64 a, .int .u64 b, .int .u64 c] 36) = X := ⟨_, rfl⟩
  have hbX : Below w.heap.size w X := by rw [← hX]; exact (Below.refl _ _).alloc (Nat.le_refl _) _
  have oX : X.heap[w.heap.size]? = some (.cells #[.int .i64 k, .int .u64 a, .int .u64 b, .int .u64 c] 36 (0, 0)) := by rw [← hX]; exact heap_alloc_eq _ _
  have k1 := heap_cell oX 1
  have k2 := heap_cell oX 2
  have k3 := heap_cell oX 3
  simp at k1 k2 k3
  have H := h X hbX
  have HB := Lib.hid hbX
  clear h oX hbX
  go_enter Tryz.func69, Tryz.ntmps69
  go_wp2_with fail
  try rw [hX]
  go_wp2_with fail
  refine H.mono ?_
  rintro e w2 ⟨er, rfl, hP⟩
  have HP := Lib.hid (hP.after HB.out)
  clear hP
  go_wp2
  go_ret
  exact ⟨_, rfl, HP.out⟩

set_option maxRecDepth 100000 in
set_option maxHeartbeats 1000000 in
theorem act6_any (B : HB) (O0 O1 : Obj) (S : Nat → Prop) (Q : Int → Int → HM → Prop) (hv : Addr) (k a b c : Int) (w : World)
    (h : ∀ w1, Below w.heap.size w w1 → Calls Tryz.prog 72 #[.pointer (some hv), .int .u64 a] w1 fun e w' => ∃ v er, e = .returned (.tuple #[.int .u64 v, .int .i64 er]) ∧ GS B O0 O1 S Q w1 v er w') :
    Calls Tryz.prog 71 #[.pointer (some hv), opV k a b c] w fun e w' => ∃ v er, e = .returned (.tuple #[.int .u64 v, .int .i64 er]) ∧ GS B O0 O1 S Q w v er w' := by
  obtain ⟨X, hX⟩ : ∃ X, w.alloc (.cells #[.int .i64 k, .int .u64 a, .int .u64 b, .int .u64 c] 36) = X := ⟨_, rfl⟩
  have hbX : Below w.heap.size w X := by rw [← hX]; exact (Below.refl _ _).alloc (Nat.le_refl _) _
  have oX : X.heap[w.heap.size]? = some (.cells #[.int .i64 k, .int .u64 a, .int .u64 b, .int .u64 c] 36 (0, 0)) := by rw [← hX]; exact heap_alloc_eq _ _
  have k1 := heap_cell oX 1
  have k2 := heap_cell oX 2
  have k3 := heap_cell oX 3
  simp at k1 k2 k3
  have H := h X hbX
  have HB := Lib.hid hbX
  clear h oX hbX
  go_enter Tryz.func71, Tryz.ntmps71
  go_wp2_with fail
  try rw [hX]
  go_wp2_with fail
  refine H.mono ?_
  rintro e w2 ⟨v, er, rfl, hP⟩
  have HP := Lib.hid (hP.after HB.out)
  clear hP
  go_wp2
  go_ret2
  exact ⟨_, _, rfl, HP.out⟩

set_option maxRecDepth 100000 in
set_option maxHeartbeats 1000000 in
theorem act7_any (B : HB) (O0 O1 : Obj) (S : Nat → Prop) (Q : Int → Int → HM → Prop) (hv : Addr) (k a b c : Int) (w : World)
    (h : ∀ w1, Below w.heap.size w w1 → Calls Tryz.prog 74 #[.pointer (some hv), .int .u64 a] w1 fun e w' => ∃ er, e = .returned (.int .i64 er) ∧ GS B O0 O1 S Q w1 0 er w') :
    Calls Tryz.prog 73 #[.pointer (some hv), opV k a b c] w fun e w' => ∃ er, e = .returned (.int .i64 er) ∧ GS B O0 O1 S Q w 0 er w' := by
  obtain ⟨X, hX⟩ : ∃ X, w.alloc (.cells #[.int .i64 k, .int .u64 a, .int .u64 b, .int .u64 c] 36) = X := ⟨_, rfl⟩
  have hbX : Below w.heap.size w X := by rw [← hX]; exact (Below.refl _ _).alloc (Nat.le_refl _) _
  have oX : X.heap[w.heap.size]? = some (.cells #[.int .i64 k, .int .u64 a, .int .u64 b, .int .u64 c] 36 (0, 0)) := by rw [← hX]; exact heap_alloc_eq _ _
  have k1 := heap_cell oX 1
  have k2 := heap_cell oX 2
  have k3 := heap_cell oX 3
  simp at k1 k2 k3
  have H := h X hbX
  have HB := Lib.hid hbX
  clear h oX hbX
  go_enter Tryz.func73, Tryz.ntmps73
  go_wp2_with fail
  try rw [hX]
  go_wp2_with fail
  refine H.mono ?_
  rintro e w2 ⟨er, rfl, hP⟩
  have HP := Lib.hid (hP.after HB.out)
  clear hP
  go_wp2
  go_ret
  exact ⟨_, rfl, HP.out⟩

set_option maxRecDepth 100000 in
set_option maxHeartbeats 1000000 in
theorem act8_any (B : HB) (O0 O1 : Obj) (S : Nat → Prop) (Q : Int → Int → HM → Prop) (hv : Addr) (k a b c : Int) (w : World)
    (h : ∀ w1, Below w.heap.size w w1 → Calls Tryz.prog 76 #[.pointer (some hv)] w1 fun e w' => ∃ er, e = .returned (.int .i64 er) ∧ GS B O0 O1 S Q w1 0 er w') :
    Calls Tryz.prog 75 #[.pointer (some hv), opV k a b c] w fun e w' => ∃ er, e = .returned (.int .i64 er) ∧ GS B O0 O1 S Q w 0 er w' := by
  obtain ⟨X, hX⟩ : ∃ X, w.alloc (.cells #[.int .i64 k, .int .u64 a, .int .u64 b, .int .u64 c] 36) = X := ⟨_, rfl⟩
  have hbX : Below w.heap.size w X := by rw [← hX]; exact (Below.refl _ _).alloc (Nat.le_refl _) _
  have oX : X.heap[w.heap.size]? = some (.cells #[.int .i64 k, .int .u64 a, .int .u64 b, .int .u64 c] 36 (0, 0)) := by rw [← hX]; exact heap_alloc_eq _ _
  have k1 := heap_cell oX 1
  have k2 := heap_cell oX 2
  have k3 := heap_cell oX 3
  simp at k1 k2 k3
  have H := h X hbX
  have HB := Lib.hid hbX
  clear h oX hbX
  go_enter Tryz.func75, Tryz.ntmps75
  go_wp2_with fail
  try rw [hX]
  go_wp2_with fail
  refine H.mono ?_
  rintro e w2 ⟨er, rfl, hP⟩
  have HP := Lib.hid (hP.after HB.out)
  clear hP
  go_wp2
  go_ret
  exact ⟨_, rfl, HP.out⟩

set_option maxRecDepth 100000 in
set_option maxHeartbeats 1000000 in
theorem act9_any (B : HB) (O0 O1 : Obj) (S : Nat → Prop) (Q : Int → Int → HM → Prop) (hv : Addr) (k a b c : Int) (w : World)
    (h : ∀ w1, Below w.heap.size w w1 → Calls Tryz.prog 78 #[.pointer (some hv), .int .u64 a, .int .u64 b] w1 fun e w' => ∃ er, e = .returned (.int .i64 er) ∧ GS B O0 O1 S Q w1 0 er w') :
    Calls Tryz.prog 77 #[.pointer (some hv), opV k a b c] w fun e w' => ∃ er, e = .returned (.int .i64 er) ∧ GS B O0 O1 S Q w 0 er w' := by
  obtain ⟨X, hX⟩ : ∃ X, w.alloc (.cells #[.int .i64 k, .int .u64 a, .int .u64 b, .int .u64 c] 36) = X := ⟨_, rfl⟩
  have hbX : Below w.heap.size w X := by rw [← hX]; exact (Below.refl _ _).alloc (Nat.le_refl _) _
  have oX : X.heap[w.heap.size]? = some (.cells #[.int .i64 k, .int .u64 a, .int .u64 b, .int .u64 c] 36 (0, 0)) := by rw [← hX]; exact heap_alloc_eq _ _
  have k1 := heap_cell oX 1
  have k2 := heap_cell oX 2
  have k3 := heap_cell oX 3
  simp at k1 k2 k3
  have H := h X hbX
  have HB := Lib.hid hbX
  clear h oX hbX
  go_enter Tryz.func77, Tryz.ntmps77
  go_wp2_with fail
  try rw [hX]
  go_wp2_with fail
  refine H.mono ?_
  rintro e w2 ⟨er, rfl, hP⟩
  have HP := Lib.hid (hP.after HB.out)
  clear hP
  go_wp2
  go_ret
  exact ⟨_, rfl, HP.out⟩

set_option maxRecDepth 100000 in
set_option maxHeartbeats 1000000 in
theorem act10_any (B : HB) (O0 O1 : Obj) (S : Nat → Prop) (Q : Int → Int → HM → Prop) (hv : Addr) (k a b c : Int) (w : World)
    (h : ∀ w1, Below w.heap.size w w1 → Calls Tryz.prog 80 #[.pointer (some hv), .int .u64 a] w1 fun e w' => ∃ v er, e = .returned (.tuple #[.int .u64 v, .int .i64 er]) ∧ GS B O0 O1 S Q w1 v er w') :
    Calls Tryz.prog 79 #[.pointer (some hv), opV k a b c] w fun e w' => ∃ v er, e = .returned (.tuple #[.int .u64 v, .int .i64 er]) ∧ GS B O0 O1 S Q w v er w' := by
  obtain ⟨X, hX⟩ : ∃ X, w.alloc (.cells #[.int .i64 k, .int .u64 a, .int .u64 b, .int .u64 c] 36) = X := ⟨_, rfl⟩
  have hbX : Below w.heap.size w X := by rw [← hX]; exact (Below.refl _ _).alloc (Nat.le_refl _) _
  have oX : X.heap[w.heap.size]? = some (.cells #[.int .i64 k, .int .u64 a, .int .u64 b, .int .u64 c] 36 (0, 0)) := by rw [← hX]; exact heap_alloc_eq _ _
  have k1 := heap_cell oX 1
  have k2 := heap_cell oX 2
  have k3 := heap_cell oX 3
  simp at k1 k2 k3
  have H := h X hbX
  have HB := Lib.hid hbX
  clear h oX hbX
  go_enter Tryz.func79, Tryz.ntmps79
  go_wp2_with fail
  try rw [hX]
  go_wp2_with fail
  refine H.mono ?_
  rintro e w2 ⟨v, er, rfl, hP⟩
  have HP := Lib.hid (hP.after HB.out)
  clear hP
  go_wp2
  go_ret2
  exact ⟨_, _, rfl, HP.out⟩

set_option maxRecDepth 100000 in
set_option maxHeartbeats 1000000 in
theorem act11_any (B : HB) (O0 O1 : Obj) (S : Nat → Prop) (Q : Int → Int → HM → Prop) (hv : Addr) (k a b c : Int) (w : World)
    (h : ∀ w1, Below w.heap.size w w1 → Calls Tryz.prog 82 #[.pointer (some hv), .int .u64 a] w1 fun e w' => ∃ v er, e = .returned (.tuple #[.int .u64 v, .int .i64 er]) ∧ GS B O0 O1 S Q w1 v er w') :
    Calls Tryz.prog 81 #[.pointer (some hv), opV k a b c] w fun e w' => ∃ v er, e = .returned (.tuple #[.int .u64 v, .int .i64 er]) ∧ GS B O0 O1 S Q w v er w' := by
  obtain ⟨X, hX⟩ : ∃ X, w.alloc (.cells #[.int .i64 k, .int .u64 a, .int .u64 b, .int .u64 c] 36) = X := ⟨_, rfl⟩
  have hbX : Below w.heap.size w X := by rw [← hX]; exact (Below.refl _ _).alloc (Nat.le_refl _) _
  have oX : X.heap[w.heap.size]? = some (.cells #[.int .i64 k, .int .u64 a, .int .u64 b, .int .u64 c] 36 (0, 0)) := by rw [← hX]; exact heap_alloc_eq _ _
  have k1 := heap_cell oX 1
  have k2 := heap_cell oX 2
  have k3 := heap_cell oX 3
  simp at k1 k2 k3
  have H := h X hbX
  have HB := Lib.hid hbX
  clear h oX hbX
  go_enter Tryz.func81, Tryz.ntmps81
  go_wp2_with fail
  try rw [hX]
  go_wp2_with fail
  refine H.mono ?_
  rintro e w2 ⟨v, er, rfl, hP⟩
  have HP := Lib.hid (hP.after HB.out)
  clear hP
  go_wp2
  go_ret2
  exact ⟨_, _, rfl, HP.out⟩
end Go.Proofs.YtcenagpkfimkbaaGreatDoor
namespace Go.Proofs.YtcenagpkfimkbaaGreatDoor
open Go Go.RowKit
attribute [local go_sem ↓] Go.wp_at_zero Go.wp_at_succ

structure MachAt (w : World) (mb hb : Nat) (fa : Option Addr) (fc : Nat) (fs : List Int) : Prop where
  blk : w.heap[mb]? = some (.cells #[.pointer (some ⟨hb, 0, none⟩), .slice fa fs.length fc] 74 (0, 0))
  rd : Reads .i64 w fa fs
theorem MachAt.later {w w' : World} {mb hb : Nat} {fa : Option Addr} {fc : Nat} {fs : List Int} (h : MachAt w mb hb fa fc fs) (hb' : Below w.heap.size w w') : MachAt w' mb hb fa fc fs :=
  ⟨heap_below hb' h.blk (heap_lt h.blk), h.rd.below hb'⟩
theorem MachAt.moved {w w' : World} {mb hb : Nat} {fa : Option Addr} {fc : Nat} {fs : List Int} {S : Nat → Prop} (h : MachAt w mb hb fa fc fs) (hm : Moved S w w') (h1 : ¬ S mb) (h2 : ∀ q, fa = some q → ¬ S q.block) : MachAt w' mb hb fa fc fs :=
  ⟨hm.heap h.blk h1, hm.reads h.rd h2⟩

abbrev VE (B : HB) (O0 O1 : Obj) (S : Nat → Prop) (Q : Int → Int → HM → Prop) (w : World) (e : Ending) (w' : World) : Prop :=
  ∃ v er, e = .returned (.tuple #[.int .u64 v, .int .i64 er]) ∧ GS B O0 O1 S Q w v er w'

set_option maxRecDepth 100000 in
set_option maxHeartbeats 1000000 in
theorem sub_any {B : HB} {H : HM} {O0 O1 : Obj} {S : Nat → Prop} {mb : Nat} {fa : Option Addr} {fc : Nat} {fs : List Int} (Q : Int → Int → HM → Prop) (k a b c : Int) (w : World) (hm : MachAt w mb B.hb fa fc fs) (hh : HeapSt B H O0 O1 w S) (hsm : ¬ S mb)
    (h0 : a = 0 → Q 0 2 H) (h : a ≠ 0 → ∀ w1, Below w.heap.size w w1 → Calls Tryz.prog 58 #[.pointer (some ⟨B.hb, 0, none⟩), .int .u64 a] w1 (VE B O0 O1 S Q w1)) :
    Calls Tryz.prog 59 #[.pointer (some ⟨mb, 0, none⟩), opV k a b c] w (VE B O0 O1 S Q w) := by
  obtain ⟨X, hX⟩ : ∃ X, w.alloc (.cells #[.int .i64 k, .int .u64 a, .int .u64 b, .int .u64 c] 36) = X := ⟨_, rfl⟩
  have hbX : Below w.heap.size w X := by rw [← hX]; exact (Below.refl _ _).alloc (Nat.le_refl _) _
  have oX : X.heap[w.heap.size]? = some (.cells #[.int .i64 k, .int .u64 a, .int .u64 b, .int .u64 c] 36 (0, 0)) := by rw [← hX]; exact heap_alloc_eq _ _
  have k1 := heap_cell oX 1
  have m0 := heap_cell (hm.later hbX).blk 0
  simp at k1 m0
  have HN : Hid (¬ S w.heap.size) := Lib.hid (fun e => by have := hh.lt e; omega)
  have HB := Lib.hid hbX
  have HH := Lib.hid hh
  clear oX hbX hm
  by_cases ha : a = 0
  · subst ha
    have h1 := h0 rfl
    have H1 := Lib.hid h1
    clear h h0 h1 hh
    go_enter Tryz.func59, Tryz.ntmps59
    go_wp2_with fail
    try rw [hX]
    go_wp2
    go_ret2
    exact ⟨_, _, rfl, .of_below HH.out HB.out H1.out⟩
  · have y1 : (a == 0) = false := by simpa using ha
    have H := fun n => (h ha (X.drewN n) (HB.out.trans ⟨rfl, rfl, rfl, by simp, fun _ _ => rfl⟩)).mono (R' := fun e w' => ∃ v er, e = .returned (.tuple #[.int .u64 v, .int .i64 er]) ∧ GS B O0 O1 S Q w v er w' ∧ Moved S X w') (fun e w' ⟨v, er, he, hg⟩ => ⟨v, er, he, hg.after (HB.out.trans ⟨rfl, rfl, rfl, by simp, fun _ _ => rfl⟩), ⟨hg.m.os, hg.m.tape, hg.m.output, hg.m.size, hg.m.block⟩⟩)
    have HM := Lib.hid (And.intro k1 (And.intro m0 hsm))
    clear h h0 ha hh
    go_enter Tryz.func59, Tryz.ntmps59
    go_wp2_with fail
    try rw [hX]
    go_wp2_with fail
    go_region_held3 (fun w' => w'.cell? ⟨w.heap.size, 1, none⟩ = some (.int .u64 a) ∧ w'.cell? ⟨mb, 0, none⟩ = some (.pointer (some ⟨B.hb, 0, none⟩))) (first | exact hK.out | go_keep) ((go_at_call 58; refine (H _).mono ?_; rintro e w2 ⟨v, er, rfl, hP, hM⟩; have hK := Lib.hid (And.intro (hM.cell HM.out.1 HN.out) (hM.cell HM.out.2.1 HM.out.2.2)); have HP := Lib.hid hP; clear hP hM))
    all_goals
      go_wp2
      go_ret2
      exact ⟨_, _, rfl, HP.out⟩

def arrE (b c : Int) : Int := if 255 < b then 4 else if 2147483647 < c then 1 else 0
set_option maxRecDepth 100000 in
set_option maxHeartbeats 2000000 in
theorem array_any {B : HB} {H : HM} {O0 O1 : Obj} {S : Nat → Prop} {mb : Nat} {fa : Option Addr} {fc : Nat} {fs : List Int} (Q : Int → Int → HM → Prop) (k a b c : Int) (w : World) (hm : MachAt w mb B.hb fa fc fs) (hh : HeapSt B H O0 O1 w S) (hsm : ¬ S mb) (b0 : 0 ≤ b) (c0 : 0 ≤ c)
    (h0 : arrE b c ≠ 0 → Q 0 (arrE b c) H) (h : arrE b c = 0 → ∀ w1, Below w.heap.size w w1 → Calls Tryz.prog 116 #[.pointer (some ⟨B.hb, 0, none⟩), .int .u64 a, .agg #[.bool true, .int .i64 b, .int .i64 0, .int .i64 c]] w1 (VE B O0 O1 S Q w1)) :
    Calls Tryz.prog 64 #[.pointer (some ⟨mb, 0, none⟩), opV k a b c] w (VE B O0 O1 S Q w) := by
  obtain ⟨X, hX⟩ : ∃ X, w.alloc (.cells #[.int .i64 k, .int .u64 a, .int .u64 b, .int .u64 c] 36) = X := ⟨_, rfl⟩
  have hbX : Below w.heap.size w X := by rw [← hX]; exact (Below.refl _ _).alloc (Nat.le_refl _) _
  have oX : X.heap[w.heap.size]? = some (.cells #[.int .i64 k, .int .u64 a, .int .u64 b, .int .u64 c] 36 (0, 0)) := by rw [← hX]; exact heap_alloc_eq _ _
  have k1 := heap_cell oX 1
  have k2 := heap_cell oX 2
  have k3 := heap_cell oX 3
  have m0 := heap_cell (hm.later hbX).blk 0
  simp at k1 k2 k3 m0
  have HN : Hid (¬ S w.heap.size) := Lib.hid (fun e => by have := hh.lt e; omega)
  have HB := Lib.hid hbX
  have HH := Lib.hid hh
  clear oX hbX hm
  by_cases hb : 255 < b
  · have e1 : arrE b c = 4 := by rw [arrE, if_pos hb]
    have h1 := h0 (by omega)
    rw [e1] at h1
    have H1 := Lib.hid h1
    clear h h0 h1 hh e1
    go_enter Tryz.func64, Tryz.ntmps64
    go_wp2_with fail
    try rw [hX]
    go_wp2
    go_ret2
    exact ⟨_, _, rfl, .of_below HH.out HB.out H1.out⟩
  · by_cases hc : 2147483647 < c
    · have e1 : arrE b c = 1 := by rw [arrE, if_neg hb, if_pos hc]
      have h1 := h0 (by omega)
      rw [e1] at h1
      have H1 := Lib.hid h1
      clear h h0 h1 hh e1
      go_enter Tryz.func64, Tryz.ntmps64
      go_wp2_with fail
      try rw [hX]
      go_wp2
      go_ret2
      exact ⟨_, _, rfl, .of_below HH.out HB.out H1.out⟩
    · have e1 : arrE b c = 0 := by rw [arrE, if_neg hb, if_neg hc]
      have H := fun n => (h e1 (X.drewN n) (HB.out.trans ⟨rfl, rfl, rfl, by simp, fun _ _ => rfl⟩)).mono (R' := fun e w' => ∃ v er, e = .returned (.tuple #[.int .u64 v, .int .i64 er]) ∧ GS B O0 O1 S Q w v er w' ∧ Moved S X w') (fun e w' ⟨v, er, he, hg⟩ => ⟨v, er, he, hg.after (HB.out.trans ⟨rfl, rfl, rfl, by simp, fun _ _ => rfl⟩), ⟨hg.m.os, hg.m.tape, hg.m.output, hg.m.size, hg.m.block⟩⟩)
      have HM := Lib.hid (And.intro k1 (And.intro k2 (And.intro k3 (And.intro m0 hsm))))
      have y1 : IntKind.i64.wrap b = b := by rw [IntKind.wrap_i64]; omega
      have y2 : IntKind.i64.wrap c = c := by rw [IntKind.wrap_i64]; omega
      clear h h0 hh e1
      go_enter Tryz.func64, Tryz.ntmps64
      go_wp2_with fail
      try rw [hX]
      go_wp2_with fail
      go_region_held3 (fun w' => w'.cell? ⟨w.heap.size, 1, none⟩ = some (.int .u64 a) ∧ w'.cell? ⟨w.heap.size, 2, none⟩ = some (.int .u64 b) ∧ w'.cell? ⟨w.heap.size, 3, none⟩ = some (.int .u64 c) ∧ w'.cell? ⟨mb, 0, none⟩ = some (.pointer (some ⟨B.hb, 0, none⟩))) (first | exact hK.out | go_keep) ((go_at_call 116; refine (H _).mono ?_; rintro e w2 ⟨v, er, rfl, hP, hM⟩; have hK := Lib.hid (And.intro (hM.cell HM.out.1 HN.out) (And.intro (hM.cell HM.out.2.1 HN.out) (And.intro (hM.cell HM.out.2.2.1 HN.out) (hM.cell HM.out.2.2.2.1 HM.out.2.2.2.2)))); have HP := Lib.hid hP; clear hP hM))
      all_goals
        go_wp2
        go_ret2
        exact ⟨_, _, rfl, HP.out⟩

def objE (fs : List Int) (b : Int) : Int := if (fs.length : Int) ≤ b then 2 else 0
set_option maxRecDepth 100000 in
set_option maxHeartbeats 2000000 in
theorem object_any {B : HB} {H : HM} {O0 O1 : Obj} {S : Nat → Prop} {mb : Nat} {fa : Option Addr} {fc : Nat} {fs : List Int} (Q : Int → Int → HM → Prop) (k a b c : Int) (w : World) (hm : MachAt w mb B.hb fa fc fs) (hh : HeapSt B H O0 O1 w S) (hsm : ¬ S mb) (hsf : ∀ q, fa = some q → ¬ S q.block) (hfs : fs.length ≤ 1000) (b0 : 0 ≤ b) 
    (h0 : objE fs b ≠ 0 → Q 0 (objE fs b) H) (h : objE fs b = 0 → ∀ w1, Below w.heap.size w w1 → Calls Tryz.prog 116 #[.pointer (some ⟨B.hb, 0, none⟩), .int .u64 a, .agg #[.bool false, .int .i64 0, .int .i64 b, .int .i64 (fs.getD b.toNat 0)]] w1 (VE B O0 O1 S Q w1)) :
    Calls Tryz.prog 63 #[.pointer (some ⟨mb, 0, none⟩), opV k a b c] w (VE B O0 O1 S Q w) := by
  obtain ⟨X, hX⟩ : ∃ X, w.alloc (.cells #[.int .i64 k, .int .u64 a, .int .u64 b, .int .u64 c] 36) = X := ⟨_, rfl⟩
  have hbX : Below w.heap.size w X := by rw [← hX]; exact (Below.refl _ _).alloc (Nat.le_refl _) _
  have oX : X.heap[w.heap.size]? = some (.cells #[.int .i64 k, .int .u64 a, .int .u64 b, .int .u64 c] 36 (0, 0)) := by rw [← hX]; exact heap_alloc_eq _ _
  have k1 := heap_cell oX 1
  have k2 := heap_cell oX 2
  have k3 := heap_cell oX 3
  have m0 := heap_cell (hm.later hbX).blk 0
  have m1 := heap_cell (hm.later hbX).blk 1
  simp at k1 k2 k3 m0 m1
  have HN : Hid (¬ S w.heap.size) := Lib.hid (fun e => by have := hh.lt e; omega)
  have HB := Lib.hid hbX
  have HH := Lib.hid hh
  have HR := Lib.hid (hm.later hbX).rd
  have hlen : (0 : Int) ≤ (fs.length : Int) := by omega
  have y0 : IntKind.u64.wrap (fs.length : Int) = (fs.length : Int) := by rw [IntKind.wrap_u64]; omega
  clear oX hbX hm
  by_cases hb : (fs.length : Int) ≤ b
  · have e1 : objE fs b = 2 := by rw [objE, if_pos hb]
    have h1 := h0 (by omega)
    rw [e1] at h1
    have H1 := Lib.hid h1
    clear h h0 h1 hh e1
    go_enter Tryz.func63, Tryz.ntmps63
    go_wp2_with fail
    try rw [hX]
    go_wp2_with fail
    go_quiet (fail)
    go_wp2
    go_ret2
    exact ⟨_, _, rfl, .of_below HH.out (HB.out.trans ⟨rfl, rfl, rfl, by simp, fun _ _ => rfl⟩) H1.out⟩
  · have e1 : objE fs b = 0 := by rw [objE, if_neg hb]
    obtain ⟨j, rfl⟩ : ∃ j : Nat, b = (j : Int) := ⟨b.toNat, by omega⟩
    have hj : j < fs.length := by omega
    obtain ⟨fb, fo, rfl, hfc⟩ := HR.out.at_ j hj
    obtain ⟨x, hx⟩ : ∃ x, fs[j]?.getD 0 = x := ⟨_, rfl⟩
    rw [hx] at hfc
    have hx2 : fs.getD (j : Int).toNat 0 = x := by simp [List.getD, hx]
    rw [hx2] at h
    have nf := hsf _ rfl
    have H := fun (w1 : World) (hE : w1.os = X.os ∧ w1.tape = X.tape ∧ w1.output = X.output ∧ w1.heap = X.heap) => have hb1 : Below w.heap.size w w1 := HB.out.trans ⟨hE.1, hE.2.1, hE.2.2.1, by rw [hE.2.2.2]; exact Nat.le_refl _, fun _ _ => by rw [hE.2.2.2]⟩; (h e1 w1 hb1).mono (R' := fun e w' => ∃ v er, e = .returned (.tuple #[.int .u64 v, .int .i64 er]) ∧ GS B O0 O1 S Q w v er w' ∧ Moved S X w') (fun e w' ⟨v, er, he, hg⟩ => ⟨v, er, he, hg.after hb1, ⟨hg.m.os.trans hE.1, hg.m.tape.trans hE.2.1, hg.m.output.trans hE.2.2.1, by have := hg.m.size; rw [hE.2.2.2] at this; exact this, by have := hg.m.block; rw [hE.2.2.2] at this; exact this⟩⟩)
    have HM := Lib.hid (And.intro k1 (And.intro k2 (And.intro m0 (And.intro m1 (And.intro hfc (And.intro hsm nf))))))
    have y1 : IntKind.i64.wrap (j : Int) = j := by rw [IntKind.wrap_i64]; omega
    have z1 : (0 : Int) ≤ (j : Int) := by omega
    have z2 : (j : Int) < (fs.length : Int) := by omega
    clear h h0 hh e1 hx hx2 nf hsf
    go_enter Tryz.func63, Tryz.ntmps63
    go_wp2_with fail
    try rw [hX]
    go_wp2_with fail
    go_quiet (fail)
    go_wp2_with fail
    go_region_held3 (fun w' => w'.cell? ⟨w.heap.size, 1, none⟩ = some (.int .u64 a) ∧ w'.cell? ⟨w.heap.size, 2, none⟩ = some (.int .u64 j) ∧ w'.cell? ⟨mb, 0, none⟩ = some (.pointer (some ⟨B.hb, 0, none⟩)) ∧ w'.cell? ⟨mb, 1, none⟩ = some (.slice (some ⟨fb, fo, none⟩) fs.length fc) ∧ w'.cell? ⟨fb, fo + j, none⟩ = some (.int .i64 x)) (first | exact hK.out | go_keep) ((go_at_call 116; refine (H _ (by exact ⟨rfl, rfl, rfl, rfl⟩)).mono ?_; rintro e w2 ⟨v, er, rfl, hP, hM⟩; have hK := Lib.hid (And.intro (hM.cell HM.out.1 HN.out) (And.intro (hM.cell HM.out.2.1 HN.out) (And.intro (hM.cell HM.out.2.2.1 HM.out.2.2.2.2.2.1) (And.intro (hM.cell HM.out.2.2.2.1 HM.out.2.2.2.2.2.1) (hM.cell HM.out.2.2.2.2.1 HM.out.2.2.2.2.2.2))))); have HP := Lib.hid hP; clear hP hM))
    all_goals
      go_wp2
      go_ret2
      exact ⟨_, _, rfl, HP.out⟩
end Go.Proofs.YtcenagpkfimkbaaGreatDoor
namespace Go.Proofs.YtcenagpkfimkbaaGreatDoor
open Go Go.RowKit

def lens (ds : List (List Int)) : List Int := ds.map (fun d => (d.length : Int))

structure MSt (B : HB) (H : HM) (O0 O1 : Obj) (mb : Nat) (fa : Option Addr) (fc : Nat) (w : World) (S : Nat → Prop) : Prop where
  h : HeapSt B H O0 O1 w S
  m : MachAt w mb B.hb fa fc (lens H.ds)
  nm : ¬ S mb
  nf : ∀ q, fa = some q → ¬ S q.block
  fl : ∀ q, fa = some q → q.block < w.heap.size

theorem below_of_moved {a b c : World} {S : Nat → Prop} {n : Nat} (h : Below n a b) (k : Moved S b c) (hn : n ≤ b.heap.size) (hs : ∀ q, S q → n ≤ q) : Below n a c :=
  ⟨k.os.trans h.os, k.tape.trans h.tape, k.output.trans h.output, Nat.le_trans h.size k.size, fun q hq => (k.block q (by omega) (fun e => by have := hs q e; omega)).trans (h.block q hq)⟩
theorem take_lens {ds : List (List Int)} {j : Nat} {d : List Int} (h : ds[j]? = some d) : (lens ds).take (j + 1) = (lens ds).take j ++ [(d.length : Int)] := by
  unfold lens
  rw [List.take_add_one, List.getElem?_map, h]; rfl

def RNewOut (n g : Nat) (ds : List (List Int)) (O0 O1 : Obj) (ST : Nat → Prop) (w : World) (e : Ending) (w' : World) : Prop :=
  ∃ B mb fa fc S', e = .returned (.tuple #[.pointer (some ⟨mb, 0, none⟩), .int .i64 0]) ∧ Below w.heap.size w w' ∧ MSt B (newH n g ds) O0 O1 mb fa fc w' S' ∧ (∀ k, S' k → ST k ∨ w.heap.size ≤ k) ∧ w.heap.size ≤ mb ∧ ∀ q, fa = some q → w.heap.size ≤ q.block ∧ q.block < w'.heap.size

set_option maxRecDepth 100000 in
set_option maxHeartbeats 4000000 in
theorem rNew_any (n g : Nat) (ty : Option Addr) (ds : List (List Int)) (tc : Nat) (O0 O1 : Obj) (ST : Nat → Prop) (w : World) (hT : TabsP O0 O1 w ST) (h1 : 1 ≤ n) (h2 : n ≤ 1024) (h3 : g ≤ 64) (hD : Descs w ty ds) (hl : listD ds = true) :
    Calls Tryz.prog 8 #[.agg #[.int .i64 n, .int .i64 g, .slice ty ds.length tc]] w (RNewOut n g ds O0 O1 ST w) := by
  obtain ⟨X, hX⟩ : ∃ X, w.alloc (.cells #[.int .i64 n, .int .i64 g, .slice ty ds.length tc] 24) = X := ⟨_, rfl⟩
  have hbX : Below w.heap.size w X := by rw [← hX]; exact (Below.refl _ _).alloc (Nat.le_refl _) _
  have oX : X.heap[w.heap.size]? = some (.cells #[.int .i64 n, .int .i64 g, .slice ty ds.length tc] 24 (0, 0)) := by rw [← hX]; exact heap_alloc_eq _ _
  have hdl := mayD_len hl
  have k0 := heap_cell oX 0
  have k1 := heap_cell oX 1
  have k2 := heap_cell oX 2
  simp at k0 k1 k2
  have hN := hNew_any n g ty ds tc O0 O1 ST X ((TabsP.ok O0 O1).below hT hbX) h1 h2 h3 (hD.below hbX) hl
  have HX := Lib.hid (And.intro hbX (And.intro (hD.below hbX) (And.intro oX hdl)))
  clear hbX oX hT hD hl hdl
  go_enter Tryz.func8, Tryz.ntmps8
  go_wp2_with fail
  try rw [hX]
  go_wp2_with fail
  refine hN.mono ?_
  rintro e w1 ⟨B, rfl, hb1, S', hS, hs⟩
  obtain ⟨W0, hW0⟩ : ∃ W0, w1.alloc (.cells #[.pointer (some ⟨B.hb, 0, none⟩), .slice none 0 0] 74) = W0 := ⟨_, rfl⟩
  have hbw : Below w1.heap.size w1 W0 := by rw [← hW0]; exact (Below.refl _ _).alloc (Nat.le_refl _) _
  have oM : W0.heap[w1.heap.size]? = some (.cells #[.pointer (some ⟨B.hb, 0, none⟩), .slice none 0 0] 74 (0, 0)) := by rw [← hW0]; exact heap_alloc_eq _ _
  have hsz : W0.heap.size = w1.heap.size + 1 := by rw [← hW0]; simp
  have hXw : X.heap.size ≤ w1.heap.size := hb1.size
  have HS := Lib.hid (And.intro ((HeapSt.ok B _ O0 O1).below hS hbw) (And.intro hs (And.intro (hb1.trans (hbw.mono hb1.size)) (And.intro hsz (And.intro hXw ((HeapSt.ok B _ O0 O1).lt hS))))))
  have i2 := ((hb1.trans (hbw.mono hb1.size)).cell (p := ⟨w.heap.size, 2, none⟩) (cell_lt k2)).trans k2
  have HOM := Lib.hid oM
  have hlt : w.heap.size < w1.heap.size := Nat.lt_of_lt_of_le (cell_lt k2) hXw
  clear hN hS hs hb1 hbw oM hsz k0 k1 hXw
  obtain ⟨i0, hi, hz0, hz1, hz2⟩ := info_parts info_int
  go_wp2_with fail
  try rw [hW0]
  go_wp2
  go_loopw [8, 23] (fun _ i wr => ∃ j : Nat, j ≤ ds.length ∧ i = .int .i64 j ∧ ∃ (a : Option Addr) (c : Nat), wr.heap[w1.heap.size]? = some (.cells #[.pointer (some ⟨B.hb, 0, none⟩), .slice a j c] 74 (0, 0)) ∧ wr.ownsRow W0.heap.size 3 1 (.slice a j c) j (((lens ds).take j).map (Value.int .i64)) ∧ Moved (fun k => k = w1.heap.size) W0 wr) (fun _ i _ => ds.length - (intOf i).toNat)
  case atStart => exact ⟨0, Nat.zero_le _, rfl, none, 0, HOM.out, World.ownsRow_nil _ _ _ _, Moved.refl _ _⟩
  case round =>
    obtain ⟨j, hj, rfl, a, c, hmb, hown, hM⟩ := hrel
    by_cases hlt2 : j < ds.length
    · have hBr : Below X.heap.size X wr := below_of_moved HS.out.2.2.1 hM (by have := HS.out.2.2.2.1; have := HS.out.2.2.2.2.1; omega) (fun q e => by rw [e]; exact HS.out.2.2.2.2.1)
      have hDr := HX.out.2.1.below hBr
      obtain ⟨b, off, fa, fc, d, rfl, hx2, hc, hr, _⟩ := hDr.at_ j hlt2
      obtain ⟨W1, hW1⟩ : ∃ W1, wr.alloc (.cells #[.slice fa d.length fc] 76) = W1 := ⟨_, rfl⟩
      have hbn : Below wr.heap.size wr W1 := by rw [← hW1]; exact (Below.refl _ _).alloc (Nat.le_refl _) _
      have hc0 : W1.cell? ⟨wr.heap.size, 0, none⟩ = some (.slice fa d.length fc) := by rw [← hW1, heap_cell (heap_alloc_eq _ _)]; rfl
      have hmb1 := heap_below hbn hmb (heap_lt hmb)
      have m1 := heap_cell hmb1 1
      have f1 := heap_free hmb1 1
      simp at m1
      have hown1 := (Moved.of_below hbn (fun _ => False)).owns hown (fun _ _ e => e)
      have hdd := HX.out.2.2.2.2 d (List.mem_of_getElem? hx2)
      have hds := HX.out.2.2.2.1
      have htk := take_lens hx2
      have HT := Lib.hid (And.intro htk (And.intro hM hbn))
      have hsr : W0.heap.size ≤ wr.heap.size := hM.size
      have hszW : W1.heap.size = wr.heap.size + 1 := by rw [← hW1]; simp
      have HMB := Lib.hid (And.intro hmb1 hown1)
      have HSZ := Lib.hid (And.intro hszW (And.intro hsr (And.intro hdd hds)))
      clear hown hmb hM hbn hDr hx2 hr htk hown1 hmb1 hszW hdd hds
      go_wp2_with fail
      try rw [hW1]
      clear hc hW1
      have hbo : ¬ (Value.slice a j c).ownBlock = some w1.heap.size := fun e => by have := (HMB.out.2.lt _ e).1; have := HS.out.2.2.2.1; omega
      have HBO := Lib.hid hbo
      have hne1 : ¬ w1.heap.size = W1.heap.size := by have := cell_lt m1; simp at this; omega
      have hne2 : ¬ wr.heap.size = W1.heap.size := by have := cell_lt hc0; simp at this; omega
      have m1b := cell_alloc_old (.cells #[.int .i64 d.length] 3) m1
      have c0b := cell_alloc_old (.cells #[.int .i64 d.length] 3) hc0
      have hj9 : j ≤ 32 := by have := HSZ.out.2.2.2; omega
      clear hbo
      go_region_law ((refine step_append_lies _ (by rfl) _ _ _ (by rfl) W0.heap.size 3 i0 _ 1 8 Tryz.underlying58 hi hz0 hz1 hz2 rfl (by omega) (.slice a j c) j (((lens ds).take j).map (Value.int .i64)) (by rfl) ((HMB.out.2.alloc _).drew) ⟨W1.heap.size, 0, none⟩ 1 1 [.int .i64 d.length] (by rfl) (by rfl) (World.news_of_block (cs := #[.int .i64 d.length]) (t := 3) (fr := (0, 0)) (heap_alloc_new W1 _)) (by simp [Value.oneCell']) (by omega) (by unfold maxLen; omega) (by omega) (by have := HSZ.out.1; have := HSZ.out.2.1; simp; omega) (W1.heap.size + 1) (by simp) ?_; intro g2 cap' w2 hown1 hgrow hat hlt; have O2 := (Moved.of_grown hgrow (S := fun k => (Value.slice a j c).ownBlock = some k) (fun k h => h)).heap (heap_alloc_lt HMB.out.1 _) (fun e => HBO.out e); have q1 := heap_cell O2 1; have q2 := heap_free O2 1; simp at q1))
      all_goals
        have hm1 : Moved (fun k => (Value.slice a j c).ownBlock = some k) W1 w2 := ((Moved.alloc (fun k => (Value.slice a j c).ownBlock = some k) W1 _).trans (Moved.drew (fun k => (Value.slice a j c).ownBlock = some k) _) (fun _ h => .inl h)).trans (Moved.of_grown hgrow (S := fun k => (Value.slice a j c).ownBlock = some k) (fun k h => h)) (fun _ h => .inl h)
        generalize hW : World.setCell _ _ _ = w3
        have O3 : w3.heap[w1.heap.size]? = some (.cells (#[.pointer (some ⟨B.hb, 0, none⟩), .slice a j c].setIfInBounds 1 (.slice (some ⟨g2, 0, none⟩) (j + 1) cap')) 74 (0, 0)) := by
          rw [← hW]; exact heap_set O2 1 _
        have hM3 : Moved (fun k => k = w1.heap.size) W0 w3 := by
          refine (((HT.out.2.1.trans (Moved.of_below HT.out.2.2 (fun _ => False)) (fun _ e => e.elim)).trans hm1 (fun q e => .inr (HMB.out.2.lt _ e).1)).trans (T := fun k => k = w1.heap.size) ?_ (fun _ e => .inl e))
          rw [← hW]; exact Moved.of_set w2 w1.heap.size 1 _ rfl
        have ho3 : w3.ownsRow W0.heap.size 3 1 (.slice (some ⟨g2, 0, none⟩) (j + 1) cap') (j + 1) (((lens ds).take (j + 1)).map (Value.int .i64)) := by
          rw [HT.out.1, List.map_append, ← hW]
          exact (Moved.of_set (S := fun k => k = w1.heap.size) w2 w1.heap.size 1 _ rfl).owns hown1 (fun k hk e => by have := (hown1.lt k hk).1; have := HS.out.2.2.2.1; omega)
        have HR := Lib.hid (And.intro O3 (And.intro ho3 hM3))
        clear hm1 O3 hM3 ho3 hown1 hgrow hlt O2 hat q1 q2 m1b c0b m1 f1 hc0 hne1 hne2
        go_wp2
        go_roundw
        case rel => exact ⟨j + 1, by omega, by go_num, some ⟨g2, 0, none⟩, cap', HR.out⟩
        case measure => simp [intOf]; omega
    · obtain rfl : j = ds.length := by omega
      have hlen : (lens ds).length = ds.length := by simp [lens]
      rw [List.take_of_length_le (by rw [hlen]; exact Nat.le_refl _)] at hown
      obtain ⟨hHS, hs, hbX0, hsz, hXw, hSlt⟩ := HS.out
      have hHS2 := (HeapSt.ok B _ O0 O1).moved hHS hM (fun k hk e => by have := hSlt k hk; omega)
      have hbr : Below w.heap.size w wr := HX.out.1.trans ((below_of_moved hbX0 hM (by omega) (fun q e => by rw [e]; exact hXw)).mono HX.out.1.size)
      have hfa : ∀ q, a = some q → W0.heap.size ≤ q.block ∧ q.block < wr.heap.size := fun q e => by subst e; exact hown.lt q.block rfl
      have hrd : Reads .i64 wr a (lens ds) := by
        obtain ⟨a2, c2, e, h2, _⟩ := owns_reads (xs := lens ds) (by rw [hlen]; exact hown)
        simp only [Value.slice.injEq] at e
        rw [e.1]; exact h2
      have HF : Hid (RNewOut n g ds O0 O1 ST w (.returned (.tuple #[.pointer (some ⟨w1.heap.size, 0, none⟩), .int .i64 0])) wr) := by
        have hxs := HX.out.1.size
        refine Lib.hid ⟨B, w1.heap.size, a, c, S', rfl, hbr, ⟨hHS2, ⟨by rw [show (lens (newH n g ds).ds).length = ds.length from hlen]; exact hmb, hrd⟩, fun e => by have := hSlt _ e; omega, fun q e h => by have := hSlt _ h; have := (hfa q e).1; omega, fun q e => (hfa q e).2⟩, fun k hk => (hs k hk).imp_right (fun e => Nat.le_trans hxs e), by omega, fun q e => by have := hfa q e; omega⟩
      clear hHS2 hbr hfa hrd hHS hs hbX0 hsz hSlt hlen hM hmb hown
      go_wp2
      go_ret2
      exact HF.out
end Go.Proofs.YtcenagpkfimkbaaGreatDoor
namespace Go.Proofs.YtcenagpkfimkbaaGreatDoor
open Go Go.RowKit
attribute [local go_sem ↓] Go.wp_at_zero Go.wp_at_succ
section
variable {B : HB} {H : HM} {O0 O1 : Obj} {w : World} {S : Nat → Prop} {M : Int}
set_option maxRecDepth 100000 in
set_option maxHeartbeats 4000000 in
theorem hSetD_any (h : HeapSt B H O0 O1 w S) (hk : SetOk H M) (a i v : Int) (a0 : 0 ≤ a) (i0 : 0 ≤ i) (i1 : i ≤ 18446744073709551615) (v0 : 0 ≤ v) (v1 : v ≤ 18446744073709551615) (hs : hasM H.st a = true) (hi : i < (onK H.ms H.ds a).length) (hp : isPtr (fkI H a i) = true) (hm : mayP H v = false) :
    Calls Tryz.prog 66 #[.pointer (some ⟨B.hb, 0, none⟩), .int .u64 a, .int .u64 i, .int .u64 v] w fun e w' => e = .returned (.int .i64 (hsE H M a i v)) ∧ Below w.heap.size w w' := by
  have e1 : Hid (hsE H M a i v = 9) := Lib.hid (by rw [hsE, if_neg (by rw [hs]; simp), if_neg (by simpa using hi), if_neg (by rw [hp]; simp), if_pos hm])
  have HM := Lib.hid hm
  clear hm
  have hO := hobjectYes_any h hk.dd hk.dl hk.ms a a0 (hk.sm a hs) hs
  have hkl := hk.kl a
  have ea : atE (onK H.ms H.ds a).length i = 0 := by rw [atE, if_pos (by simpa [atB] using hi)]
  have HH := Lib.hid (And.intro h (And.intro hkl (And.intro ea (And.intro hk (And.intro hi hs)))))
  clear h hs hk hi hkl ea
  obtain ⟨kk, hkk⟩ : ∃ kk, fkI H a i = kk := ⟨_, rfl⟩
  rw [hkk] at hp
  have HKK := Lib.hid hkk
  have HPP := Lib.hid hp
  clear hkk hp
  go_enter Tryz.func66, Tryz.ntmps66
  go_wp2_with fail
  refine hO.mono ?_
  rintro e w1 ⟨y1, y2, d1, d2, rfl, hb, r1, r2, n1, n2⟩
  have hB := ObjBox.mk_ (d1 := d1) (d2 := d2) HH.out.1 hb r1 r2 n1 n2
  obtain ⟨W, hW⟩ : ∃ W, w1.alloc (.cells #[.int .i64 (onI H.ms H.ds a a), .int .i64 (owW H.on H.ow a), .bool (onA H.ms H.ds a), .int .i64 (onI H.ms H.ds a (gK (onX H.ms a))), .int .i64 (onI H.ms H.ds a (gT (onX H.ms a))), .int .i64 (onI H.ms H.ds a (gN (onX H.ms a))), .slice y1 (onK H.ms H.ds a).length d1, .slice y2 (onV H.ms H.ds a).length d2] 104) = W := ⟨_, rfl⟩
  rw [hW] at hB
  obtain ⟨ob, hob⟩ : ∃ ob, w1.heap.size = ob := ⟨_, rfl⟩
  rw [hob] at hB
  have z0 := heap_cell hB.o 0
  have z1 := heap_cell hB.o 1
  have z2 := heap_cell hB.o 2
  have z3 := heap_cell hB.o 3
  have z4 := heap_cell hB.o 4
  have z5 := heap_cell hB.o 5
  have z6 := heap_cell hB.o 6
  have z7 := heap_cell hB.o 7
  simp at z0 z1 z2 z3 z4 z5 z6 z7
  have hA := At_any (onI H.ms H.ds a a) (owW H.on H.ow a) (onI H.ms H.ds a (gK (onX H.ms a))) (onI H.ms H.ds a (gT (onX H.ms a))) (onI H.ms H.ds a (gN (onX H.ms a))) (onA H.ms H.ds a) y1 (onK H.ms H.ds a) d1 y2 (onV H.ms H.ds a).length d2 i W hB.r1 HH.out.2.1 i0 i1
  have ekk : kiV (onK H.ms H.ds a) i = kk := HKK.out
  rw [HH.out.2.2.1, ekk] at hA
  obtain ⟨av, hav⟩ : ∃ av, atV (onI H.ms H.ds a a) (onK H.ms H.ds a).length i = av := ⟨_, rfl⟩
  rw [hav] at hA
  have HB := Lib.hid hB
  clear hO hb r1 r2 n1 n2 hB hav ekk
  go_wp2_with fail
  try rw [hW]
  try simp only [hob]
  go_wp2_with fail
  refine hA.mono ?_
  rintro e w2 ⟨rfl, hb2⟩
  have hB := HB.out.later hb2
  have hP := Pointer_any kk w2 hB.h.tabs.1
  rw [HPP.out] at hP
  clear hA hb2 z0 z1 z2 z3 z4 z5 z6 z7 hW hob
  have hM := hmay2_any hB.h v v0 v1
  rw [HM.out] at hM
  have HB := Lib.hid hB
  clear hB
  go_wp2_with fail
  refine hP.mono ?_
  rintro e w3 ⟨rfl, rfl⟩
  clear hP
  go_wp2_with fail
  refine hM.mono ?_
  rintro e w4 ⟨rfl, rfl⟩
  clear hM
  go_wp2
  go_ret
  exact ⟨by rw [e1.out]; rfl, HB.out.bl⟩

set_option maxRecDepth 100000 in
set_option maxHeartbeats 4000000 in
theorem hSetE_any (h : HeapSt B H O0 O1 w S) (hk : SetOk H M) (a i v : Int) (a0 : 0 ≤ a) (i0 : 0 ≤ i) (i1 : i ≤ 18446744073709551615) (v0 : 0 ≤ v) (v1 : v ≤ 18446744073709551615) (hs : hasM H.st a = true) (hi : i < (onK H.ms H.ds a).length) (hp : isPtr (fkI H a i) = true) (hm : mayP H v = true) (hc : chkE H.par M (fkI H a i) (owW H.on H.ow a) (tgt H v) ≠ 0) :
    Calls Tryz.prog 66 #[.pointer (some ⟨B.hb, 0, none⟩), .int .u64 a, .int .u64 i, .int .u64 v] w fun e w' => e = .returned (.int .i64 (hsE H M a i v)) ∧ Below w.heap.size w w' := by
  have e1 : Hid (hsE H M a i v = chkE H.par M (fkI H a i) (owW H.on H.ow a) (tgt H v)) := Lib.hid (by rw [hsE, if_neg (by rw [hs]; simp), if_neg (by simpa using hi), if_neg (by rw [hp]; simp), if_neg (by rw [hm]; simp)])
  have HM := Lib.hid (And.intro hm hc)
  clear hm hc
  have hO := hobjectYes_any h hk.dd hk.dl hk.ms a a0 (hk.sm a hs) hs
  have hkl := hk.kl a
  have ea : atE (onK H.ms H.ds a).length i = 0 := by rw [atE, if_pos (by simpa [atB] using hi)]
  have HH := Lib.hid (And.intro h (And.intro hkl (And.intro ea (And.intro hk (And.intro hi hs)))))
  clear h hs hk hi hkl ea
  obtain ⟨kk, hkk⟩ : ∃ kk, fkI H a i = kk := ⟨_, rfl⟩
  rw [hkk] at hp e1 HM
  have HKK := Lib.hid hkk
  have HPP := Lib.hid hp
  clear hkk hp
  go_enter Tryz.func66, Tryz.ntmps66
  go_wp2_with fail
  refine hO.mono ?_
  rintro e w1 ⟨y1, y2, d1, d2, rfl, hb, r1, r2, n1, n2⟩
  have hB := ObjBox.mk_ (d1 := d1) (d2 := d2) HH.out.1 hb r1 r2 n1 n2
  obtain ⟨W, hW⟩ : ∃ W, w1.alloc (.cells #[.int .i64 (onI H.ms H.ds a a), .int .i64 (owW H.on H.ow a), .bool (onA H.ms H.ds a), .int .i64 (onI H.ms H.ds a (gK (onX H.ms a))), .int .i64 (onI H.ms H.ds a (gT (onX H.ms a))), .int .i64 (onI H.ms H.ds a (gN (onX H.ms a))), .slice y1 (onK H.ms H.ds a).length d1, .slice y2 (onV H.ms H.ds a).length d2] 104) = W := ⟨_, rfl⟩
  rw [hW] at hB
  obtain ⟨ob, hob⟩ : ∃ ob, w1.heap.size = ob := ⟨_, rfl⟩
  rw [hob] at hB
  have z0 := heap_cell hB.o 0
  have z1 := heap_cell hB.o 1
  have z2 := heap_cell hB.o 2
  have z3 := heap_cell hB.o 3
  have z4 := heap_cell hB.o 4
  have z5 := heap_cell hB.o 5
  have z6 := heap_cell hB.o 6
  have z7 := heap_cell hB.o 7
  simp at z0 z1 z2 z3 z4 z5 z6 z7
  have hA := At_any (onI H.ms H.ds a a) (owW H.on H.ow a) (onI H.ms H.ds a (gK (onX H.ms a))) (onI H.ms H.ds a (gT (onX H.ms a))) (onI H.ms H.ds a (gN (onX H.ms a))) (onA H.ms H.ds a) y1 (onK H.ms H.ds a) d1 y2 (onV H.ms H.ds a).length d2 i W hB.r1 HH.out.2.1 i0 i1
  have ekk : kiV (onK H.ms H.ds a) i = kk := HKK.out
  rw [HH.out.2.2.1, ekk] at hA
  obtain ⟨av, hav⟩ : ∃ av, atV (onI H.ms H.ds a a) (onK H.ms H.ds a).length i = av := ⟨_, rfl⟩
  rw [hav] at hA
  have HB := Lib.hid hB
  clear hO hb r1 r2 n1 n2 hB hav ekk
  go_wp2_with fail
  try rw [hW]
  try simp only [hob]
  go_wp2_with fail
  refine hA.mono ?_
  rintro e w2 ⟨rfl, hb2⟩
  have hB := HB.out.later hb2
  have hP := Pointer_any kk w2 hB.h.tabs.1
  rw [HPP.out] at hP
  clear hA hb2 z0 z1 z2 z3 z4 z5 z6 z7 hW hob
  have hM := hmay2_any hB.h v v0 v1
  rw [HM.out.1] at hM
  have z0 := heap_cell hB.o 0
  have z1 := heap_cell hB.o 1
  have c5 := heap_cell hB.h.blk 5
  simp at z0 z1 c5
  have HB := Lib.hid hB
  clear hB
  go_wp2_with fail
  refine hP.mono ?_
  rintro e w3 ⟨rfl, rfl⟩
  clear hP
  go_wp2_with fail
  refine hM.mono ?_
  rintro e w4 ⟨rfl, rfl⟩
  clear hM
  have hT := fun n => htarget_any (w := w2.drewN n) (HB.out.h.later (show Below w2.heap.size w2 (w2.drewN n) from ⟨rfl, rfl, rfl, by simp, fun _ _ => rfl⟩)) v v0 v1
  have hC := fun n => aCheck_any (w := w2.drewN n) (HB.out.h.later (show Below w2.heap.size w2 (w2.drewN n) from ⟨rfl, rfl, rfl, by simp, fun _ _ => rfl⟩)).tree (HB.out.h.later (show Below w2.heap.size w2 (w2.drewN n) from ⟨rfl, rfl, rfl, by simp, fun _ _ => rfl⟩)).tabs.1 HH.out.2.2.2.1.dn HH.out.2.2.2.1.f.pl HH.out.2.2.2.1.wk kk (owW H.on H.ow a) (tgt H v) HPP.out (by have := owW_le HH.out.2.2.2.1.f a; omega) (by have := owW_le HH.out.2.2.2.1.f a; omega) (by have := tgt_le HH.out.2.2.2.1.f v; omega) (by have := tgt_le HH.out.2.2.2.1.f v; omega)
  obtain ⟨tv, htv⟩ : ∃ tv, tgt H v = tv := ⟨_, rfl⟩
  obtain ⟨rg, hrg⟩ : ∃ rg, owW H.on H.ow a = rg := ⟨_, rfl⟩
  rw [htv, hrg] at e1
  rw [hrg] at z1
  simp only [htv] at hT hC
  simp only [hrg] at hC
  obtain ⟨ce, hce⟩ : ∃ ce, chkE H.par M kk rg tv = ce := ⟨_, rfl⟩
  rw [hce] at e1
  simp only [hce] at hC
  have HT := Lib.hid hT
  have HC := Lib.hid hC
  have HK : Hid (∀ n w3, Below (w2.drewN n).heap.size (w2.drewN n) w3 → Below w2.heap.size w2 w3 ∧ (w3.cell? ⟨B.hb, 5, none⟩ = some (.pointer (some ⟨B.tb, 0, none⟩)) ∧ w3.cell? ⟨ob, 1, none⟩ = some (.int .i64 rg))) := Lib.hid fun n w3 hb3 => by
    have hb4 : Below w2.heap.size w2 w3 := ⟨hb3.os, hb3.tape, hb3.output, hb3.size, hb3.block⟩
    exact ⟨hb4, (hb4.cell (p := ⟨B.hb, 5, none⟩) (cell_lt c5)).trans c5, (hb4.cell (p := ⟨ob, 1, none⟩) (cell_lt z1)).trans z1⟩
  have HCE := Lib.hid (And.intro hce (And.intro htv hrg))
  clear hT hC htv hrg hce z0
  go_wp2
  go_region_held3 (fun w' => w'.cell? ⟨B.hb, 5, none⟩ = some (.pointer (some ⟨B.tb, 0, none⟩)) ∧ w'.cell? ⟨ob, 1, none⟩ = some (.int .i64 rg)) (first | (with_reducible exact HZ.out.2) | go_keep) (first | (go_at_call 122; refine (HT.out _).mono ?_; rintro e w' ⟨rfl, rfl⟩) | (go_at_call 121; refine (HC.out _).mono ?_; rintro e w3 ⟨rfl, hb3⟩; have HZ := Lib.hid (HK.out _ _ hb3); clear hb3))
  all_goals
    have yc : (ce != 0) = true := by have := HM.out.2; rw [HCE.out.2.1, HCE.out.2.2, HCE.out.1] at this; simpa using this
    go_wp2
    go_ret
    exact ⟨by rw [e1.out]; rfl, HB.out.bl.trans (HZ.out.1.mono HB.out.bl.size)⟩
end
end Go.Proofs.YtcenagpkfimkbaaGreatDoor
namespace Go.Proofs.YtcenagpkfimkbaaGreatDoor
open Go Go.RowKit
attribute [local go_sem ↓] Go.wp_at_zero Go.wp_at_succ
section
variable {B : HB} {H : HM} {O0 O1 : Obj} {w : World} {S : Nat → Prop} {M : Int}
set_option maxRecDepth 100000 in
set_option maxHeartbeats 4000000 in
theorem hSetC_any (h : HeapSt B H O0 O1 w S) (hk : SetOk H M) (a i v : Int) (a0 : 0 ≤ a) (i0 : 0 ≤ i) (i1 : i ≤ 18446744073709551615) (hs : hasM H.st a = true) (hi : i < (onK H.ms H.ds a).length) (hp : isPtr (fkI H a i) = false) :
    Calls Tryz.prog 66 #[.pointer (some ⟨B.hb, 0, none⟩), .int .u64 a, .int .u64 i, .int .u64 v] w fun e w' => e = .returned (.int .i64 (hsE H M a i v)) ∧ ∃ S', HeapSt B (hsH H M a i v) O0 O1 w' S' ∧ Grows S S' w w' := by
  have e1 : Hid (hsE H M a i v = 0) := Lib.hid (by rw [hsE, if_neg (by rw [hs]; simp), if_neg (by simpa using hi), if_pos hp])
  have e2 : Hid (hsH H M a i v = { H with ms := H.ms.set (a + i).toNat v }) := Lib.hid (by rw [hsH, if_pos e1.out, if_neg (by rw [hp]; simp)])
  obtain ⟨i, rfl⟩ := Int.eq_ofNat_of_zero_le i0
  have hi2 : i < (onK H.ms H.ds a).length := by omega
  have hO := hobjectYes_any h hk.dd hk.dl hk.ms a a0 (hk.sm a hs) hs
  have hkl := hk.kl a
  have ea : atE (onK H.ms H.ds a).length i = 0 := by rw [atE, if_pos (by simpa [atB] using hi)]
  have HH := Lib.hid (And.intro h (And.intro hkl (And.intro ea (And.intro hk (And.intro hi hs)))))
  clear h hs hk hi hkl ea
  obtain ⟨kk, hkk⟩ : ∃ kk, fkI H a i = kk := ⟨_, rfl⟩
  rw [hkk] at hp
  have HKK := Lib.hid hkk
  have HPP := Lib.hid hp
  clear hkk hp
  go_enter Tryz.func66, Tryz.ntmps66
  go_wp2_with fail
  refine hO.mono ?_
  rintro e w1 ⟨y1, y2, d1, d2, rfl, hb, r1, r2, n1, n2⟩
  obtain ⟨yb, yo, rfl, hyc⟩ := r2.at_ i (by rw [onV_length]; exact hi2)
  obtain ⟨old, hold⟩ : ∃ old, ((onV H.ms H.ds a)[i]?).getD 0 = old := ⟨_, rfl⟩
  rw [hold] at hyc
  have hB := ObjBox.mk_ (d1 := d1) (d2 := d2) HH.out.1 hb r1 r2 n1 n2
  obtain ⟨W, hW⟩ : ∃ W, w1.alloc (.cells #[.int .i64 (onI H.ms H.ds a a), .int .i64 (owW H.on H.ow a), .bool (onA H.ms H.ds a), .int .i64 (onI H.ms H.ds a (gK (onX H.ms a))), .int .i64 (onI H.ms H.ds a (gT (onX H.ms a))), .int .i64 (onI H.ms H.ds a (gN (onX H.ms a))), .slice y1 (onK H.ms H.ds a).length d1, .slice (some ⟨yb, yo, none⟩) (onV H.ms H.ds a).length d2] 104) = W := ⟨_, rfl⟩
  rw [hW] at hB
  obtain ⟨ob, hob⟩ : ∃ ob, w1.heap.size = ob := ⟨_, rfl⟩
  rw [hob] at hB
  have hycW : W.cell? ⟨yb, yo + i, none⟩ = some (.int .u64 old) := by rw [← hW]; exact cell_alloc_old _ hyc
  have z0 := heap_cell hB.o 0
  have z1 := heap_cell hB.o 1
  have z2 := heap_cell hB.o 2
  have z3 := heap_cell hB.o 3
  have z4 := heap_cell hB.o 4
  have z5 := heap_cell hB.o 5
  have z6 := heap_cell hB.o 6
  have z7 := heap_cell hB.o 7
  simp at z0 z1 z2 z3 z4 z5 z6 z7
  have hA := At_any (onI H.ms H.ds a a) (owW H.on H.ow a) (onI H.ms H.ds a (gK (onX H.ms a))) (onI H.ms H.ds a (gT (onX H.ms a))) (onI H.ms H.ds a (gN (onX H.ms a))) (onA H.ms H.ds a) y1 (onK H.ms H.ds a) d1 (some ⟨yb, yo, none⟩) (onV H.ms H.ds a).length d2 i W hB.r1 HH.out.2.1 i0 i1
  have ekk : kiV (onK H.ms H.ds a) i = kk := HKK.out
  rw [HH.out.2.2.1, ekk] at hA
  obtain ⟨av, hav⟩ : ∃ av, atV (onI H.ms H.ds a a) (onK H.ms H.ds a).length i = av := ⟨_, rfl⟩
  rw [hav] at hA
  have HB := Lib.hid hB
  clear hO hb r1 r2 n1 n2 hB hav ekk
  go_wp2_with fail
  try rw [hW]
  try simp only [hob]
  go_wp2_with fail
  refine hA.mono ?_
  rintro e w2 ⟨rfl, hb2⟩
  have hB := HB.out.later hb2
  have hyc2 := (hb2.cell (cell_lt hycW)).trans hycW
  have hP := Pointer_any kk w2 hB.h.tabs.1
  rw [HPP.out] at hP
  have HOLD := Lib.hid hold
  clear hA hb2 z0 z1 z2 z3 z4 z5 z6 z7 hW hob hyc hycW hold
  clear hyc2
  have HB := Lib.hid hB
  clear hB
  go_wp2_with fail
  refine hP.mono ?_
  rintro e w3 ⟨rfl, rfl⟩
  clear hP
  have hST := onK_fits (HH.out.2.2.2.1.on a HH.out.2.2.2.2.2)
  have hml := HH.out.2.2.2.1.ml
  have eon : onI H.ms H.ds a a = a := by rw [onI, if_pos (HH.out.2.2.2.1.on a HH.out.2.2.2.2.2)]
  have ew : wrap64 (a + (i : Int)) = a + (i : Int) := IntWalk.wrap64_in _ ⟨by omega, by omega⟩
  have est : stE H.ms.length (onI H.ms H.ds a a) (onK H.ms H.ds a).length i = 0 := by rw [eon, stE, if_pos (by simp [atB]; omega), ew, wrE, if_pos (by simp [inB]; omega)]
  have esl : stL H.ms (onI H.ms H.ds a a) (onK H.ms H.ds a).length i v = H.ms.set (a + (i : Int)).toNat v := by rw [eon, stL, if_pos (by simp [atB]; omega), ew, wrL, if_pos (by simp [inB]; omega)]
  have HST := Lib.hid (And.intro est esl)
  have hmwS : B.mw < w.heap.size ∧ B.mw ≠ B.hb := by
    obtain ⟨S0, hp, hs⟩ := Sep.get HH.out.1 2 (by omega)
    obtain ⟨hp, e0⟩ := hp
    exact ⟨(HeapSt.ok B H O0 O1).lt HH.out.1 _ (hs _ ((e0 _).2 (by simp))), fun e => heap_ne HH.out.1.blk hp.mem.2.1 (by simp [heapObj]) e.symm⟩
  have c0 := heap_cell (HB.out.h).blk 0
  have z0 := heap_cell HB.out.o 0
  have z1 := heap_cell HB.out.o 1
  have z2 := heap_cell HB.out.o 2
  have z3 := heap_cell HB.out.o 3
  have z4 := heap_cell HB.out.o 4
  have z5 := heap_cell HB.out.o 5
  have z6 := heap_cell HB.out.o 6
  have z7 := heap_cell HB.out.o 7
  simp at c0 z0 z1 z2 z3 z4 z5 z6 z7
  have hbd : ∀ n : Nat, Below (w2).heap.size (w2) ((w2).drewN n) := fun n => ⟨rfl, rfl, rfl, by simp, fun _ _ => rfl⟩
  have HM5 := fun n => pMem_any (w := (w2).drewN n) ((HB.out.h).later (hbd n)).pages
  have HS5 := fun n => (Store_any B.mb B.mw H.ms (onI H.ms H.ds a a) (owW H.on H.ow a) (onI H.ms H.ds a (gK (onX H.ms a))) (onI H.ms H.ds a (gT (onX H.ms a))) (onI H.ms H.ds a (gN (onX H.ms a))) (onA H.ms H.ds a) y1 (onK H.ms H.ds a) d1 (some ⟨yb, yo, none⟩) (onV H.ms H.ds a) d2 i v ((w2).drewN n) ((HB.out.h).later (hbd n)).pages.mem (HB.out.r1.below (hbd n)) HH.out.2.1 (HB.out.r2.below (hbd n)) (by rw [onV_length]; exact HH.out.2.1) (fun e => by cases e) (fun e => by
      have hr := HB.out.r1
      rcases hr with h | ⟨b, off, h, _⟩
      · exact absurd hi2 (by rw [h]; simp)
      · rw [e] at h; cases h) (HB.out.n1.imp_right (fun h p e => by have := h p e; omega)) (HB.out.n2.imp_right (fun h p e => by have := h p e; omega)) i0 i1).mono (R' := fun e w6 => ∃ o : Value, e = .returned (.tuple #[o, .int .i64 0]) ∧ (∃ o1 o2 o3 o4 o5 o6 o7 o8, o = .agg #[o1, o2, o3, o4, o5, o6, o7, o8]) ∧ ((w2).drewN n).grownBy w6 (some B.mw) ∧ MemAt w6 B.mb B.mw (H.ms.set (a + (i : Int)).toNat v) ∧ (w6.cell? ⟨B.hb, 0, none⟩ = some (.pointer (some ⟨B.pb, 0, none⟩)) ∧ w6.cell? ⟨ob, 0, none⟩ = some (.int .i64 (onI H.ms H.ds a a)) ∧ w6.cell? ⟨ob, 1, none⟩ = some (.int .i64 (owW H.on H.ow a)) ∧ w6.cell? ⟨ob, 2, none⟩ = some (.bool (onA H.ms H.ds a)) ∧ w6.cell? ⟨ob, 3, none⟩ = some (.int .i64 (onI H.ms H.ds a (gK (onX H.ms a)))) ∧ w6.cell? ⟨ob, 4, none⟩ = some (.int .i64 (onI H.ms H.ds a (gT (onX H.ms a)))) ∧ w6.cell? ⟨ob, 5, none⟩ = some (.int .i64 (onI H.ms H.ds a (gN (onX H.ms a)))) ∧ w6.cell? ⟨ob, 6, none⟩ = some (.slice y1 (onK H.ms H.ds a).length d1) ∧ w6.cell? ⟨ob, 7, none⟩ = some (.slice (some ⟨yb, yo, none⟩) (onV H.ms H.ds a).length d2))) (fun e w6 ⟨x1, x2, x4, x5, x6, x3, q1, q2, l1, l2, e1, e2, he, hg, hM, _⟩ => by
      rw [HST.out.1] at he
      rw [HST.out.2] at hM
      have hm : Moved (fun q => q = B.mw) (w2) w6 := (Moved.of_below (hbd n) _).trans (Moved.of_grown hg (S := fun q => q = B.mw) (fun k e => by cases e; rfl)) (fun q e => .inl e)
      have hbn := HB.out.bn
      have hob2 : ¬ ob = B.mw := by omega
      exact ⟨_, he, ⟨_, _, _, _, _, _, _, _, rfl⟩, hg, hM, hm.cell c0 (fun e => hmwS.2 e.symm), hm.cell z0 hob2, hm.cell z1 hob2, hm.cell z2 hob2, hm.cell z3 hob2, hm.cell z4 hob2, hm.cell z5 hob2, hm.cell z6 hob2, hm.cell z7 hob2⟩)
  have HS5 := Lib.hid HS5
  have HM5 := Lib.hid HM5
  clear hbd est esl eon ew hST hmwS
  go_wp2
  go_region_held3 (fun w' => w'.cell? ⟨B.hb, 0, none⟩ = some (.pointer (some ⟨B.pb, 0, none⟩)) ∧ w'.cell? ⟨ob, 0, none⟩ = some (.int .i64 (onI H.ms H.ds a a)) ∧ w'.cell? ⟨ob, 1, none⟩ = some (.int .i64 (owW H.on H.ow a)) ∧ w'.cell? ⟨ob, 2, none⟩ = some (.bool (onA H.ms H.ds a)) ∧ w'.cell? ⟨ob, 3, none⟩ = some (.int .i64 (onI H.ms H.ds a (gK (onX H.ms a)))) ∧ w'.cell? ⟨ob, 4, none⟩ = some (.int .i64 (onI H.ms H.ds a (gT (onX H.ms a)))) ∧ w'.cell? ⟨ob, 5, none⟩ = some (.int .i64 (onI H.ms H.ds a (gN (onX H.ms a)))) ∧ w'.cell? ⟨ob, 6, none⟩ = some (.slice y1 (onK H.ms H.ds a).length d1) ∧ w'.cell? ⟨ob, 7, none⟩ = some (.slice (some ⟨yb, yo, none⟩) (onV H.ms H.ds a).length d2)) (first | (with_reducible exact HZ5.out.2.2) | go_keep) (first | (go_at_call 89; refine (HM5.out _).mono ?_; rintro e w' ⟨rfl, rfl⟩) | (go_at_call 124; refine (HS5.out _).mono ?_; rintro e w6 ⟨o, rfl, ⟨o1, o2, o3, o4, o5, o6, o7, o8, rfl⟩, hg6, hm6, hc6⟩; have HZ5 := Lib.hid (And.intro hg6 (And.intro hm6 hc6)); clear hg6 hm6 hc6))
  all_goals
    go_wp2
    go_ret
    obtain ⟨S6, h6, g6⟩ := (HB.out.h.later (show Below w2.heap.size w2 (w2.drewN _) from ⟨rfl, rfl, rfl, by simp, fun _ _ => rfl⟩)).memStep (ms := H.ms.set (a + (i : Int)).toNat v) (by simp) HZ5.out.1 HZ5.out.2.1
    exact ⟨by rw [e1.out]; rfl, S6, by rw [e2.out]; exact h6, (Grows.below HB.out.bl).trans (Grows.after_below (show Below w2.heap.size w2 (w2.drewN _) from ⟨rfl, rfl, rfl, by simp, fun _ _ => rfl⟩) g6)⟩

set_option maxRecDepth 100000 in
set_option maxHeartbeats 4000000 in
theorem hSetF_any (h : HeapSt B H O0 O1 w S) (hk : SetOk H M) (a i v : Int) (a0 : 0 ≤ a) (i0 : 0 ≤ i) (i1 : i ≤ 18446744073709551615) (v0 : 0 ≤ v) (v1 : v ≤ 18446744073709551615) (hs : hasM H.st a = true) (hi : i < (onK H.ms H.ds a).length) (hp : isPtr (fkI H a i) = true) (hm : mayP H v = true) (hc : chkE H.par M (fkI H a i) (owW H.on H.ow a) (tgt H v) = 0) :
    Calls Tryz.prog 66 #[.pointer (some ⟨B.hb, 0, none⟩), .int .u64 a, .int .u64 i, .int .u64 v] w fun e w' => e = .returned (.int .i64 (hsE H M a i v)) ∧ ∃ S', HeapSt B (hsH H M a i v) O0 O1 w' S' ∧ Grows S S' w w' := by
  have e1 : Hid (hsE H M a i v = 0) := Lib.hid (by rw [hsE, if_neg (by rw [hs]; simp), if_neg (by simpa using hi), if_neg (by rw [hp]; simp), if_neg (by rw [hm]; simp), hc])
  have e2 : Hid (hsH H M a i v = { mvd H (fkI H a i) (owW H.on H.ow a) (fvI H a i) v with ms := H.ms.set (a + i).toNat v }) := Lib.hid (by rw [hsH, if_pos e1.out, if_pos hp])
  have HM := Lib.hid (And.intro hm hc)
  clear hm hc
  obtain ⟨i, rfl⟩ := Int.eq_ofNat_of_zero_le i0
  have hi2 : i < (onK H.ms H.ds a).length := by omega
  have hO := hobjectYes_any h hk.dd hk.dl hk.ms a a0 (hk.sm a hs) hs
  have hkl := hk.kl a
  have ea : atE (onK H.ms H.ds a).length i = 0 := by rw [atE, if_pos (by simpa [atB] using hi)]
  have HH := Lib.hid (And.intro h (And.intro hkl (And.intro ea (And.intro hk (And.intro hi hs)))))
  clear h hs hk hi hkl ea
  obtain ⟨kk, hkk⟩ : ∃ kk, fkI H a i = kk := ⟨_, rfl⟩
  rw [hkk] at hp HM e2
  have HKK := Lib.hid hkk
  have HPP := Lib.hid hp
  clear hkk hp
  go_enter Tryz.func66, Tryz.ntmps66
  go_wp2_with fail
  refine hO.mono ?_
  rintro e w1 ⟨y1, y2, d1, d2, rfl, hb, r1, r2, n1, n2⟩
  obtain ⟨yb, yo, rfl, hyc⟩ := r2.at_ i (by rw [onV_length]; exact hi2)
  obtain ⟨old, hold⟩ : ∃ old, ((onV H.ms H.ds a)[i]?).getD 0 = old := ⟨_, rfl⟩
  rw [hold] at hyc
  have hB := ObjBox.mk_ (d1 := d1) (d2 := d2) HH.out.1 hb r1 r2 n1 n2
  obtain ⟨W, hW⟩ : ∃ W, w1.alloc (.cells #[.int .i64 (onI H.ms H.ds a a), .int .i64 (owW H.on H.ow a), .bool (onA H.ms H.ds a), .int .i64 (onI H.ms H.ds a (gK (onX H.ms a))), .int .i64 (onI H.ms H.ds a (gT (onX H.ms a))), .int .i64 (onI H.ms H.ds a (gN (onX H.ms a))), .slice y1 (onK H.ms H.ds a).length d1, .slice (some ⟨yb, yo, none⟩) (onV H.ms H.ds a).length d2] 104) = W := ⟨_, rfl⟩
  rw [hW] at hB
  obtain ⟨ob, hob⟩ : ∃ ob, w1.heap.size = ob := ⟨_, rfl⟩
  rw [hob] at hB
  have hycW : W.cell? ⟨yb, yo + i, none⟩ = some (.int .u64 old) := by rw [← hW]; exact cell_alloc_old _ hyc
  have z0 := heap_cell hB.o 0
  have z1 := heap_cell hB.o 1
  have z2 := heap_cell hB.o 2
  have z3 := heap_cell hB.o 3
  have z4 := heap_cell hB.o 4
  have z5 := heap_cell hB.o 5
  have z6 := heap_cell hB.o 6
  have z7 := heap_cell hB.o 7
  simp at z0 z1 z2 z3 z4 z5 z6 z7
  have hA := At_any (onI H.ms H.ds a a) (owW H.on H.ow a) (onI H.ms H.ds a (gK (onX H.ms a))) (onI H.ms H.ds a (gT (onX H.ms a))) (onI H.ms H.ds a (gN (onX H.ms a))) (onA H.ms H.ds a) y1 (onK H.ms H.ds a) d1 (some ⟨yb, yo, none⟩) (onV H.ms H.ds a).length d2 i W hB.r1 HH.out.2.1 i0 i1
  have ekk : kiV (onK H.ms H.ds a) i = kk := HKK.out
  rw [HH.out.2.2.1, ekk] at hA
  obtain ⟨av, hav⟩ : ∃ av, atV (onI H.ms H.ds a a) (onK H.ms H.ds a).length i = av := ⟨_, rfl⟩
  rw [hav] at hA
  have HB := Lib.hid hB
  clear hO hb r1 r2 n1 n2 hB hav ekk
  go_wp2_with fail
  try rw [hW]
  try simp only [hob]
  go_wp2_with fail
  refine hA.mono ?_
  rintro e w2 ⟨rfl, hb2⟩
  have hB := HB.out.later hb2
  have hyc2 := (hb2.cell (cell_lt hycW)).trans hycW
  have hP := Pointer_any kk w2 hB.h.tabs.1
  rw [HPP.out] at hP
  have HOLD := Lib.hid hold
  clear hA hb2 z0 z1 z2 z3 z4 z5 z6 z7 hW hob hyc hycW hold
  have hM := hmay2_any hB.h v v0 v1
  rw [HM.out.1] at hM
  have HYC := Lib.hid hyc2
  clear hyc2
  have z0 := heap_cell hB.o 0
  have z1 := heap_cell hB.o 1
  have c5 := heap_cell hB.h.blk 5
  simp at z0 z1 c5
  have HB := Lib.hid hB
  clear hB
  go_wp2_with fail
  refine hP.mono ?_
  rintro e w3 ⟨rfl, rfl⟩
  clear hP
  go_wp2_with fail
  refine hM.mono ?_
  rintro e w4 ⟨rfl, rfl⟩
  clear hM
  have hT := fun n => htarget_any (w := w2.drewN n) (HB.out.h.later (show Below w2.heap.size w2 (w2.drewN n) from ⟨rfl, rfl, rfl, by simp, fun _ _ => rfl⟩)) v v0 v1
  have hC := fun n => aCheck_any (w := w2.drewN n) (HB.out.h.later (show Below w2.heap.size w2 (w2.drewN n) from ⟨rfl, rfl, rfl, by simp, fun _ _ => rfl⟩)).tree (HB.out.h.later (show Below w2.heap.size w2 (w2.drewN n) from ⟨rfl, rfl, rfl, by simp, fun _ _ => rfl⟩)).tabs.1 HH.out.2.2.2.1.dn HH.out.2.2.2.1.f.pl HH.out.2.2.2.1.wk kk (owW H.on H.ow a) (tgt H v) HPP.out (by have := owW_le HH.out.2.2.2.1.f a; omega) (by have := owW_le HH.out.2.2.2.1.f a; omega) (by have := tgt_le HH.out.2.2.2.1.f v; omega) (by have := tgt_le HH.out.2.2.2.1.f v; omega)
  obtain ⟨tv, htv⟩ : ∃ tv, tgt H v = tv := ⟨_, rfl⟩
  obtain ⟨rg, hrg⟩ : ∃ rg, owW H.on H.ow a = rg := ⟨_, rfl⟩
  rw [hrg] at z1
  simp only [htv] at hT hC
  simp only [hrg] at hC
  obtain ⟨ce, hce⟩ : ∃ ce, chkE H.par M kk rg tv = ce := ⟨_, rfl⟩
  simp only [hce] at hC
  have HT := Lib.hid hT
  have HC := Lib.hid hC
  have HK : Hid (∀ n w3, Below (w2.drewN n).heap.size (w2.drewN n) w3 → Below w2.heap.size w2 w3 ∧ (w3.cell? ⟨B.hb, 5, none⟩ = some (.pointer (some ⟨B.tb, 0, none⟩)) ∧ w3.cell? ⟨ob, 1, none⟩ = some (.int .i64 rg))) := Lib.hid fun n w3 hb3 => by
    have hb4 : Below w2.heap.size w2 w3 := ⟨hb3.os, hb3.tape, hb3.output, hb3.size, hb3.block⟩
    exact ⟨hb4, (hb4.cell (p := ⟨B.hb, 5, none⟩) (cell_lt c5)).trans c5, (hb4.cell (p := ⟨ob, 1, none⟩) (cell_lt z1)).trans z1⟩
  have HCE := Lib.hid (And.intro hce (And.intro htv hrg))
  clear hT hC htv hrg hce z0
  go_wp2
  go_region_held3 (fun w' => w'.cell? ⟨B.hb, 5, none⟩ = some (.pointer (some ⟨B.tb, 0, none⟩)) ∧ w'.cell? ⟨ob, 1, none⟩ = some (.int .i64 rg)) (first | (with_reducible exact HZ.out.2) | go_keep) (first | (go_at_call 122; refine (HT.out _).mono ?_; rintro e w' ⟨rfl, rfl⟩) | (go_at_call 121; refine (HC.out _).mono ?_; rintro e w3 ⟨rfl, hb3⟩; have HZ := Lib.hid (HK.out _ _ hb3); clear hb3))
  all_goals
    have ec : ce = 0 := by have := HM.out.2; rw [HCE.out.2.1, HCE.out.2.2, HCE.out.1] at this; exact this
    subst ec
    have hB3 := HB.out.later HZ.out.1
    have hyc3 := (HZ.out.1.cell (cell_lt HYC.out)).trans HYC.out
    have hvx : 0 ≤ old ∧ old ≤ 18446744073709551615 := by
      have hl : i < (onV H.ms H.ds a).length := by rw [onV_length]; exact hi2
      have hmem : old ∈ H.ms := by
        rw [← HOLD.out, List.getElem?_eq_getElem hl]
        exact onV_mem (List.getElem_mem hl)
      have := HH.out.2.2.2.1.ms old hmem
      omega
    have hMv := fun n => hmoved_any (w := w3.drewN n) (hB3.h.later (show Below w3.heap.size w3 (w3.drewN n) from ⟨rfl, rfl, rfl, by simp, fun _ _ => rfl⟩)) HH.out.2.2.2.1.f kk rg old v hvx.1 hvx.2 v0 v1
    have z1 := heap_cell hB3.o 1
    have z7 := heap_cell hB3.o 7
    simp at z1 z7
    rw [HCE.out.2.2] at z1
    have HMv := Lib.hid hMv
    have hiv : (0 : Int) ≤ (i : Int) := by omega
    have hlv : ((i : Int) < ((onV H.ms H.ds a).length : Int)) := by rw [onV_length]; omega
    have HB3 := Lib.hid hB3
    have HK13 : Hid (∀ n w5 S5, Grows S S5 (w3.drewN n) w5 → (w5.cell? ⟨ob, 1, none⟩ = some (.int .i64 rg) ∧ w5.cell? ⟨ob, 7, none⟩ = some (.slice (some ⟨yb, yo, none⟩) (onV H.ms H.ds a).length d2) ∧ w5.cell? ⟨yb, yo + i, none⟩ = some (.int .u64 old)) ∧ (Grows S S5 w3 w5 ∧ w5.heap[ob]? = some (.cells #[.int .i64 (onI H.ms H.ds a a), .int .i64 (owW H.on H.ow a), .bool (onA H.ms H.ds a), .int .i64 (onI H.ms H.ds a (gK (onX H.ms a))), .int .i64 (onI H.ms H.ds a (gT (onX H.ms a))), .int .i64 (onI H.ms H.ds a (gN (onX H.ms a))), .slice y1 (onK H.ms H.ds a).length d1, .slice (some ⟨yb, yo, none⟩) (onV H.ms H.ds a).length d2] 104 (0, 0)) ∧ Reads .i64 w5 y1 (onK H.ms H.ds a) ∧ Reads .u64 w5 (some ⟨yb, yo, none⟩) (onV H.ms H.ds a))) := Lib.hid fun n w5 S5 hg => by
      have hbn := HB3.out.bn
      have hlt := (HeapSt.ok B H O0 O1).lt HH.out.1
      have hyb : w.heap.size ≤ yb := by
        rcases HB3.out.n2 with h | h
        · have := onV_length H.ms H.ds a; rw [h] at this; simp at this; omega
        · exact h _ rfl
      have hg3 : Grows S S5 w3 w5 := Grows.after_below (show Below w3.heap.size w3 (w3.drewN n) from ⟨rfl, rfl, rfl, by simp, fun _ _ => rfl⟩) hg
      refine ⟨?_, hg3, hg3.m.heap HB3.out.o (fun e => by have := hlt _ e; omega), reads_kept HB3.out.r1 hg3.m (HB3.out.n1.imp_right (fun h p e e2 => by have h1 := h p e; have h2 := hlt _ e2; omega)), reads_kept HB3.out.r2 hg3.m (HB3.out.n2.imp_right (fun h p e e2 => by have h1 := h p e; have h2 := hlt _ e2; omega))⟩
      exact ⟨hg.m.cell (p := ⟨ob, 1, none⟩) z1 (fun e => by have := hlt _ e; simp at this; omega), hg.m.cell (p := ⟨ob, 7, none⟩) z7 (fun e => by have := hlt _ e; simp at this; omega), hg.m.cell (p := ⟨yb, yo + i, none⟩) hyc3 (fun e => by have := hlt _ e; simp at this; omega)⟩
    clear hB3 hvx hMv
    go_wp2
    go_region_held3 (fun w' => w'.cell? ⟨ob, 1, none⟩ = some (.int .i64 rg) ∧ w'.cell? ⟨ob, 7, none⟩ = some (.slice (some ⟨yb, yo, none⟩) (onV H.ms H.ds a).length d2) ∧ w'.cell? ⟨yb, yo + i, none⟩ = some (.int .u64 old)) (first | (with_reducible exact HZ13.out.1) | go_keep) ((go_at_call 123; refine (HMv.out _).mono ?_; rintro e w5 ⟨rfl, S5, hs5, hg5⟩; have HZ13 := Lib.hid (HK13.out _ _ _ hg5); have HV := Lib.hid (And.intro hs5 hg5); clear hs5 hg5))
    all_goals
      clear z1 z7
      have hST := onK_fits (HH.out.2.2.2.1.on a HH.out.2.2.2.2.2)
      have hml := HH.out.2.2.2.1.ml
      have eon : onI H.ms H.ds a a = a := by rw [onI, if_pos (HH.out.2.2.2.1.on a HH.out.2.2.2.2.2)]
      have ew : wrap64 (a + (i : Int)) = a + (i : Int) := IntWalk.wrap64_in _ ⟨by omega, by omega⟩
      have est : stE H.ms.length (onI H.ms H.ds a a) (onK H.ms H.ds a).length i = 0 := by rw [eon, stE, if_pos (by simp [atB]; omega), ew, wrE, if_pos (by simp [inB]; omega)]
      have esl : stL H.ms (onI H.ms H.ds a a) (onK H.ms H.ds a).length i v = H.ms.set (a + (i : Int)).toNat v := by rw [eon, stL, if_pos (by simp [atB]; omega), ew, wrL, if_pos (by simp [inB]; omega)]
      have HST := Lib.hid (And.intro est esl)
      have hmwS : B.mw < w.heap.size ∧ B.mw ≠ B.hb := by
        obtain ⟨S0, hp, hs⟩ := Sep.get HH.out.1 2 (by omega)
        obtain ⟨hp, e0⟩ := hp
        exact ⟨(HeapSt.ok B H O0 O1).lt HH.out.1 _ (hs _ ((e0 _).2 (by simp))), fun e => heap_ne HH.out.1.blk hp.mem.2.1 (by simp [heapObj]) e.symm⟩
      have c0 := heap_cell (HV.out.1).blk 0
      have z0 := heap_cell HZ13.out.2.2.1 0
      have z1 := heap_cell HZ13.out.2.2.1 1
      have z2 := heap_cell HZ13.out.2.2.1 2
      have z3 := heap_cell HZ13.out.2.2.1 3
      have z4 := heap_cell HZ13.out.2.2.1 4
      have z5 := heap_cell HZ13.out.2.2.1 5
      have z6 := heap_cell HZ13.out.2.2.1 6
      have z7 := heap_cell HZ13.out.2.2.1 7
      simp at c0 z0 z1 z2 z3 z4 z5 z6 z7
      rw [HCE.out.2.2] at z1
      have hbd : ∀ n : Nat, Below (w5).heap.size (w5) ((w5).drewN n) := fun n => ⟨rfl, rfl, rfl, by simp, fun _ _ => rfl⟩
      have HM5 := fun n => pMem_any (w := (w5).drewN n) ((HV.out.1).later (hbd n)).pages
      have HS5 := fun n => (Store_any B.mb B.mw H.ms (onI H.ms H.ds a a) (rg) (onI H.ms H.ds a (gK (onX H.ms a))) (onI H.ms H.ds a (gT (onX H.ms a))) (onI H.ms H.ds a (gN (onX H.ms a))) (onA H.ms H.ds a) y1 (onK H.ms H.ds a) d1 (some ⟨yb, yo, none⟩) (onV H.ms H.ds a) d2 i v ((w5).drewN n) ((HV.out.1).later (hbd n)).pages.mem (HZ13.out.2.2.2.1.below (hbd n)) HH.out.2.1 (HZ13.out.2.2.2.2.below (hbd n)) (by rw [onV_length]; exact HH.out.2.1) (fun e => by cases e) (fun e => by
          have hr := HB.out.r1
          rcases hr with h | ⟨b, off, h, _⟩
          · exact absurd hi2 (by rw [h]; simp)
          · rw [e] at h; cases h) (HB.out.n1.imp_right (fun h p e => by have := h p e; omega)) (HB.out.n2.imp_right (fun h p e => by have := h p e; omega)) i0 i1).mono (R' := fun e w6 => ∃ o : Value, e = .returned (.tuple #[o, .int .i64 0]) ∧ (∃ o1 o2 o3 o4 o5 o6 o7 o8, o = .agg #[o1, o2, o3, o4, o5, o6, o7, o8]) ∧ ((w5).drewN n).grownBy w6 (some B.mw) ∧ MemAt w6 B.mb B.mw (H.ms.set (a + (i : Int)).toNat v) ∧ (w6.cell? ⟨B.hb, 0, none⟩ = some (.pointer (some ⟨B.pb, 0, none⟩)) ∧ w6.cell? ⟨ob, 0, none⟩ = some (.int .i64 (onI H.ms H.ds a a)) ∧ w6.cell? ⟨ob, 1, none⟩ = some (.int .i64 (rg)) ∧ w6.cell? ⟨ob, 2, none⟩ = some (.bool (onA H.ms H.ds a)) ∧ w6.cell? ⟨ob, 3, none⟩ = some (.int .i64 (onI H.ms H.ds a (gK (onX H.ms a)))) ∧ w6.cell? ⟨ob, 4, none⟩ = some (.int .i64 (onI H.ms H.ds a (gT (onX H.ms a)))) ∧ w6.cell? ⟨ob, 5, none⟩ = some (.int .i64 (onI H.ms H.ds a (gN (onX H.ms a)))) ∧ w6.cell? ⟨ob, 6, none⟩ = some (.slice y1 (onK H.ms H.ds a).length d1) ∧ w6.cell? ⟨ob, 7, none⟩ = some (.slice (some ⟨yb, yo, none⟩) (onV H.ms H.ds a).length d2))) (fun e w6 ⟨x1, x2, x4, x5, x6, x3, q1, q2, l1, l2, e1, e2, he, hg, hM, _⟩ => by
          rw [HST.out.1] at he
          rw [HST.out.2] at hM
          have hm : Moved (fun q => q = B.mw) (w5) w6 := (Moved.of_below (hbd n) _).trans (Moved.of_grown hg (S := fun q => q = B.mw) (fun k e => by cases e; rfl)) (fun q e => .inl e)
          have hbn := HB.out.bn
          have hob2 : ¬ ob = B.mw := by omega
          exact ⟨_, he, ⟨_, _, _, _, _, _, _, _, rfl⟩, hg, hM, hm.cell c0 (fun e => hmwS.2 e.symm), hm.cell z0 hob2, hm.cell z1 hob2, hm.cell z2 hob2, hm.cell z3 hob2, hm.cell z4 hob2, hm.cell z5 hob2, hm.cell z6 hob2, hm.cell z7 hob2⟩)
      have HS5 := Lib.hid HS5
      have HM5 := Lib.hid HM5
      clear hbd est esl eon ew hST hmwS
      go_wp2
      go_region_held3 (fun w' => w'.cell? ⟨B.hb, 0, none⟩ = some (.pointer (some ⟨B.pb, 0, none⟩)) ∧ w'.cell? ⟨ob, 0, none⟩ = some (.int .i64 (onI H.ms H.ds a a)) ∧ w'.cell? ⟨ob, 1, none⟩ = some (.int .i64 (rg)) ∧ w'.cell? ⟨ob, 2, none⟩ = some (.bool (onA H.ms H.ds a)) ∧ w'.cell? ⟨ob, 3, none⟩ = some (.int .i64 (onI H.ms H.ds a (gK (onX H.ms a)))) ∧ w'.cell? ⟨ob, 4, none⟩ = some (.int .i64 (onI H.ms H.ds a (gT (onX H.ms a)))) ∧ w'.cell? ⟨ob, 5, none⟩ = some (.int .i64 (onI H.ms H.ds a (gN (onX H.ms a)))) ∧ w'.cell? ⟨ob, 6, none⟩ = some (.slice y1 (onK H.ms H.ds a).length d1) ∧ w'.cell? ⟨ob, 7, none⟩ = some (.slice (some ⟨yb, yo, none⟩) (onV H.ms H.ds a).length d2)) (first | (with_reducible exact HZ5.out.2.2) | go_keep) (first | (go_at_call 89; refine (HM5.out _).mono ?_; rintro e w' ⟨rfl, rfl⟩) | (go_at_call 124; refine (HS5.out _).mono ?_; rintro e w6 ⟨o, rfl, ⟨o1, o2, o3, o4, o5, o6, o7, o8, rfl⟩, hg6, hm6, hc6⟩; have HZ5 := Lib.hid (And.intro hg6 (And.intro hm6 hc6)); clear hg6 hm6 hc6))
      all_goals
        go_wp2
        go_ret
        obtain ⟨S6, h6, g6⟩ := (HV.out.1.later (show Below w5.heap.size w5 (w5.drewN _) from ⟨rfl, rfl, rfl, by simp, fun _ _ => rfl⟩)).memStep (ms := H.ms.set (a + (i : Int)).toNat v) (by show (H.ms.set _ _).length = H.ms.length; simp) HZ5.out.1 HZ5.out.2.1
        refine ⟨by rw [e1.out]; rfl, S6, ?_, (Grows.below HB3.out.bl).trans (HZ13.out.2.1.trans (Grows.after_below (show Below w5.heap.size w5 (w5.drewN _) from ⟨rfl, rfl, rfl, by simp, fun _ _ => rfl⟩) g6))⟩
        rw [e2.out, HCE.out.2.2, show fvI H a (i : Int) = old from HOLD.out]
        exact h6
end
end Go.Proofs.YtcenagpkfimkbaaGreatDoor
