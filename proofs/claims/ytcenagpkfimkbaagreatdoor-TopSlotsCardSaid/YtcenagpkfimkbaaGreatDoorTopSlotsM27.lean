/-
  Contracts of functions of the program, laid together.
-/
import Derived.Test.YtcenagpkfimkbaaGreatDoorTopSlotsM2
import Derived.Test.YtcenagpkfimkbaaGreatDoorTopSlotsM10
import Derived.Test.YtcenagpkfimkbaaGreatDoorTopSlotsM13
import Derived.Test.YtcenagpkfimkbaaGreatDoorTopSlotsM15
import Derived.Test.YtcenagpkfimkbaaGreatDoorTopSlotsM16
import Derived.Test.YtcenagpkfimkbaaGreatDoorTopSlotsM17
import Derived.Test.YtcenagpkfimkbaaGreatDoorTopSlotsM18
import Derived.Test.YtcenagpkfimkbaaGreatDoorTopSlotsM19
import Derived.Test.YtcenagpkfimkbaaGreatDoorTopSlotsM20
import Derived.Test.YtcenagpkfimkbaaGreatDoorTopSlotsM26
namespace Go.Proofs.YtcenagpkfimkbaaGreatDoor
open Go Go.RowKit

structure HB where
  (hb pb rb rw mb mw ob om sb srb srw bb bm tb tm am cb cm gb gg fb : Nat)
  (ta : Option Addr)
  (tc : Nat)
structure AR where
  (ab plb : Nat)
  (pg us : Int)
  (rs ts : List (Int × Int))
structure HM where
  (gs : List Bool)
  (ms : List Int)
  (on : Nat)
  (ow : Nat → Int)
  (st : List Bool)
  (ds : List (List Int))
  (live : IM Unit)
  (last : Int)
  (par : IM Int)
  (ar : IM AR)
  (cnt : IM Int)
  (gl : List Int)
  (fr : List (List Int))

def blockP (b : Nat) (o : Obj) : HP := fun w S => w.heap[b]? = some o ∧ ∀ k, S k ↔ k = b
theorem blockP.ok (b : Nat) (o : Obj) : (blockP b o).Ok := by
  constructor
  · rintro w w' S T ⟨h, hs⟩ hm hd
    exact ⟨hm.heap h (hd _ ((hs _).2 rfl)), hs⟩
  · rintro w S ⟨h, hs⟩ k hk
    rw [(hs k).1 hk]; exact heap_lt h
def TypesP (a : Option Addr) (ds : List (List Int)) : HP := fun w S =>
  (ds = [] ∨ ∃ b off, a = some ⟨b, off, none⟩ ∧ S b ∧ ∀ i, i < ds.length → ∃ (fa : Option Addr) (c : Nat), w.cell? ⟨b, off + i, none⟩ = some (.slice fa (ds.getD i []).length c) ∧ Reads .i64 w fa (ds.getD i []) ∧ (fa = none → ds.getD i [] = [] ∧ c = 0) ∧ (∀ q, fa = some q → S q.block)) ∧ ∀ k, S k → k < w.heap.size
theorem TypesP.ok (a : Option Addr) (ds : List (List Int)) : (TypesP a ds).Ok := by
  constructor
  · rintro w w' S T ⟨h, hs⟩ hm hd
    refine ⟨?_, fun k hk => Nat.lt_of_lt_of_le (hs k hk) hm.size⟩
    rcases h with h | ⟨b, off, ha, hb, hc⟩
    · exact .inl h
    · refine .inr ⟨b, off, ha, hb, fun i hi => ?_⟩
      obtain ⟨fa, c, h1, h2, h3, h4⟩ := hc i hi
      exact ⟨fa, c, hm.cell h1 (hd b hb), hm.reads h2 (fun q hq => hd _ (h4 q hq)), h3, h4⟩
  · rintro w S ⟨h, hs⟩ k hk
    exact hs k hk
theorem TypesP.descs {a : Option Addr} {ds : List (List Int)} {w : World} {S : Nat → Prop} (h : TypesP a ds w S) : Descs w a ds := by
  rcases h.1 with h | ⟨b, off, ha, hb, hc⟩
  · exact .inl h
  · refine .inr ⟨b, off, ha, fun i hi => ?_⟩
    obtain ⟨fa, c, h1, h2, h3, h4⟩ := hc i hi
    exact ⟨fa, c, h1, h2, h3⟩
def arMap (ar : IM AR) : IM Value := mapV (fun A => ptrV A.ab) ar
def MapP (b : Nat) (m : IM Value) : HP := fun w S => MapAt .i64 3 w b m ∧ ∀ k, S k ↔ k = b
theorem MapP.ok (b : Nat) (m : IM Value) : (MapP b m).Ok := by
  constructor
  · rintro w w' S T ⟨h, hs⟩ hm hd
    exact ⟨h.moved hm (hd _ ((hs _).2 rfl)), hs⟩
  · rintro w S ⟨h, hs⟩ k hk
    rw [(hs k).1 hk]; exact h.lt
def FramesP (fb : Nat) (fr : List (List Int)) : HP := fun w S => StackAt w fb fr S
theorem FramesP.ok (fb : Nat) (fr : List (List Int)) : (FramesP fb fr).Ok :=
  ⟨fun h hm hd => h.moved hm hd, fun h k hk => by obtain ⟨sl, fr', h1, h2, h3, h4, h5, h6, h7, _⟩ := h; exact h7 k hk⟩
def TabsP (O0 O1 : Obj) : HP := fun w S => w.heap[0]? = some O0 ∧ w.heap[1]? = some O1 ∧ Tab w ∧ Nw w ∧ ∀ k, S k ↔ k = 0 ∨ k = 1
theorem Tab.moved {w w' : World} {T : Nat → Prop} (h : Tab w) (hm : Moved T w w') (ht : ¬ T 1) : Tab w' := fun i hi => hm.cell (h i hi) ht
theorem TabsP.ok (O0 O1 : Obj) : (TabsP O0 O1).Ok := by
  constructor
  · rintro w w' S T ⟨h0, h1, h2, h3, hs⟩ hm hd
    have d0 := hd _ ((hs 0).2 (.inl rfl))
    have d1 := hd _ ((hs 1).2 (.inr rfl))
    exact ⟨hm.heap h0 d0, hm.heap h1 d1, h2.moved hm d1, h3.moved hm d0, hs⟩
  · rintro w S ⟨h0, h1, h2, h3, hs⟩ k hk
    rcases (hs k).1 hk with rfl | rfl
    · exact heap_lt h0
    · exact heap_lt h1
def arenaP (pb : Nat) : Option AR → HP
  | none => hemp
  | some A => ArenaP A.ab A.plb pb A.pg A.us A.rs A.ts
theorem arenaP.ok (pb : Nat) (x : Option AR) : (arenaP pb x).Ok := by
  cases x with
  | none => exact hemp_ok
  | some A => exact ArenaP.ok _ _ _ _ _ _ _

def heapObj (B : HB) (n : Nat) : Obj :=
  .cells #[.pointer (some ⟨B.pb, 0, none⟩), .pointer (some ⟨B.ob, 0, none⟩), .pointer (some ⟨B.sb, 0, none⟩), .slice B.ta n B.tc, .pointer (some ⟨B.bb, 0, none⟩), .pointer (some ⟨B.tb, 0, none⟩), .map (some B.am), .pointer (some ⟨B.cb, 0, none⟩), .pointer (some ⟨B.gb, 0, none⟩), .pointer (some ⟨B.fb, 0, none⟩)] 117 (0, 0)
def heapP (B : HB) (H : HM) (O0 O1 : Obj) (i : Nat) : HP :=
  if i = 1 then blockP B.hb (heapObj B H.ds.length)
  else if i = 2 then PagesP B.pb B.rb B.rw B.mb B.mw H.gs H.ms
  else if i = 3 then OwnerP B.ob B.om H.on H.ow
  else if i = 4 then StartsP B.sb B.srb B.srw H.st
  else if i = 5 then TypesP B.ta H.ds
  else if i = 6 then BookP B.bb B.bm H.live H.last 64
  else if i = 7 then OneMapP 191 B.tb B.tm H.par
  else if i = 8 then MapP B.am (arMap H.ar)
  else if i = 9 then OneMapP 193 B.cb B.cm H.cnt
  else if i = 10 then GlobP B.gb B.gg H.gl
  else if i = 11 then FramesP B.fb H.fr
  else if i = 12 then TabsP O0 O1
  else if 20 < i then arenaP B.pb (lk H.ar ((i - 20 : Nat) : Int))
  else hemp
theorem ok_ite {c : Prop} [Decidable c] {p q : HP} (hp : p.Ok) (hq : q.Ok) : (if c then p else q).Ok := by
  by_cases h : c
  · rw [if_pos h]; exact hp
  · rw [if_neg h]; exact hq
theorem heapP_ok (B : HB) (H : HM) (O0 O1 : Obj) : ∀ i, (heapP B H O0 O1 i).Ok := fun _ =>
  ok_ite (blockP.ok _ _) (ok_ite (PagesP.ok _ _ _ _ _ _ _) (ok_ite (OwnerP.ok _ _ _ _) (ok_ite (StartsP.ok _ _ _ _) (ok_ite (TypesP.ok _ _) (ok_ite (BookP.ok _ _ _ _ _) (ok_ite (OneMapP.ok _ _ _ _) (ok_ite (MapP.ok _ _) (ok_ite (OneMapP.ok _ _ _ _) (ok_ite (GlobP.ok _ _ _) (ok_ite (FramesP.ok _ _) (ok_ite (TabsP.ok _ _) (ok_ite (arenaP.ok _ _) hemp_ok))))))))))))
def HeapSt (B : HB) (H : HM) (O0 O1 : Obj) : HP := Sep (heapP B H O0 O1)
theorem HeapSt.ok (B : HB) (H : HM) (O0 O1 : Obj) : (HeapSt B H O0 O1).Ok := Sep.ok (heapP_ok B H O0 O1)

theorem Sep.get {P : Nat → HP} {w : World} {S : Nat → Prop} (h : Sep P w S) (i : Nat) (hi : 0 < i) : ∃ S0, P i w S0 ∧ ∀ k, S0 k → S k := by
  obtain ⟨γ, h1, h2⟩ := h
  exact ⟨_, h2 i hi, fun k hk => (h1 k).2 (by omega)⟩
section
variable {B : HB} {H : HM} {O0 O1 : Obj} {w : World} {S : Nat → Prop}
theorem HeapSt.blk (h : HeapSt B H O0 O1 w S) : w.heap[B.hb]? = some (heapObj B H.ds.length) := by obtain ⟨_, h, _⟩ := Sep.get h 1 (by omega); exact h.1
theorem HeapSt.pages (h : HeapSt B H O0 O1 w S) : PagesAt w B.pb B.rb B.rw B.mb B.mw H.gs H.ms := by obtain ⟨_, h, _⟩ := Sep.get h 2 (by omega); exact h.1
theorem HeapSt.owner (h : HeapSt B H O0 O1 w S) : ∃ gm, OwnerAt w B.ob B.om gm H.on H.ow := by obtain ⟨_, ⟨gm, h, _⟩, _⟩ := Sep.get h 3 (by omega); exact ⟨gm, h⟩
theorem HeapSt.starts (h : HeapSt B H O0 O1 w S) : StartsAt w B.sb B.srb B.srw H.st := by obtain ⟨_, h, _⟩ := Sep.get h 4 (by omega); exact h.1
theorem HeapSt.types (h : HeapSt B H O0 O1 w S) : Descs w B.ta H.ds := by obtain ⟨_, h, _⟩ := Sep.get h 5 (by omega); exact TypesP.descs h
theorem HeapSt.book (h : HeapSt B H O0 O1 w S) : BookAt w B.bb B.bm H.live H.last 64 := by obtain ⟨_, h, _⟩ := Sep.get h 6 (by omega); exact h.1
theorem HeapSt.tree (h : HeapSt B H O0 O1 w S) : TreeAt w B.tb B.tm H.par := by obtain ⟨_, h, _⟩ := Sep.get h 7 (by omega); exact h.1
theorem HeapSt.arenas (h : HeapSt B H O0 O1 w S) : MapAt .i64 3 w B.am (arMap H.ar) := by obtain ⟨_, h, _⟩ := Sep.get h 8 (by omega); exact h.1
theorem HeapSt.counts (h : HeapSt B H O0 O1 w S) : TallyAt w B.cb B.cm H.cnt := by obtain ⟨_, h, _⟩ := Sep.get h 9 (by omega); exact h.1
theorem HeapSt.globs (h : HeapSt B H O0 O1 w S) : GlobAt w B.gb B.gg H.gl := by obtain ⟨_, h, _⟩ := Sep.get h 10 (by omega); exact h.1
theorem HeapSt.tabs (h : HeapSt B H O0 O1 w S) : Tab w ∧ Nw w := by obtain ⟨_, h, _⟩ := Sep.get h 12 (by omega); exact ⟨h.2.2.1, h.2.2.2.1⟩
theorem HeapSt.later {w' : World} (h : HeapSt B H O0 O1 w S) (hb : Below w.heap.size w w') : HeapSt B H O0 O1 w' S := (HeapSt.ok B H O0 O1).below h hb

theorem HeapSt.step (h : HeapSt B H O0 O1 w S) (i : Nat) (hi : 0 < i) (H' : HM) (hH : upd (heapP B H O0 O1) i (heapP B H' O0 O1 i) = heapP B H' O0 O1) :
    ∃ S0, heapP B H O0 O1 i w S0 ∧ (∀ k, S0 k → S k) ∧ ∀ (w' : World) (S0' : Nat → Prop), heapP B H' O0 O1 i w' S0' → Grows S0 S0' w w' → ∃ S', HeapSt B H' O0 O1 w' S' ∧ Grows S S' w w' := by
  obtain ⟨S0, h0, hs, hc⟩ := Sep.open_ (heapP_ok B H O0 O1) h i hi
  refine ⟨S0, h0, hs, fun w' S0' hp hg => ?_⟩
  obtain ⟨S', h', hg'⟩ := hc w' S0' _ hp hg
  rw [hH] at h'
  exact ⟨S', h', hg'⟩
end
theorem upd_eq {P Q : Nat → HP} {i : Nat} (h : ∀ j, j ≠ i → P j = Q j) : upd P i (Q i) = Q := by
  funext j
  by_cases e : j = i
  · subst e; rw [upd_same]
  · rw [upd_ne _ _ e, h j e]
end Go.Proofs.YtcenagpkfimkbaaGreatDoor
namespace Go.Proofs.YtcenagpkfimkbaaGreatDoor
open Go Go.RowKit

structure Fine (H : HM) : Prop where
  l0 : 0 ≤ H.last
  l1 : H.last ≤ 1000000
  ll : H.live.length ≤ 1000000
  pl : H.par.length ≤ 1000000
  cl : H.cnt.length ≤ 1000000
  ct : Told H.cnt
  ob : ∀ p, 0 ≤ H.ow p ∧ H.ow p ≤ 1000000
  gv : ∀ i, 0 ≤ glV H.gl i ∧ glV H.gl i ≤ 18446744073709551615

def livesB (H : HM) (r : Int) : Bool := decide (r ≤ H.last) && (lk H.live r).isSome

set_option maxRecDepth 100000 in
theorem hlives_any {B : HB} {H : HM} {O0 O1 : Obj} {w : World} {S : Nat → Prop} (h : HeapSt B H O0 O1 w S) (hF : Fine H) (r : Int) (r0 : 0 ≤ r) (r1 : r ≤ 18446744073709551615) :
    Calls Tryz.prog 101 #[.pointer (some ⟨B.hb, 0, none⟩), .int .u64 r] w fun e w' => e = .returned (.tuple #[.int .i64 (IntKind.i64.wrap r), .bool (livesB H r)]) ∧ Below w.heap.size w w' := by
  have c4 := heap_cell h.blk 4
  simp at c4
  have hL := iLast_any h.book
  have l0 := hF.l0
  have l1 := hF.l1
  have hb := h.book
  obtain ⟨last, hlast⟩ : ∃ x, H.last = x := ⟨_, rfl⟩
  have e0 : Hid (livesB H r = (decide (r ≤ last) && (lk H.live r).isSome)) := Lib.hid (by rw [livesB, hlast])
  rw [hlast] at hL l0 l1 hb
  have hw : IntKind.u64.wrap last = last := by rw [IntKind.wrap_u64]; omega
  by_cases hr : r ≤ last
  · have hv := iLives_any hb r (by omega) (by omega)
    have y1 : IntKind.i64.wrap r = r := by rw [IntKind.wrap_i64]; omega
    have e1 : Hid (livesB H r = (lk H.live r).isSome) := Lib.hid (by rw [e0.out]; simp [hr])
    rw [y1]
    obtain ⟨b, hb'⟩ : ∃ b, (lk H.live r).isSome = b := ⟨_, rfl⟩
    rw [hb'] at hv e1
    clear h hF hb hlast hb' e0
    go_enter Tryz.func101, Tryz.ntmps101
    go_wp2_with fail
    refine hL.mono ?_
    rintro e w1 ⟨rfl, rfl⟩
    clear hL
    go_wp2_with fail
    refine hv.mono ?_
    rintro e w2 ⟨rfl, hb2⟩
    clear hv
    go_wp2
    go_ret2
    exact ⟨by rw [e1.out]; rfl, hb2⟩
  · have e1 : Hid (livesB H r = false) := Lib.hid (by rw [e0.out]; simp [hr])
    obtain ⟨y, hy⟩ : ∃ y, IntKind.i64.wrap r = y := ⟨_, rfl⟩
    rw [hy]
    clear h hF hb hlast e0
    go_enter Tryz.func101, Tryz.ntmps101
    go_wp2_with fail
    refine hL.mono ?_
    rintro e w1 ⟨rfl, rfl⟩
    clear hL
    go_wp2
    go_ret2
    exact ⟨by rw [e1.out]; rfl, Below.refl _ _⟩

def cntV (H : HM) (r : Int) : Int := if livesB H r = true then at0 H.cnt r else 0
def cntE (H : HM) (r : Int) : Int := if livesB H r = true then 0 else 2
theorem livesB_le {H : HM} {r : Int} (h : livesB H r = true) : r ≤ H.last ∧ (lk H.live r).isSome = true := by
  simp only [livesB, Bool.and_eq_true, decide_eq_true_eq] at h
  exact h

set_option maxRecDepth 100000 in
theorem hCount_any {B : HB} {H : HM} {O0 O1 : Obj} {w : World} {S : Nat → Prop} (h : HeapSt B H O0 O1 w S) (hF : Fine H) (r : Int) (r0 : 0 ≤ r) (r1 : r ≤ 18446744073709551615) :
    Calls Tryz.prog 82 #[.pointer (some ⟨B.hb, 0, none⟩), .int .u64 r] w fun e w' => e = .returned (.tuple #[.int .u64 (cntV H r), .int .i64 (cntE H r)]) ∧ Below w.heap.size w w' := by
  have HH := Lib.hid (And.intro h hF)
  have hl := hlives_any h hF r r0 r1
  clear h hF
  cases hb : livesB H r
  · have e1 : Hid (cntV H r = 0 ∧ cntE H r = 2) := Lib.hid (by rw [cntV, cntE, hb]; exact ⟨rfl, rfl⟩)
    rw [hb] at hl
    obtain ⟨y, hy⟩ : ∃ y, IntKind.i64.wrap r = y := ⟨_, rfl⟩
    rw [hy] at hl
    clear hb hy
    go_enter Tryz.func82, Tryz.ntmps82
    go_wp2_with fail
    refine hl.mono ?_
    rintro e w1 ⟨rfl, hb1⟩
    go_wp2
    go_ret2
    exact ⟨by rw [e1.out.1, e1.out.2]; rfl, hb1⟩
  · have hle := (livesB_le hb).1
    have l1 := HH.out.2.l1
    have e1 : Hid (cntV H r = at0 H.cnt r ∧ cntE H r = 0) := Lib.hid (by rw [cntV, cntE, hb]; exact ⟨rfl, rfl⟩)
    rw [hb, show IntKind.i64.wrap r = r by rw [IntKind.wrap_i64]; omega] at hl
    have ht := HH.out.2.ct r
    obtain ⟨v, hv⟩ : ∃ v, at0 H.cnt r = v := ⟨_, rfl⟩
    have hO := fun (w' : World) (hb : Below w.heap.size w w') => taOf_any (HH.out.1.later hb).counts r (by omega) (by omega)
    rw [hv] at ht e1 hO
    have HO := Lib.hid hO
    have hw : IntKind.u64.wrap v = v := by rw [IntKind.wrap_u64]; omega
    clear hb hle l1 ht hv hO
    go_enter Tryz.func82, Tryz.ntmps82
    go_wp2_with fail
    refine hl.mono ?_
    rintro e w1 ⟨rfl, hb1⟩
    have c7 := heap_cell (HH.out.1.later hb1).blk 7
    simp at c7
    have hO1 := HO.out w1 hb1
    have HB := Lib.hid hb1
    clear hl hb1
    go_wp2_with fail
    refine hO1.mono ?_
    rintro e w2 ⟨rfl, rfl⟩
    clear hO1
    go_wp2
    go_ret2
    exact ⟨by rw [e1.out.1, e1.out.2]; rfl, HB.out⟩

def tgt (H : HM) (v : Int) : Int := if hasM H.st v = true then owW H.on H.ow v else 0
set_option maxRecDepth 100000 in
theorem htarget_any {B : HB} {H : HM} {O0 O1 : Obj} {w : World} {S : Nat → Prop} (h : HeapSt B H O0 O1 w S) (v : Int) (v0 : 0 ≤ v) (v1 : v ≤ 18446744073709551615) :
    Calls Tryz.prog 122 #[.pointer (some ⟨B.hb, 0, none⟩), .int .u64 v] w fun e w' => e = .returned (.int .i64 (tgt H v)) ∧ w = w' := by
  have c1 := heap_cell h.blk 1
  have c2 := heap_cell h.blk 2
  simp at c1 c2
  have hs := sIs_any h.starts v v0 v1
  have hl := h.starts.len
  cases hb : hasM H.st v
  · have e1 : Hid (tgt H v = 0) := Lib.hid (by rw [tgt, hb]; rfl)
    rw [hb] at hs
    clear h hb
    go_enter Tryz.func122, Tryz.ntmps122
    go_wp2_with fail
    refine hs.mono ?_
    rintro e w1 ⟨rfl, rfl⟩
    clear hs
    go_wp2
    go_ret
    exact ⟨by rw [e1.out]; rfl, rfl⟩
  · have e1 : Hid (tgt H v = owW H.on H.ow v) := Lib.hid (by rw [tgt, hb]; rfl)
    have hv : v < H.st.length := by
      unfold hasM at hb
      split at hb
      · rename_i h; exact h.2
      · cases hb
    obtain ⟨gm, hO⟩ := h.owner
    have hw := oWord_any hO v (by omega)
    have y1 : IntKind.i64.wrap v = v := by rw [IntKind.wrap_i64]; omega
    obtain ⟨y, hy⟩ : ∃ y, owW H.on H.ow v = y := ⟨_, rfl⟩
    rw [hy] at hw e1
    rw [hb] at hs
    clear h hb hv hO hl hy
    go_enter Tryz.func122, Tryz.ntmps122
    go_wp2_with fail
    refine hs.mono ?_
    rintro e w1 ⟨rfl, rfl⟩
    clear hs
    go_wp2_with fail
    refine hw.mono ?_
    rintro e w1 ⟨rfl, rfl⟩
    clear hw
    go_wp2
    go_ret
    exact ⟨by rw [e1.out]; rfl, rfl⟩

def mayP (H : HM) (v : Int) : Bool := decide (v = 0) || hasM H.st v
set_option maxRecDepth 100000 in
theorem hmay2_any {B : HB} {H : HM} {O0 O1 : Obj} {w : World} {S : Nat → Prop} (h : HeapSt B H O0 O1 w S) (v : Int) (v0 : 0 ≤ v) (v1 : v ≤ 18446744073709551615) :
    Calls Tryz.prog 120 #[.pointer (some ⟨B.hb, 0, none⟩), .int .u64 v] w fun e w' => e = .returned (.bool (mayP H v)) ∧ w = w' := by
  have c2 := heap_cell h.blk 2
  simp at c2
  have hs := sIs_any h.starts v v0 v1
  obtain ⟨y, hy⟩ : ∃ y, hasM H.st v = y := ⟨_, rfl⟩
  have e0 : Hid (mayP H v = (decide (v = 0) || y)) := Lib.hid (by rw [mayP, hy])
  rw [hy] at hs
  clear h hy
  by_cases hz : v = 0
  · subst hz
    have e1 : Hid (mayP H 0 = true) := Lib.hid (by rw [e0.out]; simp)
    go_enter Tryz.func120, Tryz.ntmps120
    go_wp2
    go_ret
    exact ⟨by rw [e1.out]; rfl, rfl⟩
  · have y1 : (v == 0) = false := by simpa using hz
    have e1 : Hid (mayP H v = y) := Lib.hid (by rw [e0.out]; simp [hz])
    clear hz
    go_enter Tryz.func120, Tryz.ntmps120
    go_wp2_with fail
    refine hs.mono ?_
    rintro e w1 ⟨rfl, rfl⟩
    clear hs
    go_wp2
    go_ret
    exact ⟨by rw [e1.out]; rfl, rfl⟩

def cntB (kind holder target : Int) : Bool := decide (kind = 1 ∧ target ≠ 0 ∧ target ≠ holder)
theorem aCounts_any (kind holder target : Int) (w : World) :
    Calls Tryz.prog 154 #[.int .i64 kind, .int .i64 holder, .int .i64 target] w fun e w' => e = .returned (.bool (cntB kind holder target)) ∧ w = w' := by
  by_cases h1 : kind = 1
  · subst h1
    by_cases h2 : target = 0
    · subst h2
      have e1 : Hid (cntB 1 holder 0 = false) := Lib.hid (by simp [cntB])
      go_enter Tryz.func154, Tryz.ntmps154
      go_wp2
      go_ret
      exact ⟨by rw [e1.out]; rfl, rfl⟩
    · have y2 : (target != 0) = true := by simpa using h2
      by_cases h3 : target = holder
      · have y3 : (target != holder) = false := by simpa using h3
        have e1 : Hid (cntB 1 holder target = false) := Lib.hid (by simp [cntB, h3])
        clear h2 h3
        go_enter Tryz.func154, Tryz.ntmps154
        go_wp2
        go_ret
        exact ⟨by rw [e1.out]; rfl, rfl⟩
      · have y3 : (target != holder) = true := by simpa using h3
        have e1 : Hid (cntB 1 holder target = true) := Lib.hid (by simp [cntB, h2, h3])
        clear h2 h3
        go_enter Tryz.func154, Tryz.ntmps154
        go_wp2
        go_ret
        exact ⟨by rw [e1.out]; rfl, rfl⟩
  · have y1 : (kind == 1) = false := by simpa using h1
    have e1 : Hid (cntB kind holder target = false) := Lib.hid (by simp [cntB, h1])
    clear h1
    go_enter Tryz.func154, Tryz.ntmps154
    go_wp2
    go_ret
    exact ⟨by rw [e1.out]; rfl, rfl⟩
end Go.Proofs.YtcenagpkfimkbaaGreatDoor
namespace Go.Proofs.YtcenagpkfimkbaaGreatDoor
open Go Go.RowKit

theorem tgt_le {H : HM} (hF : Fine H) (v : Int) : 0 ≤ tgt H v ∧ tgt H v ≤ 1000000 := by
  unfold tgt
  split
  · unfold owW
    split
    · omega
    · unfold owP
      split
      · exact hF.ob _
      · omega
  · omega
def cz (kind holder t : Int) : Int := if cntB kind holder t = true then t else 0
theorem cz_le {kind holder t : Int} (h : 0 ≤ t ∧ t ≤ 1000000) : 0 ≤ cz kind holder t ∧ cz kind holder t ≤ 1000000 := by
  unfold cz; split <;> omega
def mvd (H : HM) (kind holder old v : Int) : HM := { H with cnt := swL H.cnt (cz kind holder (tgt H old)) (cz kind holder (tgt H v)) }

theorem HeapSt.cntStep {B : HB} {H : HM} {O0 O1 : Obj} {w : World} {S : Nat → Prop} (h : HeapSt B H O0 O1 w S) {m : IM Int} {w' : World} (hm : Moved (fun q => q = B.cm) w w') (ht : TallyAt w' B.cb B.cm m) :
    ∃ S', HeapSt B { H with cnt := m } O0 O1 w' S' ∧ Grows S S' w w' := by
  obtain ⟨S0, h0, hs, hc⟩ := h.step 9 (by omega) { H with cnt := m } (upd_eq fun j hj => by simp only [heapP]; rw [if_neg hj, if_neg hj])
  have e0 := h0.2
  refine hc w' S0 ⟨ht, e0⟩ ⟨(Moved.refl S0 w).trans hm (fun k hk => .inl ((e0 k).2 (.inr hk))), fun k hk => .inl hk⟩

set_option maxRecDepth 100000 in
set_option maxHeartbeats 2000000 in
theorem hmoved_any {B : HB} {H : HM} {O0 O1 : Obj} {w : World} {S : Nat → Prop} (h : HeapSt B H O0 O1 w S) (hF : Fine H) (kind holder old v : Int) (o0 : 0 ≤ old) (o1 : old ≤ 18446744073709551615) (v0 : 0 ≤ v) (v1 : v ≤ 18446744073709551615) :
    Calls Tryz.prog 123 #[.pointer (some ⟨B.hb, 0, none⟩), .int .i64 kind, .int .i64 holder, .int .u64 old, .int .u64 v] w fun e w' => e = .returned (.tuple #[]) ∧ ∃ S', HeapSt B (mvd H kind holder old v) O0 O1 w' S' ∧ Grows S S' w w' := by
  have h1 := htarget_any h old o0 o1
  have h2 := htarget_any h v v0 v1
  have t1 := tgt_le hF old
  have t2 := tgt_le hF v
  have hS := taSwap_any h.counts hF.ct (cz kind holder (tgt H old)) (cz kind holder (tgt H v)) (by have := cz_le (kind := kind) (holder := holder) t1; omega) (by have := cz_le (kind := kind) (holder := holder) t1; omega) (by have := cz_le (kind := kind) (holder := holder) t2; omega) (by have := cz_le (kind := kind) (holder := holder) t2; omega) (by have := hF.cl; omega)
  have HH := Lib.hid h
  have c7 := heap_cell h.blk 7
  simp at c7
  unfold mvd
  obtain ⟨a, ha⟩ : ∃ a, tgt H old = a := ⟨_, rfl⟩
  obtain ⟨b, hb⟩ : ∃ b, tgt H v = b := ⟨_, rfl⟩
  rw [ha] at h1 hS ⊢
  rw [hb] at h2 hS ⊢
  have hA := aCounts_any kind holder a w
  have hB := aCounts_any kind holder b w
  obtain ⟨x, hx⟩ : ∃ x, cz kind holder a = x := ⟨_, rfl⟩
  obtain ⟨y, hy⟩ : ∃ y, cz kind holder b = y := ⟨_, rfl⟩
  rw [hx, hy] at hS ⊢
  obtain ⟨q, hq⟩ : ∃ q, swL H.cnt x y = q := ⟨_, rfl⟩
  rw [hq] at hS ⊢
  clear h hF t1 t2 ha hb hq
  cases e1 : cntB kind holder a <;> cases e2 : cntB kind holder b
  all_goals
    simp only [cz, e1, e2, if_true, Bool.false_eq_true, if_false] at hx hy
    subst hx hy
    rw [e1] at hA
    rw [e2] at hB
    clear e1 e2
    go_enter Tryz.func123, Tryz.ntmps123
    go_wp2_with fail
    refine h1.mono ?_
    rintro e w1 ⟨rfl, rfl⟩
    clear h1
    go_wp2_with fail
    refine h2.mono ?_
    rintro e w1 ⟨rfl, rfl⟩
    clear h2
    go_wp2_with fail
    refine hA.mono ?_
    rintro e w1 ⟨rfl, rfl⟩
    clear hA
    go_wp2_with fail
    refine hB.mono ?_
    rintro e w1 ⟨rfl, rfl⟩
    clear hB
    go_wp2_with fail
    refine hS.mono ?_
    rintro e w1 ⟨rfl, hm, ht⟩
    clear hS
    go_wp2
    go_end0
    exact ⟨rfl, HH.out.cntStep hm ht⟩

theorem HeapSt.glStep {B : HB} {H : HM} {O0 O1 : Obj} {w : World} {S : Nat → Prop} (h : HeapSt B H O0 O1 w S) {m : List Int} {w' : World} (hm : Moved (fun q => q = B.gg) w w') (ht : GlobAt w' B.gb B.gg m) :
    ∃ S', HeapSt B { H with gl := m } O0 O1 w' S' ∧ Grows S S' w w' := by
  obtain ⟨S0, h0, hs, hc⟩ := h.step 10 (by omega) { H with gl := m } (upd_eq fun j hj => by simp only [heapP]; rw [if_neg hj, if_neg hj])
  have e0 := h0.2
  refine hc w' S0 ⟨ht, e0⟩ ⟨(Moved.refl S0 w).trans hm (fun k hk => .inl ((e0 k).2 (.inr hk))), fun k hk => .inl hk⟩

def sgE (H : HM) (i v : Int) : Int := if glE H.gl i ≠ 0 then glE H.gl i else if mayP H v = true then 0 else 9
def sgH (H : HM) (i v : Int) : HM := if sgE H i v = 0 then { mvd H 1 0 (glV H.gl i) v with gl := glS H.gl i v } else H
set_option maxRecDepth 100000 in
set_option maxHeartbeats 2000000 in
theorem hSetGlobal_any {B : HB} {H : HM} {O0 O1 : Obj} {w : World} {S : Nat → Prop} (h : HeapSt B H O0 O1 w S) (hF : Fine H) (i v : Int) (i0 : 0 ≤ i) (i1 : i ≤ 18446744073709551615) (v0 : 0 ≤ v) (v1 : v ≤ 18446744073709551615) :
    Calls Tryz.prog 70 #[.pointer (some ⟨B.hb, 0, none⟩), .int .u64 i, .int .u64 v] w fun e w' => e = .returned (.int .i64 (sgE H i v)) ∧ ∃ S', HeapSt B (sgH H i v) O0 O1 w' S' ∧ Grows S S' w w' := by
  have h1 := gGet_any h.globs i i0 i1
  have h2 := hmay2_any h v v0 v1
  have gv := hF.gv i
  have h3 := hmoved_any h hF 1 0 (glV H.gl i) v gv.1 gv.2 v0 v1
  have HH := Lib.hid h
  have c6 := heap_cell h.blk 8
  simp at c6
  have hG := fun (w' : World) (S' : Nat → Prop) (h' : HeapSt B (mvd H 1 0 (glV H.gl i) v) O0 O1 w' S') => gSet_any h'.globs i v i0 i1
  have e0 : Hid (sgE H i v = if glE H.gl i ≠ 0 then glE H.gl i else if mayP H v = true then 0 else 9) := Lib.hid rfl
  have e1 : Hid (sgH H i v = if sgE H i v = 0 then { mvd H 1 0 (glV H.gl i) v with gl := glS H.gl i v } else H) := Lib.hid rfl
  have eg : (mvd H 1 0 (glV H.gl i) v).gl = H.gl := rfl
  simp only [eg] at hG
  obtain ⟨H1, hH1⟩ : ∃ H1, mvd H 1 0 (glV H.gl i) v = H1 := ⟨_, rfl⟩
  rw [hH1] at h3 e1
  simp only [hH1] at hG
  obtain ⟨g, hg⟩ : ∃ g, glE H.gl i = g := ⟨_, rfl⟩
  simp only [hg] at hG
  have HG := Lib.hid hG
  obtain ⟨m, hm⟩ : ∃ m, mayP H v = m := ⟨_, rfl⟩
  obtain ⟨x, hx⟩ : ∃ x, glV H.gl i = x := ⟨_, rfl⟩
  rw [hg] at h1 e0
  rw [hm] at h2 e0
  rw [hx] at h1 h3
  have c7 : ∀ w' S', HeapSt B H1 O0 O1 w' S' → w'.cell? ⟨B.hb, 8, none⟩ = some (.pointer (some ⟨B.gb, 0, none⟩)) := fun w' S' h' => by
    have := heap_cell h'.blk 8
    simpa using this
  have C7 := Lib.hid c7
  clear h hF gv hG hg hm hx hH1 eg c7
  by_cases z : g = 0
  · subst z
    cases m
    · have e2 : Hid (sgE H i v = 9) := Lib.hid (by rw [e0.out]; rfl)
      have e3 : Hid (sgH H i v = H) := Lib.hid (by rw [e1.out, e2.out]; rfl)
      go_enter Tryz.func70, Tryz.ntmps70
      go_wp2_with fail
      refine h1.mono ?_
      rintro e w1 ⟨rfl, rfl⟩
      clear h1
      go_wp2_with fail
      refine h2.mono ?_
      rintro e w1 ⟨rfl, rfl⟩
      clear h2
      go_wp2
      go_ret
      exact ⟨by rw [e2.out]; rfl, S, by rw [e3.out]; exact HH.out, Grows.refl _ _⟩
    · have e2 : Hid (sgE H i v = 0) := Lib.hid (by rw [e0.out]; rfl)
      have e3 : Hid (sgH H i v = { H1 with gl := glS H.gl i v }) := Lib.hid (by rw [e1.out, e2.out]; rfl)
      obtain ⟨gs, hgs⟩ : ∃ gs, glS H.gl i v = gs := ⟨_, rfl⟩
      rw [hgs] at HG e3
      clear hgs
      go_enter Tryz.func70, Tryz.ntmps70
      go_wp2_with fail
      refine h1.mono ?_
      rintro e w1 ⟨rfl, rfl⟩
      clear h1
      go_wp2_with fail
      refine h2.mono ?_
      rintro e w1 ⟨rfl, rfl⟩
      clear h2
      go_wp2_with fail
      refine h3.mono ?_
      rintro e w1 ⟨rfl, S1, hs1, hgr⟩
      clear h3
      have h4 := HG.out w1 S1 hs1
      have c8 := C7.out w1 S1 hs1
      have HS := Lib.hid hs1
      have HGR := Lib.hid hgr
      clear hs1 hgr
      go_wp2_with fail
      refine h4.mono ?_
      rintro e w2 ⟨rfl, hm, ht⟩
      clear h4
      go_wp2
      go_ret
      obtain ⟨S2, hs2, hgr2⟩ := HS.out.glStep hm ht
      exact ⟨by rw [e2.out]; rfl, S2, by rw [e3.out]; exact hs2, HGR.out.trans hgr2⟩
  · have e2 : Hid (sgE H i v = g) := Lib.hid (by rw [e0.out, if_pos z])
    have e3 : Hid (sgH H i v = H) := Lib.hid (by rw [e1.out, e2.out, if_neg z])
    have z1 : (g != 0) = true := by simpa using z
    clear z
    go_enter Tryz.func70, Tryz.ntmps70
    go_wp2_with fail
    refine h1.mono ?_
    rintro e w1 ⟨rfl, rfl⟩
    clear h1
    go_wp2
    go_ret
    exact ⟨by rw [e2.out]; rfl, S, by rw [e3.out]; exact HH.out, Grows.refl _ _⟩
end Go.Proofs.YtcenagpkfimkbaaGreatDoor
namespace Go.Proofs.YtcenagpkfimkbaaGreatDoor
open Go Go.RowKit

theorem heapP_arena (B : HB) (H : HM) (O0 O1 : Obj) {id : Int} (h : 1 ≤ id) : heapP B H O0 O1 (20 + id.toNat) = arenaP B.pb (lk H.ar id) := by
  have e : (((20 + id.toNat) - 20 : Nat) : Int) = id := by omega
  simp only [heapP]
  rw [if_neg (by omega), if_neg (by omega), if_neg (by omega), if_neg (by omega), if_neg (by omega), if_neg (by omega), if_neg (by omega), if_neg (by omega), if_neg (by omega), if_neg (by omega), if_neg (by omega), if_neg (by omega), if_pos (by omega), e]
theorem HeapSt.arStep {B : HB} {H : HM} {O0 O1 : Obj} {w : World} {S : Nat → Prop} (h : HeapSt B H O0 O1 w S) {id : Int} (hid : 1 ≤ id) {A : AR} {w1 w' : World}
    (hb : Below w.heap.size w w1) {vr vt : Value} (hA : ArenaAt w1 A.ab A.plb B.pb A.pg A.us vr vt A.rs A.ts) (hn : ∀ k, k = A.ab ∨ k = A.plb ∨ vr.ownBlock = some k ∨ vt.ownBlock = some k → w.heap.size ≤ k)
    (hm : w1.mapTurned w' B.am) (hM : MapAt .i64 3 w' B.am (mput (arMap H.ar) id (ptrV A.ab))) :
    ∃ S', HeapSt B { H with ar := mput H.ar id A } O0 O1 w' S' ∧ Grows S S' w w' := by
  have hris : Rising H.ar := (rising_mapV _ _).1 h.arenas.rising
  obtain ⟨S1, S2, h1, h2, hd, hs, hc⟩ := Sep.open2 (heapP_ok B H O0 O1) h 8 (20 + id.toNat) (by omega) (by omega) (by omega)
  have e1 : ∀ k, S1 k ↔ k = B.am := h1.2
  have hlt : B.am < w.heap.size := (MapP.ok _ _).lt h1 _ ((e1 _).2 rfl)
  have hm' : Moved (fun q => q = B.am) w w' := (Moved.of_below hb (fun q => q = B.am)).trans (Moved.turned hm) (fun q e => .inl e)
  obtain ⟨S', h', hg⟩ := hc w' S1 (fun k => k = A.ab ∨ k = A.plb ∨ vr.ownBlock = some k ∨ vt.ownBlock = some k) (MapP B.am (arMap (mput H.ar id A))) (arenaP B.pb (some A)) ⟨by unfold arMap at hM ⊢; rw [← mput_mapV]; exact hM, e1⟩ ⟨vr, vt, hA.moved (Moved.turned hm) (fun e => by have := hn _ (.inl rfl); omega) (fun e => by have := hn _ (.inr (.inl rfl)); omega) (fun k e f => by have := hn k (.inr (.inr (.inl e))); omega) (fun k e f => by have := hn k (.inr (.inr (.inr e))); omega), fun k => Iff.rfl⟩ (fun k hk hk2 => by have := hn k hk2; have := (e1 k).1 hk; omega) ⟨(Moved.refl _ w).trans hm' (fun k e => .inl (.inl ((e1 k).2 e))), fun k hk => hk.elim (fun e => .inl (.inl e)) (fun e => .inr (hn k e))⟩
  refine ⟨S', ?_, hg⟩
  have : upd (upd (heapP B H O0 O1) 8 (MapP B.am (arMap (mput H.ar id A)))) (20 + id.toNat) (arenaP B.pb (some A)) = heapP B { H with ar := mput H.ar id A } O0 O1 := by
    funext j
    by_cases ej : j = 20 + id.toNat
    · subst ej
      rw [upd_same, heapP_arena _ _ _ _ hid]
      simp only [lk_put hris, if_true]
    · rw [upd_ne _ _ ej]
      by_cases e8 : j = 8
      · subst e8; rw [upd_same]; rfl
      · rw [upd_ne _ _ e8]
        simp only [heapP]
        rw [if_neg e8, if_neg e8]
        by_cases e20 : 20 < j
        · rw [lk_put hris, if_neg (show ¬ ((j - 20 : Nat) : Int) = id by omega)]
        · rw [if_neg e20, if_neg e20]
  rw [this] at h'
  exact h'
theorem HeapSt.bookStep {B : HB} {H : HM} {O0 O1 : Obj} {w : World} {S : Nat → Prop} (h : HeapSt B H O0 O1 w S) {l : IM Unit} {last : Int} {w' : World} (hm : Moved (fun q => q = B.bb ∨ q = B.bm) w w') (ht : BookAt w' B.bb B.bm l last 64) :
    ∃ S', HeapSt B { H with live := l, last := last } O0 O1 w' S' ∧ Grows S S' w w' := by
  obtain ⟨S0, h0, hs, hc⟩ := h.step 6 (by omega) { H with live := l, last := last } (upd_eq fun j hj => by simp only [heapP]; rw [if_neg hj, if_neg hj])
  have e0 := h0.2
  refine hc w' S0 ⟨ht, e0⟩ ⟨(Moved.refl S0 w).trans hm (fun k hk => .inl ((e0 k).2 hk)), fun k hk => .inl hk⟩
theorem HeapSt.treeStep {B : HB} {H : HM} {O0 O1 : Obj} {w : World} {S : Nat → Prop} (h : HeapSt B H O0 O1 w S) {m : IM Int} {w' : World} (hm : Moved (fun q => q = B.tm) w w') (ht : TreeAt w' B.tb B.tm m) :
    ∃ S', HeapSt B { H with par := m } O0 O1 w' S' ∧ Grows S S' w w' := by
  obtain ⟨S0, h0, hs, hc⟩ := h.step 7 (by omega) { H with par := m } (upd_eq fun j hj => by simp only [heapP]; rw [if_neg hj, if_neg hj])
  have e0 := h0.2
  refine hc w' S0 ⟨ht, e0⟩ ⟨(Moved.refl S0 w).trans hm (fun k hk => .inl ((e0 k).2 (.inr hk))), fun k hk => .inl hk⟩

def rgE (H : HM) (p : Int) : Int := if p ≠ 0 ∧ livesB H p = false then 2 else gvE H.live 64
def rgN (H : HM) (p : Int) : Int := if rgE H p = 0 then H.last + 1 else 0
def rgH (H : HM) (p : Int) (ab plb : Nat) : HM :=
  if rgE H p = 0 then { H with live := gvL H.live H.last 64, last := H.last + 1, par := trL H.par (H.last + 1) p, ar := mput H.ar (H.last + 1) ⟨ab, plb, -1, 16, [], []⟩ } else H

set_option maxRecDepth 100000 in
set_option maxHeartbeats 2000000 in
theorem hRegion_any {B : HB} {H : HM} {O0 O1 : Obj} {w : World} {S : Nat → Prop} (h : HeapSt B H O0 O1 w S) (hF : Fine H) (hal : H.ar.length ≤ 1000000) (p : Int) (p0 : 0 ≤ p) (p1 : p ≤ 18446744073709551615) :
    Calls Tryz.prog 58 #[.pointer (some ⟨B.hb, 0, none⟩), .int .u64 p] w fun e w' => e = .returned (.tuple #[.int .u64 (rgN H p), .int .i64 (rgE H p)]) ∧ ∃ ab plb S', HeapSt B (rgH H p ab plb) O0 O1 w' S' ∧ Grows S S' w w' := by
  have hL := hlives_any h hF p p0 p1
  have HH := Lib.hid h
  have l0 := hF.l0
  have l1 := hF.l1
  have ll := hF.ll
  have pl := hF.pl
  by_cases c1 : p ≠ 0 ∧ livesB H p = false
  · have e1 : Hid (rgE H p = 2) := Lib.hid (if_pos c1)
    have e2 : Hid (rgN H p = 0) := Lib.hid (by rw [rgN, e1.out]; rfl)
    have e3 : Hid (∀ ab plb, rgH H p ab plb = H) := Lib.hid (fun ab plb => by rw [rgH, e1.out]; rfl)
    rw [c1.2] at hL
    have z1 : (p != 0) = true := by simpa using c1.1
    obtain ⟨y, hy⟩ : ∃ y, IntKind.i64.wrap p = y := ⟨_, rfl⟩
    rw [hy] at hL
    clear h hF c1 hy
    go_enter Tryz.func58, Tryz.ntmps58
    go_wp2_with fail
    refine hL.mono ?_
    rintro e w1 ⟨rfl, hb1⟩
    go_wp2
    go_ret2
    exact ⟨by rw [e1.out, e2.out]; rfl, 0, 0, S, by rw [e3.out]; exact HH.out.later hb1, Grows.below hb1⟩
  · have hw : IntKind.i64.wrap p = p := by
      by_cases z : p = 0
      · subst z; rfl
      · cases hb : livesB H p
        · exact absurd ⟨z, hb⟩ c1
        · have := (livesB_le hb).1
          rw [IntKind.wrap_i64]; omega
    have c2 : ((p != 0) = false) ∨ ((p != 0) = true ∧ livesB H p = true) := by
      by_cases z : p = 0
      · exact .inl (by simp [z])
      · cases hb : livesB H p
        · exact absurd ⟨z, hb⟩ c1
        · exact .inr ⟨by simpa using z, rfl⟩
    rw [hw] at hL
    have ple : p ≤ 1000000 := by
      by_cases z : p = 0
      · omega
      · cases hb : livesB H p
        · exact absurd ⟨z, hb⟩ c1
        · have := (livesB_le hb).1; omega
    have e1 : Hid (rgE H p = gvE H.live 64) := Lib.hid (if_neg c1)
    have hG := fun (w' : World) (hb : Below w.heap.size w w') => iGive_any (HH.out.later hb).book l0 (by omega) (by omega)
    obtain ⟨lv, hlv⟩ : ∃ lv, livesB H p = lv := ⟨_, rfl⟩
    rw [hlv] at hL c2
    by_cases c3 : (64 : Int) ≤ H.live.length
    · have q1 : gvE H.live 64 = 3 := if_pos c3
      have q2 : gvN H.live H.last 64 = 0 := if_pos c3
      have e2 : Hid (rgE H p = 3) := Lib.hid (by rw [e1.out, q1])
      have e3 : Hid (rgN H p = 0) := Lib.hid (by rw [rgN, e2.out]; rfl)
      have e4 : Hid (∀ ab plb, rgH H p ab plb = H) := Lib.hid (fun ab plb => by rw [rgH, e2.out]; rfl)
      have q3 : gvL H.live H.last 64 = H.live := if_pos c3
      have q4 : gvT H.live H.last 64 = H.last := if_pos c3
      simp only [q1, q2, q3, q4] at hG
      have HG := Lib.hid hG
      clear h hF c1 hw hG hlv c3 q1 q2 q3 q4 e1 l0 l1 ll pl
      rcases c2 with z1 | ⟨z1, rfl⟩
      all_goals
        go_enter Tryz.func58, Tryz.ntmps58
        go_wp2_with fail
        refine hL.mono ?_
        rintro e w1 ⟨rfl, hb1⟩
        clear hL
        have hG1 := HG.out w1 hb1
        have c5 := heap_cell (HH.out.later hb1).blk 4
        simp at c5
        have HB := Lib.hid hb1
        clear hb1
        go_wp2_with fail
        refine hG1.mono ?_
        rintro e w2 ⟨rfl, hm, ht⟩
        clear hG1
        go_wp2
        go_ret2
        obtain ⟨S', hs', hgr⟩ := (HH.out.later HB.out).bookStep hm ht
        exact ⟨by rw [e2.out, e3.out]; rfl, 0, 0, S', by rw [e4.out]; exact hs', Grows.after_below HB.out hgr⟩
    · have q1 : gvE H.live 64 = 0 := if_neg c3
      have q2 : gvN H.live H.last 64 = H.last + 1 := if_neg c3
      have q4 : gvT H.live H.last 64 = H.last + 1 := if_neg c3
      have e2 : Hid (rgE H p = 0) := Lib.hid (by rw [e1.out, q1])
      have e3 : Hid (rgN H p = H.last + 1) := Lib.hid (by rw [rgN, e2.out]; rfl)
      have e4 : Hid (∀ ab plb, rgH H p ab plb = { H with live := gvL H.live H.last 64, last := H.last + 1, par := trL H.par (H.last + 1) p, ar := mput H.ar (H.last + 1) ⟨ab, plb, -1, 16, [], []⟩ }) := Lib.hid (fun ab plb => by rw [rgH, e2.out]; rfl)
      simp only [q1, q2, q4] at hG
      have HG := Lib.hid hG
      obtain ⟨id, hid⟩ : ∃ id, H.last + 1 = id := ⟨_, rfl⟩
      rw [hid] at HG e3 e4
      have i1 : 1 ≤ id := by omega
      have i2 : id ≤ 1000001 := by omega
      have hw2 : IntKind.u64.wrap id = id := by rw [IntKind.wrap_u64]; omega
      clear h hF c1 hw hG hlv c3 q1 q2 q4 e1 l0 l1 ll hid
      have PL := Lib.hid pl
      have AL := Lib.hid hal
      clear pl hal
      rcases c2 with z1 | ⟨z1, rfl⟩
      all_goals
        go_enter Tryz.func58, Tryz.ntmps58
        go_wp2_with fail
        refine hL.mono ?_
        rintro e w1 ⟨rfl, hb1⟩
        clear hL
        have hG1 := HG.out w1 hb1
        have c5 := heap_cell (HH.out.later hb1).blk 4
        simp at c5
        have HB := Lib.hid hb1
        clear hb1
        go_wp2_with fail
        refine hG1.mono ?_
        rintro e w2 ⟨rfl, hm, ht⟩
        clear hG1
        obtain ⟨S2, hs2, hgr2⟩ := (HH.out.later HB.out).bookStep hm ht
        have H2 := Lib.hid (And.intro hs2 (Grows.after_below HB.out hgr2))
        clear hm ht hs2 hgr2
        have c6 := heap_cell H2.out.1.blk 5
        simp at c6
        have hT := trAdd_any H2.out.1.tree id p (by omega) (by omega) (by omega) (by omega) (by have := PL.out; exact Nat.le_trans this (by omega))
        obtain ⟨te, hte⟩ : ∃ te, trE H.par id p = te := ⟨_, rfl⟩
        rw [hte] at hT
        go_wp2_with fail
        refine hT.mono ?_
        rintro e w3 ⟨rfl, hm, ht⟩
        clear hT hte
        obtain ⟨S3, hs3, hgr3⟩ := H2.out.1.treeStep hm ht
        have H3 := Lib.hid (And.intro hs3 (H2.out.2.trans hgr3))
        clear hm ht hs3 hgr3
        have c7 := heap_cell H3.out.1.blk 0
        have c8 := heap_cell H3.out.1.blk 6
        simp at c7 c8
        go_wp2
        have c9 := H3.out.1.blk
        have hA := fun (nq : Nat) => arNew_any B.pb (w3.drewN nq) (H3.out.1.tabs.2.moved (Moved.drewN (fun _ => False) w3 nq) (fun e => e))
        have hMS := fun (w4 : World) (hb : Below w3.heap.size w3 w4) (ab : Nat) => (H3.out.1.arenas.later hb).store Tryz.underlying3 Tryz.underlying112 (by unfold arMap; rw [mapV_length]; have := AL.out; unfold maxLen; exact Nat.lt_of_le_of_lt this (by decide)) id (ptrV ab) (wf_i64 (by omega) (by omega))
        have hbd : ∀ nq : Nat, Below w3.heap.size w3 (w3.drewN nq) := fun nq => ⟨rfl, rfl, rfl, Nat.le_refl _, fun _ _ => rfl⟩
        have HM := Lib.hid (And.intro hMS hbd)
        clear hMS hbd c9
        go_region_with (refine (hA _).mono ?_; rintro e w4 ⟨ab, plb, rfl, hb4, hA4, n1, n2⟩; have hb5 := (HM.out.2 _).trans (Below.mono hb4 (HM.out.2 _).size); obtain ⟨w5, hs5, hM5, ht5⟩ := HM.out.1 w4 hb5 ab; unfold ptrV at hs5; have k7 := heap_cell (H3.out.1.later hb5).blk 0; have k8 := heap_cell (H3.out.1.later hb5).blk 6; simp at k7 k8; have H5 := Lib.hid (And.intro hA4 (And.intro n1 (And.intro n2 (And.intro hb5 (And.intro hM5 ht5))))); clear hb4 hA4 n1 n2 hb5 hM5 ht5)
        all_goals
          go_wp2
          go_ret2
          obtain ⟨S4, hs4, hgr4⟩ := H3.out.1.arStep i1 (A := ⟨ab, plb, -1, 16, [], []⟩) H5.out.2.2.2.1 H5.out.1 (fun k hk => hk.elim (fun e => e ▸ Nat.le_trans (Nat.le_refl _) H5.out.2.1) (fun e => e.elim (fun e => e ▸ H5.out.2.2.1) (fun e => e.elim (fun e => by cases e) (fun e => by cases e)))) H5.out.2.2.2.2.2 H5.out.2.2.2.2.1
          exact ⟨by rw [e2.out, e3.out]; rfl, ab, plb, S4, by rw [e4.out]; exact hs4, H3.out.2.trans hgr4⟩
end Go.Proofs.YtcenagpkfimkbaaGreatDoor
namespace Go.Proofs.YtcenagpkfimkbaaGreatDoor
open Go Go.RowKit

theorem Sep.open3 {P : Nat → HP} (o : ∀ i, (P i).Ok) {w : World} {S : Nat → Prop} (h : Sep P w S) (i j : Nat) (hi : 0 < i) (hj : 0 < j) (hij : i ≠ j) :
    ∃ S1 S2, P i w S1 ∧ P j w S2 ∧ (∀ k, S1 k → ¬ S2 k) ∧ (∀ k, S1 k ∨ S2 k → S k) ∧ (∀ l, 0 < l → l ≠ i → l ≠ j → ∃ S3, P l w S3 ∧ ∀ k, S3 k → ¬ S1 k ∧ ¬ S2 k) ∧ ∀ (w' : World) (S1' S2' : Nat → Prop) (p q : HP), p w' S1' → q w' S2' → (∀ k, S1' k → ¬ S2' k) → Grows (fun k => S1 k ∨ S2 k) (fun k => S1' k ∨ S2' k) w w' → ∃ S', Sep (upd (upd P i p) j q) w' S' ∧ Grows S S' w w' := by
  obtain ⟨γ, h1, h2⟩ := h
  refine ⟨fun k => γ k = i, fun k => γ k = j, h2 i hi, h2 j hj, fun k hk => by omega, fun k hk => (h1 k).2 (by omega), fun l hl a1 a2 => ⟨fun k => γ k = l, h2 l hl, fun k hk => ⟨by omega, by omega⟩⟩, fun w' S1' S2' p q hp hq hd hg => ?_⟩
  classical
  have hlt : ∀ k, γ k ≠ 0 → k < w.heap.size := fun k hk => (o (γ k)).lt (h2 (γ k) (by omega)) k rfl
  refine ⟨fun k => S1' k ∨ S2' k ∨ (γ k ≠ 0 ∧ γ k ≠ i ∧ γ k ≠ j), ⟨fun k => if S1' k then i else if S2' k then j else if γ k = i ∨ γ k = j then 0 else γ k, fun k => ?_, fun l hl => ?_⟩, ⟨⟨hg.m.os, hg.m.tape, hg.m.output, hg.m.size, fun k hk hs => hg.m.block k hk (fun e => hs ((h1 k).2 (by omega)))⟩, fun k hk => ?_⟩⟩
  · by_cases hs : S1' k
    · simp [hs]; omega
    · by_cases ht : S2' k
      · simp [hs, ht]; omega
      · by_cases hi' : γ k = i ∨ γ k = j
        · simp [hs, ht, hi']; omega
        · simp [hs, ht, hi']; omega
  · by_cases hli : l = i
    · subst hli
      rw [upd_ne _ _ hij, upd_same]
      have e : (fun k => (if S1' k then l else if S2' k then j else if γ k = l ∨ γ k = j then 0 else γ k) = l) = S1' := by
        funext k
        by_cases hs : S1' k
        · simp [hs]
        · by_cases ht : S2' k
          · simp [hs, ht]; omega
          · by_cases hi' : γ k = l ∨ γ k = j
            · simp [hs, ht, hi']; omega
            · simp [hs, ht, hi']; omega
      rw [e]
      exact hp
    · by_cases hlj : l = j
      · subst hlj
        rw [upd_same]
        have e : (fun k => (if S1' k then i else if S2' k then l else if γ k = i ∨ γ k = l then 0 else γ k) = l) = S2' := by
          funext k
          by_cases hs : S1' k
          · have := hd k hs; simp [hs, this]; omega
          · by_cases ht : S2' k
            · simp [hs, ht]
            · by_cases hi' : γ k = i ∨ γ k = l
              · simp [hs, ht, hi']; omega
              · simp [hs, ht, hi']; omega
        rw [e]
        exact hq
      · rw [upd_ne _ _ hlj, upd_ne _ _ hli]
        have e : (fun k => (if S1' k then i else if S2' k then j else if γ k = i ∨ γ k = j then 0 else γ k) = l) = (fun k => γ k = l) := by
          funext k
          by_cases hs : S1' k ∨ S2' k
          · have hk : ¬ γ k = l := fun h => by
              rcases hg.s k hs with h' | h'
              · omega
              · have := hlt k (by omega); omega
            by_cases h5 : S1' k
            · simp [h5, hk]; omega
            · have h6 : S2' k := hs.resolve_left h5
              simp [h5, h6, hk]; omega
          · have h5 : ¬ S1' k := fun e => hs (.inl e)
            have h6 : ¬ S2' k := fun e => hs (.inr e)
            by_cases hi' : γ k = i ∨ γ k = j
            · simp [h5, h6, hi']; omega
            · simp [h5, h6, hi']
        rw [e]
        exact (o l).moved (h2 l hl) hg.m (fun k hk => by omega)
  · rcases hk with hk | hk | hk
    · exact (hg.s k (.inl hk)).imp_left fun e => (h1 k).2 (by omega)
    · exact (hg.s k (.inr hk)).imp_left fun e => (h1 k).2 (by omega)
    · exact .inl ((h1 k).2 hk.1)
theorem mput_same {α : Type} {m : IM α} (h : Rising m) {k : Int} {v : α} (hk : lk m k = some v) : mput m k v = m := by
  have hk' := (lk_some h).1 hk
  clear hk
  induction m with
  | nil => cases hk'
  | cons z r ih =>
    obtain ⟨h1, h2⟩ := List.pairwise_cons.1 h
    by_cases e : z.1 = k
    · have ez : z = (k, v) := by
        rcases List.mem_cons.1 hk' with e' | e'
        · exact e'.symm
        · have := h1 _ e'; simp at this; omega
      have er : mdel (z :: r) k = r := by
        unfold mdel
        rw [List.filter_cons, if_neg (by simp [e]), List.filter_eq_self]
        intro y hy
        have := h1 y hy
        simp; omega
      unfold mput
      rw [er, ez]
      cases r with
      | nil => rfl
      | cons y r' =>
        have := h1 y (by simp)
        rw [mins, if_pos (by simp only; omega)]
    · have hk2 : (k, v) ∈ r := by
        rcases List.mem_cons.1 hk' with e' | e'
        · exact absurd (by rw [← e']) e
        · exact e'
      have hlt : z.1 < k := h1 _ hk2
      have er : mdel (z :: r) k = z :: mdel r k := by
        unfold mdel
        rw [List.filter_cons, if_pos (by simp [e])]
      have := ih h2 hk2
      unfold mput at this ⊢
      rw [er, mins, if_neg (by simp only; omega), this]

structure FineA (A : AR) : Prop where
  p0 : -1 ≤ A.pg
  p1 : A.pg ≤ 1024
  u0 : 0 ≤ A.us
  u1 : A.us ≤ 16
  n : A.pg = -1 → A.us = 16
  r : A.rs.length ≤ 100000
  t : A.ts.length ≤ 100000
def arAl (gs : List Bool) (A : AR) (s : Int) : AR := ⟨A.ab, A.plb, arP gs A.pg A.us s, arU gs A.pg A.us s, arR gs A.pg A.us s A.rs, arT gs A.pg A.us s A.ts⟩

theorem HeapSt.alStep {B : HB} {H : HM} {O0 O1 : Obj} {w : World} {S : Nat → Prop} (h : HeapSt B H O0 O1 w S) {id : Int} (hid : 1 ≤ id) {A : AR} (hA : lk H.ar id = some A) (hf : FineA A) (s : Int) :
    ∃ S0 : World → Prop, Calls Tryz.prog 162 #[.pointer (some ⟨A.ab, 0, none⟩), .int .i64 s] w (fun e w' => e = .returned (.tuple #[.int .i64 (arA H.gs A.pg A.us s), .int .i64 (arE H.gs A.pg A.us s)]) ∧ S0 w') ∧
      ∀ w', S0 w' → ∃ S', HeapSt B { H with ar := mput H.ar id (arAl H.gs A s), gs := arS H.gs A.pg A.us s, ms := arM H.gs H.ms A.pg A.us s } O0 O1 w' S' ∧ Grows S S' w w' := by
  have hris : Rising H.ar := (rising_mapV _ _).1 h.arenas.rising
  obtain ⟨S1, S2, h1, h2, hd, hs, ho, hc⟩ := Sep.open3 (heapP_ok B H O0 O1) h (20 + id.toNat) 2 (by omega) (by omega) (by omega)
  obtain ⟨S3, h3, hd3⟩ := ho 12 (by omega) (by omega) (by omega)
  rw [heapP_arena _ _ _ _ hid, hA] at h1
  obtain ⟨vr, vt, ha, e1⟩ := h1
  obtain ⟨hp, e2⟩ := h2
  have hN := h.tabs.2
  have h0 : S3 0 := (h3.2.2.2.2 _).2 (.inl rfl)
  have hNw : ∀ k, arB A.ab A.plb B.rw B.mw vr vt k → k ≠ 0 := by
    rintro k hk rfl
    have := hd3 _ h0
    rw [e1, e2] at this
    rcases hk with e | e | e | e | e | e
    · exact this.1 (.inl e)
    · exact this.1 (.inr (.inl e))
    · exact this.1 (.inr (.inr (.inl e)))
    · exact this.1 (.inr (.inr (.inr e)))
    · exact this.2 (.inr (.inr (.inl e)))
    · exact this.2 (.inr (.inr (.inr (.inr e))))
  refine ⟨_, arAlloc_any ha hp hN hNw hf.p0 hf.p1 hf.r hf.t s, ?_⟩
  rintro w' ⟨vr', vt', hI⟩
  obtain ⟨S', h', hg⟩ := hc w' (fun k => k = A.ab ∨ k = A.plb ∨ vr'.ownBlock = some k ∨ vt'.ownBlock = some k) S2 (arenaP B.pb (some (arAl H.gs A s))) (PagesP B.pb B.rb B.rw B.mb B.mw (arS H.gs A.pg A.us s) (arM H.gs H.ms A.pg A.us s))
    ⟨vr', vt', hI.a, fun k => Iff.rfl⟩ ⟨hI.p, e2⟩ (fun k hk hk2 => by
      obtain ⟨a1, a2, a3, a4, a5⟩ := apart_pages hI.a hI.p k hk
      rcases (e2 k).1 hk2 with e | e | e | e | e
      · exact a1 e
      · exact a2 e
      · exact a3 e
      · exact a4 e
      · exact a5 e)
    ⟨(Moved.refl _ w).trans hI.mv (fun k hk => .inl (by
      rcases hk with e | e | e | e | e | e
      · exact .inl ((e1 k).2 (.inl e))
      · exact .inl ((e1 k).2 (.inr (.inl e)))
      · exact .inl ((e1 k).2 (.inr (.inr (.inl e))))
      · exact .inl ((e1 k).2 (.inr (.inr (.inr e))))
      · exact .inr ((e2 k).2 (.inr (.inr (.inl e))))
      · exact .inr ((e2 k).2 (.inr (.inr (.inr (.inr e))))))), fun k hk => by
      rcases hk with (e | e | e | e) | e
      · exact .inl (.inl ((e1 k).2 (.inl e)))
      · exact .inl (.inl ((e1 k).2 (.inr (.inl e))))
      · exact (hI.r k e).imp_left fun e => .inl ((e1 k).2 (.inr (.inr (.inl e))))
      · exact (hI.t k e).imp_left fun e => .inl ((e1 k).2 (.inr (.inr (.inr e))))
      · exact .inl (.inr e)⟩
  refine ⟨S', ?_, hg⟩
  have ek : arMap (mput H.ar id (arAl H.gs A s)) = arMap H.ar := by
    unfold arMap
    rw [← mput_mapV]
    exact mput_same ((rising_mapV _ _).2 hris) (by rw [lk_mapV, hA]; rfl)
  have : upd (upd (heapP B H O0 O1) (20 + id.toNat) (arenaP B.pb (some (arAl H.gs A s)))) 2 (PagesP B.pb B.rb B.rw B.mb B.mw (arS H.gs A.pg A.us s) (arM H.gs H.ms A.pg A.us s)) = heapP B { H with ar := mput H.ar id (arAl H.gs A s), gs := arS H.gs A.pg A.us s, ms := arM H.gs H.ms A.pg A.us s } O0 O1 := by
    funext j
    by_cases ej : j = 2
    · subst ej
      rw [upd_same]
      rfl
    · rw [upd_ne _ _ ej]
      by_cases e8 : j = 20 + id.toNat
      · subst e8
        rw [upd_same, heapP_arena _ _ _ _ hid]
        simp only [lk_put hris, if_true]
      · rw [upd_ne _ _ e8]
        simp only [heapP]
        rw [if_neg ej, if_neg ej, ek]
        by_cases e20 : 20 < j
        · rw [lk_put hris, if_neg (show ¬ ((j - 20 : Nat) : Int) = id by omega)]
        · rw [if_neg e20, if_neg e20]
  rw [this] at h'
  exact h'
end Go.Proofs.YtcenagpkfimkbaaGreatDoor
namespace Go.Proofs.YtcenagpkfimkbaaGreatDoor
open Go Go.RowKit

section
variable {B : HB} {H : HM} {O0 O1 : Obj} {w : World} {S : Nat → Prop}
theorem HeapSt.owStep (h : HeapSt B H O0 O1 w S) (f k o : Int) :
    Calls Tryz.prog 111 #[.pointer (some ⟨B.ob, 0, none⟩), .agg #[.int .i64 f, .int .i64 k], .int .i64 o] w fun e w' => e = .returned (.int .i64 (oE H.on f k o)) ∧ ∃ S', HeapSt B { H with ow := oW H.on H.ow f k o } O0 O1 w' S' ∧ Grows S S' w w' := by
  obtain ⟨S0, h0, hs, hc⟩ := h.step 3 (by omega) { H with ow := oW H.on H.ow f k o } (upd_eq fun j hj => by simp only [heapP]; rw [if_neg hj, if_neg hj])
  obtain ⟨gm, hO, e0⟩ := h0
  refine (oSet_any hO f k o).mono ?_
  rintro e w' ⟨rfl, gm', hO', hm, hg⟩
  refine ⟨rfl, hc w' (fun k => k = B.ob ∨ k = B.om ∨ ∃ j, lk gm' j = some k) ⟨gm', hO', fun k => Iff.rfl⟩ ⟨(Moved.refl S0 w).trans hm (fun k hk => .inl ((e0 k).2 hk)), fun k hk => ?_⟩⟩
  rcases hk with e | e | ⟨j, e⟩
  · exact .inl ((e0 k).2 (.inl e))
  · exact .inl ((e0 k).2 (.inr (.inl e)))
  · exact (hg j k e).imp_left fun e => (e0 k).2 (.inr (.inr ⟨j, e⟩))
theorem HeapSt.memStep (h : HeapSt B H O0 O1 w S) {ms : List Int} {w' : World} (hl : ms.length = H.ms.length) (hg : w.grownBy w' (some B.mw)) (hM : MemAt w' B.mb B.mw ms) :
    ∃ S', HeapSt B { H with ms := ms } O0 O1 w' S' ∧ Grows S S' w w' := by
  obtain ⟨S0, h0, hs, hc⟩ := h.step 2 (by omega) { H with ms := ms } (upd_eq fun j hj => by simp only [heapP]; rw [if_neg hj, if_neg hj])
  obtain ⟨hp, e0⟩ := h0
  have hm : Moved (fun k => k = B.mw) w w' := Moved.of_grown hg (S := fun k => k = B.mw) (fun k e => by cases e; rfl)
  obtain ⟨⟨_, r1⟩, ⟨_, r2⟩⟩ := hp.row.blocks
  have n1 : B.pb ≠ B.mw := heap_ne hp.blk hp.mem.2.1 (by simp)
  have n2 : B.rb ≠ B.mw := heap_ne r1 hp.mem.2.1 (by simp)
  refine hc w' S0 ⟨⟨hm.heap hp.blk n1, hp.row.moved hm n2 hp.ne, hM, by rw [hl]; exact hp.len, hp.lo, hp.hi, hp.ne⟩, e0⟩ ⟨(Moved.refl S0 w).trans hm (fun k hk => .inl ((e0 k).2 (.inr (.inr (.inr (.inr hk)))))), fun k hk => .inl hk⟩
theorem HeapSt.stStep (h : HeapSt B H O0 O1 w S) {st : List Bool} {w' : World} (hm : Moved (fun q => q = B.srw) w w') (ht : StartsAt w' B.sb B.srb B.srw st) :
    ∃ S', HeapSt B { H with st := st } O0 O1 w' S' ∧ Grows S S' w w' := by
  obtain ⟨S0, h0, hs, hc⟩ := h.step 4 (by omega) { H with st := st } (upd_eq fun j hj => by simp only [heapP]; rw [if_neg hj, if_neg hj])
  obtain ⟨hp, e0⟩ := h0
  refine hc w' S0 ⟨ht, e0⟩ ⟨(Moved.refl S0 w).trans hm (fun k hk => .inl ((e0 k).2 (by subst hk; simp))), fun k hk => .inl hk⟩
theorem HeapSt.arena (h : HeapSt B H O0 O1 w S) {id : Int} (hid : 1 ≤ id) {A : AR} (hA : lk H.ar id = some A) : ∃ vr vt, ArenaAt w A.ab A.plb B.pb A.pg A.us vr vt A.rs A.ts := by
  obtain ⟨_, h, _⟩ := Sep.get h (20 + id.toNat) (by omega)
  rw [heapP_arena _ _ _ _ hid, hA] at h
  obtain ⟨vr, vt, h, _⟩ := h
  exact ⟨vr, vt, h⟩
theorem HeapSt.lt (h : HeapSt B H O0 O1 w S) {k : Nat} (hk : S k) : k < w.heap.size := (HeapSt.ok B H O0 O1).lt h k hk
end
def owAll (n : Nat) (ow : Nat → Int) (rs : List (Int × Int)) (id : Int) : Nat → Int := rs.foldl (fun ow p => oW n ow p.1 p.2 id) ow
theorem owAll_succ (n : Nat) (ow : Nat → Int) (rs : List (Int × Int)) (id : Int) (k : Nat) (hk : k < rs.length) : owAll n ow (rs.take (k + 1)) id = oW n (owAll n ow (rs.take k) id) (rs.getD k (0, 0)).1 (rs.getD k (0, 0)).2 id := by
  have e : rs.take (k + 1) = rs.take k ++ [rs.getD k (0, 0)] := by
    rw [List.take_add_one, List.getElem?_eq_getElem hk, List.getD_eq_getElem?_getD, List.getElem?_eq_getElem hk]
    rfl
  rw [e, owAll, List.foldl_append]
  rfl
end Go.Proofs.YtcenagpkfimkbaaGreatDoor
namespace Go.Proofs.YtcenagpkfimkbaaGreatDoor
open Go Go.RowKit

theorem Sep.turn {P : Nat → HP} (o : ∀ i, (P i).Ok) {w : World} {S : Nat → Prop} (h : Sep P w S) (i : Nat) (hi : 0 < i) :
    ∃ S0, P i w S0 ∧ (∀ k, S0 k → S k) ∧ ∀ (w' : World) (p' : HP), p' w' S0 → Moved S0 w w' → Sep (upd P i p') w' S := by
  obtain ⟨γ, h1, h2⟩ := h
  refine ⟨fun k => γ k = i, h2 i hi, fun k hk => (h1 k).2 (by omega), fun w' p' hp hm => ⟨γ, h1, fun j hj => ?_⟩⟩
  by_cases e : j = i
  · subst e; rw [upd_same]; exact hp
  · rw [upd_ne _ _ e]; exact (o j).moved (h2 j hj) hm (fun k hk => by omega)
section
variable {B : HB} {H : HM} {O0 O1 : Obj} {w : World} {S : Nat → Prop}
theorem heapP_fr (m : List (List Int)) : upd (heapP B H O0 O1) 11 (heapP B { H with fr := m } O0 O1 11) = heapP B { H with fr := m } O0 O1 := upd_eq fun j hj => by simp only [heapP]; rw [if_neg hj, if_neg hj]
theorem HeapSt.frTurn (h : HeapSt B H O0 O1 w S) : ∃ S0, StackAt w B.fb H.fr S0 ∧ (∀ k, S0 k → S k) ∧ ∀ (m : List (List Int)) (w' : World), StackAt w' B.fb m S0 → Moved S0 w w' → HeapSt B { H with fr := m } O0 O1 w' S := by
  obtain ⟨S0, h0, hs, hc⟩ := Sep.turn (heapP_ok B H O0 O1) h 11 (by omega)
  refine ⟨S0, h0, hs, fun m w' hst hm => ?_⟩
  have := hc w' (heapP B { H with fr := m } O0 O1 11) hst hm
  rw [heapP_fr] at this
  exact this
theorem HeapSt.frStep (h : HeapSt B H O0 O1 w S) : ∃ S0, StackAt w B.fb H.fr S0 ∧ ∀ (m : List (List Int)) (w' : World) (S1 : Nat → Prop), StackAt w' B.fb m S1 → Moved S0 w w' → (∀ k, S1 k → S0 k ∨ w.heap.size ≤ k) → ∃ S', HeapSt B { H with fr := m } O0 O1 w' S' ∧ Grows S S' w w' := by
  obtain ⟨S0, h0, hs, hc⟩ := Sep.open_ (heapP_ok B H O0 O1) h 11 (by omega)
  refine ⟨S0, h0, fun m w' S1 hst hm hn => ?_⟩
  obtain ⟨S', h', hg⟩ := hc w' S1 (heapP B { H with fr := m } O0 O1 11) hst ⟨hm, hn⟩
  rw [heapP_fr] at h'
  exact ⟨S', h', hg⟩

set_option maxRecDepth 100000 in
theorem hGlobal_any (h : HeapSt B H O0 O1 w S) (i : Int) (i0 : 0 ≤ i) (i1 : i ≤ 18446744073709551615) :
    Calls Tryz.prog 72 #[.pointer (some ⟨B.hb, 0, none⟩), .int .u64 i] w fun e w' => e = .returned (.tuple #[.int .u64 (glV H.gl i), .int .i64 (glE H.gl i)]) ∧ w = w' := by
  have hG := gGet_any h.globs i i0 i1
  have c8 := heap_cell h.blk 8
  simp at c8
  obtain ⟨x, hx⟩ : ∃ x, glV H.gl i = x := ⟨_, rfl⟩
  obtain ⟨y, hy⟩ : ∃ y, glE H.gl i = y := ⟨_, rfl⟩
  rw [hx, hy] at hG ⊢
  clear h hx hy
  go_enter Tryz.func72, Tryz.ntmps72
  go_wp2_with fail
  refine hG.mono ?_
  rintro e w1 ⟨rfl, rfl⟩
  clear hG
  go_wp2
  go_ret2
  exact ⟨rfl, rfl⟩
set_option maxRecDepth 100000 in
theorem hSlot_any (h : HeapSt B H O0 O1 w S) (i : Int) (i0 : 0 ≤ i) (i1 : i ≤ 18446744073709551615) :
    Calls Tryz.prog 80 #[.pointer (some ⟨B.hb, 0, none⟩), .int .u64 i] w fun e w' => e = .returned (.tuple #[.int .u64 (topV H.fr i), .int .i64 (topE H.fr i)]) ∧ Below w.heap.size w w' := by
  obtain ⟨S0, h0, _⟩ := h.frTurn
  have hG := sGet_any h0 i i0 i1
  have c9 := heap_cell h.blk 9
  simp at c9
  obtain ⟨x, hx⟩ : ∃ x, topV H.fr i = x := ⟨_, rfl⟩
  obtain ⟨y, hy⟩ : ∃ y, topE H.fr i = y := ⟨_, rfl⟩
  rw [hx, hy] at hG ⊢
  clear h hx hy h0
  go_enter Tryz.func80, Tryz.ntmps80
  go_wp2_with fail
  refine hG.mono ?_
  rintro e w1 ⟨rfl, q, rfl⟩
  clear hG
  go_wp2
  go_ret2
  exact ⟨rfl, ⟨rfl, rfl, rfl, by simp, fun _ _ => rfl⟩⟩
set_option maxRecDepth 100000 in
theorem hPush_any (h : HeapSt B H O0 O1 w S) (n : Int) (n0 : 0 ≤ n) :
    Calls Tryz.prog 74 #[.pointer (some ⟨B.hb, 0, none⟩), .int .u64 n] w fun e w' => e = .returned (.int .i64 (pushE H.fr.length n)) ∧ ∃ S', HeapSt B { H with fr := pushL H.fr n } O0 O1 w' S' ∧ Grows S S' w w' := by
  obtain ⟨S0, h0, hc⟩ := h.frStep
  have hG := sPush_any h0 n n0
  have c9 := heap_cell h.blk 9
  simp at c9
  have HC := Lib.hid hc
  obtain ⟨y, hy⟩ : ∃ y, pushE H.fr.length n = y := ⟨_, rfl⟩
  rw [hy] at hG ⊢
  obtain ⟨z, hz⟩ : ∃ z, pushL H.fr n = z := ⟨_, rfl⟩
  rw [hz] at hG ⊢
  clear h hy hz h0 hc
  go_enter Tryz.func74, Tryz.ntmps74
  go_wp2_with fail
  refine hG.mono ?_
  rintro e w1 ⟨rfl, S1, hst, hm, hn⟩
  have HF := Lib.hid (HC.out z w1 S1 hst hm hn)
  clear hG hst hm hn
  go_wp2
  go_ret
  exact ⟨rfl, HF.out⟩

def ssE (H : HM) (i v : Int) : Int := if topE H.fr i ≠ 0 then topE H.fr i else if mayP H v = true then 0 else 9
def ssH (H : HM) (i v : Int) : HM := if ssE H i v = 0 then { mvd H 1 0 (topV H.fr i) v with fr := setTop H.fr i v } else H
set_option maxRecDepth 100000 in
set_option maxHeartbeats 2000000 in
theorem hSetSlot_any (h : HeapSt B H O0 O1 w S) (hF : Fine H) (i v : Int) (i0 : 0 ≤ i) (i1 : i ≤ 18446744073709551615) (v0 : 0 ≤ v) (v1 : v ≤ 18446744073709551615) (tv : 0 ≤ topV H.fr i ∧ topV H.fr i ≤ 18446744073709551615) :
    Calls Tryz.prog 78 #[.pointer (some ⟨B.hb, 0, none⟩), .int .u64 i, .int .u64 v] w fun e w' => e = .returned (.int .i64 (ssE H i v)) ∧ ∃ S', HeapSt B (ssH H i v) O0 O1 w' S' ∧ Grows S S' w w' := by
  obtain ⟨S0, h0, _⟩ := h.frTurn
  have h1 := sGet_any h0 i i0 i1
  have h2 := fun w' (hb : Below w.heap.size w w') => hmay2_any ((HeapSt.ok B H O0 O1).below h hb) v v0 v1
  have h3 := fun w' (hb : Below w.heap.size w w') => hmoved_any ((HeapSt.ok B H O0 O1).below h hb) hF 1 0 (topV H.fr i) v tv.1 tv.2 v0 v1
  have HH := Lib.hid h
  have c6 := heap_cell h.blk 9
  simp at c6
  have hG : ∀ (w' : World) (S' : Nat → Prop) (h' : HeapSt B (mvd H 1 0 (topV H.fr i) v) O0 O1 w' S'), Calls Tryz.prog 131 #[.pointer (some ⟨B.fb, 0, none⟩), .int .u64 i, .int .u64 v] w' fun e w'' => e = .returned (.tuple #[.int .u64 (topV H.fr i), .int .i64 (topE H.fr i)]) ∧ HeapSt B { mvd H 1 0 (topV H.fr i) v with fr := setTop H.fr i v } O0 O1 w'' S' ∧ Moved S' w' w'' := fun w' S' h' => by
    obtain ⟨S1, k1, k2, kc⟩ := h'.frTurn
    refine (sSet_any k1 i v i0 i1).mono ?_
    rintro e w'' ⟨rfl, hst, hm⟩
    exact ⟨rfl, kc _ _ hst hm, (Moved.refl S' w').trans hm (fun q hq => .inl (k2 q hq))⟩
  have e0 : Hid (ssE H i v = if topE H.fr i ≠ 0 then topE H.fr i else if mayP H v = true then 0 else 9) := Lib.hid rfl
  have e1 : Hid (ssH H i v = if ssE H i v = 0 then { mvd H 1 0 (topV H.fr i) v with fr := setTop H.fr i v } else H) := Lib.hid rfl
  obtain ⟨H1, hH1⟩ : ∃ H1, mvd H 1 0 (topV H.fr i) v = H1 := ⟨_, rfl⟩
  simp only [hH1] at hG h3
  rw [hH1] at e1
  obtain ⟨g, hg⟩ : ∃ g, topE H.fr i = g := ⟨_, rfl⟩
  simp only [hg] at hG
  have HG := Lib.hid hG
  obtain ⟨m, hm⟩ : ∃ m, mayP H v = m := ⟨_, rfl⟩
  obtain ⟨x, hx⟩ : ∃ x, topV H.fr i = x := ⟨_, rfl⟩
  rw [hg] at h1 e0
  simp only [hm] at h2
  rw [hm] at e0
  rw [hx] at h1
  simp only [hx] at h3
  have c7 : ∀ w' S', HeapSt B H1 O0 O1 w' S' → w'.cell? ⟨B.hb, 9, none⟩ = some (.pointer (some ⟨B.fb, 0, none⟩)) := fun w' S' h' => by
    have := heap_cell h'.blk 9
    simpa using this
  have C7 := Lib.hid c7
  have HX := Lib.hid (And.intro h2 h3)
  clear h hF tv hG hg hm hx hH1 c7 h2 h3 h0
  have hdr : ∀ q : Nat, Below w.heap.size w (w.drewN q) := fun q => ⟨rfl, rfl, rfl, by simp, fun _ _ => rfl⟩
  have HDR := Lib.hid hdr
  clear hdr
  by_cases z : g = 0
  · subst z
    cases m
    · have e2 : Hid (ssE H i v = 9) := Lib.hid (by rw [e0.out]; rfl)
      have e3 : Hid (ssH H i v = H) := Lib.hid (by rw [e1.out, e2.out]; rfl)
      go_enter Tryz.func78, Tryz.ntmps78
      go_wp2_with fail
      refine h1.mono ?_
      rintro e w1 ⟨rfl, q, rfl⟩
      have h2 := HX.out.1 _ (HDR.out q)
      clear h1
      go_wp2_with fail
      refine h2.mono ?_
      rintro e w1 ⟨rfl, rfl⟩
      clear h2
      go_wp2
      go_ret
      exact ⟨by rw [e2.out]; rfl, S, by rw [e3.out]; exact (HeapSt.ok B H O0 O1).below HH.out (HDR.out q), .below (HDR.out q)⟩
    · have e2 : Hid (ssE H i v = 0) := Lib.hid (by rw [e0.out]; rfl)
      have e3 : Hid (ssH H i v = { H1 with fr := setTop H.fr i v }) := Lib.hid (by rw [e1.out, e2.out]; rfl)
      go_enter Tryz.func78, Tryz.ntmps78
      go_wp2_with fail
      refine h1.mono ?_
      rintro e w1 ⟨rfl, q, rfl⟩
      have h2 := HX.out.1 _ (HDR.out q)
      have h3 := HX.out.2 _ (HDR.out q)
      clear h1
      go_wp2_with fail
      refine h2.mono ?_
      rintro e w1 ⟨rfl, rfl⟩
      clear h2
      go_wp2_with fail
      refine h3.mono ?_
      rintro e w1 ⟨rfl, S1, hs1, hgr⟩
      clear h3
      have h4 := HG.out w1 S1 hs1
      have c8 := C7.out w1 S1 hs1
      have HGR := Lib.hid (hgr.after_below (HDR.out q))
      clear hs1 hgr
      go_wp2_with fail
      refine h4.mono ?_
      rintro e w2 ⟨rfl, hh, hm⟩
      clear h4
      have HF : Hid (∃ S', HeapSt B (ssH H i v) O0 O1 w2 S' ∧ Grows S S' w w2) := Lib.hid ⟨S1, by rw [e3.out]; exact hh, HGR.out.trans ⟨hm, fun _ e => .inl e⟩⟩
      clear hh hm
      go_wp2
      go_ret
      exact ⟨by rw [e2.out]; rfl, HF.out⟩
  · have e2 : Hid (ssE H i v = g) := Lib.hid (by rw [e0.out, if_pos z])
    have e3 : Hid (ssH H i v = H) := Lib.hid (by rw [e1.out, e2.out, if_neg z])
    have z1 : (g != 0) = true := by simpa using z
    clear z
    go_enter Tryz.func78, Tryz.ntmps78
    go_wp2_with fail
    refine h1.mono ?_
    rintro e w1 ⟨rfl, q, rfl⟩
    clear h1
    go_wp2
    go_ret
    exact ⟨by rw [e2.out]; rfl, S, by rw [e3.out]; exact (HeapSt.ok B H O0 O1).below HH.out (HDR.out q), .below (HDR.out q)⟩
end
end Go.Proofs.YtcenagpkfimkbaaGreatDoor
namespace Go.Proofs.YtcenagpkfimkbaaGreatDoor
open Go Go.RowKit

theorem swE_ok {m : IM Int} {a b : Int} (h : swE m a b = 0) : 0 ≤ a ∧ 0 ≤ b ∧ (a ≠ 0 → at0 m a ≠ 0) ∧ ¬ (b ≠ 0 ∧ b ≠ a ∧ at0 m b = 2147483647) := by
  unfold swE at h
  split at h
  · omega
  · rename_i h1
    split at h
    · omega
    · rename_i h2
      exact ⟨by omega, by omega, fun ha e => h2 (.inl ⟨ha, e⟩), fun e => h2 (.inr e)⟩
theorem swM_rising {m : IM Int} (h : Rising m) (a : Int) : Rising (swM m a) := by
  unfold swM; split
  · exact tSet_rising h _ _
  · exact h
theorem swL_rising {m : IM Int} (h : Rising m) (a b : Int) : Rising (swL m a b) := by
  unfold swL; split
  · split
    · exact tSet_rising (swM_rising h a) _ _
    · exact swM_rising h a
  · exact h
theorem Told.swL {m : IM Int} (h : Told m) (hr : Rising m) (a b : Int) : Told (swL m a b) := by
  unfold Go.Proofs.YtcenagpkfimkbaaGreatDoor.swL
  split
  · rename_i e
    obtain ⟨_, _, h1, h2⟩ := swE_ok e
    have hs := Told.sw h hr h1
    split
    · rename_i hb
      intro x
      rw [at0_tSet (swM_rising hr a)]
      split
      · have := sw_le h hr h2 hb h1
        have := hs b
        omega
      · exact hs x
    · exact hs
  · exact h
theorem swL_length (m : IM Int) (a b : Int) : (swL m a b).length ≤ m.length + 2 := by
  have h1 : (swM m a).length ≤ m.length + 1 := by
    unfold swM; split
    · exact tSet_length _ _ _
    · omega
  unfold swL
  split
  · split
    · have := tSet_length (swM m a) b (at0 (swM m a) b + 1); omega
    · omega
  · omega
theorem Fine.mvd {H : HM} (h : Fine H) (hr : Rising H.cnt) (hl : H.cnt.length + 2 ≤ 1000000) (k o a v : Int) : Fine (mvd H k o a v) :=
  ⟨h.l0, h.l1, h.ll, h.pl, by have := swL_length H.cnt (cz k o (tgt H a)) (cz k o (tgt H v)); show (swL _ _ _).length ≤ _; omega, h.ct.swL hr _ _, h.ob, h.gv⟩

def popM (H : HM) (l : List Int) : HM := l.foldl (fun H v => mvd H 1 0 v 0) H
theorem popM_snoc (H : HM) (l : List Int) (v : Int) : popM H (l ++ [v]) = mvd (popM H l) 1 0 v 0 := by simp [popM]
theorem popM_cons (H : HM) (v : Int) (l : List Int) : popM H (v :: l) = popM (mvd H 1 0 v 0) l := by simp [popM]
theorem popM_cnt (l : List Int) : ∀ (H : HM), Rising H.cnt → Rising (popM H l).cnt ∧ (popM H l).cnt.length ≤ H.cnt.length + 2 * l.length := by
  induction l with
  | nil => exact fun H h => ⟨h, by simp [popM]⟩
  | cons v l ih =>
    intro H h
    rw [popM_cons]
    have e : (mvd H 1 0 v 0).cnt = swL H.cnt (cz 1 0 (tgt H v)) (cz 1 0 (tgt H 0)) := rfl
    have := ih (mvd H 1 0 v 0) (by rw [e]; exact swL_rising h _ _)
    have h2 := swL_length H.cnt (cz 1 0 (tgt H v)) (cz 1 0 (tgt H 0))
    rw [← e] at h2
    refine ⟨this.1, ?_⟩
    have h3 := this.2
    simp; omega
theorem popM_fine (l : List Int) : ∀ {H : HM}, Fine H → Rising H.cnt → H.cnt.length + 2 * l.length ≤ 1000000 → Fine (popM H l) := by
  induction l with
  | nil => exact fun h _ _ => h
  | cons v l ih =>
    intro H h hr hl
    rw [popM_cons]
    have e : (mvd H 1 0 v 0).cnt = swL H.cnt (cz 1 0 (tgt H v)) (cz 1 0 (tgt H 0)) := rfl
    have h2 := swL_length H.cnt (cz 1 0 (tgt H v)) (cz 1 0 (tgt H 0))
    rw [← e] at h2
    simp at hl
    exact ih (h.mvd hr (by omega) _ _ _ _) (by rw [e]; exact swL_rising hr _ _) (by omega)
def popH (H : HM) : HM := popM { H with fr := H.fr.dropLast } (popL H.fr)

section
variable {B : HB} {H : HM} {O0 O1 : Obj} {w : World} {S : Nat → Prop}
set_option maxRecDepth 100000 in
set_option maxHeartbeats 2000000 in
theorem hPop_any (h : HeapSt B H O0 O1 w S) (hF : Fine H) (hcl : H.cnt.length + 64 ≤ 1000000) (hfr : ∀ l ∈ H.fr, l.length ≤ 16 ∧ ∀ x ∈ l, 0 ≤ x ∧ x ≤ 18446744073709551615) :
    Calls Tryz.prog 76 #[.pointer (some ⟨B.hb, 0, none⟩)] w fun e w' => e = .returned (.int .i64 (popE H.fr)) ∧ ∃ S', HeapSt B (popH H) O0 O1 w' S' ∧ Grows S S' w w' := by
  obtain ⟨S0, h0, hs0, hc⟩ := h.frTurn
  have hP := sPop_any h0
  have c9 := heap_cell h.blk 9
  simp at c9
  have hri := h.counts.rising
  have hpl : (popL H.fr).length ≤ 16 ∧ ∀ x ∈ popL H.fr, 0 ≤ x ∧ x ≤ 18446744073709551615 := by
    unfold popL
    cases e : H.fr.getLast? with
    | none => simp
    | some l => exact hfr l (List.mem_of_getLast? e)
  have hSlt := (HeapSt.ok B H O0 O1).lt h
  obtain ⟨g, hg⟩ : ∃ g, popE H.fr = g := ⟨_, rfl⟩
  have eP : Hid (popH H = popM { H with fr := H.fr.dropLast } (popL H.fr)) := Lib.hid rfl
  obtain ⟨H1, hH1⟩ : ∃ H1 : HM, { H with fr := H.fr.dropLast } = H1 := ⟨_, rfl⟩
  have hF1 : Fine H1 := by rw [← hH1]; exact ⟨hF.l0, hF.l1, hF.ll, hF.pl, hF.cl, hF.ct, hF.ob, hF.gv⟩
  have hr1 : Rising H1.cnt := by rw [← hH1]; exact hri
  have hl1 : H1.cnt.length + 64 ≤ 1000000 := by rw [← hH1]; exact hcl
  have hc1 := hc H.fr.dropLast
  rw [hH1] at hc1 eP
  obtain ⟨l, hl⟩ : ∃ l, popL H.fr = l := ⟨_, rfl⟩
  rw [hg, hl] at hP
  rw [hg]
  rw [hl] at hpl eP
  have HC := Lib.hid (And.intro hc1 (And.intro hF1 (And.intro hr1 (And.intro hl1 (And.intro hSlt (And.intro hs0 hpl))))))
  clear h hF h0 hs0 hc hri hcl hfr hSlt hg hl hH1 hF1 hr1 hl1 hc1
  have hll := hpl.1
  clear hpl
  go_enter Tryz.func76, Tryz.ntmps76
  go_wp2_with fail
  refine hP.mono ?_
  rintro e w1 ⟨v, rfl, hst, hm, hown⟩
  obtain ⟨a, c, rfl, hrd, hbl, _⟩ := owns_reads hown
  have hh1 := HC.out.1 w1 hst hm
  have hm1 : Moved S w w1 := (Moved.refl S w).trans hm (fun q hq => .inl (HC.out.2.2.2.2.2.1 q hq))
  have HO := Lib.hid (And.intro hrd (And.intro hbl (And.intro hh1 hm1)))
  clear hP hst hm hown hrd hbl hh1 hm1
  go_wp2
  go_loopw [6, 17] (fun _ i wr => ∃ j : Nat, j ≤ l.length ∧ i = .int .i64 j ∧ ∃ S', HeapSt B (popM H1 (l.take j)) O0 O1 wr S' ∧ Grows S S' w1 wr) (fun _ i _ => l.length - (intOf i).toNat)
  case atStart => exact ⟨0, Nat.zero_le _, rfl, S, HO.out.2.2.1, Grows.refl _ _⟩
  case round =>
    obtain ⟨j, hj, rfl, S', hh, hgr⟩ := hrel
    by_cases hlt : j < l.length
    · have hrd := HO.out.1
      obtain ⟨b, o, rfl, hcell⟩ := hrd.at_ j hlt
      obtain ⟨x, hx⟩ : ∃ x, l[j]?.getD 0 = x := ⟨_, rfl⟩
      have hx2 : l[j]? = some x := by rw [List.getElem?_eq_getElem hlt] at hx ⊢; simp at hx; rw [hx]
      rw [hx] at hcell
      have hbb := HO.out.2.1 ⟨b, o, none⟩ rfl
      have k0 := hgr.m.cell hcell (fun e => by have h1 := HC.out.2.2.2.2.1 b e; have h2 : w.heap.size ≤ b := hbb.1; omega)
      have hxb := HC.out.2.2.2.2.2.2.2 x (List.mem_of_getElem? hx2)
      have hlt2 : (l.take j).length ≤ 16 := by have := HC.out.2.2.2.2.2.2.1; simp; omega
      have hFj : Fine (popM H1 (l.take j)) := popM_fine _ HC.out.2.1 HC.out.2.2.1 (by have := HC.out.2.2.2.1; omega)
      have hM := hmoved_any hh hFj 1 0 x 0 hxb.1 hxb.2 (by omega) (by omega)
      have etk : l.take (j + 1) = l.take j ++ [x] := by rw [List.take_add_one, hx2]; rfl
      have HG := Lib.hid (And.intro hgr etk)
      clear hrd hcell hx hx2 hbb hxb hFj hh hgr etk hlt2
      go_wp2_with fail
      refine hM.mono ?_
      rintro e w2 ⟨rfl, S2, hh2, hg2⟩
      have HR : Hid (∃ S', HeapSt B (popM H1 (l.take (j + 1))) O0 O1 w2 S' ∧ Grows S S' w1 w2) := Lib.hid ⟨S2, by rw [HG.out.2, popM_snoc]; exact hh2, HG.out.1.trans hg2⟩
      clear hM hh2 hg2
      go_wp2
      go_roundw
      case rel => exact ⟨j + 1, by omega, by go_num, HR.out⟩
      case measure => simp [intOf]; omega
    · obtain rfl : j = l.length := by omega
      rw [List.take_length] at hh
      have HF : Hid (∃ S', HeapSt B (popH H) O0 O1 wr S' ∧ Grows S S' w wr) := Lib.hid ⟨S', by rw [eP.out]; exact hh, (show Grows S S w w1 from ⟨HO.out.2.2.2, fun _ e => .inl e⟩).trans hgr⟩
      clear hh hgr
      go_wp2
      go_ret
      exact ⟨rfl, HF.out⟩
end
end Go.Proofs.YtcenagpkfimkbaaGreatDoor
namespace Go.Proofs.YtcenagpkfimkbaaGreatDoor
open Go Go.RowKit

theorem arA_le {gs : List Bool} {A : AR} (hf : FineA A) (hg : gs.length ≤ 1024) (s : Int) : 0 ≤ arA gs A.pg A.us s ∧ arA gs A.pg A.us s ≤ 100000 := by
  have hp : arPage gs A.pg A.us s ≤ 1024 := by
    unfold arPage
    cases h : findM gs (plN A.pg A.us s) with
    | none => simp
    | some q => have := findM_le h; simp; omega
  have := hf.p0
  have := hf.p1
  have := hf.u0
  have := hf.u1
  have h16 := hf.n
  unfold arA
  split
  · rename_i he
    unfold plA
    split
    · omega
    · split
      · rename_i hs hn
        by_cases e : A.pg = -1
        · exfalso
          have hu := h16 e
          unfold plN at hn
          unfold arE plE at he
          split at hn
          · rename_i hh; rw [if_pos hh] at he; simp at he
          · split at hn
            · omega
            · omega
        · omega
      · omega
  · omega
theorem arAl_bad {gs : List Bool} {A : AR} {s : Int} (h : arE gs A.pg A.us s ≠ 0) : arAl gs A s = A := by
  unfold arAl arP arU arR arT
  rw [if_neg h, if_neg h, if_neg (fun e => h e.1), if_neg h]
theorem ar_bad {gs : List Bool} {ms : List Int} {pg us s : Int} (h : arE gs pg us s ≠ 0) : arS gs pg us s = gs ∧ arM gs ms pg us s = ms ∧ arA gs pg us s = 0 := by
  unfold arS arM arA
  rw [if_neg h, if_neg h, if_neg h]
  exact ⟨rfl, rfl, rfl⟩

def arOf (H : HM) (r : Int) : AR := (lk H.ar r).getD ⟨0, 0, -1, 16, [], []⟩
def alE (H : HM) (r : Int) (a : Bool) (q t n : Int) : Int :=
  if livesB H r = false then 2 else if knE H.ds a q t n ≠ 0 then knE H.ds a q t n else if putE a q t n ≠ 0 then putE a q t n else arE H.gs (arOf H r).pg (arOf H r).us (sizeI a q t n)
def alA (H : HM) (r : Int) (a : Bool) (q t n : Int) : Int := if alE H r a q t n = 0 then arA H.gs (arOf H r).pg (arOf H r).us (sizeI a q t n) + 1 else 0
def alH1 (H : HM) (r : Int) (A : AR) (s : Int) : HM := { H with ar := mput H.ar r (arAl H.gs A s), gs := arS H.gs A.pg A.us s, ms := arM H.gs H.ms A.pg A.us s }
def alH2 (H : HM) (r : Int) (A : AR) (s : Int) (at' : Int) (a : Bool) (q t n : Int) : HM :=
  { alH1 H r A s with ow := owAll H.on H.ow (arAl H.gs A s).rs r, ms := puL (arM H.gs H.ms A.pg A.us s) at' s a q t n, st := spL H.st (at' + 1) }
def alH (H : HM) (r : Int) (a : Bool) (q t n : Int) : HM :=
  if alE H r a q t n = 0 then alH2 H r (arOf H r) (sizeI a q t n) (arA H.gs (arOf H r).pg (arOf H r).us (sizeI a q t n)) a q t n else H
theorem alH1_bad {H : HM} {r : Int} {A : AR} {s : Int} (hr : Rising H.ar) (hA : lk H.ar r = some A) (h : arE H.gs A.pg A.us s ≠ 0) : alH1 H r A s = H := by
  unfold alH1
  rw [arAl_bad h, (ar_bad (ms := H.ms) h).1, (ar_bad h).2.1, mput_same hr hA]

set_option maxRecDepth 100000 in
set_option maxHeartbeats 2000000 in
theorem hAllocBad_any {B : HB} {H : HM} {O0 O1 : Obj} {w : World} {S : Nat → Prop} (h : HeapSt B H O0 O1 w S) (hF : Fine H) (hd : ∀ d ∈ H.ds, d.length ≤ 100) (hdl : H.ds.length ≤ 1000) (r : Int) (r0 : 0 ≤ r) (r1 : r ≤ 18446744073709551615) (a : Bool) (q t n : Int)
    (hbad : livesB H r = false ∨ knE H.ds a q t n ≠ 0 ∨ putE a q t n ≠ 0) :
    Calls Tryz.prog 116 #[.pointer (some ⟨B.hb, 0, none⟩), .int .u64 r, .agg #[.bool a, .int .i64 q, .int .i64 t, .int .i64 n]] w fun e w' => e = .returned (.tuple #[.int .u64 0, .int .i64 (alE H r a q t n)]) ∧ Below w.heap.size w w' := by
  obtain ⟨X, hX⟩ : ∃ X, w.alloc (.cells #[.bool a, .int .i64 q, .int .i64 t, .int .i64 n] 85) = X := ⟨_, rfl⟩
  have hbX : Below w.heap.size w X := by rw [← hX]; exact (Below.refl _ _).alloc (Nat.le_refl _) _
  have hL := hlives_any (h.later hbX) hF r r0 r1
  have HH := Lib.hid (h.later hbX)
  have oX : X.heap[w.heap.size]? = some (.cells #[.bool a, .int .i64 q, .int .i64 t, .int .i64 n] 85 (0, 0)) := by rw [← hX]; exact heap_alloc_eq _ _
  have HO := Lib.hid (And.intro oX hbX)
  have k0 := heap_cell oX 0
  have k1 := heap_cell oX 1
  have k2 := heap_cell oX 2
  have k3 := heap_cell oX 3
  simp at k0 k1 k2 k3
  clear oX h hbX hF
  cases hlv : livesB H r
  · have e1 : Hid (alE H r a q t n = 2) := Lib.hid (by rw [alE, if_pos hlv])
    rw [hlv] at hL
    obtain ⟨y, hy⟩ : ∃ y, IntKind.i64.wrap r = y := ⟨_, rfl⟩
    rw [hy] at hL
    clear hbad hlv hy
    go_enter Tryz.func116, Tryz.ntmps116
    go_wp2_with fail
    try rw [hX]
    go_wp2_with fail
    refine hL.mono ?_
    rintro e w1 ⟨rfl, hb1⟩
    go_wp2
    go_ret2
    exact ⟨by rw [e1.out]; rfl, HO.out.2.trans (hb1.mono HO.out.2.size)⟩
  · have hle := (livesB_le hlv).1
    rw [hlv] at hL
    have hnl : knE H.ds a q t n ≠ 0 ∨ putE a q t n ≠ 0 := hbad.elim (fun e => by rw [hlv] at e; cases e) id
    have e0 : alE H r a q t n = if knE H.ds a q t n ≠ 0 then knE H.ds a q t n else if putE a q t n ≠ 0 then putE a q t n else arE H.gs (arOf H r).pg (arOf H r).us (sizeI a q t n) := by rw [alE, if_neg (by rw [hlv]; simp)]
    obtain ⟨y, hy⟩ : ∃ y, IntKind.i64.wrap r = y := ⟨_, rfl⟩
    rw [hy] at hL
    have hK := fun (w' : World) (hb : Below X.heap.size X w') => Kinds_any B.ta H.ds B.tc a q t n w' (HH.out.later hb).tabs.1 (HH.out.later hb).types hd (by omega)
    obtain ⟨E, hE⟩ : ∃ E, knE H.ds a q t n = E := ⟨_, rfl⟩
    rw [hE] at hnl e0
    simp only [hE] at hK
    have HK := Lib.hid hK
    have hT := fun (w' : World) (hb : Below X.heap.size X w') => hPut_any a q t n w' (HH.out.later hb).tabs.1
    obtain ⟨P, hP⟩ : ∃ P, putE a q t n = P := ⟨_, rfl⟩
    rw [hP] at hnl e0
    simp only [hP] at hT
    have HT := Lib.hid hT
    have HL := Lib.hid hnl
    have HE := Lib.hid e0
    clear hK hT hbad hnl e0 hlv hE hP hy hd hdl hle
    go_enter Tryz.func116, Tryz.ntmps116
    go_wp2_with fail
    try rw [hX]
    go_wp2_with fail
    refine hL.mono ?_
    rintro e w1 ⟨rfl, hb1⟩
    have c3 := heap_cell (HH.out.later hb1).blk 3
    simp at c3
    have j0 := (hb1.cell (p := ⟨w.heap.size, 0, none⟩) (cell_lt k0)).trans k0
    have j1 := (hb1.cell (p := ⟨w.heap.size, 1, none⟩) (cell_lt k1)).trans k1
    have j2 := (hb1.cell (p := ⟨w.heap.size, 2, none⟩) (cell_lt k2)).trans k2
    have j3 := (hb1.cell (p := ⟨w.heap.size, 3, none⟩) (cell_lt k3)).trans k3
    go_wp2
    have hbd : ∀ nq : Nat, Below X.heap.size X (w1.drewN nq) := fun nq => hb1.trans ⟨rfl, rfl, rfl, Nat.le_refl _, fun _ _ => rfl⟩
    have hK1 := fun nq => HK.out (w1.drewN nq) (hbd nq)
    have HB := Lib.hid hbd
    clear hb1 hbd
    go_region_with (refine (hK1 _).mono ?_; rintro e w2 ⟨v, rfl, hb2, hv⟩; have hb3 := (HB.out _).trans (hb2.mono (HB.out _).size))
    all_goals
      have HB3 := Lib.hid hb3
      have HV := Lib.hid hv
      have d0 := (hb3.cell (p := ⟨w.heap.size, 0, none⟩) (cell_lt k0)).trans k0
      have d1 := (hb3.cell (p := ⟨w.heap.size, 1, none⟩) (cell_lt k1)).trans k1
      have d2 := (hb3.cell (p := ⟨w.heap.size, 2, none⟩) (cell_lt k2)).trans k2
      have d3 := (hb3.cell (p := ⟨w.heap.size, 3, none⟩) (cell_lt k3)).trans k3
      have hP := HT.out w2 hb3
      clear hb2 hb3 hv j0 j1 j2 j3 c3 hK1 k0 k1 k2 k3 hL
      by_cases z : E = 0
      · have e2 : Hid (alE H r a q t n = P) := Lib.hid (by
          have := HL.out
          rw [HE.out, if_neg (by omega), if_pos (by omega)])
        have z2 : (P != 0) = true := by
          have := HL.out
          simp; omega
        subst z
        go_wp2_with fail
        refine hP.mono ?_
        rintro e w3 ⟨rfl, hb4⟩
        clear hP
        go_wp2
        go_ret2
        exact ⟨by rw [e2.out]; rfl, HO.out.2.trans ((HB3.out.trans (hb4.mono HB3.out.size)).mono HO.out.2.size)⟩
      · have e2 : Hid (alE H r a q t n = E) := Lib.hid (by rw [HE.out, if_pos z])
        have z2 : (E != 0) = true := by simp; omega
        clear z hP
        go_wp2
        go_ret2
        exact ⟨by rw [e2.out]; rfl, HO.out.2.trans (HB3.out.mono HO.out.2.size)⟩
end Go.Proofs.YtcenagpkfimkbaaGreatDoor
namespace Go.Proofs.YtcenagpkfimkbaaGreatDoor
open Go Go.RowKit

theorem arMap_look {B : HB} {H : HM} {O0 O1 : Obj} {w : World} {S : Nat → Prop} (h : HeapSt B H O0 O1 w S) {r : Int} {A : AR} (hA : lk H.ar r = some A) (r0 : 0 ≤ r) (r1 : r ≤ 1000000) :
    (Instr.lookup 112 (.map (some B.am)) (.int .i64 r) false).run Tryz.prog w = .ok (.pointer (some ⟨A.ab, 0, none⟩)) w := by
  have hz : (zeroValue 157).run Tryz.prog w = .ok (.pointer none) w := by kernel_rfl
  have hl := h.arenas.lookup Tryz.underlying3 Tryz.underlying112 hz r (wf_i64 (by omega) (by omega))
  have : lk (arMap H.ar) r = some (ptrV A.ab) := by unfold arMap; rw [lk_mapV, hA]; rfl
  rw [this] at hl
  rw [hl]; rfl

set_option maxRecDepth 100000 in
set_option maxHeartbeats 4000000 in
theorem hAllocGo_any {B : HB} {H : HM} {O0 O1 : Obj} {w : World} {S : Nat → Prop} (h : HeapSt B H O0 O1 w S) (hF : Fine H) (hd : ∀ d ∈ H.ds, d.length ≤ 100) (hdl : H.ds.length ≤ 1000) (r : Int) (r0 : 1 ≤ r) (a : Bool) (q t n : Int)
    (hlv : livesB H r = true) (hkn : knE H.ds a q t n = 0) (hpt : putE a q t n = 0) {A : AR} (hA : lk H.ar r = some A) (hfA : FineA A) (hrl : A.rs.length ≤ 10000) :
    Calls Tryz.prog 116 #[.pointer (some ⟨B.hb, 0, none⟩), .int .u64 r, .agg #[.bool a, .int .i64 q, .int .i64 t, .int .i64 n]] w fun e w' => e = .returned (.tuple #[.int .u64 (alA H r a q t n), .int .i64 (alE H r a q t n)]) ∧ ∃ S', HeapSt B (alH H r a q t n) O0 O1 w' S' ∧ Grows S S' w w' := by
  obtain ⟨X, hX⟩ : ∃ X, w.alloc (.cells #[.bool a, .int .i64 q, .int .i64 t, .int .i64 n] 85) = X := ⟨_, rfl⟩
  have hbX : Below w.heap.size w X := by rw [← hX]; exact (Below.refl _ _).alloc (Nat.le_refl _) _
  have hle := (livesB_le hlv).1
  have l1 := hF.l1
  have hL := hlives_any (h.later hbX) hF r (by omega) (by omega)
  have HH := Lib.hid (h.later hbX)
  have oX : X.heap[w.heap.size]? = some (.cells #[.bool a, .int .i64 q, .int .i64 t, .int .i64 n] 85 (0, 0)) := by rw [← hX]; exact heap_alloc_eq _ _
  have HO := Lib.hid (And.intro oX hbX)
  have k0 := heap_cell oX 0
  have k1 := heap_cell oX 1
  have k2 := heap_cell oX 2
  have k3 := heap_cell oX 3
  simp at k0 k1 k2 k3
  have hSw : ¬ S w.heap.size := fun e => by have := h.lt e; omega
  have HSW := Lib.hid hSw
  clear oX h hbX hF hSw
  rw [hlv, show IntKind.i64.wrap r = r by rw [IntKind.wrap_i64]; omega] at hL
  have hr6 : r ≤ 1000000 := by omega
  obtain ⟨s, hs⟩ : ∃ s, sizeI a q t n = s := ⟨_, rfl⟩
  have hAO : arOf H r = A := by rw [arOf, hA]; rfl
  have e0 : Hid (alE H r a q t n = arE H.gs A.pg A.us s) := Lib.hid (by rw [alE, if_neg (by rw [hlv]; simp), if_neg (by omega), if_neg (by omega), hAO, hs])
  have e00 : Hid (alA H r a q t n = if arE H.gs A.pg A.us s = 0 then arA H.gs A.pg A.us s + 1 else 0) := Lib.hid (by rw [alA, e0.out, hAO, hs])
  have e01 : Hid (alH H r a q t n = if arE H.gs A.pg A.us s = 0 then alH2 H r A s (arA H.gs A.pg A.us s) a q t n else H) := Lib.hid (by rw [alH, e0.out, hAO, hs])
  have hK := fun (w' : World) (hb : Below X.heap.size X w') => Kinds_any B.ta H.ds B.tc a q t n w' (HH.out.later hb).tabs.1 (HH.out.later hb).types hd (by omega)
  simp only [hkn] at hK
  have hT := fun (w' : World) (hb : Below X.heap.size X w') => hPut_any a q t n w' (HH.out.later hb).tabs.1
  simp only [hpt] at hT
  have hZ := fun (w' : World) (hb : Below X.heap.size X w') => hSize_any a q t n w' (HH.out.later hb).tabs.1
  simp only [hs] at hZ
  have HK := Lib.hid (And.intro hK (And.intro hT hZ))
  have HA := Lib.hid (And.intro hA (And.intro hfA hrl))
  clear hK hT hZ hlv hd hdl hle hkn hpt hs hA hfA hrl hAO l1
  go_enter Tryz.func116, Tryz.ntmps116
  go_wp2_with fail
  try rw [hX]
  go_wp2_with fail
  refine hL.mono ?_
  rintro e w1 ⟨rfl, hb1⟩
  have c3 := heap_cell (HH.out.later hb1).blk 3
  simp at c3
  have j0 := (hb1.cell (p := ⟨w.heap.size, 0, none⟩) (cell_lt k0)).trans k0
  have j1 := (hb1.cell (p := ⟨w.heap.size, 1, none⟩) (cell_lt k1)).trans k1
  have j2 := (hb1.cell (p := ⟨w.heap.size, 2, none⟩) (cell_lt k2)).trans k2
  have j3 := (hb1.cell (p := ⟨w.heap.size, 3, none⟩) (cell_lt k3)).trans k3
  go_wp2
  have hbd : ∀ nq : Nat, Below X.heap.size X (w1.drewN nq) := fun nq => hb1.trans ⟨rfl, rfl, rfl, Nat.le_refl _, fun _ _ => rfl⟩
  have hK1 := fun nq => HK.out.1 (w1.drewN nq) (hbd nq)
  have HB := Lib.hid hbd
  clear hb1 hbd
  go_region_with (refine (hK1 _).mono ?_; rintro e w2 ⟨v, rfl, hb2, hv⟩; have hb3 := (HB.out _).trans (hb2.mono (HB.out _).size))
  all_goals
    have HB3 := Lib.hid hb3
    have hP := HK.out.2.1 w2 hb3
    have d0 := (hb3.cell (p := ⟨w.heap.size, 0, none⟩) (cell_lt k0)).trans k0
    have d1 := (hb3.cell (p := ⟨w.heap.size, 1, none⟩) (cell_lt k1)).trans k1
    have d2 := (hb3.cell (p := ⟨w.heap.size, 2, none⟩) (cell_lt k2)).trans k2
    have d3 := (hb3.cell (p := ⟨w.heap.size, 3, none⟩) (cell_lt k3)).trans k3
    clear hb2 hb3 hv j0 j1 j2 j3 c3 hK1 hL
    go_wp2_with fail
    refine hP.mono ?_
    rintro e w3 ⟨rfl, hb4⟩
    have hb5 := HB3.out.trans (hb4.mono HB3.out.size)
    clear hb4 hP d0 d1 d2 d3 HB3
    have HB3 := Lib.hid hb5
    have d0 := (hb5.cell (p := ⟨w.heap.size, 0, none⟩) (cell_lt k0)).trans k0
    have d1 := (hb5.cell (p := ⟨w.heap.size, 1, none⟩) (cell_lt k1)).trans k1
    have d2 := (hb5.cell (p := ⟨w.heap.size, 2, none⟩) (cell_lt k2)).trans k2
    have d3 := (hb5.cell (p := ⟨w.heap.size, 3, none⟩) (cell_lt k3)).trans k3
    have hz := HK.out.2.2 w3 hb5
    clear hb5
    go_wp2_with fail
    refine hz.mono ?_
    rintro e w4 ⟨rfl, hb4⟩
    have hb5 := HB3.out.trans (hb4.mono HB3.out.size)
    clear hb4 hz d0 d1 d2 d3 HB3
    have HB3 := Lib.hid hb5
    have h5 := HH.out.later hb5
    have c6 := heap_cell h5.blk 6
    simp at c6
    have hlk := arMap_look h5 HA.out.1 (by omega) hr6
    obtain ⟨T, hT, hTc⟩ := h5.alStep r0 HA.out.1 HA.out.2.1 s
    have HT := Lib.hid hTc
    clear hTc hb5 h5
    go_wp2_with fail
    refine hT.mono ?_
    rintro e w5 ⟨rfl, ht5⟩
    clear hT hlk c6
    obtain ⟨S5, h5, g5⟩ := HT.out w5 ht5
    clear HT ht5
    by_cases z : arE H.gs A.pg A.us s = 0
    · have z2 : (arE H.gs A.pg A.us s != 0) = false := by simp [z]
      have hAl := arA_le HA.out.2.1 HH.out.pages.hi s
      rw [if_pos z] at e00 e01
      rw [z] at e0
      simp only [z] at z2 ⊢
      clear z
      obtain ⟨p, hp⟩ : ∃ p, arA H.gs A.pg A.us s = p := ⟨_, rfl⟩
      rw [hp] at hAl e00 e01
      simp only [hp]
      clear hp
      have hlt5 : w.heap.size < X.heap.size := by rw [← hX]; simp
      have hX5 := HB3.out.size
      have n5 : ¬ S5 w.heap.size := fun e => (g5.s _ e).elim (fun e => HSW.out e) (fun e => by omega)
      have o5 : w5.heap[w.heap.size]? = some (.cells #[.bool a, .int .i64 q, .int .i64 t, .int .i64 n] 85 (0, 0)) := g5.m.heap ((Moved.of_below HB3.out (fun _ => False)).heap HO.out.1 (fun e => e)) HSW.out
      have hris : Rising H.ar := (rising_mapV _ _).1 HH.out.arenas.rising
      have hA5 : lk (mput H.ar r (arAl H.gs A s)) r = some (arAl H.gs A s) := by rw [lk_put hris, if_pos rfl]
      have hlk := arMap_look h5 hA5 (by omega) hr6
      obtain ⟨vr, vt, har⟩ := h5.arena r0 hA5
      have hrl : (arAl H.gs A s).rs.length ≤ 1000000 := by
        have := HA.out.2.2
        simp only [arAl, arR]
        split
        · simp; omega
        · omega
      have hRu := arRuns_any har hrl
      have c6 := heap_cell h5.blk 6
      simp at c6
      have e02 : Hid (alH2 H r A s p a q t n = { { { alH1 H r A s with ow := owAll H.on H.ow (arAl H.gs A s).rs r } with ms := puL (arM H.gs H.ms A.pg A.us s) p s a q t n } with st := spL H.st (p + 1) }) := Lib.hid rfl
      have e03 : Hid ((alH1 H r A s).on = H.on ∧ (alH1 H r A s).st = H.st ∧ (alH1 H r A s).ms = arM H.gs H.ms A.pg A.us s ∧ (alH1 H r A s).ow = H.ow) := Lib.hid ⟨rfl, rfl, rfl, rfl⟩
      obtain ⟨A', hA'⟩ : ∃ A', arAl H.gs A s = A' := ⟨_, rfl⟩
      have eab : A.ab = A'.ab := by rw [← hA']; rfl
      change HeapSt B (alH1 H r A s) O0 O1 w5 S5 at h5
      rw [hA'] at hlk hrl har hRu hA5 e02
      obtain ⟨H1, hH1⟩ : ∃ H1, alH1 H r A s = H1 := ⟨_, rfl⟩
      rw [hH1] at h5 e02 e03
      have H5 := Lib.hid (And.intro h5 (And.intro g5 (And.intro n5 o5)))
      have RL := Lib.hid hrl
      obtain ⟨rs, hrs⟩ : ∃ rs, A'.rs = rs := ⟨_, rfl⟩
      rw [hrs] at hRu RL e02
      clear h5 g5 n5 o5 hA5 har hA' hH1 hris hrl hrs hX5 hlt5
      obtain ⟨ab, hab⟩ : ∃ ab, A'.ab = ab := ⟨_, rfl⟩
      rw [hab] at hlk hRu eab
      clear hab
      go_wp2_with fail
      refine hRu.mono ?_
      rintro e w6 ⟨v6, rfl, hb6, hv6, hn6⟩
      obtain ⟨ra, rc, rfl, hrc, hr0, hrq⟩ := hv6.shape
      have H6 := Lib.hid (And.intro (H5.out.1.later hb6) (And.intro hb6 (And.intro hv6 hn6)))
      have o6 : Hid (w6.heap[w.heap.size]? = some (.cells #[.bool a, .int .i64 q, .int .i64 t, .int .i64 n] 85 (0, 0))) := Lib.hid ((Moved.of_below hb6 (fun _ => False)).heap H5.out.2.2.2 (fun e => e))
      have nv : Hid (∀ k, (Value.slice ra rs.length rc).ownBlock = some k → ¬ S5 k) := Lib.hid (fun k e f => by have := H5.out.1.lt f; have := hn6 k e; omega)
      clear hRu hb6 hv6 hn6 hlk c6 hrc hr0 hrq
      obtain ⟨N, hN⟩ : ∃ N, rs.length = N := ⟨_, rfl⟩
      have HN := Lib.hid hN
      have hN2 : (N : Int) ≤ 1000000 := by have := RL.out; omega
      rw [hN] at H6 nv
      simp only [hN]
      clear hN
      go_wp2
      go_loopw [18, 71] (fun _ c wr => ∃ k : Nat, k ≤ N ∧ c = .int .i64 (k : Int) ∧ Hid (∃ S', HeapSt B { H1 with ow := owAll H.on H.ow (rs.take k) r } O0 O1 wr S' ∧ Grows S5 S' w6 wr)) (fun _ c _ => N - (intOf c).toNat)
      case atStart => exact ⟨0, Nat.zero_le _, rfl, Lib.hid ⟨S5, by have := H6.out.1; rw [show ({ H1 with ow := owAll H.on H.ow (rs.take 0) r } : HM) = H1 by rw [List.take_zero]; simp only [owAll, List.foldl_nil]; rw [← e03.out.2.2.2]]; exact this, Grows.refl _ _⟩⟩
      case round =>
        obtain ⟨k, hk, rfl, HV⟩ := hrel
        obtain ⟨S', h', g'⟩ := HV.out
        have hv7 : OwnRuns wr (.slice ra N rc) rs := (H6.out.2.2.1).moved g'.m nv.out
        by_cases hlt : k < N
        · have i2 : (k : Int) < (N : Int) := by omega
          have hrd := hv7.reads
          rcases hrd with hrd | ⟨rb, off, rfl, hrc⟩
          · exfalso; have := HN.out; rw [hrd] at this; simp at this; omega
          have hrk := hrc k (by rw [HN.out]; exact hlt)
          obtain ⟨f, hf⟩ : ∃ f, (rs.getD k (0, 0)).1 = f := ⟨_, rfl⟩
          obtain ⟨m, hm⟩ : ∃ m, (rs.getD k (0, 0)).2 = m := ⟨_, rfl⟩
          rw [hf, hm] at hrk
          have q0 := hrk.1
          have q1 := hrk.2
          have hnext : owAll H.on H.ow (rs.take (k + 1)) r = oW H.on (owAll H.on H.ow (rs.take k) r) f m r := by rw [owAll_succ _ _ _ _ _ (by rw [HN.out]; exact hlt), hf, hm]
          have hbz : Below wr.heap.size wr (wr.alloc (.cells #[.int .i64 f, .int .i64 m] 160)) := (Below.refl _ _).alloc (Nat.le_refl _) _
          have hO := fun (nq : Nat) => (h'.later (w' := (wr.alloc (.cells #[.int .i64 f, .int .i64 m] 160)).drewN nq) (hbz.trans ⟨rfl, rfl, rfl, Nat.le_refl _, fun _ _ => rfl⟩)).owStep f m r
          have hbz2 : ∀ nq, Below wr.heap.size wr ((wr.alloc (.cells #[.int .i64 f, .int .i64 m] 160)).drewN nq) := fun nq => hbz.trans ⟨rfl, rfl, rfl, Nat.le_refl _, fun _ _ => rfl⟩
          have c1 := heap_cell h'.blk 1
          simp at c1
          have hbl := heap_lt h'.blk
          have HK7 := Lib.hid (And.intro g' (And.intro hbz2 hnext))
          clear h' g' hrc hrk hf hm hnext hbz hbz2 hv7
          go_wp2
          go_region_with (refine (hO _).mono ?_; rintro e w7 ⟨rfl, S7, hs7, hg7⟩)
          all_goals
            clear hO
            have H7 : Hid (∃ S', HeapSt B { H1 with ow := owAll H.on H.ow (rs.take (k + 1)) r } O0 O1 w7 S' ∧ Grows S5 S' w6 w7) := Lib.hid ⟨S7, by rw [HK7.out.2.2]; simpa only [e03.out.1] using hs7, HK7.out.1.trans (Grows.after_below (HK7.out.2.1 _) hg7)⟩
            clear hs7 hg7
            go_wp2
            go_roundw
            case rel => exact ⟨k + 1, by omega, by simp, H7⟩
            case measure => simp [intOf]; omega
        · obtain rfl : k = N := by omega
          have i2 : ¬ (k : Int) < (k : Int) := by omega
          rw [show rs.take k = rs by rw [← HN.out]; exact List.take_length] at h'
          have H8 := Lib.hid (And.intro h' g')
          clear h' g' hv7
          have c0 := heap_cell H8.out.1.blk 0
          simp at c0
          have o9 := H8.out.2.m.heap o6.out H5.out.2.2.1
          have d0 := heap_cell o9 0
          have d1 := heap_cell o9 1
          have d2 := heap_cell o9 2
          have d3 := heap_cell o9 3
          simp at d0 d1 d2 d3
          have hbz2 : ∀ nq, Below wr.heap.size wr (wr.drewN nq) := fun nq => ⟨rfl, rfl, rfl, Nat.le_refl _, fun _ _ => rfl⟩
          have hMm := fun nq => pMem_any (H8.out.1.later (hbz2 nq)).pages
          have hPu := fun nq => Put_any B.mb B.mw H1.ms p s a q t n (wr.drewN nq) (H8.out.1.later (hbz2 nq)).tabs.1 (H8.out.1.later (hbz2 nq)).pages.mem
          have hm9 : ∀ (nq : Nat) (w8 : World), (wr.drewN nq).grownBy w8 (some B.mw) → MemAt w8 B.mb B.mw (puL H1.ms p s a q t n) → ∃ S9, HeapSt B { { H1 with ow := owAll H.on H.ow rs r } with ms := puL H1.ms p s a q t n } O0 O1 w8 S9 ∧ Grows S' S9 wr w8 := fun nq w8 hg8 hm8 => by
            obtain ⟨S9, h9, g9⟩ := (H8.out.1.later (hbz2 nq)).memStep (puL_length _ _ _ _ _ _ _) hg8 hm8
            exact ⟨S9, h9, Grows.after_below (hbz2 nq) g9⟩
          have HM9 := Lib.hid hm9
          clear o9 hbz2 hm9
          go_wp2
          go_region_with (first | (refine (hMm _).mono ?_; rintro e w8 ⟨rfl, rfl⟩) | (refine (hPu _).mono ?_; rintro e w8 ⟨rfl, hg8, hm8⟩; have M9 := Lib.hid (HM9.out _ w8 hg8 hm8); clear hg8 hm8) | fail)
          all_goals
            obtain ⟨S9, h9, g9⟩ := M9.out
            have c2 := heap_cell h9.blk 2
            simp at c2
            have hst := sPut2_any h9.starts (p + 1)
            have y1 : IntKind.i64.wrap (p + 1) = p + 1 := IntWalk.i64_in _ (by omega)
            have y2 : IntKind.u64.wrap (p + 1) = p + 1 := by rw [IntKind.wrap_u64]; omega
            have H9 := Lib.hid (And.intro h9 g9)
            clear h9 g9 M9 hMm hPu d0 d1 d2 d3 c0 hAl
            go_wp2_with fail
            refine hst.mono ?_
            rintro e w10 ⟨rfl, hm10, ht10⟩
            clear hst
            obtain ⟨S10, h10, g10⟩ := H9.out.1.stStep hm10 ht10
            have H10 := Lib.hid (And.intro h10 (H9.out.2.trans g10))
            clear h10 g10 hm10 ht10
            go_wp2
            go_ret2
            refine ⟨by rw [e0.out, e00.out]; rfl, S10, ?_, (Grows.below HO.out.2).trans (Grows.after_below HB3.out (H5.out.2.1.trans (Grows.after_below H6.out.2.1 (H8.out.2.trans H10.out.2))))⟩
            rw [e01.out, e02.out]
            simpa only [e03.out.2.1, e03.out.2.2.1] using H10.out.1
    · have z2 : (arE H.gs A.pg A.us s != 0) = true := by simp; omega
      have eb : alH1 H r A s = H := alH1_bad ((rising_mapV _ _).1 HH.out.arenas.rising) HA.out.1 z
      have H5 := Lib.hid (And.intro h5 (And.intro g5 eb))
      have Z := Lib.hid z
      clear h5 g5 z eb
      obtain ⟨x, hx⟩ : ∃ x, arE H.gs A.pg A.us s = x := ⟨_, rfl⟩
      rw [hx] at z2 e0 Z
      simp only [hx]
      go_wp2
      go_ret2
      exact ⟨by rw [e0.out, e00.out, hx, if_neg Z.out]; rfl, S5, by rw [e01.out, hx, if_neg Z.out, ← H5.out.2.2]; exact H5.out.1, (Grows.below HO.out.2).trans (Grows.after_below HB3.out H5.out.2.1)⟩
end Go.Proofs.YtcenagpkfimkbaaGreatDoor
namespace Go.Proofs.YtcenagpkfimkbaaGreatDoor
open Go Go.RowKit

theorem info_desc : (Tryz.prog.info? 76).map (fun i => (i.zero, i.size, i.bytes)) = some (some (.agg #[.slice none 0 0]), 1, 24) := by kernel_rfl

theorem owns_le2 {w : World} {B B' : Nat} {t : TypeId} {size n : Nat} {v : Value} {xs : List Value} (h : w.ownsRow B t size v n xs) (hb : B' ≤ B) : w.ownsRow B' t size v n xs :=
  ⟨h.1, h.2.elim .inl fun ⟨g, cap, cur, hv, hg, r⟩ => .inr ⟨g, cap, cur, hv, Nat.le_trans hb hg, r⟩⟩
theorem owns_ne {w : World} {B B' : Nat} {t t' : TypeId} {size size' : Nat} {v v' : Value} {n n' : Nat} {xs xs' : List Value} (h : w.ownsRow B t size v n xs) (h' : w.ownsRow B' t' size' v' n' xs') (ht : t ≠ t') : v.ownBlock = none ∨ v.ownBlock ≠ v'.ownBlock := by
  rcases h.2 with ⟨rfl, _⟩ | ⟨g, cap, cur, rfl, _, hg, _⟩
  · exact .inl rfl
  · refine .inr fun e => ?_
    rcases h'.2 with ⟨rfl, _⟩ | ⟨g', cap', cur', rfl, _, hg', _⟩
    · simp [Value.ownBlock] at e
    · simp [Value.ownBlock] at e
      subst e
      rw [hg] at hg'
      simp at hg'
      exact ht hg'.2

def RowsOf (w : World) (B : Nat) (us : List Value) (ds : List (List Int)) : Prop :=
  us.length = ds.length ∧ ∀ (q : Nat) (d : List Int), ds[q]? = some d → ∃ u, us[q]? = some u ∧ w.ownsRow B 3 1 u d.length (d.map (Value.int .i64))
theorem RowsOf.below {w w' : World} {B : Nat} {us : List Value} {ds : List (List Int)} (h : RowsOf w B us ds) (hb : Below w.heap.size w w') : RowsOf w' B us ds :=
  ⟨h.1, fun q d hq => by obtain ⟨u, h1, h2⟩ := h.2 q d hq; exact ⟨u, h1, (Moved.of_below hb (fun _ => False)).owns h2 (fun _ _ e => e)⟩⟩
theorem RowsOf.grown {w w' : World} {B B' : Nat} {us : List Value} {ds : List (List Int)} {t : TypeId} {v : Value} {n : Nat} {xs : List Value} (h : RowsOf w B us ds) (ho : w.ownsRow B' t 1 v n xs) (ht : 3 ≠ t) (hg : w.grownBy w' v.ownBlock) : RowsOf w' B us ds :=
  ⟨h.1, fun q d hq => by obtain ⟨u, h1, h2⟩ := h.2 q d hq; exact ⟨u, h1, h2.kept hg (owns_ne h2 ho ht)⟩⟩
theorem RowsOf.snoc {w : World} {B : Nat} {us : List Value} {ds : List (List Int)} (h : RowsOf w B us ds) {u : Value} {d : List Int} (hr : w.ownsRow B 3 1 u d.length (d.map (Value.int .i64))) : RowsOf w B (us ++ [u]) (ds ++ [d]) := by
  refine ⟨by simp [h.1], fun q d' hq => ?_⟩
  by_cases e : q < ds.length
  · rw [List.getElem?_append_left e] at hq
    obtain ⟨u', h1, h2⟩ := h.2 q d' hq
    exact ⟨u', by rw [List.getElem?_append_left (by rw [h.1]; exact e)]; exact h1, h2⟩
  · have hl := (List.getElem?_eq_some_iff.1 hq).1
    obtain rfl : q = ds.length := by simp at hl; omega
    simp at hq
    subst hq
    exact ⟨u, by rw [← h.1]; simp, hr⟩
theorem descs_of_rows {w : World} {B B' : Nat} {v : Value} {us : List Value} {ds : List (List Int)} (h : w.ownsRow B 76 1 v us.length us) (hr : RowsOf w B' us ds) :
    ∃ a c, v = .slice a ds.length c ∧ Descs w a ds := by
  rcases h.2 with ⟨rfl, h0⟩ | ⟨g, cap, cur, rfl, hB, hg, hn, hm, hs, ht⟩
  · have : ds = [] := List.length_eq_zero_iff.1 (by rw [← hr.1]; exact h0)
    subst this
    exact ⟨none, 0, rfl, .inl rfl⟩
  · refine ⟨some ⟨g, 0, none⟩, cap, by rw [hr.1], .inr ⟨g, 0, rfl, fun i hi => ?_⟩⟩
    have hx : ds[i]? = some (ds.getD i []) := by simp [hi]
    obtain ⟨u, h1, h2⟩ := hr.2 i _ hx
    obtain ⟨fa, c, rfl, hrd, _, _⟩ := owns_reads h2
    obtain ⟨fa', c', e, _, h3, _⟩ := owns_slice h2
    simp only [Value.slice.injEq] at e
    obtain ⟨rfl, _, rfl⟩ := e
    refine ⟨fa, c, ?_, hrd, fun e => ⟨List.length_eq_zero_iff.1 (h3 e).1, (h3 e).2⟩⟩
    rw [Nat.zero_add, heap_cell hg]
    have : (cur.toList.take (us.length * 1))[i]? = us[i]? := by rw [ht]
    rw [Nat.mul_one, List.getElem?_take, if_pos (by rw [hr.1]; exact hi)] at this
    simpa [h1] using this

theorem new_cellD (w : World) (v : Value) (t : TypeId) : ∀ (j : Nat) (u : Value), [v][j]? = some u → (w.alloc (.cells #[v] t)).cell? ((⟨w.heap.size, 0, none⟩ : Addr).add j) = some u := by
  intro j u h
  match j, h with
  | 0, h => simp at h; subst h; simp [Addr.add]
theorem one_okD (v : Value) (h : v.oneCell' = true) : ∀ u ∈ [v], u.oneCell' = true := by
  intro u hu; simp at hu; subst hu; exact h
theorem take_all {α : Type} {xs : List α} {m : Nat} (h : xs.length ≤ m) : xs.take m = xs := List.take_of_length_le h


theorem typesP_of_rows {w : World} {B : Nat} {v : Value} {us : List Value} {ds : List (List Int)} (h : w.ownsRow B 76 1 v us.length us) (hr : RowsOf w B us ds) :
    ∃ a c, v = .slice a ds.length c ∧ TypesP a ds w (fun k => B ≤ k ∧ k < w.heap.size) := by
  rcases h.2 with ⟨rfl, h0⟩ | ⟨g, cap, cur, rfl, hB, hg, hn, hm, hs, ht⟩
  · have : ds = [] := List.length_eq_zero_iff.1 (by rw [← hr.1]; exact h0)
    subst this
    exact ⟨none, 0, rfl, .inl rfl, fun k hk => hk.2⟩
  · refine ⟨some ⟨g, 0, none⟩, cap, by rw [hr.1], .inr ⟨g, 0, rfl, ⟨hB, heap_lt hg⟩, fun i hi => ?_⟩, fun k hk => hk.2⟩
    have hx : ds[i]? = some (ds.getD i []) := by simp [hi]
    obtain ⟨u, h1, h2⟩ := hr.2 i _ hx
    obtain ⟨fa, c, rfl, hrd, hq, _⟩ := owns_reads h2
    obtain ⟨fa', c', e, _, h3, _⟩ := owns_slice h2
    simp only [Value.slice.injEq] at e
    obtain ⟨rfl, _, rfl⟩ := e
    refine ⟨fa, c, ?_, hrd, fun e => ⟨List.length_eq_zero_iff.1 (h3 e).1, (h3 e).2⟩, fun q e => hq q e⟩
    rw [Nat.zero_add, heap_cell hg]
    have : (cur.toList.take (us.length * 1))[i]? = us[i]? := by rw [ht]
    rw [Nat.mul_one, List.getElem?_take, if_pos (by rw [hr.1]; exact hi)] at this
    simpa [h1] using this

theorem Sep.add {P : Nat → HP} (o : ∀ i, (P i).Ok) {w w' : World} {S S0 : Nat → Prop} (h : Sep P w S) (i : Nat) (hi : 0 < i) (_he : P i = hemp) {p : HP} (hp : p w' S0) (hb : Below w.heap.size w w') (hs : ∀ k, S0 k → w.heap.size ≤ k) :
    ∃ S', Sep (upd P i p) w' S' ∧ Grows S S' w w' := by
  obtain ⟨S1, h1, _, hc⟩ := Sep.open_ o h i hi
  exact hc w' S0 p hp ⟨Moved.of_below hb _, fun k hk => .inr (hs k hk)⟩
end Go.Proofs.YtcenagpkfimkbaaGreatDoor
namespace Go.Proofs.YtcenagpkfimkbaaGreatDoor
open Go Go.RowKit

structure Beg (ST : Nat → Prop) (w0 : World) (P : Nat → HP) (w : World) : Prop where
  ok : ∀ i, (P i).Ok
  below : Below w0.heap.size w0 w
  sep : ∃ S, Sep P w S ∧ ∀ k, S k → ST k ∨ w0.heap.size ≤ k
  rest : ∀ j, j = 0 ∨ 12 < j → P j = hemp
section
variable {ST : Nat → Prop} {w0 w w' : World} {P : Nat → HP}
theorem upd_ok {i : Nat} {p : HP} (h : ∀ i, (P i).Ok) (hp : p.Ok) : ∀ j, (upd P i p j).Ok := by
  intro j; unfold upd; split
  · exact hp
  · exact h j
theorem Beg.later (h : Beg ST w0 P w) (hb : Below w.heap.size w w') : Beg ST w0 P w' := by
  obtain ⟨S, hS, hs⟩ := h.sep
  exact ⟨h.ok, h.below.trans (hb.mono h.below.size), ⟨S, (Sep.ok h.ok).below hS hb, hs⟩, h.rest⟩
theorem Beg.add (h : Beg ST w0 P w) (i : Nat) (hi : 0 < i ∧ i ≤ 12) (he : P i = hemp) {p : HP} (hp : p.Ok) {S0 : Nat → Prop} (hpw : p w' S0) (hb : Below w.heap.size w w') (hs : ∀ k, S0 k → w.heap.size ≤ k) : Beg ST w0 (upd P i p) w' := by
  obtain ⟨S, hS, hs0⟩ := h.sep
  obtain ⟨S', h', hg⟩ := Sep.add h.ok hS i hi.1 he hpw hb hs
  exact ⟨upd_ok h.ok hp, h.below.trans (hb.mono h.below.size), ⟨S', h', fun k hk => (hg.s k hk).elim (hs0 k) (fun e => .inr (Nat.le_trans h.below.size e))⟩, fun j hj => by rw [upd_ne _ _ (by omega)]; exact h.rest j hj⟩
theorem Beg.drew (h : Beg ST w0 P w) (n : Nat) : Beg ST w0 P (w.drewN n) := h.later ⟨rfl, rfl, rfl, Nat.le_refl _, fun _ _ => rfl⟩
theorem Beg.drew1 (h : Beg ST w0 P w) : Beg ST w0 P w.drew := h.later ⟨rfl, rfl, rfl, Nat.le_refl _, fun _ _ => rfl⟩
theorem Beg.map (h : Beg ST w0 P w) (he : P 8 = hemp) : Beg ST w0 (upd P 8 (MapP w.heap.size (arMap []))) (w.alloc (.map #[] 0)) :=
  h.add 8 (by omega) he (MapP.ok _ _) (S0 := fun k => k = w.heap.size) ⟨MapAt.made w, fun _ => Iff.rfl⟩ ((Below.refl _ _).alloc (Nat.le_refl _) _) (fun k e => by omega)
theorem Beg.cell (h : Beg ST w0 P w) {a : Addr} {v : Value} (hc : w0.cell? a = some v) : w.cell? a = some v := (h.below.cell (cell_lt hc)).trans hc

theorem oNewB (h : Beg ST w0 P w) (he : P 3 = hemp) (n : Nat) (hn : n ≤ 1024) :
    Calls Tryz.prog 39 #[.int .i64 n] w fun e w' => ∃ ob om, e = .returned (.pointer (some ⟨ob, 0, none⟩)) ∧ Beg ST w0 (upd P 3 (OwnerP ob om n (fun _ => 0))) w' := by
  refine (oNew_any n w hn).mono ?_
  rintro e w' ⟨rfl, hb, ho⟩
  refine ⟨_, _, rfl, h.add 3 (by omega) he (OwnerP.ok _ _ _ _) (S0 := fun k => k = w.heap.size + 1 ∨ k = w.heap.size) ⟨[], ho, fun k => by simp [lk]⟩ hb (fun k e => by omega)⟩
theorem stNewB (h : Beg ST w0 P w) (he : P 4 = hemp) (n : Nat) (hn : n ≤ 16384) :
    Calls Tryz.prog 40 #[.int .i64 n] w fun e w' => ∃ sb rb rw, e = .returned (.pointer (some ⟨sb, 0, none⟩)) ∧ Beg ST w0 (upd P 4 (StartsP sb rb rw (List.replicate n false))) w' := by
  refine (sNew2_any n w hn).mono ?_
  rintro e w' ⟨sb, rb, rw', rfl, hb, ho, h1, h2, h3⟩
  exact ⟨_, _, _, rfl, h.add 4 (by omega) he (StartsP.ok _ _ _ _) (S0 := fun k => k = sb ∨ k = rb ∨ k = rw') ⟨ho, fun k => Iff.rfl⟩ hb (fun k e => by omega)⟩
theorem iNewB (h : Beg ST w0 P w) (he : P 6 = hemp) :
    Calls Tryz.prog 41 #[.int .i64 64] w fun e w' => ∃ bb bm, e = .returned (.pointer (some ⟨bb, 0, none⟩)) ∧ Beg ST w0 (upd P 6 (BookP bb bm [] 0 64)) w' := by
  refine (iNew_any 64 w (by omega)).mono ?_
  rintro e w' ⟨rfl, hb, ho⟩
  exact ⟨_, _, rfl, h.add 6 (by omega) he (BookP.ok _ _ _ _ _) (S0 := fun k => k = w.heap.size + 1 ∨ k = w.heap.size) ⟨ho, fun k => Iff.rfl⟩ hb (fun k e => by omega)⟩
theorem trNewB (h : Beg ST w0 P w) (he : P 7 = hemp) :
    Calls Tryz.prog 42 #[] w fun e w' => ∃ tb tm, e = .returned (.pointer (some ⟨tb, 0, none⟩)) ∧ Beg ST w0 (upd P 7 (OneMapP 191 tb tm [])) w' := by
  refine (trNew_any w).mono ?_
  rintro e w' ⟨rfl, hb, ho⟩
  exact ⟨_, _, rfl, h.add 7 (by omega) he (OneMapP.ok _ _ _ _) (S0 := fun k => k = w.heap.size + 1 ∨ k = w.heap.size) ⟨ho, fun k => Iff.rfl⟩ hb (fun k e => by omega)⟩
theorem taNewB (h : Beg ST w0 P w) (he : P 9 = hemp) :
    Calls Tryz.prog 43 #[] w fun e w' => ∃ tb tm, e = .returned (.pointer (some ⟨tb, 0, none⟩)) ∧ Beg ST w0 (upd P 9 (OneMapP 193 tb tm [])) w' := by
  refine (taNew_any w).mono ?_
  rintro e w' ⟨rfl, hb, ho⟩
  exact ⟨_, _, rfl, h.add 9 (by omega) he (OneMapP.ok _ _ _ _) (S0 := fun k => k = w.heap.size + 1 ∨ k = w.heap.size) ⟨ho, fun k => Iff.rfl⟩ hb (fun k e => by omega)⟩
theorem frNewB (h : Beg ST w0 P w) (he : P 11 = hemp) :
    Calls Tryz.prog 44 #[] w fun e w' => ∃ fb, e = .returned (.pointer (some ⟨fb, 0, none⟩)) ∧ Beg ST w0 (upd P 11 (FramesP fb [])) w' := by
  refine (sNew_any w).mono ?_
  rintro e w' ⟨rfl, hb, ho⟩
  exact ⟨_, rfl, h.add 11 (by omega) he (FramesP.ok _ _) (S0 := fun k => k = w.heap.size) ho hb (fun k e => by omega)⟩
theorem pNewB (h : Beg ST w0 P w) (he : P 2 = hemp) (n : Nat) (h1 : 1 ≤ n) (h2 : n ≤ 1024) :
    Calls Tryz.prog 36 #[.int .i64 n] w fun e w' => ∃ pb rb rw mb mw, e = .returned (.tuple #[.pointer (some ⟨pb, 0, none⟩), .int .i64 0]) ∧ Beg ST w0 (upd P 2 (PagesP pb rb rw mb mw (List.replicate n false) (List.replicate (16 * n) 0))) w' := by
  refine (pNew_any n w h1 h2).mono ?_
  rintro e w' ⟨pb, rb, rw', mb, mw, rfl, hb, ho, g1, g2, g3, g4, g5⟩
  exact ⟨_, _, _, _, _, rfl, h.add 2 (by omega) he (PagesP.ok _ _ _ _ _ _ _) (S0 := fun k => k = pb ∨ k = rb ∨ k = rw' ∨ k = mb ∨ k = mw) ⟨ho, fun k => Iff.rfl⟩ hb (fun k e => by omega)⟩
theorem gNewB (h : Beg ST w0 P w) (he : P 10 = hemp) (n : Nat) (hn : n ≤ 64) :
    Calls Tryz.prog 37 #[.int .i64 n] w fun e w' => ∃ gb gg, e = .returned (.tuple #[.pointer (some ⟨gb, 0, none⟩), .int .i64 0]) ∧ Beg ST w0 (upd P 10 (GlobP gb gg (List.replicate n 0))) w' := by
  refine (gNew_any n w hn).mono ?_
  rintro e w' ⟨rfl, hb, ho⟩
  exact ⟨_, _, rfl, h.add 10 (by omega) he (GlobP.ok _ _ _) (S0 := fun k => k = w.heap.size + 1 ∨ k = w.heap.size) ⟨ho, fun k => Iff.rfl⟩ hb (fun k e => by omega)⟩
end

def newH (n g : Nat) (ds : List (List Int)) : HM :=
  { gs := List.replicate n false, ms := List.replicate (16 * n) 0, on := n, ow := fun _ => 0, st := List.replicate (n * 16) false, ds := ds, live := [], last := 0, par := [], ar := [], cnt := [], gl := List.replicate g 0, fr := [] }

theorem heapP_of {P : Nat → HP} {B : HB} {n g : Nat} {ds : List (List Int)} {O0 O1 : Obj}
    (h1 : P 1 = blockP B.hb (heapObj B ds.length)) (h2 : P 2 = PagesP B.pb B.rb B.rw B.mb B.mw (List.replicate n false) (List.replicate (16 * n) 0)) (h3 : P 3 = OwnerP B.ob B.om n (fun _ => 0)) (h4 : P 4 = StartsP B.sb B.srb B.srw (List.replicate (n * 16) false)) (h5 : P 5 = TypesP B.ta ds)
    (h6 : P 6 = BookP B.bb B.bm [] 0 64) (h7 : P 7 = OneMapP 191 B.tb B.tm []) (h8 : P 8 = MapP B.am (arMap [])) (h9 : P 9 = OneMapP 193 B.cb B.cm []) (h10 : P 10 = GlobP B.gb B.gg (List.replicate g 0)) (h11 : P 11 = FramesP B.fb []) (h12 : P 12 = TabsP O0 O1)
    (hr : ∀ j, j = 0 ∨ 12 < j → P j = hemp) : P = heapP B (newH n g ds) O0 O1 := by
  funext j
  have : j = 0 ∨ j = 1 ∨ j = 2 ∨ j = 3 ∨ j = 4 ∨ j = 5 ∨ j = 6 ∨ j = 7 ∨ j = 8 ∨ j = 9 ∨ j = 10 ∨ j = 11 ∨ j = 12 ∨ 12 < j := by omega
  rcases this with rfl | rfl | rfl | rfl | rfl | rfl | rfl | rfl | rfl | rfl | rfl | rfl | rfl | h
  · exact hr 0 (.inl rfl)
  · exact h1
  · exact h2
  · exact h3
  · exact h4
  · exact h5
  · exact h6
  · exact h7
  · exact h8
  · exact h9
  · exact h10
  · exact h11
  · exact h12
  · rw [hr j (.inr h)]
    unfold heapP
    rw [if_neg (by omega), if_neg (by omega), if_neg (by omega), if_neg (by omega), if_neg (by omega), if_neg (by omega), if_neg (by omega), if_neg (by omega), if_neg (by omega), if_neg (by omega), if_neg (by omega), if_neg (by omega)]
    split
    · rfl
    · rfl

theorem Beg.start {O0 O1 : Obj} {w : World} {ST : Nat → Prop} (h : TabsP O0 O1 w ST) : Beg ST w (upd (fun _ => hemp) 12 (TabsP O0 O1)) w := by
  have hlt := (TabsP.ok O0 O1).lt h
  refine ⟨upd_ok (fun _ => hemp_ok) (TabsP.ok _ _), Below.refl _ _, ⟨ST, ?_, fun k hk => .inl hk⟩, fun j hj => by rw [upd_ne _ _ (by omega)]⟩
  classical
  refine ⟨fun k => if ST k then 12 else 0, fun k => by by_cases hk : ST k <;> simp [hk], fun i hi => ?_⟩
  by_cases e : i = 12
  · subst e
    rw [upd_same]
    have : (fun k => (if ST k then 12 else 0) = 12) = ST := by funext k; by_cases hk : ST k <;> simp [hk]
    rw [this]; exact h
  · rw [upd_ne _ _ e]
    intro k
    by_cases hk : ST k <;> simp [hk] <;> omega
def NewOut (n g : Nat) (ds : List (List Int)) (O0 O1 : Obj) (ST : Nat → Prop) (w : World) (e : Ending) (w' : World) : Prop :=
  ∃ B, e = .returned (.tuple #[.pointer (some ⟨B.hb, 0, none⟩), .int .i64 0]) ∧ Below w.heap.size w w' ∧ ∃ S', HeapSt B (newH n g ds) O0 O1 w' S' ∧ ∀ k, S' k → ST k ∨ w.heap.size ≤ k
theorem newOut_end {n g hs : Nat} {ds : List (List Int)} {O0 O1 : Obj} {ST : Nat → Prop} {w X wF : World} {P : Nat → HP} (hX : Below w.heap.size w X) (h : Beg ST X P wF) (hh : wF.heap.size = hs)
    {pb rb rw mb mw ob om sb srb srw bb bm tb tm am cb cm gb gg fb : Nat} {ta : Option Addr} {tc : Nat}
    (h1 : P 1 = hemp) (h2 : P 2 = PagesP pb rb rw mb mw (List.replicate n false) (List.replicate (16 * n) 0)) (h3 : P 3 = OwnerP ob om n (fun _ => 0)) (h4 : P 4 = StartsP sb srb srw (List.replicate (n * 16) false)) (h5 : P 5 = TypesP ta ds)
    (h6 : P 6 = BookP bb bm [] 0 64) (h7 : P 7 = OneMapP 191 tb tm []) (h8 : P 8 = MapP am (arMap [])) (h9 : P 9 = OneMapP 193 cb cm []) (h10 : P 10 = GlobP gb gg (List.replicate g 0)) (h11 : P 11 = FramesP fb []) (h12 : P 12 = TabsP O0 O1) :
    NewOut n g ds O0 O1 ST w (.returned (.tuple #[.pointer (some ⟨hs, 0, none⟩), .int .i64 0]))
      (wF.alloc (.cells #[.pointer (some ⟨pb, 0, none⟩), .pointer (some ⟨ob, 0, none⟩), .pointer (some ⟨sb, 0, none⟩), .slice ta ds.length tc, .pointer (some ⟨bb, 0, none⟩), .pointer (some ⟨tb, 0, none⟩), .map (some am), .pointer (some ⟨cb, 0, none⟩), .pointer (some ⟨gb, 0, none⟩), .pointer (some ⟨fb, 0, none⟩)] 117)) := by
  subst hh
  obtain ⟨B, hB⟩ : ∃ B : HB, B = ⟨wF.heap.size, pb, rb, rw, mb, mw, ob, om, sb, srb, srw, bb, bm, tb, tm, am, cb, cm, gb, gg, fb, ta, tc⟩ := ⟨_, rfl⟩
  have hb1 : Below wF.heap.size wF (wF.alloc (heapObj B ds.length)) := (Below.refl _ _).alloc (Nat.le_refl _) _
  have hF := h.add 1 (by omega) h1 (blockP.ok B.hb (heapObj B ds.length)) (S0 := fun k => k = B.hb) (w' := wF.alloc (heapObj B ds.length)) ⟨by rw [hB]; exact heap_alloc_eq _ _, fun _ => Iff.rfl⟩ hb1 (fun k e => by rw [e, hB]; exact Nat.le_refl _)
  have hP : upd P 1 (blockP B.hb (heapObj B ds.length)) = heapP B (newH n g ds) O0 O1 := by
    refine heapP_of (upd_same _ _ _) ?_ ?_ ?_ ?_ ?_ ?_ ?_ ?_ ?_ ?_ ?_ hF.rest
    all_goals (rw [upd_ne _ _ (by omega)]; subst hB; assumption)
  rw [hP] at hF
  obtain ⟨S', hS, hs⟩ := hF.sep
  refine ⟨B, by rw [hB], hX.trans (hF.below.mono hX.size) |> fun q => by subst hB; exact q, S', by subst hB; exact hS, fun k hk => (hs k hk).imp_right (fun e => Nat.le_trans hX.size e)⟩
end Go.Proofs.YtcenagpkfimkbaaGreatDoor
