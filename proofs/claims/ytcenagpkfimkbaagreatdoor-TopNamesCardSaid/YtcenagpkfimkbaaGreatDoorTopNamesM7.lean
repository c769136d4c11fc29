/-
  Contracts of functions of the program, laid together.
-/
import Derived.Test.YtcenagpkfimkbaaGreatDoorTopNamesM4
import Derived.Test.YtcenagpkfimkbaaGreatDoorTopNamesM5
import Derived.Test.YtcenagpkfimkbaaGreatDoorTopNamesM6
import Derived.Deep.RegionHeld3
/-
  heap.Heap: the steps of Alloc: the arena of a region and the pages, turned.
-/
namespace Go.Proofs.YtcenagpkfimkbaaGreatDoor
open Go Go.RowKit

/-- Two of them taken out; the others are beside both. -/
theorem Sep.open3 {P : Nat → HP} (o : ∀ i, (P i).Ok) {w : World} {S : Nat → Prop} (h : Sep P w S) (i j : Nat) (hi : 0 < i) (hj : 0 < j) (hij : i ≠ j) :
    ∃ S1 S2, P i w S1 ∧ P j w S2 ∧ (∀ k, S1 k → ¬ S2 k) ∧ (∀ k, S1 k ∨ S2 k → S k) ∧ (∀ l, 0 < l → l ≠ i → l ≠ j → ∃ S3, P l w S3 ∧ ∀ k, S3 k → ¬ S1 k ∧ ¬ S2 k) ∧ ∀ (w' : World) (S1' S2' : Nat → Prop) (p q : HP), p w' S1' → q w' S2' → (∀ k, S1' k → ¬ S2' k) → Grows (fun k => S1 k ∨ S2 k) (fun k => S1' k ∨ S2' k) w w' → ∃ S', Sep (upd (upd P i p) j q) w' S' ∧ Grows S S' w w' := by
  obtain ⟨γ, h1, h2⟩ := h
  refine ⟨fun k => γ k = i, fun k => γ k = j, h2 i hi, h2 j hj, fun k hk => by omega, fun k hk => (h1 k).2 (by omega), fun l hl a1 a2 => ⟨fun k => γ k = l, h2 l hl, fun k hk => ⟨by omega, by omega⟩⟩, fun w' S1' S2' p q hp hq hd hg => ?_⟩
  classical
  have hlt : ∀ k, γ k ≠ 0 → k < w.heap.size := fun k hk => (o (γ k)).lt (h2 (γ k) (by omega)) k rfl
  refine ⟨fun k => S1' k ∨ S2' k ∨ (γ k ≠ 0 ∧ γ k ≠ i ∧ γ k ≠ j), ⟨fun k => if S1' k then i else if S2' k then j else if γ k = i ∨ γ k = j then 0 else γ k, fun k => ?_, fun l hl => ?_⟩, ⟨⟨hg.m.os, hg.m.tape, hg.m.output, hg.m.size, fun k hk hs => hg.m.block k hk (fun e => hs ((h1 k).2 (by omega)))⟩, fun k hk => ?_⟩⟩
  · by_cases hs : S1' k
    · simp [hs]; omega
    · by_cases ht : S2' k
      · simp [hs, ht]; omega
      · by_cases hi' : γ k = i ∨ γ k = j
        · simp [hs, ht, hi']; omega
        · simp [hs, ht, hi']; omega
  · by_cases hli : l = i
    · subst hli
      rw [upd_ne _ _ hij, upd_same]
      have e : (fun k => (if S1' k then l else if S2' k then j else if γ k = l ∨ γ k = j then 0 else γ k) = l) = S1' := by
        funext k
        by_cases hs : S1' k
        · simp [hs]
        · by_cases ht : S2' k
          · simp [hs, ht]; omega
          · by_cases hi' : γ k = l ∨ γ k = j
            · simp [hs, ht, hi']; omega
            · simp [hs, ht, hi']; omega
      rw [e]
      exact hp
    · by_cases hlj : l = j
      · subst hlj
        rw [upd_same]
        have e : (fun k => (if S1' k then i else if S2' k then l else if γ k = i ∨ γ k = l then 0 else γ k) = l) = S2' := by
          funext k
          by_cases hs : S1' k
          · have := hd k hs; simp [hs, this]; omega
          · by_cases ht : S2' k
            · simp [hs, ht]
            · by_cases hi' : γ k = i ∨ γ k = l
              · simp [hs, ht, hi']; omega
              · simp [hs, ht, hi']; omega
        rw [e]
        exact hq
      · rw [upd_ne _ _ hlj, upd_ne _ _ hli]
        have e : (fun k => (if S1' k then i else if S2' k then j else if γ k = i ∨ γ k = j then 0 else γ k) = l) = (fun k => γ k = l) := by
          funext k
          by_cases hs : S1' k ∨ S2' k
          · have hk : ¬ γ k = l := fun h => by
              rcases hg.s k hs with h' | h'
              · omega
              · have := hlt k (by omega); omega
            by_cases h5 : S1' k
            · simp [h5, hk]; omega
            · have h6 : S2' k := hs.resolve_left h5
              simp [h5, h6, hk]; omega
          · have h5 : ¬ S1' k := fun e => hs (.inl e)
            have h6 : ¬ S2' k := fun e => hs (.inr e)
            by_cases hi' : γ k = i ∨ γ k = j
            · simp [h5, h6, hi']; omega
            · simp [h5, h6, hi']
        rw [e]
        exact (o l).moved (h2 l hl) hg.m (fun k hk => by omega)
  · rcases hk with hk | hk | hk
    · exact (hg.s k (.inl hk)).imp_left fun e => (h1 k).2 (by omega)
    · exact (hg.s k (.inr hk)).imp_left fun e => (h1 k).2 (by omega)
    · exact .inl ((h1 k).2 hk.1)
theorem mput_same {α : Type} {m : IM α} (h : Rising m) {k : Int} {v : α} (hk : lk m k = some v) : mput m k v = m := by
  have hk' := (lk_some h).1 hk
  clear hk
  induction m with
  | nil => cases hk'
  | cons z r ih =>
    obtain ⟨h1, h2⟩ := List.pairwise_cons.1 h
    by_cases e : z.1 = k
    · have ez : z = (k, v) := by
        rcases List.mem_cons.1 hk' with e' | e'
        · exact e'.symm
        · have := h1 _ e'; simp at this; omega
      have er : mdel (z :: r) k = r := by
        unfold mdel
        rw [List.filter_cons, if_neg (by simp [e]), List.filter_eq_self]
        intro y hy
        have := h1 y hy
        simp; omega
      unfold mput
      rw [er, ez]
      cases r with
      | nil => rfl
      | cons y r' =>
        have := h1 y (by simp)
        rw [mins, if_pos (by simp only; omega)]
    · have hk2 : (k, v) ∈ r := by
        rcases List.mem_cons.1 hk' with e' | e'
        · exact absurd (by rw [← e']) e
        · exact e'
      have hlt : z.1 < k := h1 _ hk2
      have er : mdel (z :: r) k = z :: mdel r k := by
        unfold mdel
        rw [List.filter_cons, if_pos (by simp [e])]
      have := ih h2 hk2
      unfold mput at this ⊢
      rw [er, mins, if_neg (by simp only; omega), this]

/-- An arena of which all may be told. -/
structure FineA (A : AR) : Prop where
  p0 : -1 ≤ A.pg
  p1 : A.pg ≤ 1024
  u0 : 0 ≤ A.us
  u1 : A.us ≤ 16
  n : A.pg = -1 → A.us = 16
  r : A.rs.length ≤ 100000
  t : A.ts.length ≤ 100000
def arAl (gs : List Bool) (A : AR) (s : Int) : AR := ⟨A.ab, A.plb, arP gs A.pg A.us s, arU gs A.pg A.us s, arR gs A.pg A.us s A.rs, arT gs A.pg A.us s A.ts⟩

theorem HeapSt.alStep {B : HB} {H : HM} {O0 O1 : Obj} {w : World} {S : Nat → Prop} (h : HeapSt B H O0 O1 w S) {id : Int} (hid : 1 ≤ id) {A : AR} (hA : lk H.ar id = some A) (hf : FineA A) (s : Int) :
    ∃ S0 : World → Prop, Calls Tryz.prog 162 #[.pointer (some ⟨A.ab, 0, none⟩), .int .i64 s] w (fun e w' => e = .returned (.tuple #[.int .i64 (arA H.gs A.pg A.us s), .int .i64 (arE H.gs A.pg A.us s)]) ∧ S0 w') ∧
      ∀ w', S0 w' → ∃ S', HeapSt B { H with ar := mput H.ar id (arAl H.gs A s), gs := arS H.gs A.pg A.us s, ms := arM H.gs H.ms A.pg A.us s } O0 O1 w' S' ∧ Grows S S' w w' := by
  have hris : Rising H.ar := (rising_mapV _ _).1 h.arenas.rising
  obtain ⟨S1, S2, h1, h2, hd, hs, ho, hc⟩ := Sep.open3 (heapP_ok B H O0 O1) h (20 + id.toNat) 2 (by omega) (by omega) (by omega)
  obtain ⟨S3, h3, hd3⟩ := ho 12 (by omega) (by omega) (by omega)
  rw [heapP_arena _ _ _ _ hid, hA] at h1
  obtain ⟨vr, vt, ha, e1⟩ := h1
  obtain ⟨hp, e2⟩ := h2
  have hN := h.tabs.2
  have h0 : S3 0 := (h3.2.2.2.2 _).2 (.inl rfl)
  have hNw : ∀ k, arB A.ab A.plb B.rw B.mw vr vt k → k ≠ 0 := by
    rintro k hk rfl
    have := hd3 _ h0
    rw [e1, e2] at this
    rcases hk with e | e | e | e | e | e
    · exact this.1 (.inl e)
    · exact this.1 (.inr (.inl e))
    · exact this.1 (.inr (.inr (.inl e)))
    · exact this.1 (.inr (.inr (.inr e)))
    · exact this.2 (.inr (.inr (.inl e)))
    · exact this.2 (.inr (.inr (.inr (.inr e))))
  refine ⟨_, arAlloc_any ha hp hN hNw hf.p0 hf.p1 hf.r hf.t s, ?_⟩
  rintro w' ⟨vr', vt', hI⟩
  obtain ⟨S', h', hg⟩ := hc w' (fun k => k = A.ab ∨ k = A.plb ∨ vr'.ownBlock = some k ∨ vt'.ownBlock = some k) S2 (arenaP B.pb (some (arAl H.gs A s))) (PagesP B.pb B.rb B.rw B.mb B.mw (arS H.gs A.pg A.us s) (arM H.gs H.ms A.pg A.us s))
    ⟨vr', vt', hI.a, fun k => Iff.rfl⟩ ⟨hI.p, e2⟩ (fun k hk hk2 => by
      obtain ⟨a1, a2, a3, a4, a5⟩ := apart_pages hI.a hI.p k hk
      rcases (e2 k).1 hk2 with e | e | e | e | e
      · exact a1 e
      · exact a2 e
      · exact a3 e
      · exact a4 e
      · exact a5 e)
    ⟨(Moved.refl _ w).trans hI.mv (fun k hk => .inl (by
      rcases hk with e | e | e | e | e | e
      · exact .inl ((e1 k).2 (.inl e))
      · exact .inl ((e1 k).2 (.inr (.inl e)))
      · exact .inl ((e1 k).2 (.inr (.inr (.inl e))))
      · exact .inl ((e1 k).2 (.inr (.inr (.inr e))))
      · exact .inr ((e2 k).2 (.inr (.inr (.inl e))))
      · exact .inr ((e2 k).2 (.inr (.inr (.inr (.inr e))))))), fun k hk => by
      rcases hk with (e | e | e | e) | e
      · exact .inl (.inl ((e1 k).2 (.inl e)))
      · exact .inl (.inl ((e1 k).2 (.inr (.inl e))))
      · exact (hI.r k e).imp_left fun e => .inl ((e1 k).2 (.inr (.inr (.inl e))))
      · exact (hI.t k e).imp_left fun e => .inl ((e1 k).2 (.inr (.inr (.inr e))))
      · exact .inl (.inr e)⟩
  refine ⟨S', ?_, hg⟩
  have ek : arMap (mput H.ar id (arAl H.gs A s)) = arMap H.ar := by
    unfold arMap
    rw [← mput_mapV]
    exact mput_same ((rising_mapV _ _).2 hris) (by rw [lk_mapV, hA]; rfl)
  have : upd (upd (heapP B H O0 O1) (20 + id.toNat) (arenaP B.pb (some (arAl H.gs A s)))) 2 (PagesP B.pb B.rb B.rw B.mb B.mw (arS H.gs A.pg A.us s) (arM H.gs H.ms A.pg A.us s)) = heapP B { H with ar := mput H.ar id (arAl H.gs A s), gs := arS H.gs A.pg A.us s, ms := arM H.gs H.ms A.pg A.us s } O0 O1 := by
    funext j
    by_cases ej : j = 2
    · subst ej
      rw [upd_same]
      rfl
    · rw [upd_ne _ _ ej]
      by_cases e8 : j = 20 + id.toNat
      · subst e8
        rw [upd_same, heapP_arena _ _ _ _ hid]
        simp only [lk_put hris, if_true]
      · rw [upd_ne _ _ e8]
        simp only [heapP]
        rw [if_neg ej, if_neg ej, ek]
        by_cases e20 : 20 < j
        · rw [lk_put hris, if_neg (show ¬ ((j - 20 : Nat) : Int) = id by omega)]
        · rw [if_neg e20, if_neg e20]
  rw [this] at h'
  exact h'
end Go.Proofs.YtcenagpkfimkbaaGreatDoor
/-
  Contracts of header.may, header.word, header.Put, header.Size, header.Get.
-/
namespace Go.Proofs.YtcenagpkfimkbaaGreatDoor
open Go Go.RowKit

/-- A head as a value. -/
def headV (arr : Bool) (k t n : Int) : Value := .agg #[.bool arr, .int .i64 k, .int .i64 t, .int .i64 n]

/-- Whether a head may be. -/
def mayB (arr : Bool) (k t n : Int) : Bool := bif arr then decide (0 ≤ k ∧ k < 4 ∧ 0 ≤ n ∧ n ≤ 4000 ∧ t = 0) else decide (k = 0 ∧ 0 ≤ t ∧ t < 32 ∧ 1 ≤ n ∧ n ≤ 60)

theorem hmay_any (arr : Bool) (k t n : Int) (w : World) (h0 : Tab w) :
    Calls Tryz.prog 177 #[.agg #[.bool arr, .int .i64 k, .int .i64 t, .int .i64 n]] w fun e w' => e = .returned (.bool (mayB arr k t n)) ∧ Below w.heap.size w w' := by
  have hT := h0.alloc (.cells #[.bool arr, .int .i64 k, .int .i64 t, .int .i64 n] 85)
  cases arr
  · go_enter Tryz.func177, Tryz.ntmps177
    go_wp2
    all_goals
      go_ret
      refine ⟨ret_bool ?_, (Below.refl _ _).alloc (Nat.le_refl _) _⟩
      rw [Bool.eq_iff_iff]
      simp [mayB]
      try omega
  · by_cases hk : 0 ≤ k ∧ k < 4
    · have hb : kindB k = true := by simpa [kindB] using hk
      go_enter Tryz.func177, Tryz.ntmps177
      go_wp2_with (go_at_call 140; refine (Kind_any _ _ ‹_›).mono ?_; rintro e w' ⟨rfl, rfl⟩)
      all_goals
        go_ret
        refine ⟨ret_bool ?_, (Below.refl _ _).alloc (Nat.le_refl _) _⟩
        rw [Bool.eq_iff_iff]
        simp [mayB]
        try omega
    · have hb : kindB k = false := by simpa [kindB] using hk
      go_enter Tryz.func177, Tryz.ntmps177
      go_wp2_with (go_at_call 140; refine (Kind_any _ _ ‹_›).mono ?_; rintro e w' ⟨rfl, rfl⟩)
      all_goals
        go_ret
        refine ⟨ret_bool ?_, (Below.refl _ _).alloc (Nat.le_refl _) _⟩
        rw [Bool.eq_iff_iff]
        simp [mayB]
        try omega

/-- A head's word. -/
def wordI (arr : Bool) (k t n : Int) : Int := 1 + 4 * k + 256 * t + 65536 * n + bif arr then 2 else 0

theorem or_join (i x y : Nat) (hx : x % 2 ^ i = 0) (hy : y < 2 ^ i) : y ||| x = x + y := by
  rw [Nat.or_comm]; exact nat_join i x y hx hy
theorem or1 (k : Int) (h0 : 0 ≤ k) (h1 : k < 4) : bits .or .u64 1 (k * 4) = 1 + 4 * k := by
  rw [u64_or _ _ (by omega) (by omega) (by omega) (by omega), show (1 : Int).toNat = 1 from rfl, or_join 2 _ _ (by omega) (by omega)]; omega
theorem or2 (a t : Int) (ha : 0 ≤ a) (ha2 : a < 256) (h0 : 0 ≤ t) (h1 : t < 32) : bits .or .u64 a (t * 256) = a + 256 * t := by
  rw [u64_or _ _ (by omega) (by omega) (by omega) (by omega), or_join 8 _ _ (by omega) (by omega)]; omega
theorem or3 (a n : Int) (ha : 0 ≤ a) (ha2 : a < 65536) (h0 : 0 ≤ n) (h1 : n < 65536) : bits .or .u64 a (n * 65536) = a + 65536 * n := by
  rw [u64_or _ _ (by omega) (by omega) (by omega) (by omega), or_join 16 _ _ (by omega) (by omega)]; omega
theorem or4 (a : Int) (ha : 0 ≤ a) (ha2 : a < 4294967296) (h : a % 4 = 1) : bits .or .u64 a 2 = a + 2 := by
  rw [u64_or _ _ (by omega) (by omega) (by omega) (by omega)]
  obtain ⟨q, hq⟩ : ∃ q, a.toNat = 4 * q + 1 := ⟨a.toNat / 4, by omega⟩
  have e1 : 4 * q + 1 = 4 * q ||| 1 := (nat_join 2 (4 * q) 1 (by omega) (by omega)).symm
  have e2 : (4 * q ||| 3) = 4 * q + 3 := nat_join 2 (4 * q) 3 (by omega) (by omega)
  have : a.toNat ||| (2 : Int).toNat = a.toNat + 2 := by
    rw [hq, e1, Nat.or_assoc, show (1 ||| (2 : Int).toNat) = 3 from rfl, e2]
    omega
  rw [this]; omega

theorem word_any (arr : Bool) (k t n : Int) (w : World) (hk0 : 0 ≤ k) (hk1 : k < 4) (ht0 : 0 ≤ t) (ht1 : t < 32) (hn0 : 0 ≤ n) (hn1 : n ≤ 4000) :
    Calls Tryz.prog 178 #[.agg #[.bool arr, .int .i64 k, .int .i64 t, .int .i64 n]] w fun e w' => e = .returned (.int .u64 (wordI arr k t n)) ∧ Below w.heap.size w w' := by
  cases arr
  all_goals
    go_enter Tryz.func178, Tryz.ntmps178
    go_wp2
    go_ret
    refine ⟨ret_int ?_, (Below.refl _ _).alloc (Nat.le_refl _) _⟩
    rw [or1 k (by omega) (by omega), or2 _ t (by omega) (by omega) (by omega) (by omega), or3 _ n (by omega) (by omega) (by omega) (by omega)]
    try rw [or4 _ (by omega) (by omega) (by omega)]
    simp [wordI]

theorem mayB_bd {arr : Bool} {k t n : Int} (h : mayB arr k t n = true) : 0 ≤ k ∧ k < 4 ∧ 0 ≤ t ∧ t < 32 ∧ 0 ≤ n ∧ n ≤ 4000 := by
  cases arr <;> simp [mayB] at h <;> omega

/-- What Put answers. -/
def putW (arr : Bool) (k t n : Int) : Int := if mayB arr k t n = true then wordI arr k t n else 0
def putE (arr : Bool) (k t n : Int) : Int := if mayB arr k t n = true then 0 else 1

theorem hPut_any (arr : Bool) (k t n : Int) (w : World) (h0 : Tab w) :
    Calls Tryz.prog 160 #[.agg #[.bool arr, .int .i64 k, .int .i64 t, .int .i64 n]] w fun e w' => e = .returned (.tuple #[.int .u64 (putW arr k t n), .int .i64 (putE arr k t n)]) ∧ Below w.heap.size w w' := by
  have hT := h0.alloc (.cells #[.bool arr, .int .i64 k, .int .i64 t, .int .i64 n] 85)
  cases hb : mayB arr k t n
  · go_enter Tryz.func160, Tryz.ntmps160
    go_wp2_with (go_at_call 177; refine (hmay_any _ _ _ _ _ ‹_›).mono ?_; rintro e w' ⟨rfl, hb'⟩)
    go_ret2
    exact ⟨ret_int2 (by simp [putW, hb]) (by simp [putE, hb]), ((Below.refl _ _).alloc (Nat.le_refl _) _).trans (hb'.mono (by simp))⟩
  · obtain ⟨hk0, hk1, ht0, ht1, hn0, hn1⟩ := mayB_bd hb
    go_enter Tryz.func160, Tryz.ntmps160
    go_wp2_with (first | (go_at_call 177; refine (hmay_any _ _ _ _ _ ‹_›).mono ?_; rintro e w' ⟨rfl, hb'⟩; obtain ⟨hc', hf', hs'⟩ := bcell hb'; simp at hs') | (go_at_call 178; refine (word_any _ _ _ _ _ (by omega) (by omega) (by omega) (by omega) (by omega) (by omega)).mono ?_; rintro e w2 ⟨rfl, hb2⟩))
    go_ret2
    exact ⟨ret_int2 (by simp [putW, hb]) (by simp [putE, hb]), (((Below.refl _ _).alloc (Nat.le_refl _) _).trans (hb'.mono (by simp))).trans (hb2.mono (by have := hb'.size; simp at this; omega))⟩

/-- What Size answers. -/
def sizeI (arr : Bool) (k t n : Int) : Int := if mayB arr k t n = true then 1 + max n 1 else 0

theorem hSize_any (arr : Bool) (k t n : Int) (w : World) (h0 : Tab w) :
    Calls Tryz.prog 161 #[.agg #[.bool arr, .int .i64 k, .int .i64 t, .int .i64 n]] w fun e w' => e = .returned (.int .i64 (sizeI arr k t n)) ∧ Below w.heap.size w w' := by
  have hT := h0.alloc (.cells #[.bool arr, .int .i64 k, .int .i64 t, .int .i64 n] 85)
  cases hb : mayB arr k t n
  · go_enter Tryz.func161, Tryz.ntmps161
    go_wp2_with (go_at_call 177; refine (hmay_any _ _ _ _ _ ‹_›).mono ?_; rintro e w' ⟨rfl, hb'⟩)
    go_ret
    exact ⟨ret_int (by simp [sizeI, hb]), ((Below.refl _ _).alloc (Nat.le_refl _) _).trans (hb'.mono (by simp))⟩
  · obtain ⟨hk0, hk1, ht0, ht1, hn0, hn1⟩ := mayB_bd hb
    go_enter Tryz.func161, Tryz.ntmps161
    go_wp2_with (first | (go_at_call 177; refine (hmay_any _ _ _ _ _ ‹_›).mono ?_; rintro e w' ⟨rfl, hb'⟩; obtain ⟨hc', hf', hs'⟩ := bcell hb'; simp at hs'))
    all_goals
      go_ret
      refine ⟨ret_int (by simp [sizeI, hb]; try omega), ((Below.refl _ _).alloc (Nat.le_refl _) _).trans (hb'.mono (by simp))⟩

theorem and_mask (x : Int) (i : Nat) (hi : i ≤ 32) (h0 : 0 ≤ x) (h1 : x < 18446744073709551616) : bits .and .u64 x ((2 ^ i - 1 : Nat) : Int) = x % (2 ^ i : Nat) := by
  have h2 : 2 ^ i ≤ 2 ^ 32 := Nat.pow_le_pow_right (by omega) hi
  have h3 : 0 < 2 ^ i := Nat.pow_pos (by omega)
  obtain ⟨m, rfl⟩ := Int.eq_ofNat_of_zero_le h0
  rw [u64_and _ _ h0 h1 (by omega) (by omega)]
  rw [Int.toNat_natCast, show (((2 ^ i - 1 : Nat) : Int)).toNat = 2 ^ i - 1 from by omega, Nat.and_two_pow_sub_one_eq_mod]
  rfl

/-- The parts of a word; whether they are a head's whose word it is. -/
def gA (x : Int) : Bool := x / 2 % 2 == 1
def gK (x : Int) : Int := x / 4 % 4
def gT (x : Int) : Int := x / 256 % 32
def gN (x : Int) : Int := x / 65536 % 65536
def getB (x : Int) : Bool := mayB (gA x) (gK x) (gT x) (gN x) && (wordI (gA x) (gK x) (gT x) (gN x) == x)
def getV (x : Int) : Value := if getB x = true then .agg #[.bool (gA x), .int .i64 (gK x), .int .i64 (gT x), .int .i64 (gN x)] else .agg #[.bool false, .int .i64 0, .int .i64 0, .int .i64 0]
def getE (x : Int) : Int := if getB x = true then 0 else 11

theorem hGet_any (x : Int) (w : World) (h0 : Tab w) (hx0 : 0 ≤ x) (hx1 : x < 18446744073709551616) :
    Calls Tryz.prog 137 #[.int .u64 x] w fun e w' => e = .returned (.tuple #[getV x, .int .i64 (getE x)]) ∧ Below w.heap.size w w' := by
  obtain ⟨a, ha, Ha⟩ : ∃ a, bits .and .u64 (x / 2) 1 = a ∧ a = x / 2 % 2 := ⟨_, and_mask (x / 2) 1 (by omega) (by omega) (by omega), rfl⟩
  obtain ⟨k, hk, Hk⟩ : ∃ a, bits .and .u64 (x / 4) 3 = a ∧ a = gK x := ⟨_, and_mask (x / 4) 2 (by omega) (by omega) (by omega), rfl⟩
  obtain ⟨t, ht, Ht⟩ : ∃ a, bits .and .u64 (x / 256) 31 = a ∧ a = gT x := ⟨_, and_mask (x / 256) 5 (by omega) (by omega) (by omega), rfl⟩
  obtain ⟨n, hn, Hn⟩ : ∃ a, bits .and .u64 (x / 65536) 65535 = a ∧ a = gN x := ⟨_, and_mask (x / 65536) 16 (by omega) (by omega) (by omega), rfl⟩
  have hk0 : 0 ≤ k := by unfold gK at Hk; omega
  have hk1 : k < 4 := by unfold gK at Hk; omega
  have ht0 : 0 ≤ t := by unfold gT at Ht; omega
  have ht1 : t < 32 := by unfold gT at Ht; omega
  have hn0 : 0 ≤ n := by unfold gN at Hn; omega
  have hn1 : n < 65536 := by unfold gN at Hn; omega
  have Ha' : (a == 1) = gA x := by rw [Ha]; rfl
  have HV : Hid (getB x = (mayB (a == 1) k t n && (wordI (a == 1) k t n == x))) := by show _ = _; rw [Ha', Hk, Ht, Hn]; rfl
  have HT : Hid (getV x = if getB x = true then .agg #[.bool (a == 1), .int .i64 k, .int .i64 t, .int .i64 n] else .agg #[.bool false, .int .i64 0, .int .i64 0, .int .i64 0]) := by show _ = _; rw [Ha', Hk, Ht, Hn]; rfl
  clear Ha Hk Ht Hn Ha'
  obtain ⟨r, hr⟩ : ∃ r, (a == 1) = r := ⟨_, rfl⟩
  have hT : Tab ((w.alloc (Obj.cells #[.bool false, .int .i64 0, .int .i64 0, .int .i64 0] 85)).alloc (Obj.cells #[.bool r, .int .i64 k, .int .i64 t, .int .i64 n] 85)) := (h0.alloc _).alloc _
  rw [hr] at HV HT
  cases hb : mayB r k t n
  · go_enter Tryz.func137, Tryz.ntmps137
    go_wp2_with (go_at_call 177; refine (hmay_any _ _ _ _ _ ‹_›).mono ?_; rintro e w' ⟨rfl, hb'⟩; obtain ⟨hc', hf', hs'⟩ := bcell hb'; simp only [World.size_alloc] at hs'; have hz1 := Nat.lt_of_succ_le hs'; have hz2 := Nat.lt_of_succ_lt hz1)
    have hv : getB x = false := by rw [HV.out, hb]; rfl
    have c0 : w'.cell? ⟨w.heap.size, 0, none⟩ = some (.bool false) := by rw [hc' _ _ (by simp; omega)]; simp
    have c1 : w'.cell? ⟨w.heap.size, 1, none⟩ = some (.int .i64 0) := by rw [hc' _ _ (by simp; omega)]; simp
    have c2 : w'.cell? ⟨w.heap.size, 2, none⟩ = some (.int .i64 0) := by rw [hc' _ _ (by simp; omega)]; simp
    have c3 : w'.cell? ⟨w.heap.size, 3, none⟩ = some (.int .i64 0) := by rw [hc' _ _ (by simp; omega)]; simp
    refine bodyPost_ret (v := .tuple #[.agg #[.bool false, .int .i64 0, .int .i64 0, .int .i64 0], .int .i64 11]) (by simp [results, Tryz.results137, go_sem, c0, c1, c2, c3]) rfl ⟨by simp [getV, getE, hv], ?_⟩
    refine Below.setCell (Below.setCell (Below.setCell (Below.setCell ?_ (by simp) _) (by simp) _) (by simp) _) (by simp) _
    exact (((Below.refl _ _).alloc (Nat.le_refl _) _).alloc (by simp) _).trans (hb'.mono (by simp; omega))
  · have hbd := mayB_bd hb
    by_cases hw : wordI r k t n = x
    · have hv : getB x = true := by rw [HV.out, hb]; simp [hw]
      have hw1 : (wordI r k t n != x) = false := by simp [hw]
      have hE : Hid (getE x = 0) := by show _ = _; simp [getE, hv]
      have HT2 : Hid (getV x = .agg #[.bool r, .int .i64 k, .int .i64 t, .int .i64 n]) := by show _ = _; rw [HT.out, if_pos hv]
      clear hw HV HT hv
      rcases (show r = true ∨ (r = false ∧ k = 0 ∧ 1 ≤ n ∧ t = 0) ∨ (r = false ∧ k = 0 ∧ 1 ≤ n ∧ 1 ≤ t) by cases r <;> simp [mayB] at hb ⊢; omega) with rfl | ⟨rfl, rfl, hn2, rfl⟩ | ⟨rfl, rfl, hn2, ht2⟩
      all_goals
        go_enter Tryz.func137, Tryz.ntmps137
        go_wp2_with (first | (go_at_call 177; refine (hmay_any _ _ _ _ _ ‹_›).mono ?_; rintro e w' ⟨rfl, hb'⟩; obtain ⟨hc', hf', hs'⟩ := bcell hb'; simp only [World.size_alloc] at hs'; have hz1 := Nat.lt_of_succ_le hs'; have hz2 := Nat.lt_of_succ_lt hz1) | (go_at_call 178; refine (word_any _ _ _ _ _ (by omega) (by omega) (by omega) (by omega) (by omega) (by omega)).mono ?_; rintro e w2 ⟨rfl, hb2⟩; obtain ⟨hc2, hf2, hs2⟩ := bcell hb2))
        have c0 : w2.cell? ⟨w.heap.size, 0, none⟩ = some (.bool false) := by rw [hc2 _ _ (by omega), hc' _ _ (by simp; omega)]; simp
        have c1 : w2.cell? ⟨w.heap.size, 1, none⟩ = some (.int .i64 0) := by rw [hc2 _ _ (by omega), hc' _ _ (by simp; omega)]; simp
        have c2 : w2.cell? ⟨w.heap.size, 2, none⟩ = some (.int .i64 0) := by rw [hc2 _ _ (by omega), hc' _ _ (by simp; omega)]; simp
        have c3 : w2.cell? ⟨w.heap.size, 3, none⟩ = some (.int .i64 0) := by rw [hc2 _ _ (by omega), hc' _ _ (by simp; omega)]; simp
        rw [HT2.out, hE.out]
        refine bodyPost_ret (v := .tuple #[.agg #[.bool _, .int .i64 _, .int .i64 _, .int .i64 n], .int .i64 0]) (by simp [results, Tryz.results137, go_sem, c0, c1, c2, c3]) rfl ⟨rfl, ?_⟩
        refine Below.setCell (Below.setCell (Below.setCell (Below.setCell ?_ (by simp) _) (by simp) _) (by simp) _) (by simp) _
        exact ((((Below.refl _ _).alloc (Nat.le_refl _) _).alloc (by simp) _).trans (hb'.mono (by simp; omega))).trans (hb2.mono (by omega))
    · have hv : getB x = false := by rw [HV.out, hb]; simp [hw]
      have hw1 : (wordI r k t n != x) = true := by simp [hw]
      go_enter Tryz.func137, Tryz.ntmps137
      go_wp2_with (first | (go_at_call 177; refine (hmay_any _ _ _ _ _ ‹_›).mono ?_; rintro e w' ⟨rfl, hb'⟩; obtain ⟨hc', hf', hs'⟩ := bcell hb'; simp only [World.size_alloc] at hs'; have hz1 := Nat.lt_of_succ_le hs'; have hz2 := Nat.lt_of_succ_lt hz1) | (go_at_call 178; refine (word_any _ _ _ _ _ (by omega) (by omega) (by omega) (by omega) (by omega) (by omega)).mono ?_; rintro e w2 ⟨rfl, hb2⟩; obtain ⟨hc2, hf2, hs2⟩ := bcell hb2))
      have c0 : w2.cell? ⟨w.heap.size, 0, none⟩ = some (.bool false) := by rw [hc2 _ _ (by omega), hc' _ _ (by simp; omega)]; simp
      have c1 : w2.cell? ⟨w.heap.size, 1, none⟩ = some (.int .i64 0) := by rw [hc2 _ _ (by omega), hc' _ _ (by simp; omega)]; simp
      have c2 : w2.cell? ⟨w.heap.size, 2, none⟩ = some (.int .i64 0) := by rw [hc2 _ _ (by omega), hc' _ _ (by simp; omega)]; simp
      have c3 : w2.cell? ⟨w.heap.size, 3, none⟩ = some (.int .i64 0) := by rw [hc2 _ _ (by omega), hc' _ _ (by simp; omega)]; simp
      refine bodyPost_ret (v := .tuple #[.agg #[.bool false, .int .i64 0, .int .i64 0, .int .i64 0], .int .i64 11]) (by simp [results, Tryz.results137, go_sem, c0, c1, c2, c3]) rfl ⟨by simp [getV, getE, hv], ?_⟩
      refine Below.setCell (Below.setCell (Below.setCell (Below.setCell ?_ (by simp) _) (by simp) _) (by simp) _) (by simp) _
      exact ((((Below.refl _ _).alloc (Nat.le_refl _) _).alloc (by simp) _).trans (hb'.mono (by simp; omega))).trans (hb2.mono (by omega))
end Go.Proofs.YtcenagpkfimkbaaGreatDoor
/-
  Contracts of kraalref08: May, Put, Size, Get; and of the comparison of two heads.
-/
namespace Go.Proofs.YtcenagpkfimkbaaGreatDoor
open Go Go.RowKit

/-- Are two heads the same? -/
def headEq (a : Bool) (k t n : Int) (a' : Bool) (k' t' n' : Int) : Bool := decide (a = a' ∧ k = k' ∧ t = t' ∧ n = n')
theorem run_eqHead (a : Bool) (k t n : Int) (a' : Bool) (k' t' n' : Int) (w : World) :
    (binOp .eql 85 (.agg #[.bool a, .int .i64 k, .int .i64 t, .int .i64 n]) (.agg #[.bool a', .int .i64 k', .int .i64 t', .int .i64 n'])).run Tryz.prog w = .ok (.bool (headEq a k t n a' k' t' n')) w := by
  unfold headEq
  by_cases h1 : a = a'
  · by_cases h2 : k = k'
    · by_cases h3 : t = t'
      · by_cases h4 : n = n'
        · simp [h1, h2, h3, h4, go_sem]
        · simp [h1, h2, h3, h4, go_sem]
      · simp [h1, h2, h3, go_sem]
    · simp [h1, h2, go_sem]
  · simp [h1, go_sem]
theorem run_neHead (a : Bool) (k t n : Int) (a' : Bool) (k' t' n' : Int) (w : World) :
    (binOp .neq 85 (.agg #[.bool a, .int .i64 k, .int .i64 t, .int .i64 n]) (.agg #[.bool a', .int .i64 k', .int .i64 t', .int .i64 n'])).run Tryz.prog w = .ok (.bool (!(headEq a k t n a' k' t' n'))) w := by
  unfold headEq
  by_cases h1 : a = a'
  · by_cases h2 : k = k'
    · by_cases h3 : t = t'
      · by_cases h4 : n = n'
        · simp [h1, h2, h3, h4, go_sem]
        · simp [h1, h2, h3, h4, go_sem]
      · simp [h1, h2, h3, go_sem]
    · simp [h1, h2, go_sem]
  · simp [h1, go_sem]

theorem rMay_any (arr : Bool) (k t n : Int) (w : World) :
    Calls Tryz.prog 49 #[.agg #[.bool arr, .int .i64 k, .int .i64 t, .int .i64 n]] w fun e w' => e = .returned (.bool (mayB arr k t n)) ∧ Below w.heap.size w w' := by
  cases arr
  all_goals
    go_enter Tryz.func49, Tryz.ntmps49
    go_wp2
    all_goals
      go_ret
      refine ⟨ret_bool ?_, (Below.refl _ _).alloc (Nat.le_refl _) _⟩
      rw [Bool.eq_iff_iff]
      simp [mayB]
      try omega

theorem rSize_any (arr : Bool) (k t n : Int) (w : World) :
    Calls Tryz.prog 51 #[.agg #[.bool arr, .int .i64 k, .int .i64 t, .int .i64 n]] w fun e w' => e = .returned (.int .i64 (sizeI arr k t n)) ∧ Below w.heap.size w w' := by
  cases hb : mayB arr k t n
  · go_enter Tryz.func51, Tryz.ntmps51
    go_wp2_with (go_at_call 49; refine (rMay_any _ _ _ _ _).mono ?_; rintro e w' ⟨rfl, hb'⟩)
    go_ret
    exact ⟨ret_int (by simp [sizeI, hb]), ((Below.refl _ _).alloc (Nat.le_refl _) _).trans (hb'.mono (by simp))⟩
  · obtain ⟨hk0, hk1, ht0, ht1, hn0, hn1⟩ := mayB_bd hb
    go_enter Tryz.func51, Tryz.ntmps51
    go_wp2_with (go_at_call 49; refine (rMay_any _ _ _ _ _).mono ?_; rintro e w' ⟨rfl, hb'⟩; obtain ⟨hc', hf', hs'⟩ := bcell hb'; simp only [World.size_alloc] at hs'; have hz1 := Nat.lt_of_succ_le hs')
    all_goals
      go_ret
      refine ⟨ret_int (by simp [sizeI, hb]; try omega), ((Below.refl _ _).alloc (Nat.le_refl _) _).trans (hb'.mono (by simp))⟩


theorem getB_bd {x : Int} (h : getB x = true) : x / 65536 ≤ 4000 ∧ x % 65536 / 256 < 32 := by
  simp only [getB, Bool.and_eq_true, beq_iff_eq] at h
  obtain ⟨h1, h2⟩ := h
  obtain ⟨k0, k1, t0, t1, n0, n1⟩ := mayB_bd h1
  unfold wordI at h2
  cases hg : gA x <;> rw [hg] at h2 <;> simp only [cond_true, cond_false] at h2 <;> omega
end Go.Proofs.YtcenagpkfimkbaaGreatDoor
/-
  walk.Put, and the document's Put: what becomes of a memory into which an object of a head is put.
-/
namespace Go.Proofs.YtcenagpkfimkbaaGreatDoor
open Go Go.RowKit

def puB (_f k : Int) (a : Bool) (q t n : Int) : Bool := mayB a q t n && decide (k = sizeI a q t n)
def puE (xs : List Int) (f k : Int) (a : Bool) (q t n : Int) : Int := if puB f k a q t n = true then (if hasB xs.length f k = true then wrE xs.length f else 8) else 1
def puL (xs : List Int) (f k : Int) (a : Bool) (q t n : Int) : List Int := if puB f k a q t n = true then (if hasB xs.length f k = true then wrL (fillL xs f k 0) f (putW a q t n) else xs) else xs
theorem puL_length (xs : List Int) (f k : Int) (a : Bool) (q t n : Int) : (puL xs f k a q t n).length = xs.length := by
  unfold puL
  split
  · split
    · rw [wrL_length, fillL_length]
    · rfl
  · rfl

/-- The blocks of the arguments, the table. -/
structure PuInv (w0 : World) (f k : Int) (a : Bool) (q t n : Int) (w : World) : Prop where
  r : w.heap[w0.heap.size]? = some (.cells #[.int .i64 f, .int .i64 k] 160 (0, 0))
  h : w.heap[w0.heap.size + 1]? = some (.cells #[.bool a, .int .i64 q, .int .i64 t, .int .i64 n] 85 (0, 0))
  t : Tab w
  b : Below w0.heap.size w0 w
theorem PuInv.below {w0 : World} {f k : Int} {a : Bool} {q t n : Int} {w w' : World} (h : PuInv w0 f k a q t n w) (hb : Below w.heap.size w w') : PuInv w0 f k a q t n w' :=
  ⟨heap_below hb h.r (heap_lt h.r), heap_below hb h.h (heap_lt h.h), h.t.below h.t.lt hb, h.b.trans (hb.mono h.b.size)⟩
theorem pu_cells {w0 : World} {f k : Int} {a : Bool} {q t n : Int} {w : World} (h : PuInv w0 f k a q t n w) : w.cell? ⟨w0.heap.size, 0, none⟩ = some (.int .i64 f) ∧ w.cell? ⟨w0.heap.size, 1, none⟩ = some (.int .i64 k) ∧ w.cell? ⟨w0.heap.size + 1, 0, none⟩ = some (.bool a) ∧ w.cell? ⟨w0.heap.size + 1, 1, none⟩ = some (.int .i64 q) ∧ w.cell? ⟨w0.heap.size + 1, 2, none⟩ = some (.int .i64 t) ∧ w.cell? ⟨w0.heap.size + 1, 3, none⟩ = some (.int .i64 n) ∧ PuInv w0 f k a q t n w :=
  ⟨by rw [heap_cell h.r]; rfl, by rw [heap_cell h.r]; rfl, by rw [heap_cell h.h]; rfl, by rw [heap_cell h.h]; rfl, by rw [heap_cell h.h]; rfl, by rw [heap_cell h.h]; rfl, h⟩
theorem pu_keep {w0 : World} {f k : Int} {a : Bool} {q t n : Int} {w1 w2 : World} (hb : Below w1.heap.size w1 w2) (h : w1.cell? ⟨w0.heap.size, 0, none⟩ = some (.int .i64 f) ∧ w1.cell? ⟨w0.heap.size, 1, none⟩ = some (.int .i64 k) ∧ w1.cell? ⟨w0.heap.size + 1, 0, none⟩ = some (.bool a) ∧ w1.cell? ⟨w0.heap.size + 1, 1, none⟩ = some (.int .i64 q) ∧ w1.cell? ⟨w0.heap.size + 1, 2, none⟩ = some (.int .i64 t) ∧ w1.cell? ⟨w0.heap.size + 1, 3, none⟩ = some (.int .i64 n) ∧ PuInv w0 f k a q t n w1) : w2.cell? ⟨w0.heap.size, 0, none⟩ = some (.int .i64 f) ∧ w2.cell? ⟨w0.heap.size, 1, none⟩ = some (.int .i64 k) ∧ w2.cell? ⟨w0.heap.size + 1, 0, none⟩ = some (.bool a) ∧ w2.cell? ⟨w0.heap.size + 1, 1, none⟩ = some (.int .i64 q) ∧ w2.cell? ⟨w0.heap.size + 1, 2, none⟩ = some (.int .i64 t) ∧ w2.cell? ⟨w0.heap.size + 1, 3, none⟩ = some (.int .i64 n) ∧ PuInv w0 f k a q t n w2 :=
  pu_cells (h.2.2.2.2.2.2.below hb)
theorem pu_size {w0 : World} {f k : Int} {a : Bool} {q t n : Int} {w : World} (h : w.cell? ⟨w0.heap.size, 0, none⟩ = some (.int .i64 f) ∧ w.cell? ⟨w0.heap.size, 1, none⟩ = some (.int .i64 k) ∧ w.cell? ⟨w0.heap.size + 1, 0, none⟩ = some (.bool a) ∧ w.cell? ⟨w0.heap.size + 1, 1, none⟩ = some (.int .i64 q) ∧ w.cell? ⟨w0.heap.size + 1, 2, none⟩ = some (.int .i64 t) ∧ w.cell? ⟨w0.heap.size + 1, 3, none⟩ = some (.int .i64 n) ∧ PuInv w0 f k a q t n w) :
    Calls Tryz.prog 161 #[.agg #[.bool a, .int .i64 q, .int .i64 t, .int .i64 n]] w fun e w' => e = .returned (.int .i64 (sizeI a q t n)) ∧ Below w.heap.size w w' := hSize_any a q t n w h.2.2.2.2.2.2.t
theorem pu_rsize {w0 : World} {f k : Int} {a : Bool} {q t n : Int} {w : World} (_h : w.cell? ⟨w0.heap.size, 0, none⟩ = some (.int .i64 f) ∧ w.cell? ⟨w0.heap.size, 1, none⟩ = some (.int .i64 k) ∧ w.cell? ⟨w0.heap.size + 1, 0, none⟩ = some (.bool a) ∧ w.cell? ⟨w0.heap.size + 1, 1, none⟩ = some (.int .i64 q) ∧ w.cell? ⟨w0.heap.size + 1, 2, none⟩ = some (.int .i64 t) ∧ w.cell? ⟨w0.heap.size + 1, 3, none⟩ = some (.int .i64 n) ∧ PuInv w0 f k a q t n w) :
    Calls Tryz.prog 51 #[.agg #[.bool a, .int .i64 q, .int .i64 t, .int .i64 n]] w fun e w' => e = .returned (.int .i64 (sizeI a q t n)) ∧ Below w.heap.size w w' := rSize_any a q t n w

set_option maxRecDepth 100000 in
set_option maxHeartbeats 2000000 in
theorem PutNil_any (f k : Int) (a : Bool) (q t n : Int) (w : World) (hT : Tab w) :
    Calls Tryz.prog 163 #[.pointer none, .agg #[.int .i64 f, .int .i64 k], .agg #[.bool a, .int .i64 q, .int .i64 t, .int .i64 n]] w fun e w' => e = .returned (.int .i64 1) ∧ Below w.heap.size w w' := by
  obtain ⟨W, hW⟩ : ∃ W, W = (w.alloc (.cells #[.int .i64 f, .int .i64 k] 160)).alloc (.cells #[.bool a, .int .i64 q, .int .i64 t, .int .i64 n] 85) := ⟨_, rfl⟩
  have hbo : Below w.heap.size w W := by rw [hW]; exact ((Below.refl _ _).alloc (Nat.le_refl _) _).alloc (by simp) _
  have hO1 : W.heap[w.heap.size]? = some (.cells #[.int .i64 f, .int .i64 k] 160 (0, 0)) := by
    rw [hW]; exact heap_alloc_lt (heap_alloc_eq _ _) _
  have hO2 : W.heap[w.heap.size + 1]? = some (.cells #[.bool a, .int .i64 q, .int .i64 t, .int .i64 n] 85 (0, 0)) := by
    rw [hW]
    have := heap_alloc_eq (w.alloc (.cells #[.int .i64 f, .int .i64 k] 160)) (.cells #[.bool a, .int .i64 q, .int .i64 t, .int .i64 n] 85)
    rw [show (w.alloc (.cells #[.int .i64 f, .int .i64 k] 160)).heap.size = w.heap.size + 1 by simp] at this
    exact this
  have HW := Lib.hid hW
  clear hW
  have H0 : Hid (PuInv w f k a q t n W) := Lib.hid ⟨hO1, hO2, hT.below hT.lt hbo, hbo⟩
  clear hO1 hO2 hbo hT
  have o0 := heap_cell H0.out.r 0
  have o1 := heap_cell H0.out.r 1
  simp at o0 o1
  have p0 := heap_cell H0.out.h 0
  have p1 := heap_cell H0.out.h 1
  have p2 := heap_cell H0.out.h 2
  have p3 := heap_cell H0.out.h 3
  simp at p0 p1 p2 p3
  have hp := hPut_any a q t n W H0.out.t
  generalize putW a q t n = pw at hp
  generalize putE a q t n = pe at hp
  go_enter Tryz.func163, Tryz.ntmps163
  go_wp2_with fail
  rw [← HW.out]
  go_wp2_with fail
  refine hp.mono ?_
  rintro e w1 ⟨rfl, hb⟩
  have H1 := Lib.hid (H0.out.below hb)
  clear hp hb o0 o1 p0 p1 p2 p3
  go_wp2
  go_quiet (fail)
  go_wp2
  go_ret
  exact ⟨rfl, below_drewN H1.out.b _⟩

set_option maxRecDepth 100000 in
set_option maxHeartbeats 4000000 in
theorem Put_any (b g : Nat) (xs : List Int) (f k : Int) (a : Bool) (q t n : Int) (w : World) (hT : Tab w) (hM : MemAt w b g xs) :
    Calls Tryz.prog 163 #[.pointer (some ⟨b, 0, none⟩), .agg #[.int .i64 f, .int .i64 k], .agg #[.bool a, .int .i64 q, .int .i64 t, .int .i64 n]] w fun e w' => e = .returned (.int .i64 (puE xs f k a q t n)) ∧ w.grownBy w' (some g) ∧ MemAt w' b g (puL xs f k a q t n) := by
  obtain ⟨W, hW⟩ : ∃ W, W = (w.alloc (.cells #[.int .i64 f, .int .i64 k] 160)).alloc (.cells #[.bool a, .int .i64 q, .int .i64 t, .int .i64 n] 85) := ⟨_, rfl⟩
  have hbo : Below w.heap.size w W := by rw [hW]; exact ((Below.refl _ _).alloc (Nat.le_refl _) _).alloc (by simp) _
  have hO1 : W.heap[w.heap.size]? = some (.cells #[.int .i64 f, .int .i64 k] 160 (0, 0)) := by
    rw [hW]; exact heap_alloc_lt (heap_alloc_eq _ _) _
  have hO2 : W.heap[w.heap.size + 1]? = some (.cells #[.bool a, .int .i64 q, .int .i64 t, .int .i64 n] 85 (0, 0)) := by
    rw [hW]
    have := heap_alloc_eq (w.alloc (.cells #[.int .i64 f, .int .i64 k] 160)) (.cells #[.bool a, .int .i64 q, .int .i64 t, .int .i64 n] 85)
    rw [show (w.alloc (.cells #[.int .i64 f, .int .i64 k] 160)).heap.size = w.heap.size + 1 by simp] at this
    exact this
  have HW := Lib.hid hW
  clear hW
  have H0 : Hid (PuInv w f k a q t n W) := Lib.hid ⟨hO1, hO2, hT.below hT.lt hbo, hbo⟩
  have HM := Lib.hid hM
  clear hO1 hO2 hbo hT hM
  have o0 := heap_cell H0.out.r 0
  have o1 := heap_cell H0.out.r 1
  simp at o0 o1
  have p0 := heap_cell H0.out.h 0
  have p1 := heap_cell H0.out.h 1
  have p2 := heap_cell H0.out.h 2
  have p3 := heap_cell H0.out.h 3
  simp at p0 p1 p2 p3
  have hp := hPut_any a q t n W H0.out.t
  cases hm : mayB a q t n
  · have e1 : puE xs f k a q t n = 1 := by simp [puE, puB, hm]
    have e2 : puL xs f k a q t n = xs := by simp [puL, puB, hm]
    rw [e1, e2]
    rw [show putE a q t n = 1 by simp [putE, hm]] at hp
    generalize putW a q t n = pw at hp
    clear hm e1 e2
    go_enter Tryz.func163, Tryz.ntmps163
    go_wp2_with fail
    rw [← HW.out]
    go_wp2_with fail
    refine hp.mono ?_
    rintro e w1 ⟨rfl, hb⟩
    have H1 := Lib.hid (H0.out.below hb)
    clear hp hb o0 o1 p0 p1 p2 p3
    go_wp2
    go_quiet (fail)
    go_wp2
    go_ret
    exact ⟨rfl, grown_of_below (below_drewN H1.out.b _) _, HM.out.later (below_drewN H1.out.b _)⟩
  · rw [show putE a q t n = 0 by simp [putE, hm]] at hp
    obtain ⟨pw, hpw⟩ : ∃ x, putW a q t n = x := ⟨_, rfl⟩
    obtain ⟨sz, hsz⟩ : ∃ x, sizeI a q t n = x := ⟨_, rfl⟩
    rw [hpw] at hp
    have hpu : puB f k a q t n = decide (k = sz) := by simp [puB, hm, hsz]
    have HE := Lib.hid (And.intro hpw (And.intro hsz hpu))
    clear hm hpw hsz hpu
    by_cases hk : k = sz
    · subst hk
      have y1 : (k != k) = false := by simp
      cases hh : hasB xs.length f k
      · have HH := Lib.hid hh
        clear hh
        go_enter Tryz.func163, Tryz.ntmps163
        go_wp2_with fail
        rw [← HW.out]
        go_wp2_with fail
        refine hp.mono ?_
        rintro e w1 ⟨rfl, hb⟩
        have H1 := Lib.hid (H0.out.below hb)
        clear hp hb o0 o1 p0 p1 p2 p3
        go_wp2
        obtain ⟨s0, s1, s2, s3, s4, s5, s6⟩ := pu_cells H1.out
        have hSd : w1.drew.cell? ⟨w.heap.size, 0, none⟩ = some (.int .i64 f) ∧ w1.drew.cell? ⟨w.heap.size, 1, none⟩ = some (.int .i64 k) ∧ w1.drew.cell? ⟨w.heap.size + 1, 0, none⟩ = some (.bool a) ∧ w1.drew.cell? ⟨w.heap.size + 1, 1, none⟩ = some (.int .i64 q) ∧ w1.drew.cell? ⟨w.heap.size + 1, 2, none⟩ = some (.int .i64 t) ∧ w1.drew.cell? ⟨w.heap.size + 1, 3, none⟩ = some (.int .i64 n) ∧ PuInv w f k a q t n w1.drew := pu_keep (w1 := w1) ⟨rfl, rfl, rfl, Nat.le_refl _, fun _ _ => rfl⟩ ⟨s0, s1, s2, s3, s4, s5, s6⟩
        go_region_held3 (fun w' => w'.cell? ⟨w.heap.size, 0, none⟩ = some (.int .i64 f) ∧ w'.cell? ⟨w.heap.size, 1, none⟩ = some (.int .i64 k) ∧ w'.cell? ⟨w.heap.size + 1, 0, none⟩ = some (.bool a) ∧ w'.cell? ⟨w.heap.size + 1, 1, none⟩ = some (.int .i64 q) ∧ w'.cell? ⟨w.heap.size + 1, 2, none⟩ = some (.int .i64 t) ∧ w'.cell? ⟨w.heap.size + 1, 3, none⟩ = some (.int .i64 n) ∧ PuInv w f k a q t n w')
          (first | assumption | exact hSd | exact hSd.1 | exact hSd.2.1 | exact hSd.2.2.1 | exact hSd.2.2.2.1 | exact hSd.2.2.2.2.1 | exact hSd.2.2.2.2.2.1 | exact hSd.2.2.2.2.2.2 | (go_keep; done) | exact pu_keep (by assumption) (by assumption))
          (first
            | (go_at_call 161; refine (pu_size (by assumption)).mono ?_; rw [HE.out.2.1]; rintro e w' ⟨rfl, hb'⟩))
        rename_i hS
        have H2 := Lib.hid hS.2.2.2.2.2.2
        have hM2 := HM.out.later H2.out.b
        have hf := wFill_any b g xs f k 0 _ hM2
        have r0 := hS.1
        have r1 := hS.2.1
        clear hS hSd s0 s1 s2 s3 s4 s5 s6
        rw [show fillE xs.length f k = 8 by unfold fillE; rw [HH.out]; rfl] at hf
        obtain ⟨zs, hzs⟩ : ∃ x, fillL xs f k 0 = x := ⟨_, rfl⟩
        rw [hzs] at hf
        have HZS := Lib.hid hzs
        clear hzs hM2
        go_wp2_with fail
        refine hf.mono ?_
        rintro e w3 ⟨rfl, hg3, hM3⟩
        have hgw := grown_trans (grown_of_below H2.out.b (some g)) hg3
        have hlg := heap_lt HM.out.2.1
        have hR3 := heap_grown hg3 H2.out.r (by omega)
        clear hf hg3 r0 r1
        have e1 : puE xs f k a q t n = 8 := by rw [puE, HE.out.2.2, HH.out]; simp
        have e2 : puL xs f k a q t n = xs := by rw [puL, HE.out.2.2, HH.out]; simp
        have e3 : zs = xs := by rw [← HZS.out]; unfold fillL; rw [HH.out]; rfl
        rw [e3] at hM3
        have E12 := Lib.hid (And.intro e1 e2)
        clear e1 e2 e3 hR3
        go_wp2
        go_ret
        exact ⟨ret_int E12.out.1.symm, hgw, by rw [E12.out.2]; exact hM3⟩
      · have HH := Lib.hid hh
        clear hh
        go_enter Tryz.func163, Tryz.ntmps163
        go_wp2_with fail
        rw [← HW.out]
        go_wp2_with fail
        refine hp.mono ?_
        rintro e w1 ⟨rfl, hb⟩
        have H1 := Lib.hid (H0.out.below hb)
        clear hp hb o0 o1 p0 p1 p2 p3
        go_wp2
        obtain ⟨s0, s1, s2, s3, s4, s5, s6⟩ := pu_cells H1.out
        have hSd : w1.drew.cell? ⟨w.heap.size, 0, none⟩ = some (.int .i64 f) ∧ w1.drew.cell? ⟨w.heap.size, 1, none⟩ = some (.int .i64 k) ∧ w1.drew.cell? ⟨w.heap.size + 1, 0, none⟩ = some (.bool a) ∧ w1.drew.cell? ⟨w.heap.size + 1, 1, none⟩ = some (.int .i64 q) ∧ w1.drew.cell? ⟨w.heap.size + 1, 2, none⟩ = some (.int .i64 t) ∧ w1.drew.cell? ⟨w.heap.size + 1, 3, none⟩ = some (.int .i64 n) ∧ PuInv w f k a q t n w1.drew := pu_keep (w1 := w1) ⟨rfl, rfl, rfl, Nat.le_refl _, fun _ _ => rfl⟩ ⟨s0, s1, s2, s3, s4, s5, s6⟩
        go_region_held3 (fun w' => w'.cell? ⟨w.heap.size, 0, none⟩ = some (.int .i64 f) ∧ w'.cell? ⟨w.heap.size, 1, none⟩ = some (.int .i64 k) ∧ w'.cell? ⟨w.heap.size + 1, 0, none⟩ = some (.bool a) ∧ w'.cell? ⟨w.heap.size + 1, 1, none⟩ = some (.int .i64 q) ∧ w'.cell? ⟨w.heap.size + 1, 2, none⟩ = some (.int .i64 t) ∧ w'.cell? ⟨w.heap.size + 1, 3, none⟩ = some (.int .i64 n) ∧ PuInv w f k a q t n w')
          (first | assumption | exact hSd | exact hSd.1 | exact hSd.2.1 | exact hSd.2.2.1 | exact hSd.2.2.2.1 | exact hSd.2.2.2.2.1 | exact hSd.2.2.2.2.2.1 | exact hSd.2.2.2.2.2.2 | (go_keep; done) | exact pu_keep (by assumption) (by assumption))
          (first
            | (go_at_call 161; refine (pu_size (by assumption)).mono ?_; rw [HE.out.2.1]; rintro e w' ⟨rfl, hb'⟩))
        rename_i hS
        have H2 := Lib.hid hS.2.2.2.2.2.2
        have hM2 := HM.out.later H2.out.b
        have hf := wFill_any b g xs f k 0 _ hM2
        have r0 := hS.1
        have r1 := hS.2.1
        clear hS hSd s0 s1 s2 s3 s4 s5 s6
        rw [show fillE xs.length f k = 0 by unfold fillE; rw [HH.out]; rfl] at hf
        obtain ⟨zs, hzs⟩ : ∃ x, fillL xs f k 0 = x := ⟨_, rfl⟩
        rw [hzs] at hf
        have HZS := Lib.hid hzs
        clear hzs hM2
        go_wp2_with fail
        refine hf.mono ?_
        rintro e w3 ⟨rfl, hg3, hM3⟩
        have hgw := grown_trans (grown_of_below H2.out.b (some g)) hg3
        have hlg := heap_lt HM.out.2.1
        have hR3 := heap_grown hg3 H2.out.r (by omega)
        clear hf hg3 r0 r1
        have zl : zs.length = xs.length := by rw [← HZS.out, fillL_length]
        have e1 : puE xs f k a q t n = wrE zs.length f := by rw [puE, HE.out.2.2, HH.out, zl]; simp
        have e2 : puL xs f k a q t n = wrL zs f pw := by rw [puL, HE.out.2.2, HH.out, HE.out.1, HZS.out]; simp
        have E12 := Lib.hid (And.intro e1 e2)
        have r0 := heap_cell hR3 0
        simp at r0
        clear e1 e2 zl hR3
        go_wp2_with fail
        refine (wWrite_any b g zs f pw _ hM3).mono ?_
        rintro e w4 ⟨rfl, hg4, hM4⟩
        clear r0
        go_wp2
        go_ret
        exact ⟨ret_int E12.out.1.symm, grown_trans hgw hg4, by rw [E12.out.2]; exact hM4⟩
    · have y1 : (k != sz) = true := by simp [hk]
      have e1 : puE xs f k a q t n = 1 := by rw [puE, HE.out.2.2]; simp [hk]
      have e2 : puL xs f k a q t n = xs := by rw [puL, HE.out.2.2]; simp [hk]
      rw [e1, e2]
      clear hk e1 e2
      go_enter Tryz.func163, Tryz.ntmps163
      go_wp2_with fail
      rw [← HW.out]
      go_wp2_with fail
      refine hp.mono ?_
      rintro e w1 ⟨rfl, hb⟩
      have H1 := Lib.hid (H0.out.below hb)
      clear hp hb o0 o1 p0 p1 p2 p3
      go_wp2
      obtain ⟨s0, s1, s2, s3, s4, s5, s6⟩ := pu_cells H1.out
      have hSd : w1.drew.cell? ⟨w.heap.size, 0, none⟩ = some (.int .i64 f) ∧ w1.drew.cell? ⟨w.heap.size, 1, none⟩ = some (.int .i64 k) ∧ w1.drew.cell? ⟨w.heap.size + 1, 0, none⟩ = some (.bool a) ∧ w1.drew.cell? ⟨w.heap.size + 1, 1, none⟩ = some (.int .i64 q) ∧ w1.drew.cell? ⟨w.heap.size + 1, 2, none⟩ = some (.int .i64 t) ∧ w1.drew.cell? ⟨w.heap.size + 1, 3, none⟩ = some (.int .i64 n) ∧ PuInv w f k a q t n w1.drew := pu_keep (w1 := w1) ⟨rfl, rfl, rfl, Nat.le_refl _, fun _ _ => rfl⟩ ⟨s0, s1, s2, s3, s4, s5, s6⟩
      go_region_held3 (fun w' => w'.cell? ⟨w.heap.size, 0, none⟩ = some (.int .i64 f) ∧ w'.cell? ⟨w.heap.size, 1, none⟩ = some (.int .i64 k) ∧ w'.cell? ⟨w.heap.size + 1, 0, none⟩ = some (.bool a) ∧ w'.cell? ⟨w.heap.size + 1, 1, none⟩ = some (.int .i64 q) ∧ w'.cell? ⟨w.heap.size + 1, 2, none⟩ = some (.int .i64 t) ∧ w'.cell? ⟨w.heap.size + 1, 3, none⟩ = some (.int .i64 n) ∧ PuInv w f k a q t n w')
        (first | assumption | exact hSd | exact hSd.1 | exact hSd.2.1 | exact hSd.2.2.1 | exact hSd.2.2.2.1 | exact hSd.2.2.2.2.1 | exact hSd.2.2.2.2.2.1 | exact hSd.2.2.2.2.2.2 | (go_keep; done) | exact pu_keep (by assumption) (by assumption))
        (first
          | (go_at_call 161; refine (pu_size (by assumption)).mono ?_; rw [HE.out.2.1]; rintro e w' ⟨rfl, hb'⟩))
      rename_i hS
      have H2 := Lib.hid hS.2.2.2.2.2.2
      clear hS hSd s0 s1 s2 s3 s4 s5 s6
      go_wp2
      go_ret
      exact ⟨rfl, grown_of_below H2.out.b _, HM.out.later H2.out.b⟩
end Go.Proofs.YtcenagpkfimkbaaGreatDoor
/-
  heap.Heap: the other steps of Alloc: owners, words, starts.
-/
namespace Go.Proofs.YtcenagpkfimkbaaGreatDoor
open Go Go.RowKit

section
variable {B : HB} {H : HM} {O0 O1 : Obj} {w : World} {S : Nat → Prop}
theorem HeapSt.owStep (h : HeapSt B H O0 O1 w S) (f k o : Int) :
    Calls Tryz.prog 111 #[.pointer (some ⟨B.ob, 0, none⟩), .agg #[.int .i64 f, .int .i64 k], .int .i64 o] w fun e w' => e = .returned (.int .i64 (oE H.on f k o)) ∧ ∃ S', HeapSt B { H with ow := oW H.on H.ow f k o } O0 O1 w' S' ∧ Grows S S' w w' := by
  obtain ⟨S0, h0, hs, hc⟩ := h.step 3 (by omega) { H with ow := oW H.on H.ow f k o } (upd_eq fun j hj => by simp only [heapP]; rw [if_neg hj, if_neg hj])
  obtain ⟨gm, hO, e0⟩ := h0
  refine (oSet_any hO f k o).mono ?_
  rintro e w' ⟨rfl, gm', hO', hm, hg⟩
  refine ⟨rfl, hc w' (fun k => k = B.ob ∨ k = B.om ∨ ∃ j, lk gm' j = some k) ⟨gm', hO', fun k => Iff.rfl⟩ ⟨(Moved.refl S0 w).trans hm (fun k hk => .inl ((e0 k).2 hk)), fun k hk => ?_⟩⟩
  rcases hk with e | e | ⟨j, e⟩
  · exact .inl ((e0 k).2 (.inl e))
  · exact .inl ((e0 k).2 (.inr (.inl e)))
  · exact (hg j k e).imp_left fun e => (e0 k).2 (.inr (.inr ⟨j, e⟩))
theorem HeapSt.memStep (h : HeapSt B H O0 O1 w S) {ms : List Int} {w' : World} (hl : ms.length = H.ms.length) (hg : w.grownBy w' (some B.mw)) (hM : MemAt w' B.mb B.mw ms) :
    ∃ S', HeapSt B { H with ms := ms } O0 O1 w' S' ∧ Grows S S' w w' := by
  obtain ⟨S0, h0, hs, hc⟩ := h.step 2 (by omega) { H with ms := ms } (upd_eq fun j hj => by simp only [heapP]; rw [if_neg hj, if_neg hj])
  obtain ⟨hp, e0⟩ := h0
  have hm : Moved (fun k => k = B.mw) w w' := Moved.of_grown hg (S := fun k => k = B.mw) (fun k e => by cases e; rfl)
  obtain ⟨⟨_, r1⟩, ⟨_, r2⟩⟩ := hp.row.blocks
  have n1 : B.pb ≠ B.mw := heap_ne hp.blk hp.mem.2.1 (by simp)
  have n2 : B.rb ≠ B.mw := heap_ne r1 hp.mem.2.1 (by simp)
  refine hc w' S0 ⟨⟨hm.heap hp.blk n1, hp.row.moved hm n2 hp.ne, hM, by rw [hl]; exact hp.len, hp.lo, hp.hi, hp.ne⟩, e0⟩ ⟨(Moved.refl S0 w).trans hm (fun k hk => .inl ((e0 k).2 (.inr (.inr (.inr (.inr hk)))))), fun k hk => .inl hk⟩
theorem HeapSt.stStep (h : HeapSt B H O0 O1 w S) {st : List Bool} {w' : World} (hm : Moved (fun q => q = B.srw) w w') (ht : StartsAt w' B.sb B.srb B.srw st) :
    ∃ S', HeapSt B { H with st := st } O0 O1 w' S' ∧ Grows S S' w w' := by
  obtain ⟨S0, h0, hs, hc⟩ := h.step 4 (by omega) { H with st := st } (upd_eq fun j hj => by simp only [heapP]; rw [if_neg hj, if_neg hj])
  obtain ⟨hp, e0⟩ := h0
  refine hc w' S0 ⟨ht, e0⟩ ⟨(Moved.refl S0 w).trans hm (fun k hk => .inl ((e0 k).2 (by subst hk; simp))), fun k hk => .inl hk⟩
theorem HeapSt.arena (h : HeapSt B H O0 O1 w S) {id : Int} (hid : 1 ≤ id) {A : AR} (hA : lk H.ar id = some A) : ∃ vr vt, ArenaAt w A.ab A.plb B.pb A.pg A.us vr vt A.rs A.ts := by
  obtain ⟨_, h, _⟩ := Sep.get h (20 + id.toNat) (by omega)
  rw [heapP_arena _ _ _ _ hid, hA] at h
  obtain ⟨vr, vt, h, _⟩ := h
  exact ⟨vr, vt, h⟩
theorem HeapSt.lt (h : HeapSt B H O0 O1 w S) {k : Nat} (hk : S k) : k < w.heap.size := (HeapSt.ok B H O0 O1).lt h k hk
end
/-- Who owns the pages behind the runs' being set. -/
def owAll (n : Nat) (ow : Nat → Int) (rs : List (Int × Int)) (id : Int) : Nat → Int := rs.foldl (fun ow p => oW n ow p.1 p.2 id) ow
theorem owAll_succ (n : Nat) (ow : Nat → Int) (rs : List (Int × Int)) (id : Int) (k : Nat) (hk : k < rs.length) : owAll n ow (rs.take (k + 1)) id = oW n (owAll n ow (rs.take k) id) (rs.getD k (0, 0)).1 (rs.getD k (0, 0)).2 id := by
  have e : rs.take (k + 1) = rs.take k ++ [rs.getD k (0, 0)] := by
    rw [List.take_add_one, List.getElem?_eq_getElem hk, List.getD_eq_getElem?_getD, List.getElem?_eq_getElem hk]
    rfl
  rw [e, owAll, List.foldl_append]
  rfl
end Go.Proofs.YtcenagpkfimkbaaGreatDoor
/-
  heap.Heap: Alloc.
-/
namespace Go.Proofs.YtcenagpkfimkbaaGreatDoor
open Go Go.RowKit

theorem arA_le {gs : List Bool} {A : AR} (hf : FineA A) (hg : gs.length ≤ 1024) (s : Int) : 0 ≤ arA gs A.pg A.us s ∧ arA gs A.pg A.us s ≤ 100000 := by
  have hp : arPage gs A.pg A.us s ≤ 1024 := by
    unfold arPage
    cases h : findM gs (plN A.pg A.us s) with
    | none => simp
    | some q => have := findM_le h; simp; omega
  have := hf.p0
  have := hf.p1
  have := hf.u0
  have := hf.u1
  have h16 := hf.n
  unfold arA
  split
  · rename_i he
    unfold plA
    split
    · omega
    · split
      · rename_i hs hn
        by_cases e : A.pg = -1
        · exfalso
          have hu := h16 e
          unfold plN at hn
          unfold arE plE at he
          split at hn
          · rename_i hh; rw [if_pos hh] at he; simp at he
          · split at hn
            · omega
            · omega
        · omega
      · omega
  · omega
theorem arAl_bad {gs : List Bool} {A : AR} {s : Int} (h : arE gs A.pg A.us s ≠ 0) : arAl gs A s = A := by
  unfold arAl arP arU arR arT
  rw [if_neg h, if_neg h, if_neg (fun e => h e.1), if_neg h]
theorem ar_bad {gs : List Bool} {ms : List Int} {pg us s : Int} (h : arE gs pg us s ≠ 0) : arS gs pg us s = gs ∧ arM gs ms pg us s = ms ∧ arA gs pg us s = 0 := by
  unfold arS arM arA
  rw [if_neg h, if_neg h, if_neg h]
  exact ⟨rfl, rfl, rfl⟩

def arOf (H : HM) (r : Int) : AR := (lk H.ar r).getD ⟨0, 0, -1, 16, [], []⟩
def alE (H : HM) (r : Int) (a : Bool) (q t n : Int) : Int :=
  if livesB H r = false then 2 else if knE H.ds a q t n ≠ 0 then knE H.ds a q t n else if putE a q t n ≠ 0 then putE a q t n else arE H.gs (arOf H r).pg (arOf H r).us (sizeI a q t n)
def alA (H : HM) (r : Int) (a : Bool) (q t n : Int) : Int := if alE H r a q t n = 0 then arA H.gs (arOf H r).pg (arOf H r).us (sizeI a q t n) + 1 else 0
def alH1 (H : HM) (r : Int) (A : AR) (s : Int) : HM := { H with ar := mput H.ar r (arAl H.gs A s), gs := arS H.gs A.pg A.us s, ms := arM H.gs H.ms A.pg A.us s }
def alH2 (H : HM) (r : Int) (A : AR) (s : Int) (at' : Int) (a : Bool) (q t n : Int) : HM :=
  { alH1 H r A s with ow := owAll H.on H.ow (arAl H.gs A s).rs r, ms := puL (arM H.gs H.ms A.pg A.us s) at' s a q t n, st := spL H.st (at' + 1) }
def alH (H : HM) (r : Int) (a : Bool) (q t n : Int) : HM :=
  if alE H r a q t n = 0 then alH2 H r (arOf H r) (sizeI a q t n) (arA H.gs (arOf H r).pg (arOf H r).us (sizeI a q t n)) a q t n else H
theorem alH1_bad {H : HM} {r : Int} {A : AR} {s : Int} (hr : Rising H.ar) (hA : lk H.ar r = some A) (h : arE H.gs A.pg A.us s ≠ 0) : alH1 H r A s = H := by
  unfold alH1
  rw [arAl_bad h, (ar_bad (ms := H.ms) h).1, (ar_bad h).2.1, mput_same hr hA]

set_option maxRecDepth 100000 in
set_option maxHeartbeats 2000000 in
theorem hAllocBad_any {B : HB} {H : HM} {O0 O1 : Obj} {w : World} {S : Nat → Prop} (h : HeapSt B H O0 O1 w S) (hF : Fine H) (hd : ∀ d ∈ H.ds, d.length ≤ 100) (hdl : H.ds.length ≤ 1000) (r : Int) (r0 : 0 ≤ r) (r1 : r ≤ 18446744073709551615) (a : Bool) (q t n : Int)
    (hbad : livesB H r = false ∨ knE H.ds a q t n ≠ 0 ∨ putE a q t n ≠ 0) :
    Calls Tryz.prog 116 #[.pointer (some ⟨B.hb, 0, none⟩), .int .u64 r, .agg #[.bool a, .int .i64 q, .int .i64 t, .int .i64 n]] w fun e w' => e = .returned (.tuple #[.int .u64 0, .int .i64 (alE H r a q t n)]) ∧ Below w.heap.size w w' := by
  obtain ⟨X, hX⟩ : ∃ X, w.alloc (.cells #[.bool a, .int .i64 q, .int .i64 t, .int .i64 n] 85) = X := ⟨_, rfl⟩
  have hbX : Below w.heap.size w X := by rw [← hX]; exact (Below.refl _ _).alloc (Nat.le_refl _) _
  have hL := hlives_any (h.later hbX) hF r r0 r1
  have HH := Lib.hid (h.later hbX)
  have oX : X.heap[w.heap.size]? = some (.cells #[.bool a, .int .i64 q, .int .i64 t, .int .i64 n] 85 (0, 0)) := by rw [← hX]; exact heap_alloc_eq _ _
  have HO := Lib.hid (And.intro oX hbX)
  have k0 := heap_cell oX 0
  have k1 := heap_cell oX 1
  have k2 := heap_cell oX 2
  have k3 := heap_cell oX 3
  simp at k0 k1 k2 k3
  clear oX h hbX hF
  cases hlv : livesB H r
  · have e1 : Hid (alE H r a q t n = 2) := Lib.hid (by rw [alE, if_pos hlv])
    rw [hlv] at hL
    obtain ⟨y, hy⟩ : ∃ y, IntKind.i64.wrap r = y := ⟨_, rfl⟩
    rw [hy] at hL
    clear hbad hlv hy
    go_enter Tryz.func116, Tryz.ntmps116
    go_wp2_with fail
    try rw [hX]
    go_wp2_with fail
    refine hL.mono ?_
    rintro e w1 ⟨rfl, hb1⟩
    go_wp2
    go_ret2
    exact ⟨by rw [e1.out]; rfl, HO.out.2.trans (hb1.mono HO.out.2.size)⟩
  · have hle := (livesB_le hlv).1
    rw [hlv] at hL
    have hnl : knE H.ds a q t n ≠ 0 ∨ putE a q t n ≠ 0 := hbad.elim (fun e => by rw [hlv] at e; cases e) id
    have e0 : alE H r a q t n = if knE H.ds a q t n ≠ 0 then knE H.ds a q t n else if putE a q t n ≠ 0 then putE a q t n else arE H.gs (arOf H r).pg (arOf H r).us (sizeI a q t n) := by rw [alE, if_neg (by rw [hlv]; simp)]
    obtain ⟨y, hy⟩ : ∃ y, IntKind.i64.wrap r = y := ⟨_, rfl⟩
    rw [hy] at hL
    have hK := fun (w' : World) (hb : Below X.heap.size X w') => Kinds_any B.ta H.ds B.tc a q t n w' (HH.out.later hb).tabs.1 (HH.out.later hb).types hd (by omega)
    obtain ⟨E, hE⟩ : ∃ E, knE H.ds a q t n = E := ⟨_, rfl⟩
    rw [hE] at hnl e0
    simp only [hE] at hK
    have HK := Lib.hid hK
    have hT := fun (w' : World) (hb : Below X.heap.size X w') => hPut_any a q t n w' (HH.out.later hb).tabs.1
    obtain ⟨P, hP⟩ : ∃ P, putE a q t n = P := ⟨_, rfl⟩
    rw [hP] at hnl e0
    simp only [hP] at hT
    have HT := Lib.hid hT
    have HL := Lib.hid hnl
    have HE := Lib.hid e0
    clear hK hT hbad hnl e0 hlv hE hP hy hd hdl hle
    go_enter Tryz.func116, Tryz.ntmps116
    go_wp2_with fail
    try rw [hX]
    go_wp2_with fail
    refine hL.mono ?_
    rintro e w1 ⟨rfl, hb1⟩
    have c3 := heap_cell (HH.out.later hb1).blk 3
    simp at c3
    have j0 := (hb1.cell (p := ⟨w.heap.size, 0, none⟩) (cell_lt k0)).trans k0
    have j1 := (hb1.cell (p := ⟨w.heap.size, 1, none⟩) (cell_lt k1)).trans k1
    have j2 := (hb1.cell (p := ⟨w.heap.size, 2, none⟩) (cell_lt k2)).trans k2
    have j3 := (hb1.cell (p := ⟨w.heap.size, 3, none⟩) (cell_lt k3)).trans k3
    go_wp2
    have hbd : ∀ nq : Nat, Below X.heap.size X (w1.drewN nq) := fun nq => hb1.trans ⟨rfl, rfl, rfl, Nat.le_refl _, fun _ _ => rfl⟩
    have hK1 := fun nq => HK.out (w1.drewN nq) (hbd nq)
    have HB := Lib.hid hbd
    clear hb1 hbd
    go_region_with (refine (hK1 _).mono ?_; rintro e w2 ⟨v, rfl, hb2, hv⟩; have hb3 := (HB.out _).trans (hb2.mono (HB.out _).size))
    all_goals
      have HB3 := Lib.hid hb3
      have HV := Lib.hid hv
      have d0 := (hb3.cell (p := ⟨w.heap.size, 0, none⟩) (cell_lt k0)).trans k0
      have d1 := (hb3.cell (p := ⟨w.heap.size, 1, none⟩) (cell_lt k1)).trans k1
      have d2 := (hb3.cell (p := ⟨w.heap.size, 2, none⟩) (cell_lt k2)).trans k2
      have d3 := (hb3.cell (p := ⟨w.heap.size, 3, none⟩) (cell_lt k3)).trans k3
      have hP := HT.out w2 hb3
      clear hb2 hb3 hv j0 j1 j2 j3 c3 hK1 k0 k1 k2 k3 hL
      by_cases z : E = 0
      · have e2 : Hid (alE H r a q t n = P) := Lib.hid (by
          have := HL.out
          rw [HE.out, if_neg (by omega), if_pos (by omega)])
        have z2 : (P != 0) = true := by
          have := HL.out
          simp; omega
        subst z
        go_wp2_with fail
        refine hP.mono ?_
        rintro e w3 ⟨rfl, hb4⟩
        clear hP
        go_wp2
        go_ret2
        exact ⟨by rw [e2.out]; rfl, HO.out.2.trans ((HB3.out.trans (hb4.mono HB3.out.size)).mono HO.out.2.size)⟩
      · have e2 : Hid (alE H r a q t n = E) := Lib.hid (by rw [HE.out, if_pos z])
        have z2 : (E != 0) = true := by simp; omega
        clear z hP
        go_wp2
        go_ret2
        exact ⟨by rw [e2.out]; rfl, HO.out.2.trans (HB3.out.mono HO.out.2.size)⟩
end Go.Proofs.YtcenagpkfimkbaaGreatDoor
/-
  heap.Heap: Alloc that goes through to the arena.
-/
namespace Go.Proofs.YtcenagpkfimkbaaGreatDoor
open Go Go.RowKit

theorem arMap_look {B : HB} {H : HM} {O0 O1 : Obj} {w : World} {S : Nat → Prop} (h : HeapSt B H O0 O1 w S) {r : Int} {A : AR} (hA : lk H.ar r = some A) (r0 : 0 ≤ r) (r1 : r ≤ 1000000) :
    (Instr.lookup 112 (.map (some B.am)) (.int .i64 r) false).run Tryz.prog w = .ok (.pointer (some ⟨A.ab, 0, none⟩)) w := by
  have hz : (zeroValue 157).run Tryz.prog w = .ok (.pointer none) w := by kernel_rfl
  have hl := h.arenas.lookup Tryz.underlying3 Tryz.underlying112 hz r (wf_i64 (by omega) (by omega))
  have : lk (arMap H.ar) r = some (ptrV A.ab) := by unfold arMap; rw [lk_mapV, hA]; rfl
  rw [this] at hl
  rw [hl]; rfl

set_option maxRecDepth 100000 in
set_option maxHeartbeats 4000000 in
theorem hAllocGo_any {B : HB} {H : HM} {O0 O1 : Obj} {w : World} {S : Nat → Prop} (h : HeapSt B H O0 O1 w S) (hF : Fine H) (hd : ∀ d ∈ H.ds, d.length ≤ 100) (hdl : H.ds.length ≤ 1000) (r : Int) (r0 : 1 ≤ r) (a : Bool) (q t n : Int)
    (hlv : livesB H r = true) (hkn : knE H.ds a q t n = 0) (hpt : putE a q t n = 0) {A : AR} (hA : lk H.ar r = some A) (hfA : FineA A) (hrl : A.rs.length ≤ 10000) :
    Calls Tryz.prog 116 #[.pointer (some ⟨B.hb, 0, none⟩), .int .u64 r, .agg #[.bool a, .int .i64 q, .int .i64 t, .int .i64 n]] w fun e w' => e = .returned (.tuple #[.int .u64 (alA H r a q t n), .int .i64 (alE H r a q t n)]) ∧ ∃ S', HeapSt B (alH H r a q t n) O0 O1 w' S' ∧ Grows S S' w w' := by
  obtain ⟨X, hX⟩ : ∃ X, w.alloc (.cells #[.bool a, .int .i64 q, .int .i64 t, .int .i64 n] 85) = X := ⟨_, rfl⟩
  have hbX : Below w.heap.size w X := by rw [← hX]; exact (Below.refl _ _).alloc (Nat.le_refl _) _
  have hle := (livesB_le hlv).1
  have l1 := hF.l1
  have hL := hlives_any (h.later hbX) hF r (by omega) (by omega)
  have HH := Lib.hid (h.later hbX)
  have oX : X.heap[w.heap.size]? = some (.cells #[.bool a, .int .i64 q, .int .i64 t, .int .i64 n] 85 (0, 0)) := by rw [← hX]; exact heap_alloc_eq _ _
  have HO := Lib.hid (And.intro oX hbX)
  have k0 := heap_cell oX 0
  have k1 := heap_cell oX 1
  have k2 := heap_cell oX 2
  have k3 := heap_cell oX 3
  simp at k0 k1 k2 k3
  have hSw : ¬ S w.heap.size := fun e => by have := h.lt e; omega
  have HSW := Lib.hid hSw
  clear oX h hbX hF hSw
  rw [hlv, show IntKind.i64.wrap r = r by rw [IntKind.wrap_i64]; omega] at hL
  have hr6 : r ≤ 1000000 := by omega
  obtain ⟨s, hs⟩ : ∃ s, sizeI a q t n = s := ⟨_, rfl⟩
  have hAO : arOf H r = A := by rw [arOf, hA]; rfl
  have e0 : Hid (alE H r a q t n = arE H.gs A.pg A.us s) := Lib.hid (by rw [alE, if_neg (by rw [hlv]; simp), if_neg (by omega), if_neg (by omega), hAO, hs])
  have e00 : Hid (alA H r a q t n = if arE H.gs A.pg A.us s = 0 then arA H.gs A.pg A.us s + 1 else 0) := Lib.hid (by rw [alA, e0.out, hAO, hs])
  have e01 : Hid (alH H r a q t n = if arE H.gs A.pg A.us s = 0 then alH2 H r A s (arA H.gs A.pg A.us s) a q t n else H) := Lib.hid (by rw [alH, e0.out, hAO, hs])
  have hK := fun (w' : World) (hb : Below X.heap.size X w') => Kinds_any B.ta H.ds B.tc a q t n w' (HH.out.later hb).tabs.1 (HH.out.later hb).types hd (by omega)
  simp only [hkn] at hK
  have hT := fun (w' : World) (hb : Below X.heap.size X w') => hPut_any a q t n w' (HH.out.later hb).tabs.1
  simp only [hpt] at hT
  have hZ := fun (w' : World) (hb : Below X.heap.size X w') => hSize_any a q t n w' (HH.out.later hb).tabs.1
  simp only [hs] at hZ
  have HK := Lib.hid (And.intro hK (And.intro hT hZ))
  have HA := Lib.hid (And.intro hA (And.intro hfA hrl))
  clear hK hT hZ hlv hd hdl hle hkn hpt hs hA hfA hrl hAO l1
  go_enter Tryz.func116, Tryz.ntmps116
  go_wp2_with fail
  try rw [hX]
  go_wp2_with fail
  refine hL.mono ?_
  rintro e w1 ⟨rfl, hb1⟩
  have c3 := heap_cell (HH.out.later hb1).blk 3
  simp at c3
  have j0 := (hb1.cell (p := ⟨w.heap.size, 0, none⟩) (cell_lt k0)).trans k0
  have j1 := (hb1.cell (p := ⟨w.heap.size, 1, none⟩) (cell_lt k1)).trans k1
  have j2 := (hb1.cell (p := ⟨w.heap.size, 2, none⟩) (cell_lt k2)).trans k2
  have j3 := (hb1.cell (p := ⟨w.heap.size, 3, none⟩) (cell_lt k3)).trans k3
  go_wp2
  have hbd : ∀ nq : Nat, Below X.heap.size X (w1.drewN nq) := fun nq => hb1.trans ⟨rfl, rfl, rfl, Nat.le_refl _, fun _ _ => rfl⟩
  have hK1 := fun nq => HK.out.1 (w1.drewN nq) (hbd nq)
  have HB := Lib.hid hbd
  clear hb1 hbd
  go_region_with (refine (hK1 _).mono ?_; rintro e w2 ⟨v, rfl, hb2, hv⟩; have hb3 := (HB.out _).trans (hb2.mono (HB.out _).size))
  all_goals
    have HB3 := Lib.hid hb3
    have hP := HK.out.2.1 w2 hb3
    have d0 := (hb3.cell (p := ⟨w.heap.size, 0, none⟩) (cell_lt k0)).trans k0
    have d1 := (hb3.cell (p := ⟨w.heap.size, 1, none⟩) (cell_lt k1)).trans k1
    have d2 := (hb3.cell (p := ⟨w.heap.size, 2, none⟩) (cell_lt k2)).trans k2
    have d3 := (hb3.cell (p := ⟨w.heap.size, 3, none⟩) (cell_lt k3)).trans k3
    clear hb2 hb3 hv j0 j1 j2 j3 c3 hK1 hL
    go_wp2_with fail
    refine hP.mono ?_
    rintro e w3 ⟨rfl, hb4⟩
    have hb5 := HB3.out.trans (hb4.mono HB3.out.size)
    clear hb4 hP d0 d1 d2 d3 HB3
    have HB3 := Lib.hid hb5
    have d0 := (hb5.cell (p := ⟨w.heap.size, 0, none⟩) (cell_lt k0)).trans k0
    have d1 := (hb5.cell (p := ⟨w.heap.size, 1, none⟩) (cell_lt k1)).trans k1
    have d2 := (hb5.cell (p := ⟨w.heap.size, 2, none⟩) (cell_lt k2)).trans k2
    have d3 := (hb5.cell (p := ⟨w.heap.size, 3, none⟩) (cell_lt k3)).trans k3
    have hz := HK.out.2.2 w3 hb5
    clear hb5
    go_wp2_with fail
    refine hz.mono ?_
    rintro e w4 ⟨rfl, hb4⟩
    have hb5 := HB3.out.trans (hb4.mono HB3.out.size)
    clear hb4 hz d0 d1 d2 d3 HB3
    have HB3 := Lib.hid hb5
    have h5 := HH.out.later hb5
    have c6 := heap_cell h5.blk 6
    simp at c6
    have hlk := arMap_look h5 HA.out.1 (by omega) hr6
    obtain ⟨T, hT, hTc⟩ := h5.alStep r0 HA.out.1 HA.out.2.1 s
    have HT := Lib.hid hTc
    clear hTc hb5 h5
    go_wp2_with fail
    refine hT.mono ?_
    rintro e w5 ⟨rfl, ht5⟩
    clear hT hlk c6
    obtain ⟨S5, h5, g5⟩ := HT.out w5 ht5
    clear HT ht5
    by_cases z : arE H.gs A.pg A.us s = 0
    · have z2 : (arE H.gs A.pg A.us s != 0) = false := by simp [z]
      have hAl := arA_le HA.out.2.1 HH.out.pages.hi s
      rw [if_pos z] at e00 e01
      rw [z] at e0
      simp only [z] at z2 ⊢
      clear z
      obtain ⟨p, hp⟩ : ∃ p, arA H.gs A.pg A.us s = p := ⟨_, rfl⟩
      rw [hp] at hAl e00 e01
      simp only [hp]
      clear hp
      have hlt5 : w.heap.size < X.heap.size := by rw [← hX]; simp
      have hX5 := HB3.out.size
      have n5 : ¬ S5 w.heap.size := fun e => (g5.s _ e).elim (fun e => HSW.out e) (fun e => by omega)
      have o5 : w5.heap[w.heap.size]? = some (.cells #[.bool a, .int .i64 q, .int .i64 t, .int .i64 n] 85 (0, 0)) := g5.m.heap ((Moved.of_below HB3.out (fun _ => False)).heap HO.out.1 (fun e => e)) HSW.out
      have hris : Rising H.ar := (rising_mapV _ _).1 HH.out.arenas.rising
      have hA5 : lk (mput H.ar r (arAl H.gs A s)) r = some (arAl H.gs A s) := by rw [lk_put hris, if_pos rfl]
      have hlk := arMap_look h5 hA5 (by omega) hr6
      obtain ⟨vr, vt, har⟩ := h5.arena r0 hA5
      have hrl : (arAl H.gs A s).rs.length ≤ 1000000 := by
        have := HA.out.2.2
        simp only [arAl, arR]
        split
        · simp; omega
        · omega
      have hRu := arRuns_any har hrl
      have c6 := heap_cell h5.blk 6
      simp at c6
      have e02 : Hid (alH2 H r A s p a q t n = { { { alH1 H r A s with ow := owAll H.on H.ow (arAl H.gs A s).rs r } with ms := puL (arM H.gs H.ms A.pg A.us s) p s a q t n } with st := spL H.st (p + 1) }) := Lib.hid rfl
      have e03 : Hid ((alH1 H r A s).on = H.on ∧ (alH1 H r A s).st = H.st ∧ (alH1 H r A s).ms = arM H.gs H.ms A.pg A.us s ∧ (alH1 H r A s).ow = H.ow) := Lib.hid ⟨rfl, rfl, rfl, rfl⟩
      obtain ⟨A', hA'⟩ : ∃ A', arAl H.gs A s = A' := ⟨_, rfl⟩
      have eab : A.ab = A'.ab := by rw [← hA']; rfl
      change HeapSt B (alH1 H r A s) O0 O1 w5 S5 at h5
      rw [hA'] at hlk hrl har hRu hA5 e02
      obtain ⟨H1, hH1⟩ : ∃ H1, alH1 H r A s = H1 := ⟨_, rfl⟩
      rw [hH1] at h5 e02 e03
      have H5 := Lib.hid (And.intro h5 (And.intro g5 (And.intro n5 o5)))
      have RL := Lib.hid hrl
      obtain ⟨rs, hrs⟩ : ∃ rs, A'.rs = rs := ⟨_, rfl⟩
      rw [hrs] at hRu RL e02
      clear h5 g5 n5 o5 hA5 har hA' hH1 hris hrl hrs hX5 hlt5
      obtain ⟨ab, hab⟩ : ∃ ab, A'.ab = ab := ⟨_, rfl⟩
      rw [hab] at hlk hRu eab
      clear hab
      go_wp2_with fail
      refine hRu.mono ?_
      rintro e w6 ⟨v6, rfl, hb6, hv6, hn6⟩
      obtain ⟨ra, rc, rfl, hrc, hr0, hrq⟩ := hv6.shape
      have H6 := Lib.hid (And.intro (H5.out.1.later hb6) (And.intro hb6 (And.intro hv6 hn6)))
      have o6 : Hid (w6.heap[w.heap.size]? = some (.cells #[.bool a, .int .i64 q, .int .i64 t, .int .i64 n] 85 (0, 0))) := Lib.hid ((Moved.of_below hb6 (fun _ => False)).heap H5.out.2.2.2 (fun e => e))
      have nv : Hid (∀ k, (Value.slice ra rs.length rc).ownBlock = some k → ¬ S5 k) := Lib.hid (fun k e f => by have := H5.out.1.lt f; have := hn6 k e; omega)
      clear hRu hb6 hv6 hn6 hlk c6 hrc hr0 hrq
      obtain ⟨N, hN⟩ : ∃ N, rs.length = N := ⟨_, rfl⟩
      have HN := Lib.hid hN
      have hN2 : (N : Int) ≤ 1000000 := by have := RL.out; omega
      rw [hN] at H6 nv
      simp only [hN]
      clear hN
      go_wp2
      go_loopw [18, 71] (fun _ c wr => ∃ k : Nat, k ≤ N ∧ c = .int .i64 (k : Int) ∧ Hid (∃ S', HeapSt B { H1 with ow := owAll H.on H.ow (rs.take k) r } O0 O1 wr S' ∧ Grows S5 S' w6 wr)) (fun _ c _ => N - (intOf c).toNat)
      case atStart => exact ⟨0, Nat.zero_le _, rfl, Lib.hid ⟨S5, by have := H6.out.1; rw [show ({ H1 with ow := owAll H.on H.ow (rs.take 0) r } : HM) = H1 by rw [List.take_zero]; simp only [owAll, List.foldl_nil]; rw [← e03.out.2.2.2]]; exact this, Grows.refl _ _⟩⟩
      case round =>
        obtain ⟨k, hk, rfl, HV⟩ := hrel
        obtain ⟨S', h', g'⟩ := HV.out
        have hv7 : OwnRuns wr (.slice ra N rc) rs := (H6.out.2.2.1).moved g'.m nv.out
        by_cases hlt : k < N
        · have i2 : (k : Int) < (N : Int) := by omega
          have hrd := hv7.reads
          rcases hrd with hrd | ⟨rb, off, rfl, hrc⟩
          · exfalso; have := HN.out; rw [hrd] at this; simp at this; omega
          have hrk := hrc k (by rw [HN.out]; exact hlt)
          obtain ⟨f, hf⟩ : ∃ f, (rs.getD k (0, 0)).1 = f := ⟨_, rfl⟩
          obtain ⟨m, hm⟩ : ∃ m, (rs.getD k (0, 0)).2 = m := ⟨_, rfl⟩
          rw [hf, hm] at hrk
          have q0 := hrk.1
          have q1 := hrk.2
          have hnext : owAll H.on H.ow (rs.take (k + 1)) r = oW H.on (owAll H.on H.ow (rs.take k) r) f m r := by rw [owAll_succ _ _ _ _ _ (by rw [HN.out]; exact hlt), hf, hm]
          have hbz : Below wr.heap.size wr (wr.alloc (.cells #[.int .i64 f, .int .i64 m] 160)) := (Below.refl _ _).alloc (Nat.le_refl _) _
          have hO := fun (nq : Nat) => (h'.later (w' := (wr.alloc (.cells #[.int .i64 f, .int .i64 m] 160)).drewN nq) (hbz.trans ⟨rfl, rfl, rfl, Nat.le_refl _, fun _ _ => rfl⟩)).owStep f m r
          have hbz2 : ∀ nq, Below wr.heap.size wr ((wr.alloc (.cells #[.int .i64 f, .int .i64 m] 160)).drewN nq) := fun nq => hbz.trans ⟨rfl, rfl, rfl, Nat.le_refl _, fun _ _ => rfl⟩
          have c1 := heap_cell h'.blk 1
          simp at c1
          have hbl := heap_lt h'.blk
          have HK7 := Lib.hid (And.intro g' (And.intro hbz2 hnext))
          clear h' g' hrc hrk hf hm hnext hbz hbz2 hv7
          go_wp2
          go_region_with (refine (hO _).mono ?_; rintro e w7 ⟨rfl, S7, hs7, hg7⟩)
          all_goals
            clear hO
            have H7 : Hid (∃ S', HeapSt B { H1 with ow := owAll H.on H.ow (rs.take (k + 1)) r } O0 O1 w7 S' ∧ Grows S5 S' w6 w7) := Lib.hid ⟨S7, by rw [HK7.out.2.2]; simpa only [e03.out.1] using hs7, HK7.out.1.trans (Grows.after_below (HK7.out.2.1 _) hg7)⟩
            clear hs7 hg7
            go_wp2
            go_roundw
            case rel => exact ⟨k + 1, by omega, by simp, H7⟩
            case measure => simp [intOf]; omega
        · obtain rfl : k = N := by omega
          have i2 : ¬ (k : Int) < (k : Int) := by omega
          rw [show rs.take k = rs by rw [← HN.out]; exact List.take_length] at h'
          have H8 := Lib.hid (And.intro h' g')
          clear h' g' hv7
          have c0 := heap_cell H8.out.1.blk 0
          simp at c0
          have o9 := H8.out.2.m.heap o6.out H5.out.2.2.1
          have d0 := heap_cell o9 0
          have d1 := heap_cell o9 1
          have d2 := heap_cell o9 2
          have d3 := heap_cell o9 3
          simp at d0 d1 d2 d3
          have hbz2 : ∀ nq, Below wr.heap.size wr (wr.drewN nq) := fun nq => ⟨rfl, rfl, rfl, Nat.le_refl _, fun _ _ => rfl⟩
          have hMm := fun nq => pMem_any (H8.out.1.later (hbz2 nq)).pages
          have hPu := fun nq => Put_any B.mb B.mw H1.ms p s a q t n (wr.drewN nq) (H8.out.1.later (hbz2 nq)).tabs.1 (H8.out.1.later (hbz2 nq)).pages.mem
          have hm9 : ∀ (nq : Nat) (w8 : World), (wr.drewN nq).grownBy w8 (some B.mw) → MemAt w8 B.mb B.mw (puL H1.ms p s a q t n) → ∃ S9, HeapSt B { { H1 with ow := owAll H.on H.ow rs r } with ms := puL H1.ms p s a q t n } O0 O1 w8 S9 ∧ Grows S' S9 wr w8 := fun nq w8 hg8 hm8 => by
            obtain ⟨S9, h9, g9⟩ := (H8.out.1.later (hbz2 nq)).memStep (puL_length _ _ _ _ _ _ _) hg8 hm8
            exact ⟨S9, h9, Grows.after_below (hbz2 nq) g9⟩
          have HM9 := Lib.hid hm9
          clear o9 hbz2 hm9
          go_wp2
          go_region_with (first | (refine (hMm _).mono ?_; rintro e w8 ⟨rfl, rfl⟩) | (refine (hPu _).mono ?_; rintro e w8 ⟨rfl, hg8, hm8⟩; have M9 := Lib.hid (HM9.out _ w8 hg8 hm8); clear hg8 hm8) | fail)
          all_goals
            obtain ⟨S9, h9, g9⟩ := M9.out
            have c2 := heap_cell h9.blk 2
            simp at c2
            have hst := sPut2_any h9.starts (p + 1)
            have y1 : IntKind.i64.wrap (p + 1) = p + 1 := IntWalk.i64_in _ (by omega)
            have y2 : IntKind.u64.wrap (p + 1) = p + 1 := by rw [IntKind.wrap_u64]; omega
            have H9 := Lib.hid (And.intro h9 g9)
            clear h9 g9 M9 hMm hPu d0 d1 d2 d3 c0 hAl
            go_wp2_with fail
            refine hst.mono ?_
            rintro e w10 ⟨rfl, hm10, ht10⟩
            clear hst
            obtain ⟨S10, h10, g10⟩ := H9.out.1.stStep hm10 ht10
            have H10 := Lib.hid (And.intro h10 (H9.out.2.trans g10))
            clear h10 g10 hm10 ht10
            go_wp2
            go_ret2
            refine ⟨by rw [e0.out, e00.out]; rfl, S10, ?_, (Grows.below HO.out.2).trans (Grows.after_below HB3.out (H5.out.2.1.trans (Grows.after_below H6.out.2.1 (H8.out.2.trans H10.out.2))))⟩
            rw [e01.out, e02.out]
            simpa only [e03.out.2.1, e03.out.2.2.1] using H10.out.1
    · have z2 : (arE H.gs A.pg A.us s != 0) = true := by simp; omega
      have eb : alH1 H r A s = H := alH1_bad ((rising_mapV _ _).1 HH.out.arenas.rising) HA.out.1 z
      have H5 := Lib.hid (And.intro h5 (And.intro g5 eb))
      have Z := Lib.hid z
      clear h5 g5 z eb
      obtain ⟨x, hx⟩ : ∃ x, arE H.gs A.pg A.us s = x := ⟨_, rfl⟩
      rw [hx] at z2 e0 Z
      simp only [hx]
      go_wp2
      go_ret2
      exact ⟨by rw [e0.out, e00.out, hx, if_neg Z.out]; rfl, S5, by rw [e01.out, hx, if_neg Z.out, ← H5.out.2.2]; exact H5.out.1, (Grows.below HO.out.2).trans (Grows.after_below HB3.out H5.out.2.1)⟩
end Go.Proofs.YtcenagpkfimkbaaGreatDoor
