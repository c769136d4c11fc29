/-
  The document's answer for layer 13: At, Load, Write, Store.
-/
import Derived.Test.YtekkplledcffkaaDoorSlot3
import Derived.RegionTactic
namespace Go.Proofs.YtekkplledcffkaaDoor
open Go Go.RowKit

theorem rAt_any (at_ rg k t n : Int) (arr : Bool) (ka : Option Addr) (ks : List Int) (kc : Nat) (va : Option Addr) (vs : List Int) (vc : Nat) (i : Int) (w : World) (hK : Reads .i64 w ka ks) (hl : ks.length ≤ 100) (h0 : 0 ≤ i) (h1 : i ≤ 18446744073709551615) :
    Calls Tryd.prog 7 #[.agg #[.int .i64 at_, .int .i64 rg, .bool arr, .int .i64 k, .int .i64 t, .int .i64 n, .slice ka ks.length kc, .slice va vs.length vc], .int .u64 i] w
      fun e w' => e = .returned (.tuple #[.int .i64 (atV at_ ks.length i), .int .i64 (kiV ks i), .int .i64 (atE ks.length i)]) ∧ Below w.heap.size w w' := by
  have hw : IntKind.u64.wrap (ks.length : Int) = ks.length := by rw [IntKind.wrap_u64]; omega
  by_cases hi : i < ks.length
  · obtain ⟨i, rfl⟩ := Int.eq_ofNat_of_zero_le h0
    have hi' : i < ks.length := by omega
    have e1 : Hid (atV at_ ks.length i = wrap64 (at_ + i)) := by show _ = _; simp [atV, atB, hi']
    have e2 : Hid (kiV ks i = (ks[i]?).getD 0) := by show _ = _; simp [kiV, atB, hi']
    have e3 : Hid (atE ks.length i = 0) := by show _ = _; simp [atE, atB, hi']
    obtain ⟨b, off, rfl, hc⟩ := hK.at_ i hi'
    have hc2 := cell_alloc_old (.cells #[.int .i64 at_, .int .i64 rg, .bool arr, .int .i64 k, .int .i64 t, .int .i64 n, .slice (some ⟨b, off, none⟩) ks.length kc, .slice va vs.length vc] 27) hc
    obtain ⟨x, hx⟩ : ∃ x, (ks[i]?).getD 0 = x := ⟨_, rfl⟩
    rw [hx] at hc2 e2
    have hwi : IntKind.i64.wrap (i : Int) = i := by rw [IntKind.wrap_i64]; omega
    clear hc hx hK
    go_enter Tryd.func7, Tryd.ntmps7
    go_wp2
    go_quiet (fail)
    go_wp2
    go_ret3
    refine ⟨?_, below_drewN ((Below.refl _ _).alloc (Nat.le_refl _) _) _⟩
    rw [e1.out, e2.out, e3.out]
    rfl
  · have e1 : Hid (atV at_ ks.length i = 0) := by show _ = _; simp [atV, atB, hi]
    have e2 : Hid (kiV ks i = 0) := by show _ = _; simp [kiV, atB, hi]
    have e3 : Hid (atE ks.length i = 8) := by show _ = _; simp [atE, atB, hi]
    clear hK
    go_enter Tryd.func7, Tryd.ntmps7
    go_wp2
    go_ret3
    refine ⟨?_, (Below.refl _ _).alloc (Nat.le_refl _) _⟩
    rw [e1.out, e2.out, e3.out]
    rfl

theorem rLoad_any (la : Option Addr) (xs : List Int) (lc : Nat) (at_ rg k t n : Int) (arr : Bool) (ka : Option Addr) (ks : List Int) (kc : Nat) (va : Option Addr) (vs : List Int) (vc : Nat) (i : Int) (w : World) (hX : Reads .u64 w la xs) (hm : xs.length ≤ 300) (hK : Reads .i64 w ka ks) (hl : ks.length ≤ 100) (h0 : 0 ≤ i) (h1 : i ≤ 18446744073709551615) :
    Calls Tryd.prog 9 #[.slice la xs.length lc, .agg #[.int .i64 at_, .int .i64 rg, .bool arr, .int .i64 k, .int .i64 t, .int .i64 n, .slice ka ks.length kc, .slice va vs.length vc], .int .u64 i] w
      fun e w' => e = .returned (.tuple #[.int .u64 (ldV xs at_ ks.length i), .int .i64 (ldE xs.length at_ ks.length i)]) ∧ Below w.heap.size w w' := by
  have hbo : Below w.heap.size w (w.alloc (.cells #[.int .i64 at_, .int .i64 rg, .bool arr, .int .i64 k, .int .i64 t, .int .i64 n, .slice ka ks.length kc, .slice va vs.length vc] 27)) := (Below.refl _ _).alloc (Nat.le_refl _) _
  have hA := rAt_any at_ rg k t n arr ka ks kc va vs vc i _ (hK.below hbo) hl h0 h1
  have hX1 := hX.below hbo
  generalize hW : w.alloc (.cells #[.int .i64 at_, .int .i64 rg, .bool arr, .int .i64 k, .int .i64 t, .int .i64 n, .slice ka ks.length kc, .slice va vs.length vc] 27) = W at hbo hA hX1
  have HW := Lib.hid hW
  clear hW hK hX
  by_cases hi : atB ks.length i = true
  · have e1 : Hid (ldV xs at_ ks.length i = rdV xs (wrap64 (at_ + i))) := by show _ = _; rw [ldV, if_pos hi]
    have e2 : Hid (ldE xs.length at_ ks.length i = wrE xs.length (wrap64 (at_ + i))) := by show _ = _; rw [ldE, if_pos hi]
    have e3 : atE ks.length i = 0 := by rw [atE, if_pos hi]
    have e4 : atV at_ ks.length i = wrap64 (at_ + i) := by rw [atV, if_pos hi]
    obtain ⟨y, hy⟩ : ∃ y, kiV ks i = y := ⟨_, rfl⟩
    obtain ⟨z, hz⟩ : ∃ z, wrap64 (at_ + i) = z := ⟨_, rfl⟩
    rw [e3, e4, hy, hz] at hA
    rw [hz] at e1 e2
    rw [e1.out, e2.out]
    clear hi e1 e2 e3 e4 hy hz
    rcases (show (0 ≤ z ∧ z < xs.length) ∨ z < 0 ∨ xs.length ≤ z by omega) with ⟨j0, j1⟩ | j0 | j0
    · obtain ⟨z, rfl⟩ := Int.eq_ofNat_of_zero_le j0
      have hz : z < xs.length := by omega
      have e1 : Hid (rdV xs z = xs.getD z 0) := by show _ = _; simp [rdV, inB, hz]
      have e2 : Hid (wrE xs.length z = 0) := by show _ = _; simp [wrE, inB, hz]
      obtain ⟨b, off, rfl, hc⟩ := hX1.at_ z hz
      go_enter Tryd.func9, Tryd.ntmps9
      go_wp2_with fail
      rw [HW.out]
      refine hA.mono ?_
      rintro e w1 ⟨rfl, hb1⟩
      have hc2 := (hb1.cell (cell_lt hc)).trans hc
      clear hA hc hX1
      go_wp2
      go_ret2
      rw [e1.out, e2.out]
      exact ⟨by simp [hz], hbo.trans (hb1.mono hbo.size)⟩
    all_goals
      have e1 : Hid (rdV xs z = 0) := by show _ = _; simp [rdV, inB]; omega
      have e2 : Hid (wrE xs.length z = 8) := by show _ = _; simp [wrE, inB]; omega
      go_enter Tryd.func9, Tryd.ntmps9
      go_wp2_with fail
      rw [HW.out]
      refine hA.mono ?_
      rintro e w1 ⟨rfl, hb1⟩
      clear hA hX1
      go_wp2
      go_ret2
      rw [e1.out, e2.out]
      exact ⟨rfl, hbo.trans (hb1.mono hbo.size)⟩
  · have e1 : Hid (ldV xs at_ ks.length i = 0) := by show _ = _; rw [ldV, if_neg hi]
    have e2 : Hid (ldE xs.length at_ ks.length i = 8) := by show _ = _; rw [ldE, if_neg hi]
    have e3 : atE ks.length i = 8 := by rw [atE, if_neg hi]
    obtain ⟨y, hy⟩ : ∃ y, kiV ks i = y := ⟨_, rfl⟩
    obtain ⟨z, hz⟩ : ∃ z, atV at_ ks.length i = z := ⟨_, rfl⟩
    rw [e3, hy, hz] at hA
    rw [e1.out, e2.out]
    clear hi e1 e2 e3 hy hz
    go_enter Tryd.func9, Tryd.ntmps9
    go_wp2_with fail
    rw [HW.out]
    refine hA.mono ?_
    rintro e w1 ⟨rfl, hb1⟩
    clear hA hX1
    go_wp2
    go_ret2
    exact ⟨rfl, hbo.trans (hb1.mono hbo.size)⟩

/-- A row of words comes back (the one that was handed in, or a new one), and an error's number. -/
def RetRow (xs : List Int) (E : Int) (a0 : Option Addr) (w : World) (e : Ending) (w' : World) : Prop :=
  ∃ a cap, e = .returned (.tuple #[.slice a xs.length cap, .int .i64 E]) ∧ Below w.heap.size w w' ∧ Reads .u64 w' a xs ∧ (a = a0 ∨ ∀ q, a = some q → w.heap.size ≤ q.block)
theorem Reads.lt_or {k : IntKind} {w : World} {a : Option Addr} {xs : List Int} (h : Reads k w a xs) : xs = [] ∨ ∀ q, a = some q → q.block < w.heap.size := by
  rcases h with h | ⟨b, off, rfl, hc⟩
  · exact .inl h
  · rcases Nat.eq_zero_or_pos xs.length with hz | hz
    · exact .inl (List.length_eq_zero_iff.1 hz)
    · exact .inr (fun q e => by cases e; exact cell_lt (hc 0 hz))
theorem wpList_append_reads {P : Program} {w : World} {ops : Array Oper} {rest : List Oper} {o : Oper} {a : Act} {Q : Exit → Act → World → Prop} (hgd : o.guard = none) (s x : Operand) (t : TypeId)
    (ho : o.op = .call { callee := .builtin .append, args := #[s, x], argTypes := #[t, t] })
    (base : Nat) (e : TypeId) (i : TypeInfo) (z : Value) (bytes : Nat) (ht : P.underlying t = some (.slice e)) (hi : P.info? e = some i) (hz : i.zero = some z)
    (hsize : i.size = 1) (hby : i.bytes = bytes) (hzs : z.cells.size = 1)
    (v : Value) (n : Nat) (ys : List Value) (hs : a.eval s = v) (hown : w.ownsRow base e 1 v n ys) {k : IntKind} (xa : Option Addr) (xs : List Int) (c : Nat) (hx : a.eval x = .slice xa xs.length c) (hR : Reads k w xa xs) (hnil : xa = none → xs = [] ∧ c = 0)
    (h63 : n + xs.length ≤ maxLen) (hbytes : (n + xs.length) * bytes ≤ 140737488355328) (hbase : base ≤ w.heap.size)
    (h : ∀ v' w', w'.ownsRow base e 1 v' (n + xs.length) (ys ++ xs.map (Value.int k)) → w.grownBy w' v.ownBlock → (v' = .slice none 0 0 ↔ v = .slice none 0 0 ∧ xs.length = 0) → wpList P ops Q rest (a.put o.dst v') w') : wpList P ops Q (o :: rest) a w := by
  rcases xa with _ | ad
  · obtain ⟨rfl, rfl⟩ := hnil rfl
    exact wpList_append_own_none hgd s x t ho base e i 1 ht hi v n ys hs hown hx (h v w (by simpa using hown) (grown_refl _ _) (by simp))
  · exact wpList_append_own w hgd s x t ho base e i z 1 bytes ht hi hz hsize hby hzs (by decide) v n ys hs hown ad xs.length c (xs.map (Value.int k)) hx (by simp) (cells_of_reads hR) (ints_oneCell _ _) h63 hbytes hbase h
theorem rWriteR_any (a : Option Addr) (cap : Nat) (xs : List Int) (i v : Int) (w : World) (hR : Reads .u64 w a xs) (hn : xs.length ≤ 300) :
    Calls Tryd.prog 23 #[.slice a xs.length cap, .int .i64 i, .int .u64 v] w (RetRow (wrL xs i v) (wrE xs.length i) a w) := by
  rcases (show (0 ≤ i ∧ i < xs.length) ∨ i < 0 ∨ xs.length ≤ i by omega) with ⟨h0, h1⟩ | h0 | h0
  · obtain ⟨i, rfl⟩ := Int.eq_ofNat_of_zero_le h0
    have hi : i < xs.length := by omega
    obtain ⟨b, off, rfl, hc⟩ := hR.at_ i hi
    have e1 : Hid (wrL xs i v = xs.set i v) := by show _ = _; simp [wrL, inB, hi]
    have e2 : Hid (wrE xs.length i = 0) := by show _ = _; simp [wrE, inB, hi]
    obtain ⟨i0, hi0, hz0, hz1, hz2⟩ := info_parts info_u64
    have hcs := Lib.hid (cells_of_reads hR)
    clear hc
    go_enter Tryd.func23, Tryd.ntmps23
    go_wp2_with (at_builtin; refine wpList_append_own _ rfl _ _ 22 rfl w.heap.size 28 i0 (.int .u64 0) 1 8 Tryd.underlying22 hi0 hz0 hz1 hz2 rfl (by decide) _ _ _ rfl (World.ownsRow_made w #[] 0 (Nat.le_refl _) (by decide) rfl) ⟨b, off, none⟩ xs.length cap (xs.map (Value.int .u64)) rfl ?c0 ?c1 ?c2 ?c3 ?c4 ?c5 ?_)
    case c0 => simp
    case c1 => exact fun j u hj => (cell_alloc_old _ (hcs.out j u hj))
    case c2 => exact ints_oneCell _ _
    case c3 => unfold maxLen; omega
    case c4 => omega
    case c5 => simp
    · intro v' w1 hown' hgrow _
      have hB1 := ((Below.refl w.heap.size w).alloc (Nat.le_refl _) (.cells #[] 28)).grown hgrow (by simp) (fun k e => by simp [Value.ownBlock] at e; omega)
      have ho : w1.ownsRow w.heap.size 28 1 v' xs.length (xs.map (Value.int .u64)) := by simpa using hown'
      clear hown' hgrow
      obtain ⟨g, cap2, cur, rfl, hBg, hg⟩ := own_shape ho (by omega)
      have hcl : w1.cell? ⟨g, i, none⟩ = some (.int .u64 (xs[i]'hi)) := (ho.cellAt (g := g) i (by omega)).trans (by simp [hi])
      have hfr := ho.frozenAt (g := g) i
      have i1 : (i : Int) < (xs.length : Int) := by omega
      have hst := Lib.hid (own_set ho i v hi)
      clear ho hg hcs hR
      go_wp2
      go_ret2
      rw [e1.out, e2.out]
      obtain ⟨a, cap3, hv, hrd, hbl, _⟩ := owns_reads (show (w1.setCell ⟨g, i, none⟩ (.int .u64 v)).ownsRow w.heap.size 28 1 (.slice (some ⟨g, 0, none⟩) xs.length cap2) (xs.set i v).length ((xs.set i v).map (Value.int .u64)) by simpa using hst.out)
      simp at hv
      obtain ⟨rfl, rfl⟩ := hv
      exact ⟨some ⟨g, 0, none⟩, cap2, by simp, hB1.setCell hBg _, hrd, .inr fun q hq => (hbl q hq).1⟩
  all_goals
    have e1 : Hid (wrL xs i v = xs) := by show _ = _; simp [wrL, inB]; omega
    have e2 : Hid (wrE xs.length i = 8) := by show _ = _; simp [wrE, inB]; omega
    go_enter Tryd.func23, Tryd.ntmps23
    go_wp2
    go_ret2
    rw [e1.out, e2.out]
    exact ⟨_, _, rfl, Below.refl _ _, hR, .inl rfl⟩

/-- A row of words, an object, an error's number. -/
def RStoreRet (E at_ rg k t n : Int) (arr : Bool) (ks vs : List Int) (i v : Int) (ys : List Int) (w : World) (e : Ending) (w' : World) : Prop :=
  ∃ (x1 x2 x4 x5 x6 : Int) (x3 : Bool) (y1 y2 : Option Addr) (l1 l2 c1 c2 : Nat) (a : Option Addr) (c : Nat), e = .returned (.tuple #[.slice a ys.length c, .agg #[.int .i64 x1, .int .i64 x2, .bool x3, .int .i64 x4, .int .i64 x5, .int .i64 x6, .slice y1 l1 c1, .slice y2 l2 c2], .int .i64 E]) ∧
    Below w.heap.size w w' ∧ Reads .u64 w' a ys ∧ StoreObj E at_ rg k t n arr ks vs i v x1 x2 x4 x5 x6 x3 y1 y2 l1 l2 w'

set_option maxRecDepth 100000 in
set_option maxHeartbeats 4000000 in
theorem rStore_any (la : Option Addr) (xs : List Int) (lc : Nat) (at_ rg k t n : Int) (arr : Bool) (ka : Option Addr) (ks : List Int) (kc : Nat) (va : Option Addr) (vs : List Int) (vc : Nat) (i v : Int) (w : World) (hX : Reads .u64 w la xs) (hm : xs.length ≤ 300) (hK : Reads .i64 w ka ks) (hl : ks.length ≤ 100) (hV : Reads .u64 w va vs) (hvl : vs.length ≤ 100) (hv0 : va = none → vs = [] ∧ vc = 0) (h0 : 0 ≤ i) (h1 : i ≤ 18446744073709551615) :
    Calls Tryd.prog 11 #[.slice la xs.length lc, .agg #[.int .i64 at_, .int .i64 rg, .bool arr, .int .i64 k, .int .i64 t, .int .i64 n, .slice ka ks.length kc, .slice va vs.length vc], .int .u64 i, .int .u64 v] w
      (RStoreRet (stE xs.length at_ ks.length i) at_ rg k t n arr ks vs i v (stL xs at_ ks.length i v) w) := by
  obtain ⟨W, hW⟩ : ∃ W, W = (w.alloc (.cells #[.int .i64 at_, .int .i64 rg, .bool arr, .int .i64 k, .int .i64 t, .int .i64 n, .slice ka ks.length kc, .slice va vs.length vc] 27)).alloc (.cells #[.int .i64 0, .int .i64 0, .bool false, .int .i64 0, .int .i64 0, .int .i64 0, .slice none 0 0, .slice none 0 0] 27) := ⟨_, rfl⟩
  have hbo : Below w.heap.size w W := by rw [hW]; exact ((Below.refl _ _).alloc (Nat.le_refl _) _).alloc (by simp) _
  have hA := rAt_any at_ rg k t n arr ka ks kc va vs vc i W (hK.below hbo) hl h0 h1
  have hO1 : W.heap[w.heap.size]? = some (.cells #[.int .i64 at_, .int .i64 rg, .bool arr, .int .i64 k, .int .i64 t, .int .i64 n, .slice ka ks.length kc, .slice va vs.length vc] 27 (0, 0)) := by
    rw [hW]; exact heap_alloc_lt (heap_alloc_eq _ _) _
  have hO2 : W.heap[w.heap.size + 1]? = some (.cells #[.int .i64 0, .int .i64 0, .bool false, .int .i64 0, .int .i64 0, .int .i64 0, .slice none 0 0, .slice none 0 0] 27 (0, 0)) := by
    rw [hW]
    have := heap_alloc_eq (w.alloc (.cells #[.int .i64 at_, .int .i64 rg, .bool arr, .int .i64 k, .int .i64 t, .int .i64 n, .slice ka ks.length kc, .slice va vs.length vc] 27)) (.cells #[.int .i64 0, .int .i64 0, .bool false, .int .i64 0, .int .i64 0, .int .i64 0, .slice none 0 0, .slice none 0 0] 27)
    rw [show (w.alloc (.cells #[.int .i64 at_, .int .i64 rg, .bool arr, .int .i64 k, .int .i64 t, .int .i64 n, .slice ka ks.length kc, .slice va vs.length vc] 27)).heap.size = w.heap.size + 1 by simp] at this
    exact this
  have HW := Lib.hid hW
  clear hW
  have HXB := Lib.hid hX.lt_or
  have HKB := Lib.hid hK.lt_or
  have hXW := hX.below hbo
  have hKW := hK.below hbo
  have hVW := hV.below hbo
  clear hX hK hV
  by_cases hi : atB ks.length i = true
  · have e3 : atE ks.length i = 0 := by rw [atE, if_pos hi]
    have e4 : atV at_ ks.length i = wrap64 (at_ + i) := by rw [atV, if_pos hi]
    have e1 : Hid (stE xs.length at_ ks.length i = wrE xs.length (wrap64 (at_ + i))) := by show _ = _; rw [stE, if_pos hi]
    have e2 : Hid (stL xs at_ ks.length i v = wrL xs (wrap64 (at_ + i)) v) := by show _ = _; rw [stL, if_pos hi]
    obtain ⟨y, hy⟩ : ∃ y, kiV ks i = y := ⟨_, rfl⟩
    obtain ⟨z, hz⟩ : ∃ z, wrap64 (at_ + i) = z := ⟨_, rfl⟩
    rw [e3, e4, hy, hz] at hA
    rw [hz] at e1 e2
    have hip : i < ks.length := by simpa [atB] using hi
    clear hi e3 e4 hy hz
    have H0 := Lib.hid (And.intro hXW (And.intro hKW (And.intro hVW (And.intro hO1 (And.intro hO2 hbo)))))
    clear hXW hKW hVW hO1 hO2 hbo
    by_cases hz : inB xs.length z = true
    · have e5 : wrE xs.length z = 0 := by rw [wrE, if_pos hz]
      obtain ⟨ys, e6⟩ : ∃ ys, wrL xs z v = ys := ⟨_, rfl⟩
      rw [e6] at e2
      rw [e5] at e1
      clear hz
      have E5 := Lib.hid (And.intro e5 e6)
      clear e5 e6
      obtain ⟨i0, hi0, hz0, hz1, hz2⟩ := info_parts info_u64
      go_enter Tryd.func11, Tryd.ntmps11
      go_wp2_with fail
      rw [← HW.out]
      refine hA.mono ?_
      rintro e w1 ⟨rfl, hb1⟩
      have H1 := Lib.hid (And.intro (H0.out.1.below hb1) (And.intro (H0.out.2.1.below hb1) (And.intro (H0.out.2.2.1.below hb1) (And.intro (heap_below hb1 H0.out.2.2.2.1 (heap_lt H0.out.2.2.2.1)) (And.intro (heap_below hb1 H0.out.2.2.2.2.1 (heap_lt H0.out.2.2.2.2.1)) (H0.out.2.2.2.2.2.trans (hb1.mono H0.out.2.2.2.2.2.size)))))))
      clear hA hb1
      go_wp2_with fail
      refine (rWriteR_any la lc xs z v _ H1.out.1 hm).mono ?_
      rw [E5.out.1, E5.out.2]
      rintro e w2 ⟨a2, c2, rfl, hb2, hR2, hpv⟩
      have hlen2 : ys.length = xs.length := by rw [← E5.out.2, wrL_length]
      have hne : Hid (ys = [] ∨ ∀ q, a2 = some q → q.block ≠ w.heap.size ∧ q.block ≠ w.heap.size + 1 ∧ q.block < w2.heap.size) := by
        refine Lib.hid (hR2.lt_or.elim .inl fun hl2 => ?_)
        rcases HXB.out with hx | hx
        · subst hx
          exact .inl (List.length_eq_zero_iff.1 (by rw [hlen2]; rfl))
        · refine .inr (fun q hq2 => ?_)
          have h3 := hl2 q hq2
          have := heap_lt H1.out.2.2.2.2.1
          rcases hpv with hpv | hpv
          · have := hx q (hpv ▸ hq2); omega
          · have := hpv q hq2; omega
      have H2 := Lib.hid (And.intro hR2 (And.intro (H1.out.2.1.below hb2) (And.intro (H1.out.2.2.1.below hb2) (And.intro (heap_below hb2 H1.out.2.2.2.1 (heap_lt H1.out.2.2.2.1)) (And.intro (heap_below hb2 H1.out.2.2.2.2.1 (heap_lt H1.out.2.2.2.2.1)) (H1.out.2.2.2.2.2.trans (hb2.mono H1.out.2.2.2.2.2.size)))))))
      clear hR2 hb2 hpv hlen2
      have hcl : w2.cell? ⟨w.heap.size, 7, none⟩ = some (.slice va vs.length vc) := by rw [heap_cell H2.out.2.2.2.1]; rfl
      have hcl2 : (w2.alloc (.cells #[] 28)).cell? ⟨w.heap.size, 7, none⟩ = some (.slice va vs.length vc) := cell_alloc_old _ hcl
      have hls := heap_lt H2.out.2.2.2.2.1
      have hls2 : w.heap.size < w2.heap.size := by omega
      go_wp2_with (at_builtin; refine wpList_append_reads rfl _ _ 22 rfl w2.heap.size 28 i0 (.int .u64 0) 8 Tryd.underlying22 hi0 hz0 hz1 hz2 rfl _ _ _ rfl (World.ownsRow_made w2 #[] 0 (Nat.le_refl _) (by decide) rfl) va vs vc rfl (H2.out.2.2.1.below ((Below.refl _ _).alloc (Nat.le_refl _) _)) hv0 (by unfold maxLen; omega) (by omega) (by simp) ?_)
      intro v' w3 hown hgrow _
      obtain ⟨h3B, h3O, h3R, h3row⟩ : Below w2.heap.size w2 w3 ∧ w3.heap[w.heap.size]? = some (.cells #[.int .i64 at_, .int .i64 rg, .bool arr, .int .i64 k, .int .i64 t, .int .i64 n, .slice ka ks.length kc, .slice va vs.length vc] 27 (0, 0)) ∧ w3.heap[w.heap.size + 1]? = some (.cells #[.int .i64 0, .int .i64 0, .bool false, .int .i64 0, .int .i64 0, .int .i64 0, .slice none 0 0, .slice none 0 0] 27 (0, 0)) ∧ w3.ownsRow w2.heap.size 28 1 v' vs.length (vs.map (Value.int .u64)) := by
        have hb : Below w2.heap.size w2 w3 := ((Below.refl w2.heap.size w2).alloc (Nat.le_refl _) (.cells #[] 28)).grown hgrow (by simp) (fun k e => by simp [Value.ownBlock] at e; omega)
        exact ⟨hb, heap_below hb H2.out.2.2.2.1 (by omega), heap_below hb H2.out.2.2.2.2.1 hls, by simpa using hown⟩
      clear hown hgrow hcl hcl2
      obtain ⟨a3, c3, rfl, _, _, _⟩ := owns_slice h3row
      have H3 := Lib.hid (And.intro h3B (And.intro h3O (And.intro h3R h3row)))
      clear h3B h3O h3R h3row
      have o0 := heap_cell H3.out.2.1 0
      have o1 := heap_cell H3.out.2.1 1
      have o2 := heap_cell H3.out.2.1 2
      have o3 := heap_cell H3.out.2.1 3
      have o4 := heap_cell H3.out.2.1 4
      have o5 := heap_cell H3.out.2.1 5
      have o6 := heap_cell H3.out.2.1 6
      have o7 := heap_cell H3.out.2.1 7
      simp at o0 o1 o2 o3 o4 o5 o6 o7
      have r0 := heap_cell H3.out.2.2.1 0
      have r1 := heap_cell H3.out.2.2.1 1
      have r2 := heap_cell H3.out.2.2.1 2
      have r3 := heap_cell H3.out.2.2.1 3
      have r4 := heap_cell H3.out.2.2.1 4
      have r5 := heap_cell H3.out.2.2.1 5
      have r6 := heap_cell H3.out.2.2.1 6
      have r7 := heap_cell H3.out.2.2.1 7
      simp at r0 r1 r2 r3 r4 r5 r6 r7
      have f0 := heap_free H3.out.2.2.1 0
      have f1 := heap_free H3.out.2.2.1 1
      have f2 := heap_free H3.out.2.2.1 2
      have f3 := heap_free H3.out.2.2.1 3
      have f4 := heap_free H3.out.2.2.1 4
      have f5 := heap_free H3.out.2.2.1 5
      have f6 := heap_free H3.out.2.2.1 6
      have f7 := heap_free H3.out.2.2.1 7
      have wf7 := heap_free H3.out.2.1 7
      have n1 : w.heap.size ≠ w.heap.size + 1 := by omega
      by_cases hiv : i < vs.length
      · obtain ⟨i, rfl⟩ := Int.eq_ofNat_of_zero_le h0
        obtain ⟨gV, cV, cur, hsv, hBg, hgV⟩ := own_shape H3.out.2.2.2 (by omega)
        simp only [Value.slice.injEq] at hsv
        obtain ⟨rfl, _, rfl⟩ := hsv
        have l1 := H3.out.2.2.2.cellAt (g := gV) i (by omega)
        have l2 := H3.out.2.2.2.frozenAt (g := gV) i
        rw [List.getElem?_map, List.getElem?_eq_getElem (by omega), Option.map_some] at l1
        have i1 : (i : Int) < (vs.length : Int) := by omega
        have n2 : gV ≠ w.heap.size := by omega
        have n3 : gV ≠ w.heap.size + 1 := by omega
        have n4 : w.heap.size ≠ gV := by omega
        have n5 : w.heap.size + 1 ≠ gV := by omega
        clear hgV
        have hRA : ((w3.setCell ⟨w.heap.size, 7, none⟩ (.slice (some ⟨gV, 0, none⟩) vs.length c3)).setCell ⟨gV, i, none⟩ (.int .u64 v)).heap[w.heap.size + 1]? = some (.cells #[.int .i64 0, .int .i64 0, .bool false, .int .i64 0, .int .i64 0, .int .i64 0, .slice none 0 0, .slice none 0 0] 27 (0, 0)) := by
          rw [heap_set_ne (by omega), heap_set_ne (by omega)]
          exact H3.out.2.2.1
        have h8 := set8_at hRA (.int .i64 at_) (.int .i64 rg) (.bool arr) (.int .i64 k) (.int .i64 t) (.int .i64 n) (.slice ka ks.length kc) (.slice (some ⟨gV, 0, none⟩) vs.length c3)
        have HRA := Lib.hid h8
        clear hRA h8
        go_wp2
        go_region
        go_wp2
        change bodyPost _ _ _ _ _ ((set8 ((w3.setCell ⟨w.heap.size, 7, none⟩ (.slice (some ⟨gV, 0, none⟩) vs.length c3)).setCell ⟨gV, i, none⟩ (.int .u64 v)) (w.heap.size + 1) (.int .i64 at_) (.int .i64 rg) (.bool arr) (.int .i64 k) (.int .i64 t) (.int .i64 n) (.slice ka ks.length kc) (.slice (some ⟨gV, 0, none⟩) vs.length c3)).drew)
        have h8 := HRA.out
        generalize set8 ((w3.setCell ⟨w.heap.size, 7, none⟩ (.slice (some ⟨gV, 0, none⟩) vs.length c3)).setCell ⟨gV, i, none⟩ (.int .u64 v)) (w.heap.size + 1) (.int .i64 at_) (.int .i64 rg) (.bool arr) (.int .i64 k) (.int .i64 t) (.int .i64 n) (.slice ka ks.length kc) (.slice (some ⟨gV, 0, none⟩) vs.length c3) = W8 at h8 ⊢
        obtain ⟨hO8, hg8⟩ := h8
        have mv : Moved (fun q => q = w.heap.size ∨ q = gV ∨ q = w.heap.size + 1) w2 W8.drew :=
          ((((Moved.of_below H3.out.1 (fun q => q = w.heap.size ∨ q = gV ∨ q = w.heap.size + 1)).trans (Moved.of_set (S := (fun q => q = w.heap.size ∨ q = gV ∨ q = w.heap.size + 1)) _ _ _ _ (.inl rfl)) (fun _ h => .inl h)).trans (Moved.of_set (S := (fun q => q = w.heap.size ∨ q = gV ∨ q = w.heap.size + 1)) _ gV i _ (.inr (.inl rfl))) (fun _ h => .inl h)).trans (Moved.of_grown hg8 (S := (fun q => q = w.heap.size ∨ q = gV ∨ q = w.heap.size + 1)) (fun k e => by cases e; exact .inr (.inr rfl))) (fun _ h => .inl h)).trans (Moved.drew (fun q => q = w.heap.size ∨ q = gV ∨ q = w.heap.size + 1) _) (fun _ h => .inl h)
        have hv9 : Reads .u64 W8.drew (some ⟨gV, 0, none⟩) (vs.set i v) := by
          have r1 := (Moved.of_set (S := fun q => q = w.heap.size) w3 w.heap.size 7 (.slice (some ⟨gV, 0, none⟩) vs.length c3) rfl).owns H3.out.2.2.2 (fun q hq e => by have := (H3.out.2.2.2.lt q hq).1; omega)
          have r2 := own_set r1 i v (by omega)
          have r3 := ((Moved.of_grown hg8 (S := fun q => q = w.heap.size + 1) (fun k e => by cases e; rfl)).trans (Moved.drew (fun q => q = w.heap.size + 1) _) (fun _ h => .inl h)).owns r2 (fun q hq e => by have := (r2.lt q hq).1; omega)
          rw [show vs.length = (vs.set i v).length by simp] at r3
          obtain ⟨a9, c9, he9, hr9, _⟩ := owns_reads r3
          simp only [Value.slice.injEq] at he9
          rw [he9.1]
          exact hr9
        have hO9 : W8.drew.heap[w.heap.size + 1]? = _ := hO8
        generalize W8.drew = w8 at mv hv9 hO9 ⊢
        clear o0 o1 o2 o3 o4 o5 o6 o7 r0 r1 r2 r3 r4 r5 r6 r7 f0 f1 f2 f3 f4 f5 f6 f7 wf7 hO8 hg8
        have q0 := heap_cell hO9 0
        have q1 := heap_cell hO9 1
        have q2 := heap_cell hO9 2
        have q3 := heap_cell hO9 3
        have q4 := heap_cell hO9 4
        have q5 := heap_cell hO9 5
        have q6 := heap_cell hO9 6
        have q7 := heap_cell hO9 7
        simp at q0 q1 q2 q3 q4 q5 q6 q7
        refine bodyPost_ret (v := .tuple #[.slice a2 ys.length c2, .agg #[.int .i64 at_, .int .i64 rg, .bool arr, .int .i64 k, .int .i64 t, .int .i64 n, .slice ka ks.length kc, (.slice (some ⟨gV, 0, none⟩) vs.length c3)], .int .i64 0]) (by simp [results, Tryd.results11, go_sem, q0, q1, q2, q3, q4, q5, q6, q7]) rfl ⟨_, _, _, _, _, _, _, _, _, _, _, _, _, _, by rw [e1.out, e2.out], ?_, ?_, ?_⟩
        · exact mv.below H2.out.2.2.2.2.2 H2.out.2.2.2.2.2.size (fun q hq => by omega)
        · rw [e2.out]
          rcases hne.out with h | h
          · exact .inl h
          · exact mv.reads H2.out.1 (fun q hq => by have := h q hq; omega)
        · refine .inl ⟨e1.out, rfl, rfl, rfl, rfl, rfl, rfl, rfl, ?_, rfl, ?_⟩
          · rcases HKB.out with h | h
            · exact .inl h
            · exact mv.reads H2.out.2.1 (fun q hq => by have := h q hq; omega)
          · unfold vset
            rw [if_pos (by omega), Int.toNat_natCast]
            exact hv9
      · have hRA : (w3.setCell ⟨w.heap.size, 7, none⟩ (.slice a3 vs.length c3)).heap[w.heap.size + 1]? = some (.cells #[.int .i64 0, .int .i64 0, .bool false, .int .i64 0, .int .i64 0, .int .i64 0, .slice none 0 0, .slice none 0 0] 27 (0, 0)) := by
          rw [heap_set_ne (by omega)]
          exact H3.out.2.2.1
        have h8 := set8_at hRA (.int .i64 at_) (.int .i64 rg) (.bool arr) (.int .i64 k) (.int .i64 t) (.int .i64 n) (.slice ka ks.length kc) (.slice a3 vs.length c3)
        have HRA := Lib.hid h8
        clear hRA h8
        go_wp2
        go_region
        go_wp2
        change bodyPost _ _ _ _ _ ((set8 (w3.setCell ⟨w.heap.size, 7, none⟩ (.slice a3 vs.length c3)) (w.heap.size + 1) (.int .i64 at_) (.int .i64 rg) (.bool arr) (.int .i64 k) (.int .i64 t) (.int .i64 n) (.slice ka ks.length kc) (.slice a3 vs.length c3)).drew)
        have h8 := HRA.out
        generalize set8 (w3.setCell ⟨w.heap.size, 7, none⟩ (.slice a3 vs.length c3)) (w.heap.size + 1) (.int .i64 at_) (.int .i64 rg) (.bool arr) (.int .i64 k) (.int .i64 t) (.int .i64 n) (.slice ka ks.length kc) (.slice a3 vs.length c3) = W8 at h8 ⊢
        obtain ⟨hO8, hg8⟩ := h8
        have mv : Moved (fun q => q = w.heap.size ∨ q = w.heap.size + 1) w2 W8.drew :=
          (((Moved.of_below H3.out.1 (fun q => q = w.heap.size ∨ q = w.heap.size + 1)).trans (Moved.of_set (S := (fun q => q = w.heap.size ∨ q = w.heap.size + 1)) _ _ _ _ (.inl rfl)) (fun _ h => .inl h)).trans (Moved.of_grown hg8 (S := (fun q => q = w.heap.size ∨ q = w.heap.size + 1)) (fun k e => by cases e; exact .inr rfl)) (fun _ h => .inl h)).trans (Moved.drew (fun q => q = w.heap.size ∨ q = w.heap.size + 1) _) (fun _ h => .inl h)
        have hv9 : Reads .u64 W8.drew a3 (vs) := by
          have r1 := (Moved.of_set (S := fun q => q = w.heap.size) w3 w.heap.size 7 (.slice a3 vs.length c3) rfl).owns H3.out.2.2.2 (fun q hq e => by have := (H3.out.2.2.2.lt q hq).1; omega)
          have r3 := ((Moved.of_grown hg8 (S := fun q => q = w.heap.size + 1) (fun k e => by cases e; rfl)).trans (Moved.drew (fun q => q = w.heap.size + 1) _) (fun _ h => .inl h)).owns r1 (fun q hq e => by have := (r1.lt q hq).1; omega)
          obtain ⟨a9, c9, he9, hr9, _⟩ := owns_reads r3
          simp only [Value.slice.injEq] at he9
          rw [he9.1]
          exact hr9
        have hO9 : W8.drew.heap[w.heap.size + 1]? = _ := hO8
        generalize W8.drew = w8 at mv hv9 hO9 ⊢
        clear o0 o1 o2 o3 o4 o5 o6 o7 r0 r1 r2 r3 r4 r5 r6 r7 f0 f1 f2 f3 f4 f5 f6 f7 wf7 hO8 hg8
        have q0 := heap_cell hO9 0
        have q1 := heap_cell hO9 1
        have q2 := heap_cell hO9 2
        have q3 := heap_cell hO9 3
        have q4 := heap_cell hO9 4
        have q5 := heap_cell hO9 5
        have q6 := heap_cell hO9 6
        have q7 := heap_cell hO9 7
        simp at q0 q1 q2 q3 q4 q5 q6 q7
        refine bodyPost_ret (v := .tuple #[.slice a2 ys.length c2, .agg #[.int .i64 at_, .int .i64 rg, .bool arr, .int .i64 k, .int .i64 t, .int .i64 n, .slice ka ks.length kc, (.slice a3 vs.length c3)], .int .i64 0]) (by simp [results, Tryd.results11, go_sem, q0, q1, q2, q3, q4, q5, q6, q7]) rfl ⟨_, _, _, _, _, _, _, _, _, _, _, _, _, _, by rw [e1.out, e2.out], ?_, ?_, ?_⟩
        · exact mv.below H2.out.2.2.2.2.2 H2.out.2.2.2.2.2.size (fun q hq => by omega)
        · rw [e2.out]
          rcases hne.out with h | h
          · exact .inl h
          · exact mv.reads H2.out.1 (fun q hq => by have := h q hq; omega)
        · refine .inl ⟨e1.out, rfl, rfl, rfl, rfl, rfl, rfl, rfl, ?_, rfl, ?_⟩
          · rcases HKB.out with h | h
            · exact .inl h
            · exact mv.reads H2.out.2.1 (fun q hq => by have := h q hq; omega)
          · unfold vset
            rw [if_neg (by omega)]
            exact hv9
    · have e5 : wrE xs.length z = 8 := by rw [wrE, if_neg hz]
      have e6 : wrL xs z v = xs := by rw [wrL, if_neg hz]
      rw [e6] at e2
      rw [e5] at e1
      clear hz
      have E5 := Lib.hid (And.intro e5 e6)
      clear e5 e6
      go_enter Tryd.func11, Tryd.ntmps11
      go_wp2_with fail
      rw [← HW.out]
      refine hA.mono ?_
      rintro e w1 ⟨rfl, hb1⟩
      have H1 := Lib.hid (And.intro (H0.out.1.below hb1) (And.intro (heap_below hb1 H0.out.2.2.2.2.1 (heap_lt H0.out.2.2.2.2.1)) (H0.out.2.2.2.2.2.trans (hb1.mono H0.out.2.2.2.2.2.size))))
      clear hA hb1
      go_wp2_with fail
      refine (rWriteR_any la lc xs z v _ H1.out.1 hm).mono ?_
      rw [E5.out.1, E5.out.2]
      rintro e w2 ⟨a2, c2, rfl, hb2, hR2, hpv⟩
      have hne : Hid (xs = [] ∨ ∀ q, a2 = some q → q.block ≠ w.heap.size + 1) := by
        refine Lib.hid (HXB.out.imp_right fun hq q hq2 e => ?_)
        have := H1.out.2.2.size
        have := heap_lt H1.out.2.1
        rcases hpv with hpv | hpv
        · have := hq q (hpv ▸ hq2); omega
        · have := hpv q hq2; omega
      clear hpv
      have hO3 := heap_below hb2 H1.out.2.1 (heap_lt H1.out.2.1)
      have hB2 := H1.out.2.2.trans (hb2.mono H1.out.2.2.size)
      clear hb2
      have q0 := heap_cell hO3 0
      have q1 := heap_cell hO3 1
      have q2 := heap_cell hO3 2
      have q3 := heap_cell hO3 3
      have q4 := heap_cell hO3 4
      have q5 := heap_cell hO3 5
      have q6 := heap_cell hO3 6
      have q7 := heap_cell hO3 7
      simp at q0 q1 q2 q3 q4 q5 q6 q7
      have f0 := heap_free hO3 0
      have f1 := heap_free hO3 1
      have f2 := heap_free hO3 2
      have f3 := heap_free hO3 3
      have f4 := heap_free hO3 4
      have f5 := heap_free hO3 5
      have f6 := heap_free hO3 6
      have f7 := heap_free hO3 7
      have HO3 := Lib.hid (And.intro hO3 (And.intro hR2 hB2))
      clear hO3 hR2 hB2
      go_wp2
      have h8 := set8_at HO3.out.1 (.int .i64 0) (.int .i64 0) (.bool false) (.int .i64 0) (.int .i64 0) (.int .i64 0) (.slice none 0 0) (.slice none 0 0)
      change bodyPost _ _ _ _ _ (set8 w2 (w.heap.size + 1) (.int .i64 0) (.int .i64 0) (.bool false) (.int .i64 0) (.int .i64 0) (.int .i64 0) (.slice none 0 0) (.slice none 0 0))
      generalize set8 w2 (w.heap.size + 1) (.int .i64 0) (.int .i64 0) (.bool false) (.int .i64 0) (.int .i64 0) (.int .i64 0) (.slice none 0 0) (.slice none 0 0) = w8 at h8 ⊢
      obtain ⟨hO8, hg8⟩ := h8
      clear q0 q1 q2 q3 q4 q5 q6 q7 f0 f1 f2 f3 f4 f5 f6 f7
      have q0 := heap_cell hO8 0
      have q1 := heap_cell hO8 1
      have q2 := heap_cell hO8 2
      have q3 := heap_cell hO8 3
      have q4 := heap_cell hO8 4
      have q5 := heap_cell hO8 5
      have q6 := heap_cell hO8 6
      have q7 := heap_cell hO8 7
      simp at q0 q1 q2 q3 q4 q5 q6 q7
      refine bodyPost_ret (v := .tuple #[.slice a2 xs.length c2, .agg #[.int .i64 0, .int .i64 0, .bool false, .int .i64 0, .int .i64 0, .int .i64 0, .slice none 0 0, .slice none 0 0], .int .i64 8]) (by simp [results, Tryd.results11, go_sem, q0, q1, q2, q3, q4, q5, q6, q7]) rfl ⟨_, _, _, _, _, _, _, _, _, _, _, _, _, _, by rw [e1.out, e2.out], ?_, ?_, .inr ⟨e1.out, rfl, rfl, rfl, rfl, rfl, rfl, rfl, rfl⟩⟩
      · exact HO3.out.2.2.grown hg8 HO3.out.2.2.size (fun k e => by cases e; omega)
      · rw [e2.out]
        exact HO3.out.2.1.grown_or hg8 hne.out
  · have e1 : Hid (stE xs.length at_ ks.length i = 8) := by show _ = _; rw [stE, if_neg hi]
    have e2 : Hid (stL xs at_ ks.length i v = xs) := by show _ = _; rw [stL, if_neg hi]
    have e3 : atE ks.length i = 8 := by rw [atE, if_neg hi]
    obtain ⟨y, hy⟩ : ∃ y, kiV ks i = y := ⟨_, rfl⟩
    obtain ⟨z, hz⟩ : ∃ z, atV at_ ks.length i = z := ⟨_, rfl⟩
    rw [e3, hy, hz] at hA
    clear hi e3 hy hz hKW hVW
    go_enter Tryd.func11, Tryd.ntmps11
    go_wp2_with fail
    rw [← HW.out]
    refine hA.mono ?_
    rintro e w2 ⟨rfl, hb2⟩
    have hO3 := heap_below hb2 hO2 (heap_lt hO2)
    have hR2 := hXW.below hb2
    have hne : Hid (xs = [] ∨ ∀ q, la = some q → q.block ≠ w.heap.size + 1) := Lib.hid (HXB.out.imp_right fun hq q hq2 e => by have := hq q hq2; omega)
    have hB2 := hbo.trans (hb2.mono hbo.size)
    clear hO1 hO2 hXW hb2
    have q0 := heap_cell hO3 0
    have q1 := heap_cell hO3 1
    have q2 := heap_cell hO3 2
    have q3 := heap_cell hO3 3
    have q4 := heap_cell hO3 4
    have q5 := heap_cell hO3 5
    have q6 := heap_cell hO3 6
    have q7 := heap_cell hO3 7
    simp at q0 q1 q2 q3 q4 q5 q6 q7
    have f0 := heap_free hO3 0
    have f1 := heap_free hO3 1
    have f2 := heap_free hO3 2
    have f3 := heap_free hO3 3
    have f4 := heap_free hO3 4
    have f5 := heap_free hO3 5
    have f6 := heap_free hO3 6
    have f7 := heap_free hO3 7
    have HO3 := Lib.hid (And.intro hO3 (And.intro hR2 hB2))
    clear hO3 hR2 hB2
    go_wp2
    have h8 := set8_at HO3.out.1 (.int .i64 0) (.int .i64 0) (.bool false) (.int .i64 0) (.int .i64 0) (.int .i64 0) (.slice none 0 0) (.slice none 0 0)
    change bodyPost _ _ _ _ _ (set8 w2 (w.heap.size + 1) (.int .i64 0) (.int .i64 0) (.bool false) (.int .i64 0) (.int .i64 0) (.int .i64 0) (.slice none 0 0) (.slice none 0 0))
    generalize set8 w2 (w.heap.size + 1) (.int .i64 0) (.int .i64 0) (.bool false) (.int .i64 0) (.int .i64 0) (.int .i64 0) (.slice none 0 0) (.slice none 0 0) = w8 at h8 ⊢
    obtain ⟨hO8, hg8⟩ := h8
    clear q0 q1 q2 q3 q4 q5 q6 q7 f0 f1 f2 f3 f4 f5 f6 f7
    have q0 := heap_cell hO8 0
    have q1 := heap_cell hO8 1
    have q2 := heap_cell hO8 2
    have q3 := heap_cell hO8 3
    have q4 := heap_cell hO8 4
    have q5 := heap_cell hO8 5
    have q6 := heap_cell hO8 6
    have q7 := heap_cell hO8 7
    simp at q0 q1 q2 q3 q4 q5 q6 q7
    refine bodyPost_ret (v := .tuple #[.slice la xs.length lc, .agg #[.int .i64 0, .int .i64 0, .bool false, .int .i64 0, .int .i64 0, .int .i64 0, .slice none 0 0, .slice none 0 0], .int .i64 8]) (by simp [results, Tryd.results11, go_sem, q0, q1, q2, q3, q4, q5, q6, q7]) rfl ⟨_, _, _, _, _, _, _, _, _, _, _, _, _, _, by rw [e1.out, e2.out], ?_, ?_, .inr ⟨e1.out, rfl, rfl, rfl, rfl, rfl, rfl, rfl, rfl⟩⟩
    · exact HO3.out.2.2.grown hg8 HO3.out.2.2.size (fun k e => by cases e; omega)
    · rw [e2.out]
      exact HO3.out.2.1.grown_or hg8 hne.out
end Go.Proofs.YtekkplledcffkaaDoor
