/-
  Contracts of functions of the program, laid together.
-/
import Derived.Test.YtcenagpkfimkbaaGreatDoorTopSlotsM2
import Derived.Test.YtcenagpkfimkbaaGreatDoorTopSlotsM28
import Derived.Test.YtcenagpkfimkbaaGreatDoorTopSlotsM31
import Derived.Maps.AppendAt
namespace Go.Proofs.YtcenagpkfimkbaaGreatDoor
open Go Go.RowKit

structure OpN where
  (k a b c : Int)
def OpsAt (w : World) (a : Option Addr) (ops : List OpN) : Prop :=
  ops = [] ∨ ∃ b off, a = some ⟨b, off, none⟩ ∧ ∀ (j : Nat) (x : OpN), ops[j]? = some x → w.cell? ⟨b, off + j * 4, none⟩ = some (.int .i64 x.k) ∧ w.cell? ⟨b, off + j * 4 + 1, none⟩ = some (.int .u64 x.a) ∧ w.cell? ⟨b, off + j * 4 + 2, none⟩ = some (.int .u64 x.b) ∧ w.cell? ⟨b, off + j * 4 + 3, none⟩ = some (.int .u64 x.c)
theorem OpsAt.moved {w w' : World} {a : Option Addr} {ops : List OpN} {S : Nat → Prop} (h : OpsAt w a ops) (hm : Moved S w w') (hs : ∀ q, a = some q → ¬ S q.block) : OpsAt w' a ops := by
  rcases h with h | ⟨b, off, rfl, hc⟩
  · exact .inl h
  · exact .inr ⟨b, off, rfl, fun j x hx => by
      obtain ⟨h0, h1, h2, h3⟩ := hc j x hx
      exact ⟨hm.cell h0 (hs ⟨b, off, none⟩ rfl), hm.cell h1 (hs ⟨b, off, none⟩ rfl), hm.cell h2 (hs ⟨b, off, none⟩ rfl), hm.cell h3 (hs ⟨b, off, none⟩ rfl)⟩⟩
theorem info_result : (Tryz.prog.info? 39).map (fun i => (i.zero, i.size, i.bytes)) = some (some (.agg #[.int .i64 0, .int .u64 0]), 2, 16) := by kernel_rfl

def resCells (rs : List (Int × Int)) : List Value := rs.flatMap fun x => [.int .i64 x.1, .int .u64 x.2]
theorem resCells_snoc (rs : List (Int × Int)) (x : Int × Int) : resCells (rs ++ [x]) = resCells rs ++ [.int .i64 x.1, .int .u64 x.2] := by simp [resCells]
theorem resCells_length (rs : List (Int × Int)) : (resCells rs).length = rs.length * 2 := by
  induction rs with
  | nil => rfl
  | cons x r ih => simp [resCells] at ih ⊢; omega
theorem resCells_get (rs : List (Int × Int)) (i : Nat) (x : Int × Int) (h : rs[i]? = some x) : (resCells rs)[i * 2]? = some (.int .i64 x.1) ∧ (resCells rs)[i * 2 + 1]? = some (.int .u64 x.2) := by
  induction rs generalizing i with
  | nil => simp at h
  | cons y r ih =>
    cases i with
    | zero => simp at h; subst h; simp [resCells]
    | succ i =>
      have := ih i (by simpa using h)
      rw [show (i + 1) * 2 = i * 2 + 2 by omega]
      simpa [resCells] using this

theorem owns_any_slice {w : World} {B : Nat} {t : TypeId} {size n : Nat} {v : Value} {xs : List Value} (h : w.ownsRow B t size v n xs) : ∃ a c, v = .slice a n c := by
  rcases h.2 with ⟨rfl, rfl⟩ | ⟨g, cap, cur, rfl, _⟩
  · exact ⟨_, _, rfl⟩
  · exact ⟨_, _, rfl⟩

theorem HeapSt.tab01 {B : HB} {H : HM} {O0 O1 : Obj} {w : World} {S : Nat → Prop} (h : HeapSt B H O0 O1 w S) : w.heap[0]? = some O0 ∧ w.heap[1]? = some O1 := by
  obtain ⟨_, h, _⟩ := Sep.get h 12 (by omega)
  exact ⟨h.1, h.2.1⟩
theorem below_of_tabs {O0 O1 : Obj} {ST : Nat → Prop} {w w' : World} (hT : TabsP O0 O1 w ST) (hm : Moved ST w w') (h : w'.heap[0]? = some O0 ∧ w'.heap[1]? = some O1) : Below w.heap.size w w' :=
  ⟨hm.os, hm.tape, hm.output, hm.size, fun k hk => by
    by_cases hs : ST k
    · rcases (hT.2.2.2.2 k).1 hs with rfl | rfl
      · rw [h.1, hT.1]
      · rw [h.2, hT.2.1]
    · exact hm.block k hk hs⟩

def RunOut (ops : List OpN) (R : Nat → Int → Int → Prop) (w : World) (e : Ending) (w' : World) : Prop :=
  ∃ (a : Option Addr) (c : Nat) (rs : List (Int × Int)), e = .returned (.tuple #[.slice a ops.length c, .int .i64 0]) ∧ Below w.heap.size w w' ∧ rs.length = ops.length ∧ (∀ (i : Nat) (x : Int × Int), rs[i]? = some x → R i x.1 x.2) ∧ (0 < ops.length → ∃ b, a = some ⟨b, 0, none⟩ ∧ ∀ (i : Nat) (x : Int × Int), rs[i]? = some x → w'.cell? ⟨b, i * 2, none⟩ = some (.int .i64 x.1) ∧ w'.cell? ⟨b, i * 2 + 1, none⟩ = some (.int .u64 x.2))

set_option maxRecDepth 100000 in
set_option maxHeartbeats 4000000 in
theorem run_any (n g : Nat) (ty : Option Addr) (ds : List (List Int)) (tc : Nat) (O0 O1 : Obj) (ST : Nat → Prop) (w : World) (hT : TabsP O0 O1 w ST) (h1 : 1 ≤ n) (h2 : n ≤ 1024) (h3 : g ≤ 64) (hD : Descs w ty ds) (hl : listD ds = true)
    (oa : Option Addr) (oc : Nat) (ops : List OpN) (hops : OpsAt w oa ops) (hon : ops.length ≤ 1000) (hos : ∀ q, oa = some q → ¬ ST q.block ∧ q.block < w.heap.size) (I : Nat → HM → Prop) (R : Nat → Int → Int → Prop) (hI : I 0 (newH n g ds))
    (hdo : ∀ (j : Nat) (x : OpN) (B : HB) (H : HM) (mb : Nat) (fa : Option Addr) (fc : Nat) (w : World) (S : Nat → Prop), ops[j]? = some x → I j H → MSt B H O0 O1 mb fa fc w S → Calls Tryz.prog 11 #[.pointer (some ⟨mb, 0, none⟩), opV x.k x.a x.b x.c] w fun e w' => ∃ er v H' S', e = .returned (.agg #[.int .i64 er, .int .u64 v]) ∧ I (j + 1) H' ∧ R j er v ∧ MSt B H' O0 O1 mb fa fc w' S' ∧ Grows S S' w w') :
    Calls Tryz.prog 19 #[.agg #[.int .i64 n, .int .i64 g, .slice ty ds.length tc], .slice oa ops.length oc] w (RunOut ops R w) := by
  obtain ⟨X, hX⟩ : ∃ X, w.alloc (.cells #[.int .i64 n, .int .i64 g, .slice ty ds.length tc] 24) = X := ⟨_, rfl⟩
  have hbX : Below w.heap.size w X := by rw [← hX]; exact (Below.refl _ _).alloc (Nat.le_refl _) _
  have oX : X.heap[w.heap.size]? = some (.cells #[.int .i64 n, .int .i64 g, .slice ty ds.length tc] 24 (0, 0)) := by rw [← hX]; exact heap_alloc_eq _ _
  have k0 := heap_cell oX 0
  have k1 := heap_cell oX 1
  have k2 := heap_cell oX 2
  simp at k0 k1 k2
  have hN := rNew_any n g ty ds tc O0 O1 ST X ((TabsP.ok O0 O1).below hT hbX) h1 h2 h3 (hD.below hbX) hl
  have HTT := Lib.hid hT
  have HX := Lib.hid (And.intro hbX (And.intro hops (And.intro hos (And.intro hI hdo))))
  clear hbX oX hT hD hl hops hos hI hdo
  go_enter Tryz.func19, Tryz.ntmps19
  go_wp2_with fail
  try rw [hX]
  go_wp2_with fail
  refine hN.mono ?_
  rintro e w1 ⟨B, mb, fa, fc, S1, rfl, hb1, hM1, hs1, hmb, hfa⟩
  have HS := Lib.hid (And.intro hb1 (And.intro hM1 (And.intro hs1 (And.intro hmb hfa))))
  clear hN hb1 hM1 hs1 hmb hfa k0 k1 k2
  obtain ⟨i0, hi, hz0, hz1, hz2⟩ := info_parts info_result
  go_wp2
  go_loopw [8, 10, 21] (fun v _ i wr => ∃ j : Nat, j ≤ ops.length ∧ i = .int .i64 j ∧ ∃ (H : HM) (S : Nat → Prop) (rs : List (Int × Int)), I j H ∧ MSt B H O0 O1 mb fa fc wr S ∧ rs.length = j ∧ (∀ (i : Nat) (x : Int × Int), rs[i]? = some x → R i x.1 x.2) ∧ wr.ownsRow w1.heap.size 39 2 v j (resCells rs) ∧ (∀ k, v.ownBlock = some k → ¬ S k ∧ k ≠ mb ∧ ∀ q, fa = some q → q.block ≠ k) ∧ Moved ST w wr ∧ (∀ k, S k → ST k ∨ w.heap.size ≤ k) ∧ w1.heap.size ≤ wr.heap.size) (fun _ _ i _ => ops.length - (intOf i).toNat)
  case atStart => 
    refine ⟨0, Nat.zero_le _, rfl, _, S1, [], HX.out.2.2.2.1, HS.out.2.1, rfl, by simp, World.ownsRow_nil _ _ _ _, by simp [Value.ownBlock], ?_, fun k hk => (HS.out.2.2.1 k hk).imp_right (fun e => Nat.le_trans HX.out.1.size e), Nat.le_refl _⟩
    exact Moved.of_below (HX.out.1.trans (HS.out.1.mono HX.out.1.size)) _
  case round =>
    obtain ⟨j, hj, rfl, H, S, rs, hI, hM, hrl, hR, hown, hob, hMw, hSn, hsz⟩ := hrel
    by_cases hlt : j < ops.length
    · have hopr := HX.out.2.1.moved hMw (fun q e => (HX.out.2.2.1 q e).1)
      obtain ⟨x, hx⟩ : ∃ x, ops[j]? = some x := ⟨_, List.getElem?_eq_getElem hlt⟩
      rcases hopr with hopr | ⟨b, off, rfl, hc⟩
      · subst hopr; simp at hlt
      obtain ⟨c0, c1, c2, c3⟩ := hc j x hx
      clear hc
      obtain ⟨W1, hW1⟩ : ∃ W1, wr.alloc (.cells #[.int .i64 x.k, .int .u64 x.a, .int .u64 x.b, .int .u64 x.c] 36) = W1 := ⟨_, rfl⟩
      have hbn : Below wr.heap.size wr W1 := by rw [← hW1]; exact (Below.refl _ _).alloc (Nat.le_refl _) _
      have oW : W1.heap[wr.heap.size]? = some (.cells #[.int .i64 x.k, .int .u64 x.a, .int .u64 x.b, .int .u64 x.c] 36 (0, 0)) := by rw [← hW1]; exact heap_alloc_eq _ _
      have d0 := heap_cell oW 0
      have d1 := heap_cell oW 1
      have d2 := heap_cell oW 2
      have d3 := heap_cell oW 3
      simp at d0 d1 d2 d3
      have hM1 : MSt B H O0 O1 mb fa fc W1 S := ⟨(HeapSt.ok B H O0 O1).below hM.h hbn, hM.m.later hbn, hM.nm, hM.nf, fun q e => Nat.lt_of_lt_of_le (hM.fl q e) hbn.size⟩
      have hD := HX.out.2.2.2.2 j x B H mb fa fc W1 S hx hI hM1
      have HQ := Lib.hid (And.intro hM (And.intro hrl (And.intro hR (And.intro hown (And.intro hob (And.intro hMw (And.intro hSn (And.intro hbn hsz))))))))
      clear hM hM1 hR hown hob hMw hSn hbn hI oW hx hrl hsz
      obtain ⟨va, vc, rfl⟩ := owns_any_slice HQ.out.2.2.2.1
      go_wp2_with fail
      refine hD.mono ?_
      rintro e w2 ⟨er, v, H', S', rfl, hI', hR', hM', hg⟩
      have hown2 : w2.ownsRow w1.heap.size 39 2 (.slice va j vc) j (resCells rs) := hg.m.owns ((Moved.of_below HQ.out.2.2.2.2.2.2.2.1 (fun _ => False)).owns HQ.out.2.2.2.1 (fun _ _ e => e)) (fun k hk e => (HQ.out.2.2.2.2.1 k hk).1 e)
      have hsz2 : w1.heap.size ≤ w2.heap.size := by have h1 := HQ.out.2.2.2.2.2.2.2.2; have h2 := HQ.out.2.2.2.2.2.2.2.1.size; have h3 := hg.m.size; omega
      have HP := Lib.hid (And.intro hI' (And.intro hR' (And.intro hM' hg)))
      clear hD hI' hR' hM' hg
      go_wp2_with (at_builtin; refine wpList_append_own_at _ rfl _ _ 68 rfl w1.heap.size 39 i0 (.agg #[.int .i64 0, .int .u64 0]) 2 16 Tryz.underlying68 hi hz0 hz1 hz2 rfl (by decide) (.slice va j vc) j (resCells rs) (by rfl) (hown2.alloc _) ⟨w2.heap.size, 0, none⟩ 1 1 [.int .i64 er, .int .u64 v] (by rfl) rfl (World.news_of_block (cs := #[.int .i64 er, .int .u64 v]) (t := 39) (fr := (0, 0)) (heap_alloc_new w2 _)) (by simp [Value.oneCell']) (by unfold maxLen; omega) (by omega) (by simp; omega) ?_)
      intro v' w3 hown3 hgrow _ hat
      obtain ⟨hM, hrl, hR, hown, hob, hMw, hSn, hbn, hsz⟩ := HQ.out
      obtain ⟨hI', hR', hM', hg⟩ := HP.out
      have hm3 : Moved (fun k => (Value.slice va j vc).ownBlock = some k) w2 w3 := (Moved.alloc (fun k => (Value.slice va j vc).ownBlock = some k) w2 _).trans (Moved.of_grown hgrow (S := fun k => (Value.slice va j vc).ownBlock = some k) (fun k h => h)) (fun _ h => .inl h)
      have hbX := HX.out.1.size
      have hb1s := HS.out.1.size
      have hMw3 : Moved ST w w3 := by
        refine ((hMw.trans (Moved.of_below hbn (fun _ => False)) (fun _ e => e.elim)).trans hg.m (fun q e => hSn q e)).trans hm3 (fun q e => .inr ?_)
        have := (hown.lt q e).1
        omega
      have hold : ∀ k, (Value.slice va j vc).ownBlock = some k → ¬ S' k := fun k e h => by
        rcases hg.s k h with h | h
        · exact (hob k e).1 h
        · have := (hown.lt k e).2; have := hbn.size; omega
      have hM3 : MSt B H' O0 O1 mb fa fc w3 S' := ⟨(HeapSt.ok B H' O0 O1).moved hM'.h hm3 (fun k hk e => hold k e hk), hM'.m.moved hm3 (fun e => (hob mb e).2.1 rfl) (fun q e e' => (hob _ e').2.2 q e rfl), hM'.nm, hM'.nf, fun q e => Nat.lt_of_lt_of_le (hM'.fl q e) hm3.size⟩
      have hob3 : ∀ k, v'.ownBlock = some k → ¬ S' k ∧ k ≠ mb ∧ ∀ q, fa = some q → q.block ≠ k := fun k e => by
        rcases hat with hat | hat
        · rw [hat] at e
          exact ⟨hold k e, (hob k e).2⟩
        · rw [hat] at e
          simp at e
          subst e
          refine ⟨fun h => ?_, fun h => ?_, fun q e h => ?_⟩
          · have := (HeapSt.ok B H' O0 O1).lt hM'.h _ h; omega
          · have := heap_lt hM'.m.blk; omega
          · have := (HS.out.2.2.2.2 q e).2; omega
      have hSn3 : ∀ k, S' k → ST k ∨ w.heap.size ≤ k := fun k h => (hg.s k h).elim (hSn k) (fun e => .inr (by have := hbn.size; omega))
      have hsz3 : w1.heap.size ≤ w3.heap.size := by have := hm3.size; omega
      have hR3 : ∀ (i : Nat) (x : Int × Int), (rs ++ [(er, v)])[i]? = some x → R i x.1 x.2 := fun i x h => by
        by_cases hi' : i < rs.length
        · rw [List.getElem?_append_left hi'] at h
          exact hR i x h
        · have hl := (List.getElem?_eq_some_iff.1 h).1
          obtain rfl : i = rs.length := by simp at hl; omega
          simp at h
          subst h
          rw [hrl]; exact hR'
      have hown3' : w3.ownsRow w1.heap.size 39 2 v' (j + 1) (resCells (rs ++ [(er, v)])) := by rw [resCells_snoc]; exact hown3
      have HR := Lib.hid (⟨H', S', rs ++ [(er, v)], hI', hM3, by simp [hrl], hR3, hown3', hob3, hMw3, hSn3, hsz3⟩ : ∃ (H : HM) (S : Nat → Prop) (rs : List (Int × Int)), I (j + 1) H ∧ MSt B H O0 O1 mb fa fc w3 S ∧ rs.length = j + 1 ∧ (∀ (i : Nat) (x : Int × Int), rs[i]? = some x → R i x.1 x.2) ∧ w3.ownsRow w1.heap.size 39 2 v' (j + 1) (resCells rs) ∧ (∀ k, v'.ownBlock = some k → ¬ S k ∧ k ≠ mb ∧ ∀ q, fa = some q → q.block ≠ k) ∧ Moved ST w w3 ∧ (∀ k, S k → ST k ∨ w.heap.size ≤ k) ∧ w1.heap.size ≤ w3.heap.size)
      clear hM hrl hR hown hob hMw hSn hbn hsz hI' hR' hM' hg hm3 hMw3 hold hM3 hob3 hSn3 hsz3 hR3 hown3' hown3 hgrow hat hown2 hsz2 hbX hb1s
      go_wp2
      go_roundw
      case rel => exact ⟨j + 1, by omega, by go_num, HR.out⟩
      case measure => simp [intOf]; omega
    · obtain rfl : j = ops.length := by omega
      obtain ⟨va, vc, rfl⟩ := owns_any_slice hown
      have hcell : 0 < ops.length → ∃ b, va = some ⟨b, 0, none⟩ ∧ ∀ (i : Nat) (x : Int × Int), rs[i]? = some x → wr.cell? ⟨b, i * 2, none⟩ = some (.int .i64 x.1) ∧ wr.cell? ⟨b, i * 2 + 1, none⟩ = some (.int .u64 x.2) := fun h0 => by
        obtain ⟨a', c', e, _, hn, hg⟩ := owns_slice hown
        simp only [Value.slice.injEq] at e
        obtain ⟨rfl, _, rfl⟩ := e
        cases va with
        | none => have := (hn rfl).1; omega
        | some q =>
          obtain ⟨b, rfl⟩ := hg q rfl
          refine ⟨b, rfl, fun i x hx => ?_⟩
          have hcs := hown.cells (g := b) rfl
          obtain ⟨g1, g2⟩ := resCells_get rs i x hx
          have q1 := hcs _ _ g1
          have q2 := hcs _ _ g2
          simp only [Addr.add_lit, Nat.zero_add] at q1 q2
          exact ⟨q1, q2⟩
      have HF := Lib.hid (⟨va, vc, rs, rfl, below_of_tabs HTT.out hMw hM.h.tab01, hrl, hR, hcell⟩ : RunOut ops R w (.returned (.tuple #[.slice va ops.length vc, .int .i64 0])) wr)
      clear hI hM hrl hR hown hob hMw hSn hsz hcell
      go_wp2
      go_ret2
      exact HF.out
end Go.Proofs.YtcenagpkfimkbaaGreatDoor
namespace Go.Proofs.YtcenagpkfimkbaaGreatDoor
open Go Go.RowKit

def DoOut (B : HB) (O0 O1 : Obj) (mb : Nat) (fa : Option Addr) (fc : Nat) (S : Nat → Prop) (Q : Int → Int → HM → Prop) (w : World) (e : Ending) (w' : World) : Prop :=
  ∃ v er H' S', e = .returned (resV v er) ∧ Q v er H' ∧ MSt B H' O0 O1 mb fa fc w' S' ∧ Grows S S' w w'

section
variable {B : HB} {H : HM} {O0 O1 : Obj} {mb : Nat} {fa : Option Addr} {fc : Nat} {S : Nat → Prop} {w : World} {Q : Int → Int → HM → Prop}
theorem MSt.later {w' : World} (h : MSt B H O0 O1 mb fa fc w S) (hb : Below w.heap.size w w') : MSt B H O0 O1 mb fa fc w' S :=
  ⟨(HeapSt.ok B H O0 O1).below h.h hb, h.m.later hb, h.nm, h.nf, fun q e => Nat.lt_of_lt_of_le (h.fl q e) hb.size⟩
theorem MSt.lt (h : MSt B H O0 O1 mb fa fc w S) : ∀ k, S k → k < w.heap.size := (HeapSt.ok B H O0 O1).lt h.h
theorem MSt.m0 (h : MSt B H O0 O1 mb fa fc w S) : w.cell? ⟨mb, 0, none⟩ = some (.pointer (some ⟨B.hb, 0, none⟩)) := by
  have := heap_cell h.m.blk 0
  simpa using this
theorem do_close (hM : MSt B H O0 O1 mb fa fc w S) (hQ : ∀ v er H', Q v er H' → H'.ds = H.ds) {e : Ending} {w' : World}
    (h : ∃ v er, e = .returned (resV v er) ∧ ∃ w1 w2, Below w.heap.size w w1 ∧ w.heap.size + 1 < w1.heap.size ∧ GS B O0 O1 S Q w1 v er w2 ∧ Moved S w1 w2 ∧ Moved (fun q => q = w.heap.size + 1) w2 w') :
    DoOut B O0 O1 mb fa fc S Q w e w' := by
  obtain ⟨v, er, he, w1, w2, hb, hs, ⟨H', S', hq, hh, hg⟩, hm, hm2⟩ := h
  have hlt := hM.lt
  have hfb := hM.fl
  have hn : ∀ k, S' k → k ≠ w.heap.size + 1 := fun k hk => by
    rcases hg.s k hk with h | h
    · have := hlt k h; omega
    · omega
  have hmb := heap_lt hM.m.blk
  have hMa : MachAt w' mb B.hb fa fc (lens H'.ds) := by
    rw [hQ _ _ _ hq]
    exact ((hM.m.later hb).moved hm hM.nm hM.nf).moved hm2 (fun e => by omega) (fun q e e' => by have := hfb q e; omega)
  refine ⟨v, er, H', S', he, hq, ⟨(HeapSt.ok B H' O0 O1).moved hh hm2 hn, hMa, fun h => ?_, fun q e h => ?_, fun q e => Nat.lt_of_lt_of_le (hM.fl q e) (by have h1 := hb.size; have h2 := hm.size; have h3 := hm2.size; omega)⟩, ⟨((Moved.of_below hb S).trans hg.m (fun q e => .inl e)).trans hm2 (fun q e => .inr (by omega)), fun k hk => (hg.s k hk).imp_right (fun e => Nat.le_trans hb.size e)⟩⟩
  · rcases hg.s mb h with h | h
    · exact hM.nm h
    · omega
  · rcases hg.s _ h with h | h
    · exact hM.nf q e h
    · have := hfb q e; omega

theorem GS.some_ {f : Nat} {args : Array Value} (h : Calls Tryz.prog f args w (VE B O0 O1 S Q w)) : Calls Tryz.prog f args w fun e w' => ∃ v er, e = .returned (.tuple #[.int .u64 v, .int .i64 er]) ∧ GS B O0 O1 S Q w v er w' ∧ Moved S w w' :=
  h.mono fun _ _ ⟨v, er, he, hg⟩ => ⟨v, er, he, hg, hg.m⟩
theorem GS.none_ {f : Nat} {args : Array Value} (h : Calls Tryz.prog f args w fun e w' => ∃ er, e = .returned (.int .i64 er) ∧ GS B O0 O1 S Q w 0 er w') : Calls Tryz.prog f args w fun e w' => ∃ er, e = .returned (.int .i64 er) ∧ GS B O0 O1 S Q w 0 er w' ∧ Moved S w w' :=
  h.mono fun _ _ ⟨er, he, hg⟩ => ⟨er, he, hg, hg.m⟩

variable (hM : MSt B H O0 O1 mb fa fc w S)
include hM
theorem doRegion (hF : Fine H) (hal : H.ar.length ≤ 1000000) (a b c : Int) :
    Calls Tryz.prog 11 #[.pointer (some ⟨mb, 0, none⟩), opV 1 a b c] w (DoOut B O0 O1 mb fa fc S (fun v er H' => v = rgN H 0 ∧ er = rgE H 0 ∧ ∃ ab plb, H' = rgH H 0 ab plb) w) := by
  refine (do1_any mb ⟨B.hb, 0, none⟩ a b c w (fun w1 v er w' => GS B O0 O1 S (fun v er H' => v = rgN H 0 ∧ er = rgE H 0 ∧ ∃ ab plb, H' = rgH H 0 ab plb) w1 v er w') S hM.nm hM.lt hM.m0 (fun w1 hb1 => GS.some_ ?_)).mono fun e w' h => do_close hM (fun v er H' ⟨_, _, ab, plb, h⟩ => by rw [h, rgH]; split <;> rfl) h
  refine act1_any B O0 O1 S _ ⟨B.hb, 0, none⟩ 1 a b c w1 (fun w2 hb2 => ?_)
  refine (hRegion_any ((HeapSt.ok B H O0 O1).below ((HeapSt.ok B H O0 O1).below hM.h hb1) hb2) hF hal 0 (by omega) (by omega)).mono ?_
  rintro e w' ⟨rfl, ab, plb, S', hh, hg⟩
  exact ⟨_, _, rfl, _, S', ⟨rfl, rfl, ab, plb, rfl⟩, hh, hg⟩
theorem doCount (hF : Fine H) (a b c : Int) (a0 : 0 ≤ a) (a1 : a ≤ 18446744073709551615) :
    Calls Tryz.prog 11 #[.pointer (some ⟨mb, 0, none⟩), opV 14 a b c] w (DoOut B O0 O1 mb fa fc S (fun v er H' => v = cntV H a ∧ er = cntE H a ∧ H' = H) w) := by
  refine (do14_any mb ⟨B.hb, 0, none⟩ a b c w (fun w1 v er w' => GS B O0 O1 S (fun v er H' => v = cntV H a ∧ er = cntE H a ∧ H' = H) w1 v er w') S hM.nm hM.lt hM.m0 (fun w1 hb1 => GS.some_ ?_)).mono fun e w' h => do_close hM (fun v er H' h => by rw [h.2.2]) h
  refine act11_any B O0 O1 S _ ⟨B.hb, 0, none⟩ 14 a b c w1 (fun w2 hb2 => ?_)
  have hh := (HeapSt.ok B H O0 O1).below ((HeapSt.ok B H O0 O1).below hM.h hb1) hb2
  refine (hCount_any hh hF a a0 a1).mono ?_
  rintro e w' ⟨rfl, hb⟩
  exact ⟨_, _, rfl, GS.of_below hh hb ⟨rfl, rfl, rfl⟩⟩
theorem doSub (hF : Fine H) (hal : H.ar.length ≤ 1000000) (a b c : Int) (a0 : 0 ≤ a) (a1 : a ≤ 18446744073709551615) :
    Calls Tryz.prog 11 #[.pointer (some ⟨mb, 0, none⟩), opV 2 a b c] w (DoOut B O0 O1 mb fa fc S (fun v er H' => (a = 0 ∧ v = 0 ∧ er = 2 ∧ H' = H) ∨ (a ≠ 0 ∧ v = rgN H a ∧ er = rgE H a ∧ ∃ ab plb, H' = rgH H a ab plb)) w) := by
  refine (do2_any mb a b c w (fun w1 v er w' => GS B O0 O1 S (fun v er H' => (a = 0 ∧ v = 0 ∧ er = 2 ∧ H' = H) ∨ (a ≠ 0 ∧ v = rgN H a ∧ er = rgE H a ∧ ∃ ab plb, H' = rgH H a ab plb)) w1 v er w') S hM.nm hM.lt (fun w1 hb1 => GS.some_ ?_)).mono fun e w' h => do_close hM (fun v er H' h => by
    rcases h with ⟨_, _, _, h⟩ | ⟨_, _, _, ab, plb, h⟩
    · rw [h]
    · rw [h, rgH]; split <;> rfl) h
  refine sub_any _ 2 a b c w1 (hM.m.later hb1) ((HeapSt.ok B H O0 O1).below hM.h hb1) hM.nm (fun h => .inl ⟨h, rfl, rfl, rfl⟩) (fun h w2 hb2 => ?_)
  refine (hRegion_any ((HeapSt.ok B H O0 O1).below ((HeapSt.ok B H O0 O1).below hM.h hb1) hb2) hF hal a a0 a1).mono ?_
  rintro e w' ⟨rfl, ab, plb, S', hh, hg⟩
  exact ⟨_, _, rfl, _, S', .inr ⟨h, rfl, rfl, ab, plb, rfl⟩, hh, hg⟩
theorem doGlobal (hF : Fine H) (a b c : Int) (a0 : 0 ≤ a) (a1 : a ≤ 18446744073709551615) (b0 : 0 ≤ b) (b1 : b ≤ 18446744073709551615) :
    Calls Tryz.prog 11 #[.pointer (some ⟨mb, 0, none⟩), opV 8 a b c] w (DoOut B O0 O1 mb fa fc S (fun v er H' => v = 0 ∧ er = sgE H a b ∧ H' = sgH H a b) w) := by
  refine (do8_any mb ⟨B.hb, 0, none⟩ a b c w (fun w1 v er w' => GS B O0 O1 S (fun v er H' => v = 0 ∧ er = sgE H a b ∧ H' = sgH H a b) w1 v er w') S hM.nm hM.lt hM.m0 (fun w1 hb1 => GS.none_ ?_)).mono fun e w' h => do_close hM (fun v er H' h => by rw [h.2.2, sgH]; split <;> rfl) h
  refine act5_any B O0 O1 S _ ⟨B.hb, 0, none⟩ 8 a b c w1 (fun w2 hb2 => ?_)
  have hh := (HeapSt.ok B H O0 O1).below ((HeapSt.ok B H O0 O1).below hM.h hb1) hb2
  refine (hSetGlobal_any hh hF a b a0 a1 b0 b1).mono ?_
  rintro e w' ⟨rfl, S', hh, hg⟩
  exact ⟨_, rfl, _, S', ⟨rfl, rfl, rfl⟩, hh, hg⟩
theorem doDelBad (hF : Fine H) (a b c : Int) (a0 : 0 ≤ a) (a1 : a ≤ 18446744073709551615) (hbad : delE H a ≠ 0) :
    Calls Tryz.prog 11 #[.pointer (some ⟨mb, 0, none⟩), opV 3 a b c] w (DoOut B O0 O1 mb fa fc S (fun v er H' => v = 0 ∧ er = delE H a ∧ H' = H) w) := by
  refine (do3_any mb ⟨B.hb, 0, none⟩ a b c w (fun w1 v er w' => GS B O0 O1 S (fun v er H' => v = 0 ∧ er = delE H a ∧ H' = H) w1 v er w') S hM.nm hM.lt hM.m0 (fun w1 hb1 => GS.none_ ?_)).mono fun e w' h => do_close hM (fun v er H' h => by rw [h.2.2]) h
  refine act2_any B O0 O1 S _ ⟨B.hb, 0, none⟩ 3 a b c w1 (fun w2 hb2 => ?_)
  have hh := (HeapSt.ok B H O0 O1).below ((HeapSt.ok B H O0 O1).below hM.h hb1) hb2
  refine (hDelBad_any hh hF a a0 a1 hbad).mono ?_
  rintro e w' ⟨rfl, hb⟩
  exact ⟨_, rfl, GS.of_below hh hb ⟨rfl, rfl, rfl⟩⟩

structure Good (H : HM) : Prop where
  f : Fine H
  al : H.ar.length ≤ 1000000
  ar : ∀ r, livesB H r = true → 1 ≤ r ∧ ∃ A, lk H.ar r = some A ∧ FineA A ∧ A.rs.length ≤ 10000
  dd : ∀ d ∈ H.ds, d.length ≤ 100
  dl : H.ds.length ≤ 1000
omit hM in
theorem hAlloc_any (hh : HeapSt B H O0 O1 w S) (hG : Good H) (r : Int) (r0 : 0 ≤ r) (r1 : r ≤ 18446744073709551615) (a : Bool) (q t n : Int) :
    Calls Tryz.prog 116 #[.pointer (some ⟨B.hb, 0, none⟩), .int .u64 r, .agg #[.bool a, .int .i64 q, .int .i64 t, .int .i64 n]] w (VE B O0 O1 S (fun v er H' => v = alA H r a q t n ∧ er = alE H r a q t n ∧ H' = alH H r a q t n) w) := by
  by_cases hb : livesB H r = false ∨ knE H.ds a q t n ≠ 0 ∨ putE a q t n ≠ 0
  · have he : alE H r a q t n ≠ 0 := by
      rw [alE]
      split
      · decide
      · rename_i h1
        split
        · assumption
        · rename_i h2
          split
          · assumption
          · rename_i h3
            rcases hb with h | h | h
            · exact absurd h h1
            · exact absurd h h2
            · exact absurd h h3
    refine (hAllocBad_any hh hG.f hG.dd hG.dl r r0 r1 a q t n hb).mono ?_
    rintro e w' ⟨rfl, hb'⟩
    exact ⟨_, _, rfl, GS.of_below hh hb' ⟨by rw [alA, if_neg he], rfl, by rw [alH, if_neg he]⟩⟩
  · have h1 : livesB H r = true := by
      cases h : livesB H r
      · exact absurd (.inl h) hb
      · rfl
    have h2 : knE H.ds a q t n = 0 := Classical.byContradiction fun h => hb (.inr (.inl h))
    have h3 : putE a q t n = 0 := Classical.byContradiction fun h => hb (.inr (.inr h))
    obtain ⟨r0', A, hA, hf, hl⟩ := hG.ar r h1
    refine (hAllocGo_any hh hG.f hG.dd hG.dl r r0' a q t n h1 h2 h3 hA hf hl).mono ?_
    rintro e w' ⟨rfl, S', hh', hg⟩
    exact ⟨_, _, rfl, _, S', ⟨rfl, rfl, rfl⟩, hh', hg⟩
theorem doArray (hG : Good H) (a b c : Int) (a0 : 0 ≤ a) (a1 : a ≤ 18446744073709551615) (b0 : 0 ≤ b) (c0 : 0 ≤ c) :
    Calls Tryz.prog 11 #[.pointer (some ⟨mb, 0, none⟩), opV 5 a b c] w (DoOut B O0 O1 mb fa fc S (fun v er H' => (arrE b c ≠ 0 ∧ v = 0 ∧ er = arrE b c ∧ H' = H) ∨ (arrE b c = 0 ∧ v = alA H a true b 0 c ∧ er = alE H a true b 0 c ∧ H' = alH H a true b 0 c)) w) := by
  refine (do5_any mb a b c w (fun w1 v er w' => GS B O0 O1 S (fun v er H' => (arrE b c ≠ 0 ∧ v = 0 ∧ er = arrE b c ∧ H' = H) ∨ (arrE b c = 0 ∧ v = alA H a true b 0 c ∧ er = alE H a true b 0 c ∧ H' = alH H a true b 0 c)) w1 v er w') S hM.nm hM.lt (fun w1 hb1 => GS.some_ ?_)).mono fun e w' h => do_close hM (fun v er H' h => by
    rcases h with ⟨_, _, _, h⟩ | ⟨_, _, _, h⟩
    · rw [h]
    · rw [h, alH]; split <;> rfl) h
  refine array_any _ 5 a b c w1 (hM.m.later hb1) ((HeapSt.ok B H O0 O1).below hM.h hb1) hM.nm b0 c0 (fun h => .inl ⟨h, rfl, rfl, rfl⟩) (fun h w2 hb2 => ?_)
  refine (hAlloc_any ((HeapSt.ok B H O0 O1).below ((HeapSt.ok B H O0 O1).below hM.h hb1) hb2) hG a a0 a1 true b 0 c).mono ?_
  rintro e w' ⟨v, er, rfl, hg⟩
  exact ⟨_, _, rfl, hg.mono fun v er H' ⟨h1, h2, h3⟩ => .inr ⟨h, h1, h2, h3⟩⟩
theorem doNew (hG : Good H) (a b c : Int) (a0 : 0 ≤ a) (a1 : a ≤ 18446744073709551615) (b0 : 0 ≤ b) :
    Calls Tryz.prog 11 #[.pointer (some ⟨mb, 0, none⟩), opV 4 a b c] w (DoOut B O0 O1 mb fa fc S (fun v er H' => (objE (lens H.ds) b ≠ 0 ∧ v = 0 ∧ er = objE (lens H.ds) b ∧ H' = H) ∨ (objE (lens H.ds) b = 0 ∧ v = alA H a false 0 b ((lens H.ds).getD b.toNat 0) ∧ er = alE H a false 0 b ((lens H.ds).getD b.toNat 0) ∧ H' = alH H a false 0 b ((lens H.ds).getD b.toNat 0))) w) := by
  refine (do4_any mb a b c w (fun w1 v er w' => GS B O0 O1 S (fun v er H' => (objE (lens H.ds) b ≠ 0 ∧ v = 0 ∧ er = objE (lens H.ds) b ∧ H' = H) ∨ (objE (lens H.ds) b = 0 ∧ v = alA H a false 0 b ((lens H.ds).getD b.toNat 0) ∧ er = alE H a false 0 b ((lens H.ds).getD b.toNat 0) ∧ H' = alH H a false 0 b ((lens H.ds).getD b.toNat 0))) w1 v er w') S hM.nm hM.lt (fun w1 hb1 => GS.some_ ?_)).mono fun e w' h => do_close hM (fun v er H' h => by
    rcases h with ⟨_, _, _, h⟩ | ⟨_, _, _, h⟩
    · rw [h]
    · rw [h, alH]; split <;> rfl) h
  refine object_any _ 4 a b c w1 (hM.m.later hb1) ((HeapSt.ok B H O0 O1).below hM.h hb1) hM.nm hM.nf (by have := hG.dl; simpa [lens] using this) b0 (fun h => .inl ⟨h, rfl, rfl, rfl⟩) (fun h w2 hb2 => ?_)
  refine (hAlloc_any ((HeapSt.ok B H O0 O1).below ((HeapSt.ok B H O0 O1).below hM.h hb1) hb2) hG a a0 a1 false 0 b ((lens H.ds).getD b.toNat 0)).mono ?_
  rintro e w' ⟨v, er, rfl, hg⟩
  exact ⟨_, _, rfl, hg.mono fun v er H' ⟨h1, h2, h3⟩ => .inr ⟨h, h1, h2, h3⟩⟩
end
end Go.Proofs.YtcenagpkfimkbaaGreatDoor
namespace Go.Proofs.YtcenagpkfimkbaaGreatDoor
open Go Go.RowKit

theorem popM_ds (l : List Int) : ∀ H : HM, (popM H l).ds = H.ds := by
  induction l with
  | nil => exact fun _ => rfl
  | cons v l ih => intro H; rw [popM_cons, ih]; rfl

section
variable {B : HB} {H : HM} {O0 O1 : Obj} {mb : Nat} {fa : Option Addr} {fc : Nat} {S : Nat → Prop} {w : World}
variable (hM : MSt B H O0 O1 mb fa fc w S)
include hM
theorem doGet (hd : ∀ d ∈ H.ds, d.length ≤ 100) (hn : H.ds.length ≤ 1000) (hx : ∀ v ∈ H.ms, 0 ≤ v ∧ v < 18446744073709551616) (hkl : ∀ v, (onK H.ms H.ds v).length ≤ 4000) (hsm : ∀ v, hasM H.st v = true → v ≤ 1000000) (a b c : Int) (a0 : 0 ≤ a) (a1 : a ≤ 18446744073709551615) (b0 : 0 ≤ b) (b1 : b ≤ 18446744073709551615) :
    Calls Tryz.prog 11 #[.pointer (some ⟨mb, 0, none⟩), opV 7 a b c] w (DoOut B O0 O1 mb fa fc S (fun v er H' => v = gtV H a b ∧ er = gtE H a b ∧ H' = H) w) := by
  refine (do7_any mb ⟨B.hb, 0, none⟩ a b c w (fun w1 v er w' => GS B O0 O1 S (fun v er H' => v = gtV H a b ∧ er = gtE H a b ∧ H' = H) w1 v er w') S hM.nm hM.lt hM.m0 (fun w1 hb1 => GS.some_ ?_)).mono fun e w' h => do_close hM (fun v er H' h => by rw [h.2.2]) h
  refine act4_any B O0 O1 S _ ⟨B.hb, 0, none⟩ 7 a b c w1 (fun w2 hb2 => ?_)
  have hh := (HeapSt.ok B H O0 O1).below ((HeapSt.ok B H O0 O1).below hM.h hb1) hb2
  refine (heGet_any hh hd hn hx hkl hsm a b a0 a1 b0 b1).mono ?_
  rintro e w' ⟨rfl, hb⟩
  exact ⟨_, _, rfl, GS.of_below hh hb ⟨rfl, rfl, rfl⟩⟩
theorem doLook (a b c : Int) (a0 : 0 ≤ a) (a1 : a ≤ 18446744073709551615) :
    Calls Tryz.prog 11 #[.pointer (some ⟨mb, 0, none⟩), opV 9 a b c] w (DoOut B O0 O1 mb fa fc S (fun v er H' => v = glV H.gl a ∧ er = glE H.gl a ∧ H' = H) w) := by
  refine (do9_any mb ⟨B.hb, 0, none⟩ a b c w (fun w1 v er w' => GS B O0 O1 S (fun v er H' => v = glV H.gl a ∧ er = glE H.gl a ∧ H' = H) w1 v er w') S hM.nm hM.lt hM.m0 (fun w1 hb1 => GS.some_ ?_)).mono fun e w' h => do_close hM (fun v er H' h => by rw [h.2.2]) h
  refine act6_any B O0 O1 S _ ⟨B.hb, 0, none⟩ 9 a b c w1 (fun w2 hb2 => ?_)
  have hh := (HeapSt.ok B H O0 O1).below ((HeapSt.ok B H O0 O1).below hM.h hb1) hb2
  refine (hGlobal_any hh a a0 a1).mono ?_
  rintro e w' ⟨rfl, rfl⟩
  exact ⟨_, _, rfl, GS.of_below hh (Below.refl _ _) ⟨rfl, rfl, rfl⟩⟩
theorem doPush (a b c : Int) (a0 : 0 ≤ a) :
    Calls Tryz.prog 11 #[.pointer (some ⟨mb, 0, none⟩), opV 10 a b c] w (DoOut B O0 O1 mb fa fc S (fun v er H' => v = 0 ∧ er = pushE H.fr.length a ∧ H' = { H with fr := pushL H.fr a }) w) := by
  refine (do10_any mb ⟨B.hb, 0, none⟩ a b c w (fun w1 v er w' => GS B O0 O1 S (fun v er H' => v = 0 ∧ er = pushE H.fr.length a ∧ H' = { H with fr := pushL H.fr a }) w1 v er w') S hM.nm hM.lt hM.m0 (fun w1 hb1 => GS.none_ ?_)).mono fun e w' h => do_close hM (fun v er H' h => by rw [h.2.2]) h
  refine act7_any B O0 O1 S _ ⟨B.hb, 0, none⟩ 10 a b c w1 (fun w2 hb2 => ?_)
  have hh := (HeapSt.ok B H O0 O1).below ((HeapSt.ok B H O0 O1).below hM.h hb1) hb2
  refine (hPush_any hh a a0).mono ?_
  rintro e w' ⟨rfl, S', hh', hg⟩
  exact ⟨_, rfl, _, S', ⟨rfl, rfl, rfl⟩, hh', hg⟩
theorem doPop (hF : Fine H) (hcl : H.cnt.length + 64 ≤ 1000000) (hfr : ∀ l ∈ H.fr, l.length ≤ 16 ∧ ∀ x ∈ l, 0 ≤ x ∧ x ≤ 18446744073709551615) (a b c : Int) :
    Calls Tryz.prog 11 #[.pointer (some ⟨mb, 0, none⟩), opV 11 a b c] w (DoOut B O0 O1 mb fa fc S (fun v er H' => v = 0 ∧ er = popE H.fr ∧ H' = popH H) w) := by
  refine (do11_any mb ⟨B.hb, 0, none⟩ a b c w (fun w1 v er w' => GS B O0 O1 S (fun v er H' => v = 0 ∧ er = popE H.fr ∧ H' = popH H) w1 v er w') S hM.nm hM.lt hM.m0 (fun w1 hb1 => GS.none_ ?_)).mono fun e w' h => do_close hM (fun v er H' h => by rw [h.2.2, popH, popM_ds]) h
  refine act8_any B O0 O1 S _ ⟨B.hb, 0, none⟩ 11 a b c w1 (fun w2 hb2 => ?_)
  have hh := (HeapSt.ok B H O0 O1).below ((HeapSt.ok B H O0 O1).below hM.h hb1) hb2
  refine (hPop_any hh hF hcl hfr).mono ?_
  rintro e w' ⟨rfl, S', hh', hg⟩
  exact ⟨_, rfl, _, S', ⟨rfl, rfl, rfl⟩, hh', hg⟩
theorem doSlot (hF : Fine H) (a b c : Int) (a0 : 0 ≤ a) (a1 : a ≤ 18446744073709551615) (b0 : 0 ≤ b) (b1 : b ≤ 18446744073709551615) (tv : 0 ≤ topV H.fr a ∧ topV H.fr a ≤ 18446744073709551615) :
    Calls Tryz.prog 11 #[.pointer (some ⟨mb, 0, none⟩), opV 12 a b c] w (DoOut B O0 O1 mb fa fc S (fun v er H' => v = 0 ∧ er = ssE H a b ∧ H' = ssH H a b) w) := by
  refine (do12_any mb ⟨B.hb, 0, none⟩ a b c w (fun w1 v er w' => GS B O0 O1 S (fun v er H' => v = 0 ∧ er = ssE H a b ∧ H' = ssH H a b) w1 v er w') S hM.nm hM.lt hM.m0 (fun w1 hb1 => GS.none_ ?_)).mono fun e w' h => do_close hM (fun v er H' h => by rw [h.2.2, ssH]; split <;> rfl) h
  refine act9_any B O0 O1 S _ ⟨B.hb, 0, none⟩ 12 a b c w1 (fun w2 hb2 => ?_)
  have hh := (HeapSt.ok B H O0 O1).below ((HeapSt.ok B H O0 O1).below hM.h hb1) hb2
  refine (hSetSlot_any hh hF a b a0 a1 b0 b1 tv).mono ?_
  rintro e w' ⟨rfl, S', hh', hg⟩
  exact ⟨_, rfl, _, S', ⟨rfl, rfl, rfl⟩, hh', hg⟩
theorem doPeek (a b c : Int) (a0 : 0 ≤ a) (a1 : a ≤ 18446744073709551615) :
    Calls Tryz.prog 11 #[.pointer (some ⟨mb, 0, none⟩), opV 13 a b c] w (DoOut B O0 O1 mb fa fc S (fun v er H' => v = topV H.fr a ∧ er = topE H.fr a ∧ H' = H) w) := by
  refine (do13_any mb ⟨B.hb, 0, none⟩ a b c w (fun w1 v er w' => GS B O0 O1 S (fun v er H' => v = topV H.fr a ∧ er = topE H.fr a ∧ H' = H) w1 v er w') S hM.nm hM.lt hM.m0 (fun w1 hb1 => GS.some_ ?_)).mono fun e w' h => do_close hM (fun v er H' h => by rw [h.2.2]) h
  refine act10_any B O0 O1 S _ ⟨B.hb, 0, none⟩ 13 a b c w1 (fun w2 hb2 => ?_)
  have hh := (HeapSt.ok B H O0 O1).below ((HeapSt.ok B H O0 O1).below hM.h hb1) hb2
  refine (hSlot_any hh a a0 a1).mono ?_
  rintro e w' ⟨rfl, hb⟩
  exact ⟨_, _, rfl, GS.of_below hh hb ⟨rfl, rfl, rfl⟩⟩
end
end Go.Proofs.YtcenagpkfimkbaaGreatDoor
namespace Go.Proofs.YtcenagpkfimkbaaGreatDoor
open Go Go.RowKit
attribute [local go_sem ↓] Go.wp_at_zero Go.wp_at_succ

def great19 (ds : List (List Int)) (n : Int) : Bool := greatB ds || (decide (40 < n) && decide (n ≤ 1024))
def great22 (ds : List (List Int)) (n : Int) (k : Nat) : Bool := great19 ds n || decide (80 < k)
set_option maxRecDepth 100000 in
set_option maxHeartbeats 1000000 in
theorem Great19_any (n g : Int) (ty : Option Addr) (ds : List (List Int)) (tc : Nat) (w : World) (hD : Descs w ty ds) (hn : ds.length ≤ 9223372036854775807) :
    Calls Tryz.prog 18 #[.agg #[.int .i64 n, .int .i64 g, .slice ty ds.length tc], .slice none 0 0] w fun e w' => e = .returned (.bool (great19 ds n)) ∧ Below w.heap.size w w' := by
  obtain ⟨X, hX⟩ : ∃ X, w.alloc (.cells #[.int .i64 n, .int .i64 g, .slice ty ds.length tc] 24) = X := ⟨_, rfl⟩
  have hbX : Below w.heap.size w X := by rw [← hX]; exact (Below.refl _ _).alloc (Nat.le_refl _) _
  have oX : X.heap[w.heap.size]? = some (.cells #[.int .i64 n, .int .i64 g, .slice ty ds.length tc] 24 (0, 0)) := by rw [← hX]; exact heap_alloc_eq _ _
  have k0 := heap_cell oX 0
  have k2 := heap_cell oX 2
  simp at k0 k2
  have hG := Great_any ty ds tc X (hD.below hbX) hn
  have HB := Lib.hid hbX
  clear hbX oX hD
  cases hb : greatB ds
  · rw [hb] at hG
    have e1 : Hid (great19 ds n = (decide (40 < n) && decide (n ≤ 1024))) := Lib.hid (by rw [great19, hb]; simp)
    clear hb
    by_cases h1 : 40 < n
    · by_cases h2 : n ≤ 1024
      all_goals
        go_enter Tryz.func18, Tryz.ntmps18
        go_wp2_with fail
        try rw [hX]
        go_wp2_with fail
        refine hG.mono ?_
        rintro e w2 ⟨rfl, hb2⟩
        have j0 := (hb2.cell (cell_lt k0)).trans k0
        have HB2 := Lib.hid hb2
        clear hb2 hG
        go_wp2
        go_ret
        exact ⟨ret_bool (by rw [e1.out]; simp [h1]; try omega), HB.out.trans (HB2.out.mono HB.out.size)⟩
    · go_enter Tryz.func18, Tryz.ntmps18
      go_wp2_with fail
      try rw [hX]
      go_wp2_with fail
      refine hG.mono ?_
      rintro e w2 ⟨rfl, hb2⟩
      have j0 := (hb2.cell (cell_lt k0)).trans k0
      have HB2 := Lib.hid hb2
      clear hb2 hG
      go_wp2
      go_ret
      exact ⟨ret_bool (by rw [e1.out]; simp; try omega), HB.out.trans (HB2.out.mono HB.out.size)⟩
  · rw [hb] at hG
    have e1 : Hid (great19 ds n = true) := Lib.hid (by rw [great19, hb]; simp)
    clear hb
    go_enter Tryz.func18, Tryz.ntmps18
    go_wp2_with fail
    try rw [hX]
    go_wp2_with fail
    refine hG.mono ?_
    rintro e w2 ⟨rfl, hb2⟩
    have j0 := (hb2.cell (cell_lt k0)).trans k0
    have HB2 := Lib.hid hb2
    clear hb2 hG
    go_wp2
    go_ret
    exact ⟨ret_bool (by rw [e1.out]), HB.out.trans (HB2.out.mono HB.out.size)⟩
set_option maxRecDepth 100000 in
theorem Great22_any (n g : Int) (ty : Option Addr) (ds : List (List Int)) (tc : Nat) (oa : Option Addr) (k oc : Nat) (w : World) (hD : Descs w ty ds) (hn : ds.length ≤ 9223372036854775807) (hk : k ≤ 9223372036854775807) :
    Calls Tryz.prog 6 #[.agg #[.int .i64 n, .int .i64 g, .slice ty ds.length tc], .slice oa k oc] w fun e w' => e = .returned (.bool (great22 ds n k)) ∧ Below w.heap.size w w' := by
  obtain ⟨X, hX⟩ : ∃ X, w.alloc (.cells #[.int .i64 n, .int .i64 g, .slice ty ds.length tc] 24) = X := ⟨_, rfl⟩
  have hbX : Below w.heap.size w X := by rw [← hX]; exact (Below.refl _ _).alloc (Nat.le_refl _) _
  have oX : X.heap[w.heap.size]? = some (.cells #[.int .i64 n, .int .i64 g, .slice ty ds.length tc] 24 (0, 0)) := by rw [← hX]; exact heap_alloc_eq _ _
  have k0 := heap_cell oX 0
  have k1 := heap_cell oX 1
  have k2 := heap_cell oX 2
  simp at k0 k1 k2
  have hG := Great19_any n g ty ds tc X (hD.below hbX) hn
  have HB := Lib.hid hbX
  clear hbX oX hD
  cases hb : great19 ds n
  · rw [hb] at hG
    have e1 : Hid (great22 ds n k = decide (80 < k)) := Lib.hid (by rw [great22, hb]; simp)
    clear hb
    by_cases h1 : 80 < (k : Int)
    all_goals
      go_enter Tryz.func6, Tryz.ntmps6
      go_wp2_with fail
      try rw [hX]
      go_wp2_with fail
      refine hG.mono ?_
      rintro e w2 ⟨rfl, hb2⟩
      have HB2 := Lib.hid hb2
      clear hb2 hG
      go_wp2
      go_ret
      exact ⟨ret_bool (by rw [e1.out]; simp; try omega), HB.out.trans (HB2.out.mono HB.out.size)⟩
  · rw [hb] at hG
    have e1 : Hid (great22 ds n k = true) := Lib.hid (by rw [great22, hb]; simp)
    clear hb
    go_enter Tryz.func6, Tryz.ntmps6
    go_wp2_with fail
    try rw [hX]
    go_wp2_with fail
    refine hG.mono ?_
    rintro e w2 ⟨rfl, hb2⟩
    have HB2 := Lib.hid hb2
    clear hb2 hG
    go_wp2
    go_ret
    exact ⟨ret_bool (by rw [e1.out]), HB.out.trans (HB2.out.mono HB.out.size)⟩
theorem great22_no {ds : List (List Int)} {n : Int} {k : Nat} (h : great22 ds n k = false) : greatB ds = false ∧ (n ≤ 40 ∨ 1024 < n) ∧ k ≤ 80 := by
  unfold great22 great19 at h
  simp at h
  refine ⟨h.1.1, ?_, h.2⟩
  by_cases e : 40 < n
  · exact .inr (h.1.2 e)
  · exact .inl (by omega)
end Go.Proofs.YtcenagpkfimkbaaGreatDoor
namespace Go.Proofs.YtcenagpkfimkbaaGreatDoor
open Go Go.RowKit

def confB (n g : Int) (ds : List (List Int)) : Bool := decide (1 ≤ n ∧ n ≤ 1024) && decide (0 ≤ g ∧ g ≤ 64) && listD ds
set_option maxRecDepth 100000 in
set_option maxHeartbeats 1000000 in
theorem hNewNo_any (n g : Int) (ty : Option Addr) (ds : List (List Int)) (tc : Nat) (w : World) (hT : Tab w) (hD : Descs w ty ds) (hd : ∀ d ∈ ds, d.length ≤ 4000) (hn : ds.length ≤ 9223372036854775807) (hno : confB n g ds = false) :
    Calls Tryz.prog 20 #[.agg #[.int .i64 n, .int .i64 g, .slice ty ds.length tc]] w fun e w' => e = .returned (.tuple #[.pointer none, .int .i64 1]) ∧ Below w.heap.size w w' := by
  obtain ⟨X, hX⟩ : ∃ X, w.alloc (.cells #[.int .i64 n, .int .i64 g, .slice ty ds.length tc] 24) = X := ⟨_, rfl⟩
  have hbX : Below w.heap.size w X := by rw [← hX]; exact (Below.refl _ _).alloc (Nat.le_refl _) _
  have oX : X.heap[w.heap.size]? = some (.cells #[.int .i64 n, .int .i64 g, .slice ty ds.length tc] 24 (0, 0)) := by rw [← hX]; exact heap_alloc_eq _ _
  have k0 := heap_cell oX 0
  have k1 := heap_cell oX 1
  have k2 := heap_cell oX 2
  simp at k0 k1 k2
  have hTX := hT.below hT.lt hbX
  have hDX := hD.below hbX
  have HB := Lib.hid hbX
  clear hbX oX hT hD
  by_cases h1 : 1 ≤ n ∧ n ≤ 1024
  · obtain ⟨n, rfl⟩ : ∃ m : Nat, n = m := ⟨n.toNat, by omega⟩
    have hP := pNew_any n X (by omega) (by omega)
    have HX := Lib.hid (And.intro hTX hDX)
    clear hTX hDX
    by_cases h2 : 0 ≤ g ∧ g ≤ 64
    · obtain ⟨g, rfl⟩ : ∃ m : Nat, g = m := ⟨g.toNat, by omega⟩
      have hl : listD ds = false := by
        unfold confB at hno
        rw [decide_eq_true h1, decide_eq_true h2] at hno
        simpa using hno
      have hg : g ≤ 64 := by omega
      have HL := Lib.hid (And.intro hl (And.intro hd hn))
      clear hno h1 h2 hl hd
      go_enter Tryz.func20, Tryz.ntmps20
      go_wp2_with fail
      try rw [hX]
      go_wp2_with fail
      refine hP.mono ?_
      rintro e w1 ⟨pb, rb, rw', mb, mw, rfl, hb1, _⟩
      have j0 := (hb1.cell (cell_lt k0)).trans k0
      have j1 := (hb1.cell (cell_lt k1)).trans k1
      have j2 := (hb1.cell (cell_lt k2)).trans k2
      have hG := gNew_any g w1 hg
      have HB1 := Lib.hid hb1
      clear hP hb1
      go_wp2_with fail
      refine hG.mono ?_
      rintro e w2 ⟨rfl, hb2, _⟩
      have i2 := (hb2.cell (cell_lt j2)).trans j2
      have hb : Below X.heap.size X w2 := HB1.out.trans (hb2.mono HB1.out.size)
      have hL := List_any ty ds tc w2 (HX.out.1.below HX.out.1.lt hb) (HX.out.2.below hb) HL.out.2.1 HL.out.2.2
      rw [HL.out.1] at hL
      have HB2 := Lib.hid hb
      clear hG hb2 hb
      go_wp2_with fail
      refine hL.mono ?_
      rintro e w3 ⟨rfl, hb3⟩
      have HB3 := Lib.hid hb3
      clear hL hb3
      go_wp2
      go_ret2
      exact ⟨rfl, (HB.out.trans (HB2.out.mono HB.out.size)).trans (HB3.out.mono (Nat.le_trans HB.out.size HB2.out.size))⟩
    · have hG := fun w => gNew_bad g w (by omega)
      clear hno h1 h2 hd
      go_enter Tryz.func20, Tryz.ntmps20
      go_wp2_with fail
      try rw [hX]
      go_wp2_with fail
      refine hP.mono ?_
      rintro e w1 ⟨pb, rb, rw', mb, mw, rfl, hb1, _⟩
      have j1 := (hb1.cell (cell_lt k1)).trans k1
      have HB1 := Lib.hid hb1
      clear hP hb1
      go_wp2_with fail
      refine (hG _).mono ?_
      rintro e w2 ⟨rfl, rfl⟩
      clear hG
      go_wp2
      go_ret2
      exact ⟨rfl, HB.out.trans (HB1.out.mono HB.out.size)⟩
  · have hP := pNew_bad n X (by omega)
    clear hno h1 hd hTX hDX
    go_enter Tryz.func20, Tryz.ntmps20
    go_wp2_with fail
    try rw [hX]
    go_wp2_with fail
    refine hP.mono ?_
    rintro e w1 ⟨rfl, rfl⟩
    clear hP
    go_wp2
    go_ret2
    exact ⟨rfl, HB.out⟩
set_option maxRecDepth 100000 in
set_option maxHeartbeats 1000000 in
theorem rNewNo_any (n g : Int) (ty : Option Addr) (ds : List (List Int)) (tc : Nat) (w : World) (hT : Tab w) (hD : Descs w ty ds) (hd : ∀ d ∈ ds, d.length ≤ 4000) (hn : ds.length ≤ 9223372036854775807) (hno : confB n g ds = false) :
    Calls Tryz.prog 8 #[.agg #[.int .i64 n, .int .i64 g, .slice ty ds.length tc]] w fun e w' => e = .returned (.tuple #[.pointer none, .int .i64 1]) ∧ Below w.heap.size w w' := by
  obtain ⟨X, hX⟩ : ∃ X, w.alloc (.cells #[.int .i64 n, .int .i64 g, .slice ty ds.length tc] 24) = X := ⟨_, rfl⟩
  have hbX : Below w.heap.size w X := by rw [← hX]; exact (Below.refl _ _).alloc (Nat.le_refl _) _
  have oX : X.heap[w.heap.size]? = some (.cells #[.int .i64 n, .int .i64 g, .slice ty ds.length tc] 24 (0, 0)) := by rw [← hX]; exact heap_alloc_eq _ _
  have k0 := heap_cell oX 0
  have k1 := heap_cell oX 1
  have k2 := heap_cell oX 2
  simp at k0 k1 k2
  have hN := hNewNo_any n g ty ds tc X (hT.below hT.lt hbX) (hD.below hbX) hd hn hno
  have HB := Lib.hid hbX
  clear hbX oX hT hD hd hno
  go_enter Tryz.func8, Tryz.ntmps8
  go_wp2_with fail
  try rw [hX]
  go_wp2_with fail
  refine hN.mono ?_
  rintro e w1 ⟨rfl, hb1⟩
  have HB1 := Lib.hid hb1
  clear hN hb1
  go_wp2
  go_ret2
  exact ⟨rfl, HB.out.trans (HB1.out.mono HB.out.size)⟩
end Go.Proofs.YtcenagpkfimkbaaGreatDoor
namespace Go.Proofs.YtcenagpkfimkbaaGreatDoor
open Go Go.RowKit

def spH0 : HM := newH 2 1 []
def spH1 (ab plb : Nat) : HM := rgH spH0 0 ab plb
def spH2 (ab plb : Nat) : HM := alH (spH1 ab plb) 1 true 1 0 1
def spH3 (ab plb : Nat) : HM := sgH (spH2 ab plb) 0 1
theorem sp_e0 : rgE spH0 0 = 0 := by decide
theorem sp_e1 (ab plb : Nat) : alE (spH1 ab plb) 1 true 1 0 1 = 0 := by rfl
theorem sp_a1 (ab plb : Nat) : alA (spH1 ab plb) 1 true 1 0 1 = 1 := by rfl
theorem sp_e2 (ab plb : Nat) : sgE (spH2 ab plb) 0 1 = 0 := by rfl
theorem sp_c3 (ab plb : Nat) : cntV (spH3 ab plb) 1 = 1 := by kernel_rfl
theorem sp_d3 (ab plb : Nat) : cntE (spH3 ab plb) 1 = 0 := by kernel_rfl
theorem sp_e4 (ab plb : Nat) : delE (spH3 ab plb) 1 = 7 := by kernel_rfl

theorem told_nil : Told [] := fun x => by simp [at0, lk]
theorem glV_ok {l : List Int} (h : ∀ x ∈ l, 0 ≤ x ∧ x ≤ 18446744073709551615) (i : Int) : 0 ≤ glV l i ∧ glV l i ≤ 18446744073709551615 := by
  unfold glV
  split
  · rename_i hi
    have := h (l.getD i.toNat 0)
    by_cases hl : i.toNat < l.length
    · exact this (by simp [List.getD, hl])
    · simp [List.getD, hl]
  · omega
theorem newH_fine (n g : Nat) (ds : List (List Int)) : Fine (newH n g ds) := by
  refine ⟨by simp [newH], by simp [newH], by simp [newH], by simp [newH], by simp [newH], told_nil, fun p => by simp [newH], fun i => glV_ok (fun x hx => ?_) i⟩
  have := List.eq_of_mem_replicate hx
  omega
theorem sp_f0 : Fine spH0 := newH_fine _ _ _
theorem sp_g1 (ab plb : Nat) : Good (spH1 ab plb) := by
  have e : spH1 ab plb = { spH0 with live := [(1, ())], last := 1, par := [(1, 0)], ar := [(1, ⟨ab, plb, -1, 16, [], []⟩)] } := by kernel_rfl
  rw [e]
  refine ⟨⟨by simp, by simp, by simp, by simp, by simp [spH0, newH], told_nil, fun p => by simp [spH0, newH], sp_f0.gv⟩, by simp, fun r hr => ?_, by simp [spH0, newH], by simp [spH0, newH]⟩
  have h1 : r = 1 := by
    simp only [livesB, lk, List.find?, Bool.and_eq_true, decide_eq_true_eq] at hr
    by_cases h : (1 : Int) = r
    · exact h.symm
    · simp [h] at hr
  subst h1
  exact ⟨by omega, ⟨ab, plb, -1, 16, [], []⟩, by rfl, ⟨by simp, by simp, by simp, by simp, fun _ => rfl, by simp, by simp⟩, by simp⟩
theorem sp_f2 (ab plb : Nat) : Fine (spH2 ab plb) := by
  have e1 : (spH2 ab plb).last = 1 := by kernel_rfl
  have e2 : (spH2 ab plb).live = [(1, ())] := by kernel_rfl
  have e3 : (spH2 ab plb).par = [(1, 0)] := by kernel_rfl
  have e4 : (spH2 ab plb).cnt = [] := by kernel_rfl
  have e5 : (spH2 ab plb).ow = owAll 2 (fun _ => 0) [(0, 1)] 1 := by kernel_rfl
  have e6 : (spH2 ab plb).gl = [0] := by kernel_rfl
  refine ⟨by rw [e1]; omega, by rw [e1]; omega, by rw [e2]; simp, by rw [e3]; simp, by rw [e4]; simp, by rw [e4]; exact told_nil, fun p => ?_, by rw [e6]; exact glV_ok (by simp)⟩
  rw [e5]
  simp only [owAll, List.foldl, oW]
  split
  · unfold owSet; split <;> simp
  · simp
theorem sp_f3 (ab plb : Nat) : Fine (spH3 ab plb) := by
  have e1 : (spH3 ab plb).last = 1 := by kernel_rfl
  have e2 : (spH3 ab plb).live = [(1, ())] := by kernel_rfl
  have e3 : (spH3 ab plb).par = [(1, 0)] := by kernel_rfl
  have e4 : (spH3 ab plb).cnt = [(1, 1)] := by kernel_rfl
  have e5 : (spH3 ab plb).ow = (spH2 ab plb).ow := by kernel_rfl
  have e6 : (spH3 ab plb).gl = [1] := by kernel_rfl
  refine ⟨by rw [e1]; omega, by rw [e1]; omega, by rw [e2]; simp, by rw [e3]; simp, by rw [e4]; simp, ?_, by rw [e5]; exact (sp_f2 ab plb).ob, by rw [e6]; exact glV_ok (by simp)⟩
  rw [e4]
  intro x
  by_cases h : (1 : Int) = x
  · subst h; decide
  · simp [at0, lk, h]
end Go.Proofs.YtcenagpkfimkbaaGreatDoor
namespace Go.Proofs.YtcenagpkfimkbaaGreatDoor
open Go Go.RowKit

def spOps : List OpN := [⟨1, 0, 0, 0⟩, ⟨5, 1, 1, 1⟩, ⟨8, 0, 1, 0⟩, ⟨14, 1, 0, 0⟩, ⟨3, 1, 0, 0⟩]
def spI (j : Nat) (H : HM) : Prop := if j = 0 then H = spH0 else ∃ ab plb, H = if j = 1 then spH1 ab plb else if j = 2 then spH2 ab plb else spH3 ab plb
def spR (j : Nat) (er v : Int) : Prop := (j = 3 → v = 1) ∧ (j = 4 → er = 7)

theorem spI1 (ab plb : Nat) : spI (0 + 1) (spH1 ab plb) := by unfold spI; rw [if_neg (by decide)]; exact ⟨ab, plb, by rw [if_pos (by decide)]⟩
theorem spI2 (ab plb : Nat) : spI (1 + 1) (spH2 ab plb) := by unfold spI; rw [if_neg (by decide)]; exact ⟨ab, plb, by rw [if_neg (by decide), if_pos (by decide)]⟩
theorem spI3 (ab plb : Nat) (j : Nat) (h : 2 ≤ j) : spI (j + 1) (spH3 ab plb) := by unfold spI; rw [if_neg (by omega)]; exact ⟨ab, plb, by rw [if_neg (by omega), if_neg (by omega)]⟩
theorem sp_do (O0 O1 : Obj) (j : Nat) (x : OpN) (B : HB) (H : HM) (mb : Nat) (fa : Option Addr) (fc : Nat) (w : World) (S : Nat → Prop) (hx : spOps[j]? = some x) (hI : spI j H) (hM : MSt B H O0 O1 mb fa fc w S) :
    Calls Tryz.prog 11 #[.pointer (some ⟨mb, 0, none⟩), opV x.k x.a x.b x.c] w fun e w' => ∃ er v H' S', e = .returned (.agg #[.int .i64 er, .int .u64 v]) ∧ spI (j + 1) H' ∧ spR j er v ∧ MSt B H' O0 O1 mb fa fc w' S' ∧ Grows S S' w w' := by
  match j, hx with
  | 0, hx =>
    simp [spOps] at hx; subst hx
    obtain rfl : H = spH0 := by unfold spI at hI; rw [if_pos rfl] at hI; exact hI
    refine (doRegion hM sp_f0 (by simp [spH0, newH]) 0 0 0).mono ?_
    rintro e w' ⟨v, er, H', S', rfl, ⟨_, _, ab, plb, h⟩, h1, h2⟩
    have h : H' = spH1 ab plb := h
    subst h
    exact ⟨_, _, _, S', rfl, spI1 ab plb, ⟨fun h => absurd h (by decide), fun h => absurd h (by decide)⟩, h1, h2⟩
  | 1, hx =>
    simp [spOps] at hx; subst hx
    obtain ⟨ab, plb, rfl⟩ : ∃ ab plb, H = spH1 ab plb := by unfold spI at hI; rw [if_neg (by decide)] at hI; obtain ⟨ab, plb, h⟩ := hI; rw [if_pos (by decide)] at h; exact ⟨ab, plb, h⟩
    refine (doArray hM (sp_g1 ab plb) 1 1 1 (by omega) (by omega) (by omega) (by omega)).mono ?_
    rintro e w' ⟨v, er, H', S', rfl, h, h1, h2⟩
    have h : H' = spH2 ab plb := by
      rcases h with ⟨h, _⟩ | ⟨_, _, _, h⟩
      · exact absurd (by decide) h
      · exact h
    subst h
    exact ⟨_, _, _, S', rfl, spI2 ab plb, ⟨fun h => absurd h (by decide), fun h => absurd h (by decide)⟩, h1, h2⟩
  | 2, hx =>
    simp [spOps] at hx; subst hx
    obtain ⟨ab, plb, rfl⟩ : ∃ ab plb, H = spH2 ab plb := by unfold spI at hI; rw [if_neg (by decide)] at hI; obtain ⟨ab, plb, h⟩ := hI; rw [if_neg (by decide), if_pos (by decide)] at h; exact ⟨ab, plb, h⟩
    refine (doGlobal hM (sp_f2 ab plb) 0 1 0 (by omega) (by omega) (by omega) (by omega)).mono ?_
    rintro e w' ⟨v, er, H', S', rfl, ⟨_, _, h⟩, h1, h2⟩
    have h : H' = spH3 ab plb := h
    exact ⟨_, _, spH3 ab plb, S', rfl, spI3 ab plb 2 (by omega), ⟨fun h => absurd h (by decide), fun h => absurd h (by decide)⟩, by rw [← h]; exact h1, h2⟩
  | 3, hx =>
    simp [spOps] at hx; subst hx
    obtain ⟨ab, plb, rfl⟩ : ∃ ab plb, H = spH3 ab plb := by unfold spI at hI; rw [if_neg (by decide)] at hI; obtain ⟨ab, plb, h⟩ := hI; rw [if_neg (by decide), if_neg (by decide)] at h; exact ⟨ab, plb, h⟩
    refine (doCount hM (sp_f3 ab plb) 1 0 0 (by omega) (by omega)).mono ?_
    rintro e w' ⟨v, er, H', S', rfl, ⟨hv, he, h⟩, h1, h2⟩
    rw [sp_c3] at hv
    rw [sp_d3] at he
    subst hv he
    exact ⟨_, _, spH3 ab plb, S', rfl, spI3 ab plb 3 (by omega), ⟨fun _ => by rw [if_pos rfl], fun h => absurd h (by decide)⟩, by rw [← h]; exact h1, h2⟩
  | 4, hx =>
    simp [spOps] at hx; subst hx
    obtain ⟨ab, plb, rfl⟩ : ∃ ab plb, H = spH3 ab plb := by unfold spI at hI; rw [if_neg (by decide)] at hI; obtain ⟨ab, plb, h⟩ := hI; rw [if_neg (by decide), if_neg (by decide)] at h; exact ⟨ab, plb, h⟩
    refine (doDelBad hM (sp_f3 ab plb) 1 0 0 (by omega) (by omega) (by rw [sp_e4]; omega)).mono ?_
    rintro e w' ⟨v, er, H', S', rfl, ⟨hv, he, h⟩, h1, h2⟩
    rw [sp_e4] at he
    subst hv he
    exact ⟨_, _, spH3 ab plb, S', rfl, spI3 ab plb 4 (by omega), ⟨fun h => absurd h (by decide), fun _ => rfl⟩, by rw [← h]; exact h1, h2⟩
  | j + 5, hx => simp [spOps] at hx

set_option maxRecDepth 100000 in
set_option maxHeartbeats 4000000 in
theorem speaks_any (O0 O1 : Obj) (ST : Nat → Prop) (w : World) (hT : TabsP O0 O1 w ST) :
    Calls Tryz.prog 7 #[] w fun e w' => e = .returned (.bool true) ∧ Below w.heap.size w w' := by
  obtain ⟨X, hX⟩ : ∃ X, w.alloc (.cells #[.int .i64 1, .int .u64 0, .int .u64 0, .int .u64 0, .int .i64 5, .int .u64 1, .int .u64 1, .int .u64 1, .int .i64 8, .int .u64 0, .int .u64 1, .int .u64 0, .int .i64 14, .int .u64 1, .int .u64 0, .int .u64 0, .int .i64 3, .int .u64 1, .int .u64 0, .int .u64 0] 36) = X := ⟨_, rfl⟩
  have hbX : Below w.heap.size w X := by rw [← hX]; exact (Below.refl _ _).alloc (Nat.le_refl _) _
  have oX : X.heap[w.heap.size]? = some (.cells #[.int .i64 1, .int .u64 0, .int .u64 0, .int .u64 0, .int .i64 5, .int .u64 1, .int .u64 1, .int .u64 1, .int .i64 8, .int .u64 0, .int .u64 1, .int .u64 0, .int .i64 14, .int .u64 1, .int .u64 0, .int .u64 0, .int .i64 3, .int .u64 1, .int .u64 0, .int .u64 0] 36 (0, 0)) := by rw [← hX]; exact heap_alloc_eq _ _
  have hops : OpsAt X (some ⟨w.heap.size, 0, none⟩) spOps := .inr ⟨w.heap.size, 0, rfl, fun j x hx => by
    have c := heap_cell oX
    simp only [c]
    match j, hx with
    | 0, hx => simp [spOps] at hx; subst hx; simp
    | 1, hx => simp [spOps] at hx; subst hx; simp
    | 2, hx => simp [spOps] at hx; subst hx; simp
    | 3, hx => simp [spOps] at hx; subst hx; simp
    | 4, hx => simp [spOps] at hx; subst hx; simp
    | j + 5, hx => simp [spOps] at hx⟩
  have hlt := (TabsP.ok O0 O1).lt hT
  have hR := run_any 2 1 none [] 0 O0 O1 ST X ((TabsP.ok O0 O1).below hT hbX) (by omega) (by omega) (by omega) (.inl rfl) (by decide) (some ⟨w.heap.size, 0, none⟩) 5 spOps hops (by decide) (fun q e => by cases e; exact ⟨fun e => by have := hlt _ e; simp at this, heap_lt oX⟩) spI spR rfl (sp_do O0 O1)
  have HX := Lib.hid hbX
  clear hops oX hbX hlt hT
  go_enter Tryz.func7, Tryz.ntmps7
  go_wp2_with fail
  refine hR.mono ?_
  rintro e w2 ⟨a, c, rs, rfl, hM, hrl, hRs, hc⟩
  obtain ⟨b, rfl, hc2⟩ := hc (by decide)
  obtain ⟨x3, h3⟩ : ∃ x, rs[3]? = some x := ⟨_, List.getElem?_eq_getElem (by rw [hrl]; decide)⟩
  obtain ⟨x4, h4⟩ : ∃ x, rs[4]? = some x := ⟨_, List.getElem?_eq_getElem (by rw [hrl]; decide)⟩
  have c3 := (hc2 3 x3 h3).2
  have c4 := (hc2 4 x4 h4).1
  have e3 := (hRs 3 x3 h3).1 rfl
  have e4 := (hRs 4 x4 h4).2 rfl
  rw [e3] at c3
  rw [e4] at c4
  have HF := Lib.hid (HX.out.trans (hM.mono HX.out.size))
  rw [show spOps.length = 5 from rfl]
  clear hR hM hrl hRs hc hc2 h3 h4 e3 e4
  go_wp2
  go_ret
  exact ⟨rfl, HF.out⟩
end Go.Proofs.YtcenagpkfimkbaaGreatDoor
