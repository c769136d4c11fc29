/-
  Contracts of functions of the program, laid together.
-/
import Derived.Test.YtcenagpkfimkbaaGreatDoorTopSlotsM13
import Derived.Deep.AppendLies
import Derived.Deep.RegionLaw
namespace Go.Proofs.YtcenagpkfimkbaaGreatDoor
open Go Go.RowKit

def pushE (k : Nat) (n : Int) : Int := if 16 < n then 1 else if 63 < k then 3 else 0
def pushL (xss : List (List Int)) (n : Int) : List (List Int) := if n ≤ 16 ∧ xss.length ≤ 63 then xss ++ [List.replicate n.toNat 0] else xss

theorem push_at {w w1 w3 : World} {sb : Nat} {xss : List (List Int)} {S : Nat → Prop} (n : Nat) (hn : n ≤ 16) (hl : xss.length ≤ 63) (H : StackAt w sb xss S) (sl fr sl' : Value) (g cap : Nat)
    (he : w.heap[sb]? = some (.cells #[sl, fr] 170 (0, 0)))
    (hown1 : w1.ownsRow 0 3 1 (.slice (some ⟨g, 0, none⟩) (xss.length + 1) cap) (xss.length + 1) ((offs xss).map (Value.int .i64) ++ [.int .i64 xss.flatten.length]))
    (hm1 : Moved (fun k => fr.ownBlock = some k) w w1) (hg1 : fr.ownBlock = some g ∨ w.heap.size ≤ g)
    (hown3 : w3.ownsRow 0 34 1 sl' (xss.flatten.length + n) (xss.flatten.map (Value.int .u64) ++ List.replicate n (.int .u64 0)))
    (hm3 : (w1.setCell ⟨sb, 1, none⟩ (.slice (some ⟨g, 0, none⟩) (xss.length + 1) cap)).grownBy w3 sl.ownBlock) (hg3 : sl'.ownBlock = sl.ownBlock ∨ sl'.ownBlock = some w1.heap.size) :
    ∃ S', StackAt (w3.setCell ⟨sb, 0, none⟩ sl') sb (xss ++ [List.replicate n 0]) S' ∧ Moved S w (w3.setCell ⟨sb, 0, none⟩ sl') ∧ ∀ k, S' k → S k ∨ w.heap.size ≤ k := by
  obtain ⟨sl0, fr0, h1, h2, h3, h4, h5, h6, h7, h8, h9⟩ := H
  rw [he] at h1
  simp only [Option.some.injEq, Obj.cells.injEq] at h1
  obtain ⟨h1, _, _⟩ := h1
  simp at h1
  obtain ⟨rfl, rfl⟩ := h1
  have hsb := h7 sb h4
  have hg1lt : g < w1.heap.size := (hown1.lt g rfl).2
  have hslne : ∀ k, sl.ownBlock = some k → k ≠ g := fun k hk e => by
    rcases hg1 with h | h
    · exact (h5 k hk).2.2 (by rw [e]; exact h)
    · have := h7 k (h5 k hk).1; omega
  have hgsb : g ≠ sb := by
    rcases hg1 with h | h
    · exact (h6 g h).2
    · omega
  have e1 : w1.heap[sb]? = some (.cells #[sl, fr] 170 (0, 0)) := hm1.heap he (fun e => (h6 sb e).2 rfl)
  have e2 := heap_set e1 1 (.slice (some ⟨g, 0, none⟩) (xss.length + 1) cap)
  have hm2 : Moved (fun k => k = sb) w1 (w1.setCell ⟨sb, 1, none⟩ (.slice (some ⟨g, 0, none⟩) (xss.length + 1) cap)) := Moved.of_set w1 sb 1 _ rfl
  have hm3' : Moved (fun k => sl.ownBlock = some k) (w1.setCell ⟨sb, 1, none⟩ (.slice (some ⟨g, 0, none⟩) (xss.length + 1) cap)) w3 := Moved.of_grown hm3 (fun k h => h)
  have e3 := hm3'.heap e2 (fun e => (h5 sb e).2.1 rfl)
  have e4 := heap_set e3 0 sl'
  have hm4 : Moved (fun k => k = sb) w3 (w3.setCell ⟨sb, 0, none⟩ sl') := Moved.of_set w3 sb 0 _ rfl
  have hsz1 := hm1.size
  have hsz2 : (w1.setCell ⟨sb, 1, none⟩ (.slice (some ⟨g, 0, none⟩) (xss.length + 1) cap)).heap.size = w1.heap.size := by simp [World.setCell]
  have hsz3 := hm3'.size
  have hsz4 := hm4.size
  rw [hsz2] at hsz3
  have hne : ∀ k, sl'.ownBlock = some k → k ≠ sb ∧ k ≠ g ∧ (S k ∨ w.heap.size ≤ k) := by
    intro k hk
    rcases hg3 with h | h
    · rw [h] at hk
      exact ⟨(h5 k hk).2.1, hslne k hk, .inl (h5 k hk).1⟩
    · rw [h] at hk
      simp at hk
      subst hk
      exact ⟨by omega, by omega, .inr hsz1⟩
  have hgS : S g ∨ w.heap.size ≤ g := by
    rcases hg1 with h | h
    · exact .inl (h6 g h).1
    · exact .inr h
  refine ⟨fun k => (S k ∨ w.heap.size ≤ k) ∧ k < (w3.setCell ⟨sb, 0, none⟩ sl').heap.size, ⟨sl', .slice (some ⟨g, 0, none⟩) (xss.length + 1) cap, by simpa using e4, ?_, ?_, ⟨.inl h4, by omega⟩, ?_, ?_, fun k hk => hk.2, ?_, by simp; omega⟩, ?_, fun k hk => hk.1⟩
  · have := hm4.owns hown3 (fun k hk e => (hne k hk).1 e)
    have e5 : (xss ++ [List.replicate n (0 : Int)]).flatten = xss.flatten ++ List.replicate n 0 := by simp
    rw [e5, List.length_append, List.length_replicate, List.map_append, List.map_replicate]
    exact this
  · have k2 := hm2.owns hown1 (fun k hk e => by simp [Value.ownBlock] at hk; omega)
    have k3 := hm3'.owns k2 (fun k hk e => by simp [Value.ownBlock] at hk; exact hslne k e hk.symm)
    have k4 := hm4.owns k3 (fun k hk e => by simp [Value.ownBlock] at hk; omega)
    rw [offs_concat, List.map_append, List.length_append]
    exact k4
  · intro k hk
    have h := hne k hk
    refine ⟨⟨h.2.2, Nat.lt_of_lt_of_le (hown3.lt k hk).2 hsz4⟩, h.1, fun e => ?_⟩
    simp [Value.ownBlock] at e
    exact h.2.1 e.symm
  · intro k hk
    simp [Value.ownBlock] at hk
    subst hk
    exact ⟨⟨hgS, by omega⟩, hgsb⟩
  · intro l hl'
    rcases List.mem_append.1 hl' with h | h
    · exact h8 l h
    · simp at h
      subst h
      simpa using hn
  · have q1 : Moved S w w1 := ⟨hm1.os, hm1.tape, hm1.output, hm1.size, fun k hk hs => hm1.block k hk (fun e => hs (h6 k e).1)⟩
    have q2 := q1.trans hm2 (fun q h => .inl (by subst h; exact h4))
    have q3 := q2.trans hm3' (fun q h => .inl (h5 q h).1)
    exact q3.trans hm4 (fun q h => .inl (by subst h; exact h4))

set_option maxHeartbeats 1000000 in
set_option maxRecDepth 100000 in
theorem sPush_any {sb : Nat} {xss : List (List Int)} {S : Nat → Prop} {w : World} (h : StackAt w sb xss S) (n : Int) (h0 : 0 ≤ n) :
    Calls Tryz.prog 128 #[.pointer (some ⟨sb, 0, none⟩), .int .u64 n] w fun e w' => e = .returned (.int .i64 (pushE xss.length n)) ∧ ∃ S', StackAt w' sb (pushL xss n) S' ∧ Moved S w w' ∧ ∀ k, S' k → S k ∨ w.heap.size ≤ k := by
  have hd := Depth_any h
  have H := Lib.hid h
  rcases (show 16 < n ∨ (n ≤ 16 ∧ 63 < xss.length) ∨ (n ≤ 16 ∧ xss.length ≤ 63) by omega) with hc | ⟨hc, hk⟩ | ⟨hc, hk⟩
  · have e1 : Hid (pushE xss.length n = 1) := by show _ = _; simp [pushE, hc]
    have e2 : Hid (pushL xss n = xss) := by show _ = _; rw [pushL, if_neg (by omega)]
    clear h
    go_enter Tryz.func128, Tryz.ntmps128
    go_wp2
    go_ret
    exact ⟨by rw [e1.out]; rfl, S, by rw [e2.out]; exact H.out, Moved.refl _ _, fun k hk => .inl hk⟩
  · have e1 : Hid (pushE xss.length n = 3) := by show _ = _; rw [pushE, if_neg (by omega), if_pos hk]
    have e2 : Hid (pushL xss n = xss) := by show _ = _; rw [pushL, if_neg (by omega)]
    have hk2 : (64 : Int) ≤ (xss.length : Int) := by omega
    clear h
    go_enter Tryz.func128, Tryz.ntmps128
    go_wp2_with fail
    refine hd.mono ?_
    rintro e w1 ⟨rfl, rfl⟩
    go_wp2
    go_ret
    exact ⟨by rw [e1.out]; rfl, S, by rw [e2.out]; exact H.out, Moved.refl _ _, fun k hk => .inl hk⟩
  · obtain ⟨n, rfl⟩ := Int.eq_ofNat_of_zero_le h0
    have e1 : Hid (pushE xss.length n = 0) := by show _ = _; rw [pushE, if_neg (by omega), if_neg (by omega)]
    have e2 : Hid (pushL xss n = xss ++ [List.replicate n 0]) := by show _ = _; rw [pushL, if_pos ⟨by omega, hk⟩, Int.toNat_natCast]
    obtain ⟨sl, fr, h1, h2, h3, h4, h5, h6, h7, h8, h9⟩ := h
    have hfl := flat_len h8
    obtain ⟨a, cap, rfl, hcap, _⟩ := owns_slice h2
    obtain ⟨b, cb, rfl, hcb, _⟩ := owns_slice h3
    have hsb := h7 sb h4
    have c0 := heap_cell h1 0
    have c1 := heap_cell h1 1
    simp only [List.getElem?_toArray, List.getElem?_cons_zero, List.getElem?_cons_succ] at c0 c1
    obtain ⟨zs, hz⟩ : ∃ zs, xss.flatten = zs := ⟨_, rfl⟩
    rw [hz] at h1 h2 c0 hfl hcap
    obtain ⟨f, hf⟩ : ∃ f, zs.length = f := ⟨_, rfl⟩
    rw [hf] at h1 h2 c0 hfl hcap
    have HZ := Lib.hid hz
    have HF := Lib.hid hf
    have O1 := Lib.hid h1
    obtain ⟨m, hm⟩ : ∃ m, xss.length = m := ⟨_, rfl⟩
    rw [hm] at h1 h3 c1 hd hk hcb hfl O1 e1
    have HM := Lib.hid hm
    have hbsb : (Value.slice b m cb).ownBlock ≠ some sb := fun e => (h6 sb (by rw [← e]; cases b <;> rfl)).2 rfl
    have hsl : ∀ k, (Value.slice a f cap).ownBlock = some k → k ≠ sb ∧ (Value.slice b m cb).ownBlock ≠ some k := fun k hk => by
      have := h5 k (by rw [← hk]; cases a <;> rfl)
      exact ⟨this.2.1, fun e => this.2.2 (by rw [← e]; cases b <;> rfl)⟩
    have hk2 : ¬ (64 : Int) ≤ (m : Int) := by omega
    have H2 := Lib.hid h2
    have H3 := Lib.hid h3
    clear h1 h4 h5 h6 h7 h8 h9 hf hm h2 h3 hz
    obtain ⟨i0, hi0, hz0, hz1, hz2⟩ := info_parts info_int
    obtain ⟨i1, hi1, hy0, hy1, hy2⟩ := info_parts info_u64
    go_enter Tryz.func128, Tryz.ntmps128
    go_wp2_with fail
    refine hd.mono ?_
    rintro e w1 ⟨rfl, rfl⟩
    go_wp2
    go_region_law ((refine step_append_lies _ (by rfl) _ _ _ (by rfl) 0 3 i0 _ 1 8 Tryz.underlying58 hi0 hz0 hz1 hz2 rfl (by omega) (.slice b m cb) m ((offs xss).map (Value.int .i64)) (by rfl) ((H3.out.alloc _).drew) ⟨w1.heap.size, 0, none⟩ 1 1 [.int .i64 f] (by rfl) (by rfl) (World.news_of_block (cs := #[.int .i64 f]) (t := 3) (fr := (0, 0)) (heap_alloc_new w1 _)) (by simp [Value.oneCell']) (by omega) (by unfold maxLen; omega) (by omega) (by simp) (w1.heap.size + 1) (by simp) ?_; intro g cap' w2 hown1 hgrow hat hlt; have O2 := (Moved.of_grown hgrow (S := fun k => (Value.slice b m cb).ownBlock = some k) (fun k h => h)).heap (heap_alloc_lt O1.out _) (fun e => hbsb e); have k1 := heap_cell O2 1; have k2 := heap_free O2 1; simp at k1))
    all_goals
      have hm1 : Moved (fun k => (Value.slice b m cb).ownBlock = some k) w1 w2 := ((Moved.alloc (fun k => (Value.slice b m cb).ownBlock = some k) w1 _).trans (Moved.drew (fun k => (Value.slice b m cb).ownBlock = some k) _) (fun _ h => .inl h)).trans (Moved.of_grown hgrow (S := fun k => (Value.slice b m cb).ownBlock = some k) (fun k h => h)) (fun _ h => .inl h)
      generalize hW : World.setCell _ _ _ = w3
      have O3 : w3.heap[sb]? = some (.cells (#[.slice a f cap, .slice b m cb].setIfInBounds 1 (.slice (some ⟨g, 0, none⟩) (m + 1) cap')) 170 (0, 0)) := by
        rw [← hW]; exact heap_set O2 1 _
      have hown3 : w3.ownsRow 0 34 1 (.slice a f cap) f (zs.map (Value.int .u64)) := by
        rw [← hW]
        exact (Moved.of_set (S := fun k => k = sb) w2 sb 1 _ rfl).owns (hm1.owns H2.out (fun k hk e => (hsl k hk).2 e)) (fun k hk e => (hsl k hk).1 e)
      have d0 := heap_cell O3 0
      simp at d0
      have HW := Lib.hid hW
      have HO := Lib.hid hown1
      clear hW hown1 hgrow hlt O2 k1 k2 c0 c1 H2 H3 hd h0
      go_wp2_with (at_builtin; refine wpList_append_zeros1 rfl _ _ 43 34 rfl 0 34 i1 (.int .u64 0) 8 Tryz.underlying43 Tryz.underlying34 hi1 hy0 hy1 hy2 rfl rfl (by decide) (.slice a f cap) f _ rfl hown3 .u64 n rfl (by omega) (by simp) ?_)
      intro v4 w4 ho4 hg4 hat4
      obtain ⟨a4, cap4, rfl, _⟩ := owns_slice ho4
      have O4 := (Moved.of_grown hg4 (S := fun k => (Value.slice a f cap).ownBlock = some k) (fun k h => h)).heap O3 (fun e => (hsl sb e).1 rfl)
      have k0 := heap_cell O4 0
      have kf := heap_free O4 0
      simp at k0
      clear O4 d0 O3
      go_wp2
      go_ret
      have h1 : xss.flatten.length = f := by rw [HZ.out, HF.out]
      refine ⟨by rw [HM.out, e1.out]; rfl, ?_⟩
      rw [e2.out]
      refine push_at (w := w1) (w1 := w2) (w3 := w4) n (by omega) (by rw [HM.out]; exact hk) H.out (.slice a f cap) (.slice b m cb) _ g cap' O1.out ?_ hm1 (hat.imp_right fun h => by omega) ?_ ?_ ?_
      · rw [HM.out, h1]; exact HO.out
      · rw [h1, HZ.out]; exact ho4
      · rw [HM.out, HW.out]; exact hg4
      · refine hat4.imp_right fun h => ?_
        rw [h, ← HW.out]
        simp [World.setCell]
end Go.Proofs.YtcenagpkfimkbaaGreatDoor
