/-
  Contracts of functions of the program, laid together.
-/
import Derived.Test.YtcenagpkfimkbaaGreatDoorTopSlotsM12
import Derived.Test.YtcenagpkfimkbaaGreatDoorTopSlotsM27
import Derived.Test.YtcenagpkfimkbaaGreatDoorTopSlotsM34
import Derived.Test.YtcenagpkfimkbaaGreatDoorTopSlotsM35
namespace Go.Proofs.YtcenagpkfimkbaaGreatDoor
open Go Go.RowKit

def flds (ms : List Int) (ds : List (List Int)) (a id : Int) : List (Int × Int × Int) := (List.range (onK ms ds a).length).map fun i => (id, (onK ms ds a)[i]?.getD 0, (onV ms ds a)[i]?.getD 0)
def fieldsL (H : HM) : List (Int × Int × Int) := (objsL H).flatMap fun p => flds H.ms H.ds p.1 p.2
def fz (H : HM) (f : Int × Int × Int) : Int := cz f.2.1 f.1 (tgt H f.2.2)
def rz (H : HM) (v : Int) : Int := cz 1 0 (tgt H v)
def cntOf (H : HM) (r : Int) : Int := ((fieldsL H).countP (fun f => decide (fz H f = r)) : Int) + ((rootsL H).countP (fun v => decide (rz H v = r)) : Int)
def PtOk (H : HM) (id k v : Int) : Prop := k = 0 ∨ v = 0 ∨ (hasM H.st v = true ∧ (k = 2 → tgt H v = id) ∧ (k = 3 → upV H.par (tgt H v) id ≠ 0))
structure Inv (Pg n : Nat) (H : HM) : Prop where
  y : Lay Pg n H
  fp : ∀ f ∈ fieldsL H, PtOk H f.1 f.2.1 f.2.2
  rp : ∀ v ∈ rootsL H, v = 0 ∨ hasM H.st v = true
  ct : ∀ r, 1 ≤ r → at0 H.cnt r = cntOf H r
  rc : Rising H.cnt
  ck : ∀ p ∈ H.cnt, 1 ≤ p.1 ∧ p.1 ≤ H.last
  gl : H.gl.length ≤ 64
  fl : H.fr.length ≤ 64
  fs : ∀ l ∈ H.fr, l.length ≤ 16

theorem rising_cap {α : Type} : ∀ {m : IM α} {N : Nat}, Rising m → (∀ p ∈ m, 1 ≤ p.1 ∧ p.1 ≤ N) → m.length ≤ N := by
  intro m N hr hk
  have h : ∀ (m : IM α) (L : Int), Rising m → (∀ p ∈ m, L < p.1 ∧ p.1 ≤ N) → L ≤ N → (m.length : Int) ≤ N - L := by
    intro m
    induction m with
    | nil => intro L _ _ hL; simp; omega
    | cons z r ih =>
      intro L hr hk hL
      obtain ⟨h1, h2⟩ := List.pairwise_cons.1 hr
      have hz := hk z (by simp)
      have := ih z.1 h2 (fun p hp => ⟨h1 p hp, (hk p (by simp [hp])).2⟩) hz.2
      simp only [List.length_cons]
      omega
  have := h m 0 hr (fun p hp => ⟨by have := hk p hp; omega, (hk p hp).2⟩) (by omega)
  omega
theorem countP_set {α : Type} (p : α → Bool) : ∀ (l : List α) (i : Nat) (v : α) (h : i < l.length), ((l.set i v).countP p : Int) = l.countP p - one (p l[i]) + one (p v)
  | x :: r, 0, v, h => by
    simp only [List.set_cons_zero, List.countP_cons, List.getElem_cons_zero, one]
    by_cases h1 : p x = true <;> by_cases h2 : p v = true <;> simp [h1, h2]
  | x :: r, i + 1, v, h => by
    simp only [List.set_cons_succ, List.countP_cons, List.getElem_cons_succ]
    have := countP_set p r i v (by simpa using h)
    push_cast
    omega
section
variable {Pg n : Nat} {H : HM}
theorem cz_nonneg {H : HM} (hob : ∀ q : Nat, 0 ≤ H.ow q) (k id v : Int) : 0 ≤ cz k id (tgt H v) := by
  have : 0 ≤ tgt H v := by
    unfold tgt owW owP
    split
    · split
      · omega
      · split
        · exact hob _
        · omega
    · omega
  unfold cz
  split <;> omega
theorem Inv.live_len (h : Inv Pg n H) : H.live.length ≤ n := by
  have h1 := h.y.ln
  refine rising_cap h.y.rl (fun p hp => ?_)
  have := h.y.lv p.1 (by unfold LiveR; rw [(lk_some h.y.rl).2 hp]; rfl)
  omega
theorem Inv.cnt_len (h : Inv Pg n H) : H.cnt.length ≤ n := by
  have h1 := h.y.ln
  exact rising_cap h.rc (fun p hp => by have := h.ck p hp; omega)
theorem len_flatMap {α β : Type} (f : α → List β) (c : Nat) : ∀ (l : List α), (∀ x ∈ l, (f x).length ≤ c) → (l.flatMap f).length ≤ l.length * c
  | [], _ => by simp
  | x :: r, h => by
    have h1 := h x (by simp)
    have h2 := len_flatMap f c r (fun y hy => h y (by simp [hy]))
    simp only [List.flatMap_cons, List.length_append, List.length_cons, Nat.add_mul]
    omega
theorem Inv.objs_len (h : Inv Pg n H) : (objsL H).length ≤ n * n := by
  refine Nat.le_trans (len_flatMap (thsOf H) n _ (fun id _ => ?_)) (Nat.mul_le_mul_right _ (by simp only [keysL, List.length_map]; exact h.live_len))
  unfold thsOf
  cases e : lk H.ar id with
  | none => simp
  | some A => simp only [List.length_map]; exact (h.y.sz id A e).2
theorem Inv.fields_len (h : Inv Pg n H) : (fieldsL H).length ≤ n * n * 4000 := by
  refine Nat.le_trans (len_flatMap _ 4000 _ (fun p _ => ?_)) (Nat.mul_le_mul_right _ h.objs_len)
  unfold flds
  rw [List.length_map, List.length_range]
  exact onK_len h.y.dd _ _
theorem Inv.roots_len (h : Inv Pg n H) : (rootsL H).length ≤ 1088 := by
  unfold rootsL
  rw [List.length_append]
  have h1 : H.fr.flatten.length ≤ H.fr.length * 16 := by
    rw [← List.flatMap_id]
    exact len_flatMap id 16 _ (fun l hl => h.fs l hl)
  have := h.gl
  have := h.fl
  omega
theorem Inv.cnt_le (h : Inv Pg n H) (r : Int) : 0 ≤ at0 H.cnt r ∧ at0 H.cnt r ≤ 200000000 := by
  by_cases hr : 1 ≤ r
  · rw [h.ct r hr]
    unfold cntOf
    have h1 := List.countP_le_length (p := fun f => decide (fz H f = r)) (l := fieldsL H)
    have h2 := List.countP_le_length (p := fun v => decide (rz H v = r)) (l := rootsL H)
    have h3 := h.fields_len
    have h4 := h.roots_len
    have h5 := h.y.nn
    have h6 : n * n * 4000 ≤ 200 * 200 * 4000 := Nat.mul_le_mul_right _ (Nat.mul_le_mul h5 h5)
    omega
  · have : lk H.cnt r = none := (lk_none h.rc).2 fun v hv => by have := h.ck _ hv; simp at this; omega
    unfold at0
    rw [this]
    simp
theorem Inv.told (h : Inv Pg n H) : Told H.cnt := fun r => by have := h.cnt_le r; omega
end
end Go.Proofs.YtcenagpkfimkbaaGreatDoor
namespace Go.Proofs.YtcenagpkfimkbaaGreatDoor
open Go Go.RowKit

theorem tSet_mem {m : IM Int} {x n : Int} {p : Int × Int} (h : p ∈ tSet m x n) : p ∈ m ∨ p.1 = x := by
  unfold tSet at h
  split at h
  · exact .inl (mem_mdel.1 h).1
  · rcases mem_mins.1 h with h | h
    · exact .inr (by rw [h])
    · exact .inl (mem_mdel.1 h).1
theorem swL_mem {m : IM Int} {a b : Int} {p : Int × Int} (h : p ∈ swL m a b) : p ∈ m ∨ (a ≠ 0 ∧ p.1 = a) ∨ (b ≠ 0 ∧ p.1 = b) := by
  have hM : ∀ p ∈ swM m a, p ∈ m ∨ (a ≠ 0 ∧ p.1 = a) := by
    intro p hp
    unfold swM at hp
    split at hp
    · rename_i h0
      exact (tSet_mem hp).imp_right (fun e => ⟨h0, e⟩)
    · exact .inl hp
  unfold swL at h
  split at h
  · split at h
    · rename_i h0
      rcases tSet_mem h with h | h
      · exact (hM p h).imp_right .inl
      · exact .inr (.inr ⟨h0, h⟩)
    · exact (hM p h).imp_right .inl
  · exact .inl h
section
variable {Pg n : Nat} {H : HM}
theorem Lay.zero (h : Lay Pg n H) : hasM H.st 0 = false := by
  cases e : hasM H.st 0
  · rfl
  · obtain ⟨id, A, p, hA, hp, h0, _⟩ := h.start e
    have := (h.t2 id A hA p hp).1
    omega
theorem Lay.tgt_in (h : Lay Pg n H) (v : Int) : tgt H v = 0 ∨ (1 ≤ tgt H v ∧ tgt H v ≤ H.last ∧ LiveR H (tgt H v)) := by
  cases e : hasM H.st v
  · exact .inl (h.tgt_no e)
  · obtain ⟨id, A, p, hA, hp, h0, h1, h2, h3⟩ := h.start e
    rw [h1]
    have := h.idl hA
    exact .inr ⟨h3, this.2.2, this.1⟩
theorem Lay.cz_in (h : Lay Pg n H) (k id v : Int) : cz k id (tgt H v) = 0 ∨ (1 ≤ cz k id (tgt H v) ∧ cz k id (tgt H v) ≤ H.last) := by
  unfold cz
  split
  · exact (h.tgt_in v).imp_right (fun e => ⟨e.1, e.2.1⟩)
  · exact .inl rfl
theorem Lay.turned (h : Lay Pg n H) (c : IM Int) (g : List Int) (f : List (List Int)) : Lay Pg n { H with cnt := c, gl := g, fr := f } := by
  cases h
  constructor <;> assumption
theorem Inv.old_count (h : Inv Pg n H) {v : Int} (hv : v ∈ rootsL H) (h0 : rz H v ≠ 0) : 1 ≤ at0 H.cnt (rz H v) := by
  have h1 : 1 ≤ rz H v ∧ rz H v ≤ H.last := (h.y.cz_in 1 0 v).resolve_left h0
  rw [h.ct _ h1.1]
  unfold cntOf
  have : 0 < (rootsL H).countP (fun u => decide (rz H u = rz H v)) := List.countP_pos_iff.2 ⟨v, hv, by simp⟩
  omega
theorem Inv.root (h : Inv Pg n H) {i : Nat} {v : Int} (hi : i < (rootsL H).length) (hv : v = 0 ∨ hasM H.st v = true) (g : List Int) (f : List (List Int)) (hr : g ++ f.flatten = (rootsL H).set i v) (hg : g.length ≤ 64) (hf : f.length ≤ 64) (hs : ∀ l ∈ f, l.length ≤ 16) :
    Inv Pg n { mvd H 1 0 (rootsL H)[i] v with gl := g, fr := f } := by
  obtain ⟨old, hold⟩ : ∃ old, (rootsL H)[i] = old := ⟨_, rfl⟩
  have hmem : old ∈ rootsL H := by rw [← hold]; exact List.getElem_mem hi
  have ha := h.y.cz_in 1 0 old
  have hb := h.y.cz_in 1 0 v
  have hR : rootsL { mvd H 1 0 old v with gl := g, fr := f } = (rootsL H).set i v := hr
  have hF : fieldsL { mvd H 1 0 old v with gl := g, fr := f } = fieldsL H := rfl
  rw [hold]
  refine ⟨h.y.turned _ _ _, h.fp, ?_, ?_, swL_rising h.rc _ _, ?_, hg, hf, hs⟩
  · intro u hu
    rw [hR] at hu
    rcases List.mem_or_eq_of_mem_set hu with hu | rfl
    · exact h.rp u hu
    · exact hv
  · intro r hr1
    have e1 : at0 (swL H.cnt (cz 1 0 (tgt H old)) (cz 1 0 (tgt H v))) r = at0 H.cnt r - one (decide (r = cz 1 0 (tgt H old))) + one (decide (r = cz 1 0 (tgt H v))) :=
      at0_swL (a := cz 1 0 (tgt H old)) (b := cz 1 0 (tgt H v)) h.rc (by rcases ha with e | e <;> omega) (by rcases hb with e | e <;> omega) (fun e => h.old_count hmem e) (by have := h.cnt_le (cz 1 0 (tgt H v)); omega) r (by omega)
    show at0 (swL H.cnt (cz 1 0 (tgt H old)) (cz 1 0 (tgt H v))) r = ((fieldsL H).countP (fun f => decide (fz H f = r)) : Int) + ((rootsL { mvd H 1 0 old v with gl := g, fr := f }).countP (fun v => decide (rz H v = r)) : Int)
    rw [e1, h.ct r hr1, hR, countP_set _ _ _ _ hi, hold]
    unfold cntOf rz
    have c1 : (decide (r = cz 1 0 (tgt H old))) = decide (cz 1 0 (tgt H old) = r) := by simp [eq_comm]
    have c2 : (decide (r = cz 1 0 (tgt H v))) = decide (cz 1 0 (tgt H v) = r) := by simp [eq_comm]
    rw [c1, c2]
    omega
  · intro p hp
    rcases swL_mem hp with h1 | ⟨h0, h1⟩ | ⟨h0, h1⟩
    · exact h.ck p h1
    · rw [h1]; exact ha.resolve_left h0
    · rw [h1]; exact hb.resolve_left h0
end
end Go.Proofs.YtcenagpkfimkbaaGreatDoor
namespace Go.Proofs.YtcenagpkfimkbaaGreatDoor
open Go Go.RowKit

section
variable {Pg n : Nat} {H : HM}
theorem mayP_iff {v : Int} (h : mayP H v = true) : v = 0 ∨ hasM H.st v = true := by
  unfold mayP at h
  simpa using h
theorem Inv.sg (h : Inv Pg n H) (i v : Int) (i0 : 0 ≤ i) : Inv Pg n (sgH H i v) := by
  unfold sgH
  split
  · rename_i he
    unfold sgE at he
    split at he
    · rename_i h1; exact absurd he h1
    · rename_i h1
      split at he
      · rename_i h2
        have hl : i < H.gl.length := by
          unfold glE at h1
          split at h1
          · assumption
          · exact absurd (by decide) h1
        have hi : i.toNat < (rootsL H).length := by unfold rootsL; rw [List.length_append]; omega
        have e1 : (rootsL H)[i.toNat] = glV H.gl i := by
          unfold glV
          rw [if_pos hl]
          have hg : i.toNat < H.gl.length := by omega
          have : (rootsL H)[i.toNat]? = H.gl[i.toNat]? := by unfold rootsL; exact List.getElem?_append_left hg
          rw [List.getElem?_eq_getElem hi] at this
          rw [List.getD_eq_getElem?_getD, ← this]
          rfl
        have hr := h.root hi (mayP_iff h2) (glS H.gl i v) H.fr (by unfold glS rootsL; rw [if_pos hl, List.set_append_left _ _ (by omega)]) (by unfold glS; rw [if_pos hl, List.length_set]; exact h.gl) h.fl h.fs
        rw [e1] at hr
        exact hr
      · cases he
  · exact h
theorem Inv.ss (h : Inv Pg n H) (i v : Int) (i0 : 0 ≤ i) : Inv Pg n (ssH H i v) := by
  unfold ssH
  split
  · rename_i he
    unfold ssE at he
    split at he
    · rename_i h1; exact absurd he h1
    · rename_i h1
      split at he
      · rename_i h2
        rcases List.eq_nil_or_concat H.fr with e | ⟨ini, l, e⟩
        · rw [e] at h1; exact absurd (show topE [] i ≠ 0 by simp [topE]) h1
        · rw [List.concat_eq_append] at e
          rw [e, topE_concat] at h1
          have hl : i < l.length := by
            split at h1
            · assumption
            · exact absurd (by decide) h1
          have hlen : (rootsL H).length = H.gl.length + ini.flatten.length + l.length := by
            unfold rootsL; rw [e]; simp; omega
          have hi : H.gl.length + ini.flatten.length + i.toNat < (rootsL H).length := by omega
          have er : rootsL H = (H.gl ++ ini.flatten) ++ l := by unfold rootsL; rw [e]; simp
          have e1 : (rootsL H)[H.gl.length + ini.flatten.length + i.toNat] = topV H.fr i := by
            have h2 : (rootsL H)[H.gl.length + ini.flatten.length + i.toNat]? = l[i.toNat]? := by
              rw [er, List.getElem?_append_right (by simp)]
              congr 1
              simp
            rw [List.getElem?_eq_getElem hi] at h2
            unfold topV
            rw [e]
            simp [← h2]
          have hr := h.root hi (mayP_iff h2) H.gl (setTop H.fr i v) (by
            rw [e, setTop_concat, er, List.set_append_right _ _ (by simp)]
            simp) h.gl (by rw [e, setTop_concat]; have := h.fl; rw [e] at this; simpa using this) (by
            rw [e, setTop_concat]
            intro l' hl'
            have hs := h.fs
            rw [e] at hs
            rcases List.mem_append.1 hl' with h3 | h3
            · exact hs l' (by simp [h3])
            · simp at h3
              subst h3
              rw [List.length_set]
              exact hs l (by simp))
          rw [e1] at hr
          exact hr
      · cases he
  · exact h
theorem Inv.framed (h : Inv Pg n H) (c : IM Int) (f : List (List Int)) (hr : ∀ v ∈ f.flatten, v = 0 ∨ hasM H.st v = true) (hc : ∀ r, 1 ≤ r → at0 c r = at0 H.cnt r - H.fr.flatten.countP (fun v => decide (rz H v = r)) + f.flatten.countP (fun v => decide (rz H v = r))) (hrc : Rising c) (hck : ∀ p ∈ c, 1 ≤ p.1 ∧ p.1 ≤ H.last) (hf : f.length ≤ 64) (hs : ∀ l ∈ f, l.length ≤ 16) :
    Inv Pg n { H with cnt := c, fr := f } := by
  refine ⟨h.y.turned c H.gl f, h.fp, ?_, ?_, hrc, hck, h.gl, hf, hs⟩
  · intro u hu
    rcases List.mem_append.1 (show u ∈ H.gl ++ f.flatten from hu) with hu | hu
    · exact h.rp u (List.mem_append.2 (.inl hu))
    · exact hr u hu
  · intro r hr1
    show at0 c r = ((fieldsL H).countP (fun f => decide (fz H f = r)) : Int) + ((H.gl ++ f.flatten).countP (fun v => decide (rz H v = r)) : Int)
    rw [hc r hr1, h.ct r hr1]
    unfold cntOf rootsL
    rw [List.countP_append, List.countP_append]
    omega
theorem Inv.rz0 (h : Inv Pg n H) : rz H 0 = 0 := by
  unfold rz cz cntB
  rw [h.y.tgt_no h.y.zero]
  simp
theorem Inv.push (h : Inv Pg n H) (k : Int) : Inv Pg n { H with fr := pushL H.fr k } := by
  unfold pushL
  split
  · rename_i hk
    refine h.framed H.cnt (H.fr ++ [List.replicate k.toNat 0]) ?_ ?_ h.rc h.ck ?_ ?_
    · intro v hv
      simp only [List.flatten_append, List.flatten_cons, List.flatten_nil, List.append_nil] at hv
      rcases List.mem_append.1 hv with hv | hv
      · exact h.rp v (List.mem_append.2 (.inr hv))
      · exact .inl (List.mem_replicate.1 hv).2
    · intro r hr1
      have h0 := h.rz0
      simp only [List.flatten_append, List.flatten_cons, List.flatten_nil, List.append_nil, List.countP_append]
      have : (List.replicate k.toNat (0 : Int)).countP (fun v => decide (rz H v = r)) = 0 := by
        rw [List.countP_eq_zero]
        intro v hv
        rw [(List.mem_replicate.1 hv).2, h0]
        simp
        omega
      omega
    · simp; omega
    · intro l hl
      rcases List.mem_append.1 hl with hl | hl
      · exact h.fs l hl
      · simp at hl
        subst hl
        simp
        omega
  · exact h
theorem popM_eq (l : List Int) : ∀ (H : HM), popM H l = { H with cnt := (popM H l).cnt } := by
  induction l with
  | nil => intro H; rfl
  | cons v l ih =>
    intro H
    rw [popM_cons, ih]
    rfl
theorem popM_at0 (l : List Int) : ∀ (H : HM), Rising H.cnt → (∀ v, 0 ≤ rz H v) → rz H 0 = 0 → (∀ r, 1 ≤ r → (l.countP (fun v => decide (rz H v = r)) : Int) ≤ at0 H.cnt r ∧ at0 H.cnt r ≤ 200000000) → (∀ r, r ≤ 0 → at0 H.cnt r < 2147483647) →
    (∀ r, 1 ≤ r → at0 (popM H l).cnt r = at0 H.cnt r - l.countP (fun v => decide (rz H v = r))) ∧ ∀ p ∈ (popM H l).cnt, p ∈ H.cnt ∨ ∃ v ∈ l, rz H v ≠ 0 ∧ p.1 = rz H v := by
  induction l with
  | nil => exact fun H _ _ _ _ _ => ⟨fun r _ => by simp [popM], fun p hp => .inl hp⟩
  | cons v l ih =>
    intro H hr hz h0 hc hn
    rw [popM_cons]
    obtain ⟨m, hm⟩ : ∃ m, swL H.cnt (rz H v) (rz H 0) = m := ⟨_, rfl⟩
    have e : mvd H 1 0 v 0 = { H with cnt := m } := by rw [← hm]; rfl
    have hrz : ∀ u, rz { H with cnt := m } u = rz H u := fun _ => rfl
    have hb : at0 H.cnt 0 < 2147483647 := hn 0 (by omega)
    have hsw : ∀ r, r ≠ 0 → at0 m r = at0 H.cnt r - one (decide (r = rz H v)) := by
      intro r hr0
      rw [← hm, h0, at0_swL hr (hz v) (by omega) (fun ha => ?_) hb r hr0]
      · simp [one, hr0]
      · have hz1 := hz v
        have := (hc (rz H v) (by omega)).1
        rw [List.countP_cons] at this
        simp at this
        omega
    have hmr : Rising m := by rw [← hm]; exact swL_rising hr _ _
    rw [e]
    obtain ⟨i1, i2⟩ := ih { H with cnt := m } hmr hz h0 (fun r hr1 => by
      have h1 := hc r hr1
      have h2 := hsw r (by omega)
      rw [List.countP_cons] at h1
      show (l.countP (fun v => decide (rz H v = r)) : Int) ≤ at0 m r ∧ at0 m r ≤ 200000000
      rw [h2]
      unfold one
      by_cases hv : rz H v = r
      · simp [hv] at h1 ⊢; omega
      · simp [hv, eq_comm] at h1 ⊢
        simp [Ne.symm hv]
        omega) (fun r hr1 => by
      show at0 m r < _
      by_cases hr0 : r = 0
      · subst hr0
        rw [← hm]
        unfold swL
        split
        · rw [h0, if_neg (by simp)]
          unfold swM
          split
          · rename_i hv
            rw [at0_tSet hr, if_neg (fun e => hv e.symm)]
            exact hb
          · exact hb
        · exact hb
      · rw [hsw r hr0]
        have := one_nonneg (decide (r = rz H v))
        have := hn r hr1
        omega)
    refine ⟨fun r hr1 => ?_, fun p hp => ?_⟩
    · rw [i1 r hr1]
      show at0 m r - (l.countP (fun v => decide (rz H v = r)) : Int) = _
      rw [hsw r (by omega), List.countP_cons]
      unfold one
      by_cases hv : rz H v = r
      · simp [hv]; omega
      · simp [hv, Ne.symm hv]
    · rcases i2 p hp with h1 | ⟨u, h1, h2, h3⟩
      · rw [show ({ H with cnt := m } : HM).cnt = m from rfl, ← hm] at h1
        rcases swL_mem h1 with h1 | ⟨h1, h2⟩ | ⟨h1, h2⟩
        · exact .inl h1
        · exact .inr ⟨v, by simp, h1, h2⟩
        · exact absurd h0 h1
      · exact .inr ⟨u, by simp [h1], h2, h3⟩
theorem Inv.pop (h : Inv Pg n H) : Inv Pg n (popH H) := by
  unfold popH
  rcases List.eq_nil_or_concat H.fr with e | ⟨ini, l, e⟩
  · have e2 : ({ H with fr := H.fr.dropLast } : HM) = H := by rw [e]; cases H; simp at e; subst e; rfl
    rw [e2, e]
    exact h
  · rw [List.concat_eq_append] at e
    have e1 : popL H.fr = l := by rw [e]; simp [popL]
    have e2 : H.fr.dropLast = ini := by rw [e]; simp
    rw [e1, e2]
    have hfl : H.fr.flatten = ini.flatten ++ l := by rw [e]; simp
    have hz : ∀ v, 0 ≤ rz { H with fr := ini } v := fun v => by
      have := h.y.cz_in 1 0 v
      show 0 ≤ cz 1 0 (tgt H v)
      omega
    obtain ⟨i1, i2⟩ := popM_at0 l { H with fr := ini } h.rc hz h.rz0 (fun r hr1 => by
      refine ⟨?_, (h.cnt_le r).2⟩
      show (l.countP (fun v => decide (rz H v = r)) : Int) ≤ at0 H.cnt r
      rw [h.ct r hr1]
      unfold cntOf rootsL
      rw [hfl, List.countP_append, List.countP_append]
      omega) (fun r _ => by have := (h.cnt_le r).2; show at0 H.cnt r < _; omega)
    rw [popM_eq]
    refine h.framed _ ini ?_ ?_ (popM_cnt l { H with fr := ini } h.rc).1 ?_ ?_ ?_
    · intro v hv
      exact h.rp v (List.mem_append.2 (.inr (by rw [hfl]; exact List.mem_append.2 (.inl hv))))
    · intro r hr1
      rw [i1 r hr1, hfl, List.countP_append]
      show at0 H.cnt r - (l.countP (fun v => decide (rz H v = r)) : Int) = _
      push_cast
      omega
    · intro p hp
      rcases i2 p hp with h1 | ⟨v, h1, h2, h3⟩
      · exact h.ck p h1
      · rw [h3]
        have := h.y.cz_in 1 0 v
        exact this.resolve_left h2
    · have := h.fl; rw [e] at this; simp at this; omega
    · intro l' hl'
      exact h.fs l' (by rw [e]; simp [hl'])
end
end Go.Proofs.YtcenagpkfimkbaaGreatDoor
namespace Go.Proofs.YtcenagpkfimkbaaGreatDoor
open Go Go.RowKit

theorem mput_last {α : Type} {m : IM α} {k : Int} (hk : ∀ p ∈ m, p.1 < k) (v : α) : mput m k v = m ++ [(k, v)] := by
  have hd : mdel m k = m := by
    unfold mdel
    rw [List.filter_eq_self]
    intro p hp
    have := hk p hp
    simp
    omega
  unfold mput
  rw [hd]
  clear hd
  induction m with
  | nil => rfl
  | cons z r ih =>
    have hz := hk z (by simp)
    unfold mins
    simp only
    rw [if_neg (by omega), ih (fun p hp => hk p (by simp [hp]))]
    rfl
theorem upW_congr {P P' : IM Int} {N : Int} (hP : ∀ x, 0 < x → x ≤ N → at0 P x = at0 P' x) (hd : ∀ x, 0 < x → x ≤ N → at0 P x < x) (to : Int) : ∀ (f : Nat) (x : Int), x ≤ N → 0 ≤ x → (∀ y, 0 < y → y ≤ N → 0 ≤ at0 P y) → upW P to f x = upW P' to f x
  | 0, _, _, _, _ => rfl
  | f + 1, x, hx, h0, hn => by
    unfold upW
    by_cases e : x = 0 ∨ x = to
    · rw [if_pos e, if_pos e]
    · rw [if_neg e, if_neg e, ← hP x (by omega) hx]
      have := hd x (by omega) hx
      exact upW_congr hP hd to f _ (by omega) (hn x (by omega) hx) hn
theorem upV_congr {P P' : IM Int} {N : Int} (hP : ∀ x, 0 < x → x ≤ N → at0 P x = at0 P' x) (hd : ∀ x, 0 < x → x ≤ N → 0 ≤ at0 P x ∧ at0 P x < x) (to x : Int) (hx : x ≤ N) (h0 : 0 ≤ x) : upV P to x = upV P' to x :=
  upW_congr hP (fun y a b => (hd y a b).2) to _ x hx h0 (fun y a b => (hd y a b).1)
section
variable {Pg n : Nat} {H : HM}
theorem Lay.at0p (h : Lay Pg n H) (x : Int) (hx : 0 < x) : 0 ≤ at0 H.par x ∧ at0 H.par x < x := by
  unfold at0
  cases e : lk H.par x with
  | none => simp; exact hx
  | some p => have := h.up x p e; simp; omega
theorem Inv.field_in (h : Inv Pg n H) {f : Int × Int × Int} (hf : f ∈ fieldsL H) : LiveR H f.1 := by
  unfold fieldsL objsL at hf
  simp only [List.mem_flatMap] at hf
  obtain ⟨p, ⟨id, hid, hp⟩, hf⟩ := hf
  unfold flds at hf
  obtain ⟨i, _, rfl⟩ := List.mem_map.1 hf
  unfold thsOf at hp
  cases e : lk H.ar id with
  | none => rw [e] at hp; cases hp
  | some A =>
    rw [e] at hp
    obtain ⟨q, _, rfl⟩ := List.mem_map.1 hp
    exact (h.y.ar id).1 (by rw [e]; rfl)
theorem Inv.more (h : Inv Pg n H) {k : Nat} (hk : n ≤ k) (h1 : k ≤ 200) : Inv Pg k H := by
  refine { h with y := { h.y with ln := by have := h.y.ln; omega, nn := h1, sz := fun id A e => by have := h.y.sz id A e; omega } }
theorem Inv.rg (h : Inv Pg n H) (hn : n + 1 ≤ 200) (p : Int) (ab plb : Nat) : Inv Pg (n + 1) (rgH H p ab plb) := by
  by_cases he : rgE H p = 0
  · have hlast : ∀ q ∈ H.live, q.1 < H.last + 1 := fun q hq => by
      have := h.y.lv q.1 (by unfold LiveR; rw [(lk_some h.y.rl).2 hq]; rfl)
      omega
    have hnone : ∀ {α : Type} {m : IM α}, Rising m → (∀ id, (lk m id).isSome = true → LiveR H id) → (∀ q ∈ m, q.1 < H.last + 1) ∧ lk m (H.last + 1) = none := by
      intro α m hr hm
      have h1 : ∀ q ∈ m, q.1 < H.last + 1 := fun q hq => by
        have := h.y.lv q.1 (hm q.1 (by rw [(lk_some hr).2 hq]; rfl))
        omega
      exact ⟨h1, (lk_none hr).2 fun v hv => by have := h1 _ hv; simp at this⟩
    obtain ⟨a1, a2⟩ := hnone h.y.ra (fun id => (h.y.ar id).1)
    obtain ⟨p1, p2⟩ := hnone h.y.rp (fun id => (h.y.par id).1)
    have hl0 := h.y.l0
    have hp0 : p = 0 ∨ LiveR H p := by
      unfold rgE at he
      split at he
      · cases he
      · rename_i h1
        by_cases e : p = 0
        · exact .inl e
        · refine .inr ((h.y.lives p).1 ?_)
          cases hb : livesB H p
          · exact absurd ⟨e, hb⟩ h1
          · rfl
    have hgv : gvL H.live H.last 64 = mput H.live (H.last + 1) () := by
      unfold rgE gvE at he
      unfold gvL
      split at he
      · cases he
      · split at he
        · cases he
        · rename_i h1; rw [if_neg h1]
    have htr : trL H.par (H.last + 1) p = mput H.par (H.last + 1) p := by
      unfold trL trE
      rw [if_pos]
      rw [if_neg (by rw [p2]; simp; omega), if_neg]
      rintro ⟨h1, h2⟩
      rcases hp0 with e | e
      · exact h1 e
      · rw [(h.y.par p).2 e] at h2; cases h2
    have hlp : p ≤ H.last := by
      rcases hp0 with e | e
      · omega
      · exact (h.y.lv p e).2
    have hp00 : 0 ≤ p := by
      rcases hp0 with e | e
      · omega
      · have := (h.y.lv p e).1; omega
    unfold rgH
    rw [if_pos he, hgv, htr]
    have kl : ∀ id, lk (mput H.live (H.last + 1) ()) id = if id = H.last + 1 then some () else lk H.live id := lk_put h.y.rl _ _
    have ka : ∀ id, lk (mput H.ar (H.last + 1) (⟨ab, plb, -1, 16, [], []⟩ : AR)) id = if id = H.last + 1 then some ⟨ab, plb, -1, 16, [], []⟩ else lk H.ar id := lk_put h.y.ra _ _
    have kp : ∀ id, lk (mput H.par (H.last + 1) p) id = if id = H.last + 1 then some p else lk H.par id := lk_put h.y.rp _ _
    have kA : ∀ {id A}, lk (mput H.ar (H.last + 1) (⟨ab, plb, -1, 16, [], []⟩ : AR)) id = some A → (id = H.last + 1 ∧ A = ⟨ab, plb, -1, 16, [], []⟩) ∨ lk H.ar id = some A := by
      intro id A e
      rw [ka] at e
      split at e
      · rename_i e1; exact .inl ⟨e1, by cases e; rfl⟩
      · exact .inr e
    have kB : ∀ {id A}, lk H.ar id = some A → lk (mput H.ar (H.last + 1) (⟨ab, plb, -1, 16, [], []⟩ : AR)) id = some A := by
      intro id A e
      rw [ka, if_neg]
      · exact e
      · rintro rfl; rw [a2] at e; cases e
    have kL : ∀ {id}, LiveR H id → (lk (mput H.live (H.last + 1) ()) id).isSome = true := by
      intro id e
      rw [kl]
      split
      · rfl
      · exact e
    have hobj : (keysL (mput H.live (H.last + 1) ())).flatMap (fun id => match lk (mput H.ar (H.last + 1) (⟨ab, plb, -1, 16, [], []⟩ : AR)) id with | some A => A.ts.map (fun p => (p.1 + 1, id)) | none => []) = objsL H := by
      rw [mput_last hlast]
      unfold keysL objsL
      rw [List.map_append, List.flatMap_append]
      have e2 : ([(H.last + 1, ())].map (·.1)).flatMap (fun id => match lk (mput H.ar (H.last + 1) (⟨ab, plb, -1, 16, [], []⟩ : AR)) id with | some A => A.ts.map (fun p => (p.1 + 1, id)) | none => []) = [] := by
        simp [ka]
      rw [e2, List.append_nil]
      unfold keysL
      rw [List.flatMap_def, List.flatMap_def]
      congr 1
      apply List.map_congr_left
      intro id hid
      obtain ⟨q, hq, rfl⟩ := List.mem_map.1 hid
      have := hlast q hq
      rw [ka, if_neg (by omega)]
      rfl
    obtain ⟨H', hH'⟩ : ∃ H' : HM, ({ H with live := mput H.live (H.last + 1) (), last := H.last + 1, par := mput H.par (H.last + 1) p, ar := mput H.ar (H.last + 1) (⟨ab, plb, -1, 16, [], []⟩ : AR) } : HM) = H' := ⟨_, rfl⟩
    have hO : objsL H' = objsL H := by rw [← hH']; exact hobj
    have hms : H'.ms = H.ms ∧ H'.ds = H.ds := by rw [← hH']; exact ⟨rfl, rfl⟩
    have hF : fieldsL H' = fieldsL H := by unfold fieldsL; rw [hO, hms.1, hms.2]
    have hT : ∀ v, tgt H' v = tgt H v := by rw [← hH']; exact fun _ => rfl
    have hR : rootsL H' = rootsL H := by rw [← hH']; rfl
    rw [hH']
    have hup : ∀ to x, x ≤ H.last → 0 ≤ x → upV (mput H.par (H.last + 1) p) to x = upV H.par to x := fun to x hx h0 => (upV_congr (N := H.last) (fun y y0 yN => by
      unfold at0
      rw [kp, if_neg (by omega)]) (fun y y0 _ => h.y.at0p y y0) to x hx h0).symm
    refine ⟨?_, ?_, ?_, ?_, ?_, ?_, ?_, ?_, ?_⟩
    · rw [← hH']
      refine ⟨h.y.on, h.y.pg, h.y.gl, h.y.ml, h.y.sl, h.y.ms, by show 0 ≤ H.last + 1; omega, by show H.last + 1 ≤ _; have := h.y.ln; omega, hn, h.y.rl.put _ _, h.y.ra.put _ _, h.y.rp.put _ _, ?_, ?_, ?_, ?_, ?_, ?_, ?_, ?_, h.y.g, ?_, ?_, ?_, ?_, ?_, ?_, h.y.ds, h.y.dl, h.y.dk, ?_⟩
      · intro id hid
        show 1 ≤ id ∧ id ≤ H.last + 1
        have hid : (lk (mput H.live (H.last + 1) ()) id).isSome = true := hid
        rw [kl] at hid
        split at hid
        · omega
        · have := h.y.lv id hid; omega
      · intro id
        show (lk (mput H.ar (H.last + 1) _) id).isSome = true ↔ (lk (mput H.live (H.last + 1) ()) id).isSome = true
        rw [ka, kl]
        split
        · simp
        · exact h.y.ar id
      · intro id
        show (lk (mput H.par (H.last + 1) _) id).isSome = true ↔ (lk (mput H.live (H.last + 1) ()) id).isSome = true
        rw [kp, kl]
        split
        · simp
        · exact h.y.par id
      · intro id q hq
        have hq : lk (mput H.par (H.last + 1) p) id = some q := hq
        rw [kp] at hq
        split at hq
        · cases hq
          exact ⟨hp00, by omega, hp0.imp_right kL⟩
        · have := h.y.up id q hq
          exact ⟨this.1, this.2.1, this.2.2.imp_right kL⟩
      · intro id A hA
        rcases kA hA with ⟨_, rfl⟩ | hA
        · simp
        · have := h.y.sz id A hA; omega
      · intro id A hA
        rcases kA hA with ⟨_, rfl⟩ | hA
        · simp
        · exact h.y.r1 id A hA
      · intro q hq h0
        obtain ⟨A, e1, e2⟩ := h.y.r2 q hq h0
        exact ⟨A, kB e1, e2⟩
      · intro id A hA
        rcases kA hA with ⟨_, rfl⟩ | hA
        · simp
        · exact h.y.r3 id A hA
      · intro q
        have := h.y.ob q
        show 0 ≤ H.ow q ∧ H.ow q ≤ H.last + 1
        omega
      · intro id A hA
        rcases kA hA with ⟨_, rfl⟩ | hA
        · simp
        · exact h.y.t1 id A hA
      · intro id A hA
        rcases kA hA with ⟨_, rfl⟩ | hA
        · simp
        · exact h.y.t2 id A hA
      · intro id A hA
        rcases kA hA with ⟨_, rfl⟩ | hA
        · simp
        · exact h.y.pl id A hA
      · intro x
        rw [show ({ H with live := mput H.live (H.last + 1) (), last := H.last + 1, par := mput H.par (H.last + 1) p, ar := mput H.ar (H.last + 1) (⟨ab, plb, -1, 16, [], []⟩ : AR) } : HM).st = H.st from rfl, h.y.s x]
        constructor
        · rintro ⟨id, A, q, e1, e2⟩
          exact ⟨id, A, q, kB e1, e2⟩
        · rintro ⟨id, A, q, e1, e2, e3⟩
          rcases kA e1 with ⟨_, rfl⟩ | e1
          · simp at e2
          · exact ⟨id, A, q, e1, e2, e3⟩
      · intro id A hA
        rcases kA hA with ⟨_, rfl⟩ | hA
        · simp
        · exact h.y.h id A hA
      · intro id A hA
        rcases kA hA with ⟨_, rfl⟩ | hA
        · simp
        · exact h.y.t3 id A hA
    · intro f hf
      rw [hF] at hf
      have hl := h.y.lv _ (h.field_in hf)
      rcases h.fp f hf with e | e | ⟨e1, e2, e3⟩
      · exact .inl e
      · exact .inr (.inl e)
      · refine .inr (.inr ⟨by rw [← hH']; exact e1, fun e => by rw [hT]; exact e2 e, fun e => ?_⟩)
        rw [hT, ← hH']
        show upV (mput H.par (H.last + 1) p) _ _ ≠ 0
        rw [hup _ _ hl.2 (by omega)]
        exact e3 e
    · intro v hv
      rw [hR] at hv
      rw [← hH']
      exact h.rp v hv
    · intro r hr
      unfold cntOf fz rz
      rw [hF, hR]
      simp only [hT]
      have := h.ct r hr
      rw [← hH']
      exact this
    · rw [← hH']; exact h.rc
    · rw [← hH']
      intro q hq
      have := h.ck q hq
      show 1 ≤ q.1 ∧ q.1 ≤ H.last + 1
      omega
    · rw [← hH']; exact h.gl
    · rw [← hH']; exact h.fl
    · rw [← hH']; exact h.fs
  · unfold rgH
    rw [if_neg he]
    exact h.more (by omega) hn
end
end Go.Proofs.YtcenagpkfimkbaaGreatDoor
namespace Go.Proofs.YtcenagpkfimkbaaGreatDoor
open Go Go.RowKit

section
variable {Pg n : Nat} {H : HM}
theorem Lay.mem_objs (h : Lay Pg n H) {a id : Int} : (a, id) ∈ objsL H ↔ ∃ A p, lk H.ar id = some A ∧ p ∈ A.ts ∧ a = p.1 + 1 := by
  unfold objsL
  rw [List.mem_flatMap]
  constructor
  · rintro ⟨id', _, hp⟩
    unfold thsOf at hp
    cases e : lk H.ar id' with
    | none => rw [e] at hp; cases hp
    | some A =>
      rw [e] at hp
      obtain ⟨q, hq, e2⟩ := List.mem_map.1 hp
      cases e2
      exact ⟨A, q, e, hq, rfl⟩
  · rintro ⟨A, p, hA, hp, rfl⟩
    have hl := (h.ar id).1 (by rw [hA]; rfl)
    obtain ⟨u, hu⟩ := Option.isSome_iff_exists.1 hl
    refine ⟨id, List.mem_map.2 ⟨(id, u), (lk_some h.rl).1 hu, rfl⟩, ?_⟩
    unfold thsOf
    rw [hA]
    exact List.mem_map.2 ⟨p, hp, rfl⟩
theorem Apart2.ne {p q : Int × Int} (h : Apart2 p q) (h1 : 1 ≤ p.2) (h2 : 1 ≤ q.2) : p.1 ≠ q.1 := by
  unfold Apart2 at h
  omega
theorem Lay.objs_nodup (h : Lay Pg n H) : (objsL H).Pairwise fun p q => p.1 ≠ q.1 := by
  unfold objsL
  rw [List.pairwise_flatMap]
  constructor
  · intro id _
    unfold thsOf
    cases e : lk H.ar id with
    | none => exact List.Pairwise.nil
    | some A =>
      simp only
      rw [List.pairwise_map]
      refine (h.t1 id A e).imp_of_mem ?_
      intro p q hp hq hpq
      have h1 := (h.t2 id A e p hp).2.1
      have h2 := (h.t2 id A e q hq).2.1
      have := hpq.ne (by omega) (by omega)
      simp
      omega
  · have hk : (keysL H.live).Pairwise (fun a c => a < c) := List.pairwise_map.2 h.rl
    refine hk.imp ?_
    intro id id' hlt x hx y hy
    unfold thsOf at hx hy
    cases e : lk H.ar id with
    | none => rw [e] at hx; cases hx
    | some A =>
      cases e' : lk H.ar id' with
      | none => rw [e'] at hy; cases hy
      | some A' =>
        rw [e] at hx
        rw [e'] at hy
        obtain ⟨p, hp, rfl⟩ := List.mem_map.1 hx
        obtain ⟨q, hq, rfl⟩ := List.mem_map.1 hy
        have h1 := (h.t2 id A e p hp).2.1
        have h2 := (h.t2 id' A' e' q hq).2.1
        rcases h.apart e e' hp hq with ⟨e, _⟩ | h3
        · omega
        · have := h3.ne (by omega) (by omega)
          simp
          omega
theorem flds_len (ms : List Int) (ds : List (List Int)) (a id : Int) : (flds ms ds a id).length = (onK ms ds a).length := by simp [flds]
theorem flds_at {ms : List Int} {ds : List (List Int)} {a id : Int} {i : Nat} (h : i < (onK ms ds a).length) : (flds ms ds a id)[i]'(by rw [flds_len]; exact h) = (id, (onK ms ds a)[i]?.getD 0, (onV ms ds a)[i]?.getD 0) := by simp [flds]
theorem flds_same {ms ms' : List Int} {ds : List (List Int)} {a id : Int} (hl : ms'.length = ms.length) (hx : ms'.getD (a - 1).toNat 0 = ms.getD (a - 1).toNat 0) (hv : ∀ i : Nat, i < (onK ms ds a).length → ms'.getD (a.toNat + i) 0 = ms.getD (a.toNat + i) 0) : flds ms' ds a id = flds ms ds a id := by
  obtain ⟨_, e2, e3⟩ := on_same (ds := ds) hl hx
  unfold flds
  rw [e3]
  apply List.map_congr_left
  intro i hi
  have hi : i < (onK ms ds a).length := List.mem_range.1 hi
  by_cases he : onE ms ds a = 0
  · rw [onV_at he hi, onV_at (e2.trans he) (by rw [e3]; exact hi), hv i hi]
  · unfold onK at hi
    rw [if_neg he] at hi
    simp at hi
end
end Go.Proofs.YtcenagpkfimkbaaGreatDoor
namespace Go.Proofs.YtcenagpkfimkbaaGreatDoor
open Go Go.RowKit

section
variable {Pg n : Nat} {H : HM}
theorem Inv.fields_set (h : Inv Pg n H) {a id : Int} (hm : (a, id) ∈ objsL H) {i : Nat} (hi : i < (onK H.ms H.ds a).length) (v : Int) :
    ∃ q : Nat, ∃ hq : q < (fieldsL H).length, (fieldsL H)[q] = (id, (onK H.ms H.ds a)[i]?.getD 0, (onV H.ms H.ds a)[i]?.getD 0) ∧
      (objsL H).flatMap (fun p => flds (H.ms.set (a.toNat + i) v) H.ds p.1 p.2) = (fieldsL H).set q (id, (onK H.ms H.ds a)[i]?.getD 0, v) := by
  obtain ⟨l1, l2, hl⟩ := List.append_of_mem hm
  have hnd := h.y.objs_nodup
  rw [hl] at hnd
  obtain ⟨A, p, hA, hp, hap⟩ := h.y.mem_objs.1 hm
  obtain ⟨t0, t1, t2, _⟩ := h.y.t2 id A hA p hp
  have hh := h.y.h id A hA p hp
  rw [← hap] at hh
  have hother : ∀ x ∈ objsL H, x.1 ≠ a → flds (H.ms.set (a.toNat + i) v) H.ds x.1 x.2 = flds H.ms H.ds x.1 x.2 := by
    rintro ⟨a', id'⟩ hx hne
    obtain ⟨A', p', hA', hp', hap'⟩ := h.y.mem_objs.1 hx
    obtain ⟨u0, u1, u2, _⟩ := h.y.t2 id' A' hA' p' hp'
    have hh' := h.y.h id' A' hA' p' hp'
    rw [← hap'] at hh'
    simp at hne
    have hap2 : Apart2 p p' := by
      rcases h.y.apart hA hA' hp hp' with ⟨_, e⟩ | e
      · exact absurd (by rw [hap', hap, e]) hne
      · exact e
    unfold Apart2 at hap2
    refine flds_same (by simp) ?_ ?_
    · simp only [List.getD_eq_getElem?_getD]
      rw [List.getElem?_set_ne (by omega)]
    · intro j hj
      have hj : j < (onK H.ms H.ds a').length := hj
      simp only [List.getD_eq_getElem?_getD]
      rw [List.getElem?_set_ne (by omega)]
  have hown : flds (H.ms.set (a.toNat + i) v) H.ds a id = (flds H.ms H.ds a id).set i (id, (onK H.ms H.ds a)[i]?.getD 0, v) := by
    have hx : (H.ms.set (a.toNat + i) v).getD (a - 1).toNat 0 = H.ms.getD (a - 1).toNat 0 := by
      simp only [List.getD_eq_getElem?_getD]
      rw [List.getElem?_set_ne (by omega)]
    obtain ⟨_, e2, e3⟩ := on_same (ds := H.ds) (by simp) hx
    apply List.ext_getElem
    · rw [flds_len, List.length_set, flds_len, e3]
    · intro j hj1 hj2
      have hj : j < (onK H.ms H.ds a).length := by rw [flds_len, e3] at hj1; exact hj1
      have hmlen := h.y.ml
      rw [flds_at (by rw [e3]; exact hj), List.getElem_set, flds_at hj, e3, onV_at (e2.trans hh.1) (by rw [e3]; exact hj), onV_at hh.1 hj]
      simp only [List.getD_eq_getElem?_getD]
      by_cases e : i = j
      · subst e
        rw [if_pos rfl, List.getElem?_set_self (by omega)]
        rfl
      · rw [if_neg e, List.getElem?_set_ne (by omega)]
  have hne1 : ∀ x ∈ l1, x.1 ≠ a := fun x hx => (List.pairwise_append.1 hnd).2.2 x hx (a, id) (by simp)
  have hne2 : ∀ x ∈ l2, x.1 ≠ a := fun x hx => ((List.pairwise_cons.1 (List.pairwise_append.1 hnd).2.1).1 x hx).symm
  have f1 : l1.flatMap (fun p => flds (H.ms.set (a.toNat + i) v) H.ds p.1 p.2) = l1.flatMap (fun p => flds H.ms H.ds p.1 p.2) := by
    rw [List.flatMap_def, List.flatMap_def]
    congr 1
    exact List.map_congr_left fun x hx => hother x (by rw [hl]; simp [hx]) (hne1 x hx)
  have f2 : l2.flatMap (fun p => flds (H.ms.set (a.toNat + i) v) H.ds p.1 p.2) = l2.flatMap (fun p => flds H.ms H.ds p.1 p.2) := by
    rw [List.flatMap_def, List.flatMap_def]
    congr 1
    exact List.map_congr_left fun x hx => hother x (by rw [hl]; simp [hx]) (hne2 x hx)
  have hF : fieldsL H = l1.flatMap (fun p => flds H.ms H.ds p.1 p.2) ++ (flds H.ms H.ds a id ++ l2.flatMap (fun p => flds H.ms H.ds p.1 p.2)) := by
    unfold fieldsL
    rw [hl]
    simp
  have hil : i < (flds H.ms H.ds a id).length := by rw [flds_len]; exact hi
  refine ⟨(l1.flatMap (fun p => flds H.ms H.ds p.1 p.2)).length + i, by rw [hF]; simp only [List.length_append]; omega, ?_, ?_⟩
  · have e1 : (fieldsL H)[(l1.flatMap (fun p => flds H.ms H.ds p.1 p.2)).length + i]? = (flds H.ms H.ds a id)[i]? := by
      rw [hF, List.getElem?_append_right (by omega), Nat.add_sub_cancel_left, List.getElem?_append_left hil]
    rw [List.getElem?_eq_getElem (by rw [hF]; simp only [List.length_append]; omega), List.getElem?_eq_getElem hil] at e1
    rw [Option.some.inj e1, flds_at hi]
  · rw [hl, List.flatMap_append, List.flatMap_cons, f1, f2, hown, hF, List.set_append_right _ _ (by omega), Nat.add_sub_cancel_left, List.set_append_left _ _ hil]
end
end Go.Proofs.YtcenagpkfimkbaaGreatDoor
namespace Go.Proofs.YtcenagpkfimkbaaGreatDoor
open Go Go.RowKit

section
variable {Pg n : Nat} {H : HM}
theorem Lay.field (h : Lay Pg n H) {a id : Int} (hm : (a, id) ∈ objsL H) {i : Nat} (hi : i < (onK H.ms H.ds a).length) {v : Int} (hv : 0 ≤ v ∧ v < 18446744073709551616) (c : IM Int) : Lay Pg n { H with cnt := c, ms := H.ms.set (a.toNat + i) v } := by
  obtain ⟨A, p, hA, hp, hap⟩ := h.mem_objs.1 hm
  obtain ⟨t0, t1, t2, _⟩ := h.t2 id A hA p hp
  have hh := h.h id A hA p hp
  rw [← hap] at hh
  have key : ∀ id' A', lk H.ar id' = some A' → ∀ p' ∈ A'.ts, onE (H.ms.set (a.toNat + i) v) H.ds (p'.1 + 1) = 0 ∧ 1 + ((onK (H.ms.set (a.toNat + i) v) H.ds (p'.1 + 1)).length : Int) ≤ p'.2 := by
    intro id' A' hA' p' hp'
    obtain ⟨u0, u1, u2, _⟩ := h.t2 id' A' hA' p' hp'
    have hne : a.toNat + i ≠ (p'.1 + 1 - 1).toNat := by
      rcases h.apart hA hA' hp hp' with ⟨_, e⟩ | e
      · subst e; omega
      · unfold Apart2 at e; omega
    obtain ⟨_, e2, e3⟩ := on_same (ms := H.ms) (ms' := H.ms.set (a.toNat + i) v) (ds := H.ds) (a := p'.1 + 1) (by simp) (by
      simp only [List.getD_eq_getElem?_getD]
      rw [List.getElem?_set_ne hne])
    rw [e2, e3]
    exact h.h id' A' hA' p' hp'
  have hmem : ∀ u ∈ H.ms.set (a.toNat + i) v, 0 ≤ u ∧ u < 18446744073709551616 := fun u hu => by
    rcases List.mem_or_eq_of_mem_set hu with hu | rfl
    · exact h.ms u hu
    · exact hv
  exact ⟨h.on, h.pg, h.gl, by show (H.ms.set _ _).length = _; rw [List.length_set]; exact h.ml, h.sl, hmem, h.l0, h.ln, h.nn, h.rl, h.ra, h.rp, h.lv, h.ar, h.par, h.up, h.sz, h.r1, h.r2, h.r3, h.g, h.ob, h.t1, h.t2, h.pl, h.s, key, h.ds, h.dl, h.dk, h.t3⟩
theorem Inv.field (h : Inv Pg n H) {a id : Int} (hm : (a, id) ∈ objsL H) {i : Nat} (hi : i < (onK H.ms H.ds a).length) {v k old : Int} (hv : 0 ≤ v ∧ v < 18446744073709551616) (hk : (onK H.ms H.ds a)[i]?.getD 0 = k) (hold : (onV H.ms H.ds a)[i]?.getD 0 = old) (hp : PtOk H id k v) :
    Inv Pg n { H with cnt := swL H.cnt (cz k id (tgt H old)) (cz k id (tgt H v)), ms := H.ms.set (a.toNat + i) v } := by
  obtain ⟨q, hq, e1, e2⟩ := h.fields_set hm hi v
  rw [hk, hold] at e1
  rw [hk] at e2
  have ha := h.y.cz_in k id old
  have hb := h.y.cz_in k id v
  have hmem : (id, k, old) ∈ fieldsL H := by rw [← e1]; exact List.getElem_mem hq
  obtain ⟨H', hH'⟩ : ∃ H' : HM, ({ H with cnt := swL H.cnt (cz k id (tgt H old)) (cz k id (tgt H v)), ms := H.ms.set (a.toNat + i) v } : HM) = H' := ⟨_, rfl⟩
  have hF : fieldsL H' = (fieldsL H).set q (id, k, v) := by rw [← hH', ← e2]; rfl
  have hT : ∀ v, tgt H' v = tgt H v := by rw [← hH']; exact fun _ => rfl
  have hR : rootsL H' = rootsL H := by rw [← hH']; rfl
  have hP : ∀ id k v, PtOk H id k v → PtOk H' id k v := by rw [← hH']; exact fun _ _ _ h => h
  have hc1 : cz k id (tgt H old) ≠ 0 → 1 ≤ at0 H.cnt (cz k id (tgt H old)) := by
    intro h0
    have h1 := ha.resolve_left h0
    rw [h.ct _ h1.1]
    unfold cntOf
    have : 0 < (fieldsL H).countP (fun f => decide (fz H f = cz k id (tgt H old))) := List.countP_pos_iff.2 ⟨_, hmem, by simp [fz]⟩
    omega
  have hbnd := h.cnt_le (cz k id (tgt H v))
  rw [hH']
  refine ⟨by rw [← hH']; exact h.y.field hm hi hv _, ?_, ?_, ?_, by rw [← hH']; exact swL_rising h.rc _ _, ?_, by rw [← hH']; exact h.gl, by rw [← hH']; exact h.fl, by rw [← hH']; exact h.fs⟩
  · intro f hf
    rw [hF] at hf
    rcases List.mem_or_eq_of_mem_set hf with hf | rfl
    · exact hP _ _ _ (h.fp f hf)
    · exact hP _ _ _ hp
  · intro u hu
    rw [hR] at hu
    rw [← hH']
    exact h.rp u hu
  · intro r hr1
    have e5 : at0 (swL H.cnt (cz k id (tgt H old)) (cz k id (tgt H v))) r = at0 H.cnt r - one (decide (r = cz k id (tgt H old))) + one (decide (r = cz k id (tgt H v))) :=
      at0_swL (a := cz k id (tgt H old)) (b := cz k id (tgt H v)) h.rc (by rcases ha with e | e <;> omega) (by rcases hb with e | e <;> omega) hc1 (by omega) r (by omega)
    have e6 : at0 H'.cnt r = at0 (swL H.cnt (cz k id (tgt H old)) (cz k id (tgt H v))) r := by rw [← hH']
    have e7 : fz H' = fz H := by rw [← hH']; rfl
    have e8 : rz H' = rz H := by rw [← hH']; rfl
    rw [e6, e5, h.ct r hr1]
    unfold cntOf
    rw [hF, hR, countP_set _ _ _ _ hq, e1, e7, e8]
    have c1 : (decide (r = cz k id (tgt H old))) = decide (fz H (id, k, old) = r) := by simp [fz, eq_comm]
    have c2 : (decide (r = cz k id (tgt H v))) = decide (fz H (id, k, v) = r) := by simp [fz, eq_comm]
    rw [c1, c2]
    omega
  · rw [← hH']
    intro p hp
    rcases swL_mem hp with h1 | ⟨h0, h1⟩ | ⟨h0, h1⟩
    · exact h.ck p h1
    · rw [h1]; exact ha.resolve_left h0
    · rw [h1]; exact hb.resolve_left h0
end
end Go.Proofs.YtcenagpkfimkbaaGreatDoor
namespace Go.Proofs.YtcenagpkfimkbaaGreatDoor
open Go Go.RowKit

structure Wood (m : IM Int) (M : Int) : Prop where
  r : Rising m
  d : Downs m M
  c : ∀ p ∈ m, p.2 = 0 ∨ (lk m p.2).isSome = true
section
variable {m : IM Int} {M : Int}
theorem Wood.at (h : Wood m M) {x : Int} (hx : (lk m x).isSome = true) : (x, at0 m x) ∈ m := by
  obtain ⟨p, hp⟩ := Option.isSome_iff_exists.1 hx
  have := (lk_some h.r).1 hp
  unfold at0
  rw [hp]
  exact this
theorem Wood.at0d (h : Wood m M) (x : Int) (hx : 0 < x) : 0 ≤ at0 m x ∧ at0 m x < x := by
  cases e : (lk m x).isSome
  · unfold at0
    have : lk m x = none := by simpa using e
    rw [this]
    simp
    exact hx
  · have := h.at e
    exact ⟨h.d.lo _ this, h.d.up _ this⟩
theorem Wood.pos (h : Wood m M) {x : Int} (hx : (lk m x).isSome = true) : 0 < x ∧ x ≤ M := by
  have h1 := h.at hx
  have := h.d.lo _ h1
  have := h.d.up _ h1
  have := h.d.le _ h1
  simp at *
  omega
theorem walkL_fuel (h : Wood m M) : ∀ (f g : Nat) (id : Int), M - id < f → M - id < g → walkL m f id = walkL m g id
  | 0, 0, id, _, _ => rfl
  | 0, g + 1, id, hf, _ => by
    have : kidsL m id = [] := by
      rw [List.eq_nil_iff_forall_not_mem]
      intro x hx
      have hx := kidsL_mem.1 hx
      have := h.d.up _ hx
      have := h.d.le _ hx
      simp at *
      omega
    simp [walkL, this]
  | f + 1, 0, id, _, hg => by
    have : kidsL m id = [] := by
      rw [List.eq_nil_iff_forall_not_mem]
      intro x hx
      have hx := kidsL_mem.1 hx
      have := h.d.up _ hx
      have := h.d.le _ hx
      simp at *
      omega
    simp [walkL, this]
  | f + 1, g + 1, id, hf, hg => by
    unfold walkL
    rw [List.flatMap_def, List.flatMap_def]
    congr 1
    apply List.map_congr_left
    intro kid hk
    have hx := kidsL_mem.1 hk
    have := h.d.up _ hx
    simp at this
    rw [walkL_fuel h f g kid (by omega) (by omega)]
theorem wkL_eq (h : Wood m M) (id : Int) : wkL m M id = (kidsL m id).flatMap fun kid => kid :: wkL m M kid := by
  unfold wkL
  conv => lhs; unfold walkL
  rw [List.flatMap_def, List.flatMap_def]
  congr 1
  apply List.map_congr_left
  intro kid hk
  have hx := kidsL_mem.1 hk
  have h1 := h.d.up _ hx
  have h2 := h.d.le _ hx
  simp at h1 h2
  rw [walkL_fuel h (M - id).toNat ((M - kid).toNat + 1) kid (by omega) (by omega)]
theorem wkL_mem (h : Wood m M) {id x : Int} : x ∈ wkL m M id ↔ ∃ kid, (kid, id) ∈ m ∧ (x = kid ∨ x ∈ wkL m M kid) := by
  rw [wkL_eq h, List.mem_flatMap]
  constructor
  · rintro ⟨kid, hk, hx⟩
    exact ⟨kid, kidsL_mem.1 hk, by simpa using hx⟩
  · rintro ⟨kid, hk, hx⟩
    exact ⟨kid, kidsL_mem.2 hk, by simpa using hx⟩
end
end Go.Proofs.YtcenagpkfimkbaaGreatDoor
namespace Go.Proofs.YtcenagpkfimkbaaGreatDoor
open Go Go.RowKit

section
variable {m : IM Int} {M : Int}
theorem Wood.kid (h : Wood m M) {kid id : Int} (hk : (kid, id) ∈ m) : 0 ≤ id ∧ id < kid ∧ kid ≤ M ∧ lk m kid = some id ∧ at0 m kid = id := by
  have h1 := h.d.up _ hk
  have h2 := h.d.le _ hk
  have h3 := h.d.lo _ hk
  have h4 := (lk_some h.r).2 hk
  refine ⟨h3, h1, h2, h4, ?_⟩
  unfold at0
  rw [h4]
  rfl
theorem up_on (h : Wood m M) {kid id : Int} (hk : (kid, id) ∈ m) : ∀ (f : Nat) (x : Int), x.toNat ≤ f → 0 ≤ x → upV m kid x = kid → upV m id x = id
  | 0, x, hf, h0, hu => by
    have hk := h.kid hk
    rw [upV_stop m kid x (.inl (by omega))] at hu
    omega
  | f + 1, x, hf, h0, hu => by
    have hk' := h.kid hk
    have hP := h.at0d
    by_cases e0 : x = 0
    · rw [upV_stop m kid x (.inl e0)] at hu
      omega
    · by_cases e1 : x = kid
      · subst e1
        rw [upV_step hP id x h0 (by omega), hk'.2.2.2.2, upV_stop m id id (.inr rfl)]
      · rw [upV_step hP kid x h0 (by omega)] at hu
        have hx := hP x (by omega)
        have := up_on h hk f (at0 m x) (by omega) hx.1 hu
        by_cases e2 : x = id
        · subst e2
          exact upV_stop _ _ _ (.inr rfl)
        · rw [upV_step hP id x h0 (by omega)]
          exact this
theorem wkL_below (h : Wood m M) : ∀ (f : Nat) (id x : Int), M - id < f → 0 ≤ id → x ∈ wkL m M id → (lk m x).isSome = true ∧ id < x ∧ upV m id x = id
  | 0, id, x, hf, h0, hx => by
    obtain ⟨kid, hk, _⟩ := (wkL_mem h).1 hx
    have := h.kid hk
    omega
  | f + 1, id, x, hf, h0, hx => by
    obtain ⟨kid, hk, hx⟩ := (wkL_mem h).1 hx
    have hk' := h.kid hk
    rcases hx with rfl | hx
    · refine ⟨by rw [hk'.2.2.2.1]; rfl, hk'.2.1, ?_⟩
      exact up_on h hk _ x (Nat.le_refl _) (by omega) (upV_stop _ _ _ (.inr rfl))
    · obtain ⟨e1, e2, e3⟩ := wkL_below h f kid x (by omega) (by omega) hx
      exact ⟨e1, by omega, up_on h hk _ x (Nat.le_refl _) (by omega) e3⟩
theorem wkL_trans (h : Wood m M) : ∀ (f : Nat) (id p x : Int), M - id < f → p ∈ wkL m M id → x ∈ wkL m M p → x ∈ wkL m M id
  | 0, id, p, x, hf, hp, hx => by
    obtain ⟨kid, hk, _⟩ := (wkL_mem h).1 hp
    have := h.kid hk
    omega
  | f + 1, id, p, x, hf, hp, hx => by
    obtain ⟨kid, hk, hp⟩ := (wkL_mem h).1 hp
    have hk' := h.kid hk
    refine (wkL_mem h).2 ⟨kid, hk, .inr ?_⟩
    rcases hp with rfl | hp
    · exact hx
    · exact wkL_trans h f kid p x (by omega) hp hx
theorem wkL_of_up (h : Wood m M) {id : Int} : ∀ (f : Nat) (x : Int), x.toNat ≤ f → (lk m x).isSome = true → x ≠ id → upV m id x = id → x ∈ wkL m M id
  | 0, x, hf, hx, _, _ => by have := h.pos hx; omega
  | f + 1, x, hf, hx, hne, hu => by
    have hp := h.pos hx
    have hP := h.at0d
    have hm := h.at hx
    have hd := hP x hp.1
    rw [upV_step hP id x (by omega) (by omega)] at hu
    by_cases e : at0 m x = id
    · exact (wkL_mem h).2 ⟨x, by rw [← e]; exact hm, .inl rfl⟩
    · rcases h.c _ hm with e0 | e0
      · simp at e0
        rw [e0, upV_stop m id 0 (.inl rfl)] at hu
        omega
      · have := wkL_of_up h f (at0 m x) (by omega) e0 e hu
        exact wkL_trans h ((M - id).toNat + 1) id _ x (by omega) this ((wkL_mem h).2 ⟨x, hm, .inl rfl⟩)
end
end Go.Proofs.YtcenagpkfimkbaaGreatDoor
namespace Go.Proofs.YtcenagpkfimkbaaGreatDoor
open Go Go.RowKit

theorem idxOf_append_left {l1 l2 : List Int} {x : Int} (h : x ∈ l1) : idxOf (l1 ++ l2) x = idxOf l1 x ∧ 0 ≤ idxOf l1 x ∧ idxOf l1 x < l1.length := by
  induction l1 with
  | nil => cases h
  | cons y r ih =>
    by_cases e : y = x
    · simp [idxOf, e]
    · have hx : x ∈ r := by rcases List.mem_cons.1 h with h | h; exact absurd h.symm e; exact h
      obtain ⟨i1, i2, i3⟩ := ih hx
      have hn : ¬ idxOf r x < 0 := by omega
      simp only [List.cons_append, idxOf, if_neg e, i1, List.length_cons, if_neg hn]
      push_cast
      exact ⟨trivial, by omega, by omega⟩
theorem idxOf_append_right {l1 l2 : List Int} {x : Int} (h : x ∉ l1) (h2 : x ∈ l2) : idxOf (l1 ++ l2) x = l1.length + idxOf l2 x := by
  induction l1 with
  | nil => simp
  | cons y r ih =>
    have e : y ≠ x := fun e => h (by simp [e])
    have := ih (fun hr => h (by simp [hr]))
    have h3 := idxOf_append_left (l2 := []) h2
    simp only [List.cons_append, idxOf, if_neg e, this, List.length_cons]
    rw [if_neg (by omega)]
    push_cast
    omega
section
variable {m : IM Int} {M : Int}
theorem up_two (h : Wood m M) {a b id : Int} (ha : (a, id) ∈ m) (hb : (b, id) ∈ m) : ∀ (f : Nat) (x : Int), x.toNat ≤ f → 0 ≤ x → upV m a x = a → upV m b x = b → a = b
  | 0, x, hf, h0, h1, _ => by
    have := h.kid ha
    rw [upV_stop m a x (.inl (by omega))] at h1
    omega
  | f + 1, x, hf, h0, h1, h2 => by
    have ka := h.kid ha
    have kb := h.kid hb
    have hP := h.at0d
    have hlow : ∀ y, 0 ≤ y → ∀ to, y < to → upV m to y ≠ to := by
      intro y hy to hlt e
      have : ∀ (f : Nat) (z : Int), 0 ≤ z → z < to → upW m to f z < to := by
        intro f
        induction f with
        | zero => intro z _ hz; exact hz
        | succ f ih =>
          intro z hz0 hz
          unfold upW
          split
          · exact hz
          · have := hP z (by omega)
            exact ih _ this.1 (by omega)
      have := this y.toNat y hy hlt
      unfold upV at e
      omega
    by_cases e0 : x = 0
    · rw [upV_stop m a x (.inl e0)] at h1
      omega
    · by_cases ea : x = a
      · by_cases eb : x = b
        · omega
        · rw [upV_step hP b x h0 (by omega), ea, ka.2.2.2.2] at h2
          exact absurd h2 (hlow id (by omega) b (by omega))
      · by_cases eb : x = b
        · rw [upV_step hP a x h0 (by omega), eb, kb.2.2.2.2] at h1
          exact absurd h1 (hlow id (by omega) a (by omega))
        · have hx := hP x (by omega)
          rw [upV_step hP a x h0 (by omega)] at h1
          rw [upV_step hP b x h0 (by omega)] at h2
          exact up_two h ha hb f _ (by omega) hx.1 h1 h2
theorem wkL_nodup (h : Wood m M) : ∀ (f : Nat) (id : Int), M - id < f → 0 ≤ id → (wkL m M id).Nodup
  | 0, id, hf, h0 => by
    have : wkL m M id = [] := List.eq_nil_iff_forall_not_mem.2 fun x hx => by
      obtain ⟨kid, hk, _⟩ := (wkL_mem h).1 hx
      have := h.kid hk
      omega
    rw [this]
    exact List.nodup_nil
  | f + 1, id, hf, h0 => by
    rw [wkL_eq h]
    unfold List.Nodup
    rw [List.pairwise_flatMap]
    constructor
    · intro kid hk
      have hk' := h.kid (kidsL_mem.1 hk)
      refine List.nodup_cons.2 ⟨fun hx => ?_, wkL_nodup h f kid (by omega) (by omega)⟩
      have := wkL_below h ((M - kid).toNat + 1) kid kid (by omega) (by omega) hx
      omega
    · have hr : (kidsL m id).Pairwise (fun a c => a < c) := by
        unfold kidsL
        rw [List.pairwise_map]
        exact h.r.filter _
      refine hr.imp_of_mem ?_
      intro a b ha hb hlt x hx y hy e
      subst e
      have ma := kidsL_mem.1 ha
      have mb := kidsL_mem.1 hb
      have ka := h.kid ma
      have kb := h.kid mb
      have key : ∀ {k : Int}, 0 ≤ k → x ∈ k :: wkL m M k → upV m k x = k ∧ k ≤ x := by
        intro k hk hx
        rcases List.mem_cons.1 hx with rfl | hx
        · exact ⟨upV_stop _ _ _ (.inr rfl), by omega⟩
        · have := wkL_below h ((M - k).toNat + 1) k x (by omega) hk hx
          exact ⟨this.2.2, by omega⟩
      have h1 := key (by omega) hx
      have h2 := key (by omega) hy
      have := up_two h ma mb _ x (Nat.le_refl _) (by omega) h1.1 h2.1
      omega
theorem wkL_seg (h : Wood m M) : ∀ (f : Nat) (id y : Int), M - id < f → y ∈ wkL m M id → ∃ l1 l2, wkL m M id = l1 ++ ((y :: wkL m M y) ++ l2)
  | 0, id, y, hf, hy => by
    obtain ⟨kid, hk, _⟩ := (wkL_mem h).1 hy
    have := h.kid hk
    omega
  | f + 1, id, y, hf, hy => by
    obtain ⟨kid, hk, hy⟩ := (wkL_mem h).1 hy
    have hk' := h.kid hk
    obtain ⟨k1, k2, hs⟩ := List.append_of_mem (kidsL_mem.2 hk)
    have he : wkL m M id = (k1.flatMap fun kid => kid :: wkL m M kid) ++ ((kid :: wkL m M kid) ++ (k2.flatMap fun kid => kid :: wkL m M kid)) := by
      rw [wkL_eq h, hs, List.flatMap_append, List.flatMap_cons]
    rcases hy with rfl | hy
    · exact ⟨_, _, he⟩
    · obtain ⟨l1, l2, e⟩ := wkL_seg h f kid y (by omega) hy
      refine ⟨(k1.flatMap fun kid => kid :: wkL m M kid) ++ (kid :: l1), l2 ++ (k2.flatMap fun kid => kid :: wkL m M kid), ?_⟩
      rw [he, e]
      simp
theorem within_iff (h : Wood m M) {x y : Int} (hx : (lk m x).isSome = true) (hy : (lk m y).isSome = true) : withinB m M x y = true ↔ upV m y x = y := by
  have px := h.pos hx
  have py := h.pos hy
  have root : ∀ z, (lk m z).isSome = true → z ∈ wkL m M 0 := by
    intro z hz
    have pz := h.pos hz
    refine wkL_of_up h _ z (Nat.le_refl _) hz (by omega) ?_
    have : ∀ (f : Nat) (z : Int), z.toNat ≤ f → 0 ≤ z → upV m 0 z = 0 := by
      intro f
      induction f with
      | zero => intro z hf h0; exact (upV_stop m 0 z (.inl (by omega))).trans (by omega)
      | succ f ih =>
        intro z hf h0
        by_cases e : z = 0
        · exact (upV_stop m 0 z (.inl e)).trans e
        · have := h.at0d z (by omega)
          rw [upV_step h.at0d 0 z h0 (by omega)]
          exact ih _ (by omega) this.1
    exact this _ z (Nat.le_refl _) (by omega)
  obtain ⟨l1, l2, hs⟩ := wkL_seg h ((M - 0).toNat + 1) 0 y (by omega) (root y hy)
  have hnd := wkL_nodup h ((M - 0).toNat + 1) 0 (by omega) (by omega)
  rw [hs] at hnd
  have hd1 := List.nodup_append.1 hnd
  have hyn : y ∉ l1 := fun hm => hd1.2.2 y hm y (by simp) rfl
  have ey : idxOf (wkL m M 0) y = l1.length := by
    rw [hs, idxOf_append_right hyn (by simp)]
    simp [idxOf]
  have hxm := root x hx
  unfold withinB
  rw [hx, hy, Bool.true_and, Bool.true_and, decide_eq_true_eq, ey, hs]
  have inseg : x ∈ y :: wkL m M y ↔ upV m y x = y := by
    constructor
    · intro hm
      rcases List.mem_cons.1 hm with rfl | hm
      · exact upV_stop _ _ _ (.inr rfl)
      · exact (wkL_below h ((M - y).toNat + 1) y x (by omega) (by omega) hm).2.2
    · intro hu
      by_cases e : x = y
      · simp [e]
      · exact List.mem_cons_of_mem _ (wkL_of_up h _ x (Nat.le_refl _) hx e hu)
  rw [← inseg]
  rw [hs] at hxm
  rcases List.mem_append.1 hxm with hm | hm
  · have h1 := idxOf_append_left (l2 := (y :: wkL m M y) ++ l2) hm
    constructor
    · rintro ⟨a, b⟩; omega
    · intro hm2
      exact absurd rfl (hd1.2.2 x hm x (List.mem_append.2 (.inl hm2)))
  · have hx1 : x ∉ l1 := fun hm1 => hd1.2.2 x hm1 x hm rfl
    rw [idxOf_append_right hx1 hm]
    rcases List.mem_append.1 hm with hm | hm
    · have h1 := idxOf_append_left (l2 := l2) hm
      rw [h1.1]
      simp only [List.length_cons] at h1
      push_cast at h1
      exact ⟨fun _ => hm, fun _ => by omega⟩
    · have hd2 := List.nodup_append.1 hd1.2.1
      have hx2 : x ∉ y :: wkL m M y := fun hm1 => hd2.2.2 x hm1 x hm rfl
      rw [idxOf_append_right hx2 hm]
      have h1 := idxOf_append_left (l2 := []) hm
      simp only [List.length_cons]
      push_cast
      exact ⟨fun ⟨a, b⟩ => by omega, fun hm2 => absurd hm2 hx2⟩
end
end Go.Proofs.YtcenagpkfimkbaaGreatDoor
namespace Go.Proofs.YtcenagpkfimkbaaGreatDoor
open Go Go.RowKit

section
variable {Pg n : Nat} {H : HM}
theorem Lay.wood (h : Lay Pg n H) : Wood H.par H.last := by
  have key : ∀ p ∈ H.par, lk H.par p.1 = some p.2 := fun p hp => (lk_some h.rp).2 hp
  refine ⟨h.rp, ⟨fun p hp => (h.up _ _ (key p hp)).2.1, fun p hp => ?_, fun p hp => (h.up _ _ (key p hp)).1⟩, fun p hp => ?_⟩
  · exact (h.lv p.1 ((h.par p.1).1 (by rw [key p hp]; rfl))).2
  · exact (h.up _ _ (key p hp)).2.2.imp_right (fun e => (h.par p.2).2 e)
theorem Lay.kinds (h : Lay Pg n H) {a : Int} {k : Int} (hk : k ∈ onK H.ms H.ds a) : 0 ≤ k ∧ k < 4 := by
  unfold onK at hk
  split at hk
  · unfold knL at hk
    split at hk
    · rename_i h0
      split at hk
      · rename_i ha
        obtain rfl := (List.mem_replicate.1 hk).2
        unfold knE at h0
        rw [if_pos ha] at h0
        split at h0
        · rename_i hb
          unfold kindB at hb
          simpa using hb
        · cases h0
      · rw [List.getD_eq_getElem?_getD] at hk
        cases e : H.ds[(gT (onX H.ms a)).toNat]? with
        | none => rw [e] at hk; cases hk
        | some d => rw [e] at hk; exact h.dk d (List.mem_of_getElem? e) k hk
    · cases hk
  · cases hk
theorem swL00 (m : IM Int) : swL m 0 0 = m := by
  unfold swL swE swM
  simp
theorem Lay.pt_of_chk (h : Lay Pg n H) {id k v : Int} (hid : LiveR H id) (hm : mayP H v = true) (hc : chkE H.par H.last k id (tgt H v) = 0) : PtOk H id k v := by
  rcases mayP_iff hm with e | e
  · exact .inr (.inl e)
  · obtain ⟨id', A, p, hA, hp, h0, h1, h2, h3⟩ := h.start e
    have hl' := h.idl hA
    have hx := (h.par id).2 hid
    have hy := (h.par id').2 hl'.1
    rw [h1] at hc
    unfold chkE at hc
    rw [if_neg (by omega), if_neg (by rw [hx, hy]; simp)] at hc
    refine .inr (.inr ⟨e, fun e2 => ?_, fun e3 => ?_⟩)
    · rw [h1]
      split at hc
      · rename_i hl
        subst e2
        simp [letsB] at hl
        exact hl.symm
      · cases hc
    · rw [h1]
      split at hc
      · rename_i hl
        subst e3
        simp [letsB] at hl
        rw [(within_iff h.wood hx hy).1 hl]
        omega
      · cases hc
theorem Inv.hs (h : Inv Pg n H) (a i v : Int) (i0 : 0 ≤ i) (v0 : 0 ≤ v) (v1 : v < 18446744073709551616) : Inv Pg n (hsH H H.last a i v) := by
  unfold hsH
  split
  · rename_i he
    unfold hsE at he
    split at he
    · cases he
    · rename_i hst
      split at he
      · cases he
      · rename_i hi
        have hst : hasM H.st a = true := by simpa using hst
        obtain ⟨id, A, p, hA, hp, h0, h1, h2, h3⟩ := h.y.start hst
        have hmem : (a, id) ∈ objsL H := h.y.mem_objs.2 ⟨A, p, hA, hp, h0⟩
        have ht := h.y.t2 id A hA p hp
        have hil : i.toNat < (onK H.ms H.ds a).length := by omega
        have hkk : fkI H a i = (onK H.ms H.ds a)[i.toNat]?.getD 0 := by
          unfold fkI kiV
          rw [if_pos]
          unfold atB
          simp
          omega
        have hidx : (a + i).toNat = a.toNat + i.toNat := by omega
        rw [hidx, h2]
        have hkr : 0 ≤ fkI H a i ∧ fkI H a i < 4 := by
          rw [hkk, List.getElem?_eq_getElem hil]
          exact h.y.kinds (List.getElem_mem hil)
        by_cases hptr : isPtr (fkI H a i) = true
        · rw [if_pos hptr]
          rw [if_neg (by rw [hptr]; simp)] at he
          split at he
          · cases he
          · rename_i hm
            rw [h2] at he
            exact h.field hmem hil ⟨v0, v1⟩ hkk.symm rfl (h.y.pt_of_chk (h.y.idl hA).1 (by simpa using hm) he)
        · rw [if_neg hptr]
          have hk0 : fkI H a i = 0 := by
            unfold isPtr at hptr
            simp at hptr
            omega
          have hf := h.field hmem hil ⟨v0, v1⟩ (hkk.symm.trans hk0) rfl (.inl rfl)
          have e1 : ∀ t, cz 0 id t = 0 := fun t => by simp [cz, cntB]
          rw [e1, e1, swL00] at hf
          exact hf
  · exact h
end
end Go.Proofs.YtcenagpkfimkbaaGreatDoor
namespace Go.Proofs.YtcenagpkfimkbaaGreatDoor
open Go Go.RowKit

theorem markX_at (xs : List Bool) {f k : Int} (on : Bool) (h : hasB xs.length f k = true) (p : Nat) (hp : p < xs.length) : (markX xs f k on).getD p false = if f ≤ p ∧ (p : Int) < f + k then on else xs.getD p false := by
  unfold hasB at h
  simp at h
  unfold markX hasB
  rw [if_pos (by simp; omega)]
  unfold markL
  simp only [List.getD_eq_getElem?_getD]
  by_cases h1 : p < f.toNat
  · rw [List.getElem?_append_left (by simp; omega), List.getElem?_take, if_pos h1, if_neg (by omega)]
  · rw [List.getElem?_append_right (by simp; omega)]
    have e : (xs.take f.toNat).length = f.toNat := by simp; omega
    rw [e]
    by_cases h2 : p < f.toNat + k.toNat
    · rw [List.getElem?_append_left (by simp; omega), List.getElem?_replicate, if_pos (by omega), if_pos (by omega)]
      rfl
    · rw [List.getElem?_append_right (by simp; omega), List.getElem?_drop, if_neg (by omega)]
      simp only [List.length_replicate]
      congr 2
      omega
theorem fillL_at (xs : List Int) {f k : Int} (v : Int) (h : hasB xs.length f k = true) (p : Nat) (hp : p < xs.length) : (fillL xs f k v).getD p 0 = if f ≤ p ∧ (p : Int) < f + k then v else xs.getD p 0 := by
  have hh := h
  unfold hasB at h
  simp at h
  unfold fillL
  rw [if_pos hh]
  simp only [List.getD_eq_getElem?_getD]
  by_cases h1 : p < f.toNat
  · rw [List.getElem?_append_left (by simp; omega), List.getElem?_take, if_pos h1, if_neg (by omega)]
  · rw [List.getElem?_append_right (by simp; omega)]
    have e : (xs.take f.toNat).length = f.toNat := by simp; omega
    rw [e]
    by_cases h2 : p < f.toNat + k.toNat
    · rw [List.getElem?_append_left (by simp; omega), List.getElem?_replicate, if_pos (by omega), if_pos (by omega)]
      rfl
    · rw [List.getElem?_append_right (by simp; omega), List.getElem?_drop, if_neg (by omega)]
      simp only [List.length_replicate]
      congr 2
      omega
end Go.Proofs.YtcenagpkfimkbaaGreatDoor
namespace Go.Proofs.YtcenagpkfimkbaaGreatDoor
open Go Go.RowKit

theorem findM_free {xs : List Bool} {k : Int} {q : Nat} (h : findM xs k = some q) : 1 ≤ k ∧ (q : Int) + k ≤ xs.length ∧ ∀ p : Nat, q ≤ p → (p : Int) < q + k → xs.getD p false = false := by
  have h1 := findM_le h
  refine ⟨h1.1, h1.2, fun p hp hp2 => ?_⟩
  unfold findM at h
  rw [if_neg (by omega), List.find?_range_eq_some] at h
  have := h.1
  simp only [freeB, Bool.and_eq_true, decide_eq_true_eq] at this
  have h2 := this.2 (p - q) (by omega)
  rw [show q + (p - q) = p by omega] at h2
  exact h2
section
variable {Pg n : Nat} {H : HM}
def grH (H : HM) (r : Int) (A : AR) (q : Nat) (k : Int) : HM :=
  { H with ar := mput H.ar r { A with rs := A.rs ++ [((q : Int), k)] }, gs := markX H.gs q k true, ms := fillL H.ms (16 * q) (16 * k) 0, ow := owSet H.ow q k.toNat r }
theorem owSet_at (ow : Nat → Int) (f k : Nat) (o : Int) (p : Nat) : owSet ow f k o p = if f ≤ p ∧ p < f + k then o else ow p := rfl
theorem Lay.free0 (h : Lay Pg n H) {k : Int} {q : Nat} (hf : findM H.gs k = some q) : 1 ≤ k ∧ (q : Int) + k ≤ Pg ∧ ∀ p : Nat, q ≤ p → (p : Int) < q + k → H.ow p = 0 := by
  obtain ⟨h1, h2, h3⟩ := findM_free hf
  rw [h.gl] at h2
  refine ⟨h1, h2, fun p hp hp2 => ?_⟩
  have := h3 p hp hp2
  by_cases e : H.ow p = 0
  · exact e
  · rw [(h.g p (by omega)).2 e] at this
    cases this
theorem Lay.free_word (h : Lay Pg n H) {k : Int} {q : Nat} (hf : findM H.gs k = some q) {id : Int} {A : AR} (hA : lk H.ar id = some A) {p : Int × Int} (hp : p ∈ A.ts) : p.1 + p.2 ≤ 16 * q ∨ 16 * (q + k) ≤ p.1 := by
  obtain ⟨h1, h2, h3⟩ := h.free0 hf
  obtain ⟨t0, t1, t2, t3⟩ := h.t2 id A hA p hp
  have hid := (h.idl hA).2.1
  refine Classical.byContradiction fun hn => ?_
  have e1 := t3 (max p.1 (16 * q)).toNat (by omega) (by omega)
  have e2 := h3 ((max p.1 (16 * q)).toNat / 16) (by omega) (by omega)
  omega
theorem Lay.grant_flds (h : Lay Pg n H) {k : Int} {q : Nat} (hf : findM H.gs k = some q) {id : Int} {A : AR} (hA : lk H.ar id = some A) {p : Int × Int} (hp : p ∈ A.ts) :
    onE (fillL H.ms (16 * q) (16 * k) 0) H.ds (p.1 + 1) = onE H.ms H.ds (p.1 + 1) ∧ onK (fillL H.ms (16 * q) (16 * k) 0) H.ds (p.1 + 1) = onK H.ms H.ds (p.1 + 1) ∧ ∀ id', flds (fillL H.ms (16 * q) (16 * k) 0) H.ds (p.1 + 1) id' = flds H.ms H.ds (p.1 + 1) id' := by
  obtain ⟨h1, h2, h3⟩ := h.free0 hf
  have hw := h.free_word hf hA hp
  obtain ⟨t0, t1, t2, t3⟩ := h.t2 id A hA p hp
  have hh := h.h id A hA p hp
  have hml := h.ml
  have hB : hasB H.ms.length (16 * q) (16 * k) = true := by unfold hasB; simp; omega
  have hx : (fillL H.ms (16 * q) (16 * k) 0).getD (p.1 + 1 - 1).toNat 0 = H.ms.getD (p.1 + 1 - 1).toNat 0 := by
    rw [fillL_at _ _ hB _ (by omega), if_neg (by omega)]
  obtain ⟨_, e2, e3⟩ := on_same (ds := H.ds) (fillL_length _ _ _ _) hx
  refine ⟨e2, e3, fun id' => flds_same (fillL_length _ _ _ _) hx (fun i hi => ?_)⟩
  rw [fillL_at _ _ hB _ (by omega), if_neg (by omega)]
end
end Go.Proofs.YtcenagpkfimkbaaGreatDoor
namespace Go.Proofs.YtcenagpkfimkbaaGreatDoor
open Go Go.RowKit

section
variable {Pg n : Nat} {H : HM}
theorem Lay.grant (h : Lay Pg n H) (hn : n + 1 ≤ 200) {r : Int} {A : AR} (hA : lk H.ar r = some A) {k : Int} {q : Nat} (hf : findM H.gs k = some q) : Lay Pg (n + 1) (grH H r A q k) := by
  obtain ⟨f1, f2, f3⟩ := h.free0 hf
  have hr := h.idl hA
  have hgl := h.gl
  have hml := h.ml
  have hBg : hasB H.gs.length q k = true := by unfold hasB; simp; omega
  have ka : ∀ id, lk (mput H.ar r { A with rs := A.rs ++ [((q : Int), k)] }) id = if id = r then some { A with rs := A.rs ++ [((q : Int), k)] } else lk H.ar id := lk_put h.ra _ _
  have kA : ∀ {id A'}, lk (mput H.ar r { A with rs := A.rs ++ [((q : Int), k)] }) id = some A' → ∃ B, lk H.ar id = some B ∧ A'.ts = B.ts ∧ A'.pg = B.pg ∧ A'.us = B.us ∧ ((id = r ∧ A'.rs = B.rs ++ [((q : Int), k)]) ∨ (id ≠ r ∧ A'.rs = B.rs)) := by
    intro id A' e
    rw [ka] at e
    split at e
    · rename_i e1; cases e; subst e1; exact ⟨A, hA, rfl, rfl, rfl, .inl ⟨rfl, rfl⟩⟩
    · rename_i e1; exact ⟨A', e, rfl, rfl, rfl, .inr ⟨e1, rfl⟩⟩
  have hin : ∀ p : Nat, owSet H.ow q k.toNat r p = if q ≤ p ∧ (p : Int) < q + k then r else H.ow p := by
    intro p
    rw [owSet_at]
    by_cases e : q ≤ p ∧ p < q + k.toNat
    · rw [if_pos e, if_pos (by omega)]
    · rw [if_neg e, if_neg (by omega)]
  have hkeep : ∀ p : Nat, H.ow p ≠ 0 → owSet H.ow q k.toNat r p = H.ow p := by
    intro p hp
    rw [hin, if_neg]
    rintro ⟨a, b⟩
    exact hp (f3 p a b)
  refine ⟨h.on, h.pg, by show (markX _ _ _ _).length = _; rw [markX_len]; exact h.gl, by show (fillL _ _ _ _).length = _; rw [fillL_length]; exact h.ml, h.sl, ?_, h.l0, by have := h.ln; show H.last ≤ _; omega, hn, h.rl, h.ra.put _ _, h.rp, h.lv, ?_, h.par, h.up, ?_, ?_, ?_, ?_, ?_, ?_, ?_, ?_, ?_, ?_, ?_, h.ds, h.dl, h.dk, ?_⟩
  · intro v hv
    have hv : v ∈ fillL H.ms (16 * q) (16 * k) 0 := hv
    unfold fillL at hv
    split at hv
    · rcases List.mem_append.1 hv with hv | hv
      · exact h.ms v (List.mem_of_mem_take hv)
      · rcases List.mem_append.1 hv with hv | hv
        · rw [(List.mem_replicate.1 hv).2]; omega
        · exact h.ms v (List.mem_of_mem_drop hv)
    · exact h.ms v hv
  · intro id
    show (lk (mput H.ar r _) id).isSome = true ↔ _
    rw [ka]
    split
    · rename_i e; subst e; exact ⟨fun _ => hr.1, fun _ => rfl⟩
    · exact h.ar id
  · intro id A' hA'
    obtain ⟨B, hB, e1, e2, e3, e4⟩ := kA hA'
    have := h.sz id B hB
    rcases e4 with ⟨_, e4⟩ | ⟨_, e4⟩
    · rw [e1, e4]; simp; omega
    · rw [e1, e4]; omega
  · intro id A' hA' x hx
    obtain ⟨B, hB, e1, e2, e3, e4⟩ := kA hA'
    have hid := h.idl hB
    have old : x ∈ B.rs → 0 ≤ x.1 ∧ 1 ≤ x.2 ∧ x.1 + x.2 ≤ Pg ∧ ∀ p : Nat, x.1 ≤ p → (p : Int) < x.1 + x.2 → owSet H.ow q k.toNat r p = id := fun hx => by
      obtain ⟨a, b, c, d⟩ := h.r1 id B hB x hx
      exact ⟨a, b, c, fun p p0 p1 => by rw [hkeep p (by rw [d p p0 p1]; omega)]; exact d p p0 p1⟩
    rcases e4 with ⟨e5, e4⟩ | ⟨_, e4⟩
    · rw [e4] at hx
      rcases List.mem_append.1 hx with hx | hx
      · exact old hx
      · simp at hx
        subst hx
        exact ⟨by simp, f1, by simpa using f2, fun p p0 p1 => by show owSet H.ow q k.toNat r p = id; rw [hin, if_pos (by simp at p0 p1; omega), e5]⟩
    · rw [e4] at hx
      exact old hx
  · intro p hp h0
    have h0 : owSet H.ow q k.toNat r p ≠ 0 := h0
    show ∃ A', lk (mput H.ar r _) (owSet H.ow q k.toNat r p) = some A' ∧ _
    by_cases e : q ≤ p ∧ (p : Int) < q + k
    · refine ⟨_, by rw [hin, if_pos e, ka, if_pos rfl], ((q : Int), k), by simp, by simp; omega, by simp; omega⟩
    · have e2 : owSet H.ow q k.toNat r p = H.ow p := by rw [hin, if_neg e]
      rw [e2] at h0 ⊢
      obtain ⟨B, hB, x, hx, x0, x1⟩ := h.r2 p hp h0
      rw [ka]
      split
      · rename_i e3
        rw [e3, hA] at hB
        cases hB
        exact ⟨_, rfl, x, by simp [hx], x0, x1⟩
      · exact ⟨B, hB, x, hx, x0, x1⟩
  · intro id A' hA'
    obtain ⟨B, hB, e1, e2, e3, e4⟩ := kA hA'
    have old := h.r3 id B hB
    rcases e4 with ⟨e5, e4⟩ | ⟨_, e4⟩
    · rw [e4, List.pairwise_append]
      refine ⟨old, by simp, fun x hx y hy => ?_⟩
      simp at hy
      subst hy
      obtain ⟨a, b, c, d⟩ := h.r1 id B hB x hx
      have hid := h.idl hB
      refine Classical.byContradiction fun hn' => ?_
      unfold Apart2 at hn'
      simp at hn'
      have e6 := d (max x.1 q).toNat (by omega) (by omega)
      have e7 := f3 (max x.1 q).toNat (by omega) (by omega)
      omega
    · rw [e4]; exact old
  · intro p hp
    show (markX H.gs q k true).getD p false = true ↔ owSet H.ow q k.toNat r p ≠ 0
    rw [markX_at _ _ hBg _ (by omega), hin]
    by_cases e : q ≤ p ∧ (p : Int) < q + k
    · rw [if_pos (by omega), if_pos e]; simp; omega
    · rw [if_neg (by omega), if_neg e]; exact h.g p hp
  · intro p
    show 0 ≤ owSet H.ow q k.toNat r p ∧ owSet H.ow q k.toNat r p ≤ H.last
    rw [hin]
    split
    · omega
    · exact h.ob p
  · intro id A' hA'
    obtain ⟨B, hB, e1, e2, e3, e4⟩ := kA hA'
    rw [e1]
    exact h.t1 id B hB
  · intro id A' hA' p hp
    obtain ⟨B, hB, e1, e2, e3, e4⟩ := kA hA'
    rw [e1] at hp
    obtain ⟨a, b, c, d⟩ := h.t2 id B hB p hp
    have hid := h.idl hB
    exact ⟨a, b, c, fun x x0 x1 => by show owSet H.ow q k.toNat r (x / 16) = id; rw [hkeep _ (by rw [d x x0 x1]; omega)]; exact d x x0 x1⟩
  · intro id A' hA'
    obtain ⟨B, hB, e1, e2, e3, e4⟩ := kA hA'
    rw [e1, e2, e3]
    have hid := h.idl hB
    rcases h.pl id B hB with e | ⟨a, b, c, d, e, f⟩
    · exact .inl e
    · exact .inr ⟨a, b, c, d, by show owSet H.ow q k.toNat r B.pg.toNat = id; rw [hkeep _ (by rw [e]; omega)]; exact e, f⟩
  · intro x
    rw [show (grH H r A q k).st = H.st from rfl, h.s x]
    constructor
    · rintro ⟨id, B, p, e1, e2, e3⟩
      by_cases e : id = r
      · subst e
        rw [hA] at e1
        cases e1
        exact ⟨id, { A with rs := A.rs ++ [((q : Int), k)] }, p, by show lk (mput H.ar id _) id = _; rw [ka, if_pos rfl], e2, e3⟩
      · exact ⟨id, B, p, by show lk (mput H.ar r _) id = _; rw [ka, if_neg e]; exact e1, e2, e3⟩
    · rintro ⟨id, A', p, e1, e2, e3⟩
      obtain ⟨B, hB, g1, _⟩ := kA e1
      exact ⟨id, B, p, hB, by rw [← g1]; exact e2, e3⟩
  · intro id A' hA' p hp
    obtain ⟨B, hB, e1, _⟩ := kA hA'
    rw [e1] at hp
    obtain ⟨g1, g2, _⟩ := h.grant_flds hf hB hp
    show onE (fillL H.ms (16 * q) (16 * k) 0) H.ds (p.1 + 1) = 0 ∧ 1 + ((onK (fillL H.ms (16 * q) (16 * k) 0) H.ds (p.1 + 1)).length : Int) ≤ p.2
    rw [g1, g2]
    exact h.h id B hB p hp
  · intro id A' hA' p hp
    obtain ⟨B, hB, e1, _⟩ := kA hA'
    rw [e1] at hp
    exact h.t3 id B hB p hp
end
end Go.Proofs.YtcenagpkfimkbaaGreatDoor
namespace Go.Proofs.YtcenagpkfimkbaaGreatDoor
open Go Go.RowKit

structure Room (Pg : Nat) (H : HM) (r : Int) (A : AR) (at_ s pg us : Int) (ms : List Int) : Prop where
  ar : lk H.ar r = some A
  a0 : 0 ≤ at_
  s2 : 2 ≤ s
  le : at_ + s ≤ 16 * Pg
  ow : ∀ x : Nat, at_ ≤ x → (x : Int) < at_ + s → H.ow (x / 16) = r
  ap : ∀ p ∈ A.ts, Apart2 p (at_, s)
  pl : (pg = -1 ∧ us = 16) ∨ (0 ≤ pg ∧ pg < Pg ∧ 0 ≤ us ∧ us ≤ 16 ∧ H.ow pg.toNat = r ∧ ∀ p ∈ A.ts ++ [(at_, s)], p.1 + p.2 ≤ 16 * pg + us ∨ 16 * pg + 16 ≤ p.1 ∨ p.1 + p.2 ≤ 16 * pg)
  ml : ms.length = H.ms.length
  mv : ∀ v ∈ ms, 0 ≤ v ∧ v < 18446744073709551616
  mq : ∀ x : Nat, ¬ (at_ ≤ x ∧ (x : Int) < at_ + s) → ms.getD x 0 = H.ms.getD x 0
  h0 : onE ms H.ds (at_ + 1) = 0
  h1 : 1 + ((onK ms H.ds (at_ + 1)).length : Int) ≤ s
  hz : ∀ v ∈ onV ms H.ds (at_ + 1), v = 0
  al : at_ % 16 < 15
def plH (H : HM) (r : Int) (A : AR) (at_ s pg us : Int) (ms : List Int) : HM :=
  { H with ar := mput H.ar r { A with pg := pg, us := us, ts := A.ts ++ [(at_, s)] }, ms := ms, st := H.st.set (at_ + 1).toNat true }
section
variable {Pg n : Nat} {H : HM} {r : Int} {A : AR} {at_ s pg us : Int} {ms : List Int}
theorem Room.far (hr : Room Pg H r A at_ s pg us ms) (h : Lay Pg n H) {id : Int} {B : AR} (hB : lk H.ar id = some B) {p : Int × Int} (hp : p ∈ B.ts) : Apart2 p (at_, s) := by
  by_cases e : id = r
  · subst e
    rw [hr.ar] at hB
    cases hB
    exact hr.ap p hp
  · obtain ⟨a, b, c, d⟩ := h.t2 id B hB p hp
    have s2 := hr.s2
    have a0 := hr.a0
    refine Classical.byContradiction fun hn => ?_
    unfold Apart2 at hn
    have e1 := d (max p.1 at_).toNat (by omega) (by omega)
    have e2 := hr.ow (max p.1 at_).toNat (by omega) (by omega)
    exact e (e1.symm.trans e2)
theorem Room.flds (hr : Room Pg H r A at_ s pg us ms) (h : Lay Pg n H) {id : Int} {B : AR} (hB : lk H.ar id = some B) {p : Int × Int} (hp : p ∈ B.ts) :
    onE ms H.ds (p.1 + 1) = onE H.ms H.ds (p.1 + 1) ∧ onK ms H.ds (p.1 + 1) = onK H.ms H.ds (p.1 + 1) ∧ ∀ id', flds ms H.ds (p.1 + 1) id' = flds H.ms H.ds (p.1 + 1) id' := by
  have hf := hr.far h hB hp
  obtain ⟨a, b, c, d⟩ := h.t2 id B hB p hp
  have hh := h.h id B hB p hp
  unfold Apart2 at hf
  simp at hf
  have hx : ms.getD (p.1 + 1 - 1).toNat 0 = H.ms.getD (p.1 + 1 - 1).toNat 0 := hr.mq _ (by omega)
  obtain ⟨_, e2, e3⟩ := on_same (ds := H.ds) hr.ml hx
  exact ⟨e2, e3, fun id' => flds_same hr.ml hx (fun i hi => hr.mq _ (by omega))⟩
theorem hasM_set {st : List Bool} {a : Int} (h0 : 0 ≤ a) (h1 : a < st.length) (x : Int) : hasM (st.set a.toNat true) x = true ↔ x = a ∨ hasM st x = true := by
  unfold hasM
  rw [List.length_set]
  by_cases hx : 0 ≤ x ∧ x < st.length
  · rw [if_pos hx, if_pos hx]
    simp only [List.getD_eq_getElem?_getD]
    by_cases e : a.toNat = x.toNat
    · rw [e, List.getElem?_set_self (by omega)]
      simp
      exact .inl (by omega)
    · rw [List.getElem?_set_ne e]
      constructor
      · exact .inr
      · rintro (rfl | h)
        · exact absurd rfl e
        · exact h
  · rw [if_neg hx, if_neg hx]
    simp
    omega
theorem Lay.place (h : Lay Pg n H) (hn : n + 1 ≤ 200) (hr : Room Pg H r A at_ s pg us ms) : Lay Pg (n + 1) (plH H r A at_ s pg us ms) := by
  have hid := h.idl hr.ar
  have a0 := hr.a0
  have s2 := hr.s2
  have le := hr.le
  have hsl := h.sl
  have ka : ∀ id, lk (mput H.ar r { A with pg := pg, us := us, ts := A.ts ++ [(at_, s)] }) id = if id = r then some { A with pg := pg, us := us, ts := A.ts ++ [(at_, s)] } else lk H.ar id := lk_put h.ra _ _
  have kA : ∀ {id A'}, lk (mput H.ar r { A with pg := pg, us := us, ts := A.ts ++ [(at_, s)] }) id = some A' → ∃ B, lk H.ar id = some B ∧ A'.rs = B.rs ∧ ((id = r ∧ B = A ∧ A'.pg = pg ∧ A'.us = us ∧ A'.ts = A.ts ++ [(at_, s)]) ∨ (id ≠ r ∧ A' = B)) := by
    intro id A' e
    rw [ka] at e
    split at e
    · rename_i e1; cases e; subst e1; exact ⟨A, hr.ar, rfl, .inl ⟨rfl, rfl, rfl, rfl, rfl⟩⟩
    · rename_i e1; exact ⟨A', e, rfl, .inr ⟨e1, rfl⟩⟩
  have kT : ∀ {id A'}, lk (mput H.ar r { A with pg := pg, us := us, ts := A.ts ++ [(at_, s)] }) id = some A' → ∀ p ∈ A'.ts, (id = r ∧ p = (at_, s)) ∨ ∃ B, lk H.ar id = some B ∧ p ∈ B.ts := by
    intro id A' e p hp
    obtain ⟨B, hB, _, e2⟩ := kA e
    rcases e2 with ⟨e3, rfl, _, _, e4⟩ | ⟨_, rfl⟩
    · rw [e4] at hp
      rcases List.mem_append.1 hp with hp | hp
      · exact .inr ⟨_, hB, hp⟩
      · exact .inl ⟨e3, by simpa using hp⟩
    · exact .inr ⟨_, hB, hp⟩
  refine ⟨h.on, h.pg, h.gl, hr.ml.trans h.ml, by show (H.st.set _ _).length = _; rw [List.length_set]; exact h.sl, hr.mv, h.l0, by have := h.ln; show H.last ≤ _; omega, hn, h.rl, h.ra.put _ _, h.rp, h.lv, ?_, h.par, h.up, ?_, ?_, ?_, ?_, h.g, h.ob, ?_, ?_, ?_, ?_, ?_, h.ds, h.dl, h.dk, ?_⟩
  · intro id
    show (lk (mput H.ar r _) id).isSome = true ↔ _
    rw [ka]
    split
    · rename_i e; subst e; exact ⟨fun _ => hid.1, fun _ => rfl⟩
    · exact h.ar id
  · intro id A' hA'
    obtain ⟨B, hB, e1, e2⟩ := kA hA'
    have := h.sz id B hB
    rcases e2 with ⟨_, rfl, _, _, e4⟩ | ⟨_, rfl⟩
    · rw [e1, e4]; simp; omega
    · omega
  · intro id A' hA'
    obtain ⟨B, hB, e1, _⟩ := kA hA'
    rw [e1]
    exact h.r1 id B hB
  · intro p hp h0
    obtain ⟨B, hB, x, hx⟩ := h.r2 p hp h0
    show ∃ A', lk (mput H.ar r _) (H.ow p) = some A' ∧ _
    rw [ka]
    split
    · rename_i e
      rw [e, hr.ar] at hB
      cases hB
      exact ⟨_, rfl, x, hx⟩
    · exact ⟨B, hB, x, hx⟩
  · intro id A' hA'
    obtain ⟨B, hB, e1, _⟩ := kA hA'
    rw [e1]
    exact h.r3 id B hB
  · intro id A' hA'
    obtain ⟨B, hB, e1, e2⟩ := kA hA'
    rcases e2 with ⟨_, rfl, _, _, e4⟩ | ⟨_, rfl⟩
    · rw [e4, List.pairwise_append]
      exact ⟨h.t1 id _ hB, by simp, fun x hx y hy => by simp at hy; subst hy; exact hr.ap x hx⟩
    · exact h.t1 id _ hB
  · intro id A' hA' p hp
    rcases kT hA' p hp with ⟨rfl, rfl⟩ | ⟨B, hB, hp⟩
    · exact ⟨a0, s2, le, hr.ow⟩
    · exact h.t2 id B hB p hp
  · intro id A' hA'
    obtain ⟨B, hB, e1, e2⟩ := kA hA'
    rcases e2 with ⟨rfl, rfl, e3, e5, e4⟩ | ⟨_, rfl⟩
    · rw [e3, e4, e5]; exact hr.pl
    · exact h.pl id _ hB
  · intro x
    show hasM (H.st.set (at_ + 1).toNat true) x = true ↔ _
    rw [hasM_set (by omega) (by omega), h.s x]
    constructor
    · rintro (rfl | ⟨id, B, p, e1, e2, e3⟩)
      · exact ⟨r, { A with pg := pg, us := us, ts := A.ts ++ [(at_, s)] }, (at_, s), by show lk (mput H.ar r _) r = _; rw [ka, if_pos rfl], by simp, rfl⟩
      · by_cases e : id = r
        · subst e
          rw [hr.ar] at e1
          cases e1
          exact ⟨id, { A with pg := pg, us := us, ts := A.ts ++ [(at_, s)] }, p, by show lk (mput H.ar id _) id = _; rw [ka, if_pos rfl], by simp [e2], e3⟩
        · exact ⟨id, B, p, by show lk (mput H.ar r _) id = _; rw [ka, if_neg e]; exact e1, e2, e3⟩
    · rintro ⟨id, A', p, e1, e2, e3⟩
      rcases kT e1 p e2 with ⟨rfl, rfl⟩ | ⟨B, hB, hp⟩
      · exact .inl e3
      · exact .inr ⟨id, B, p, hB, hp, e3⟩
  · intro id A' hA' p hp
    show onE ms H.ds (p.1 + 1) = 0 ∧ 1 + ((onK ms H.ds (p.1 + 1)).length : Int) ≤ p.2
    rcases kT hA' p hp with ⟨rfl, rfl⟩ | ⟨B, hB, hp⟩
    · exact ⟨hr.h0, hr.h1⟩
    · obtain ⟨g1, g2, _⟩ := hr.flds h hB hp
      rw [g1, g2]
      exact h.h id B hB p hp
  · intro id A' hA' p hp
    rcases kT hA' p hp with ⟨rfl, rfl⟩ | ⟨B, hB, hp⟩
    · exact hr.al
    · exact h.t3 id B hB p hp
end
end Go.Proofs.YtcenagpkfimkbaaGreatDoor
namespace Go.Proofs.YtcenagpkfimkbaaGreatDoor
open Go Go.RowKit

section
variable {Pg n : Nat} {H : HM}
theorem Lay.tgt_grant (h : Lay Pg n H) {k : Int} {q : Nat} (hf : findM H.gs k = some q) (r : Int) (A : AR) (v : Int) : tgt (grH H r A q k) v = tgt H v := by
  show (if hasM H.st v = true then owW H.on (owSet H.ow q k.toNat r) v else 0) = tgt H v
  unfold tgt
  split
  · rename_i hv
    obtain ⟨id, B, p, hB, hp, e, _, e2, e3⟩ := h.start hv
    obtain ⟨f1, f2, f3⟩ := h.free0 hf
    unfold owW owP at e2 ⊢
    split
    · rfl
    · rename_i h1
      rw [if_neg h1] at e2
      split
      · rename_i h2
        rw [if_pos h2] at e2
        rw [owSet_at, if_neg]
        rintro ⟨a, b⟩
        have := f3 (v / 16).toNat a (by omega)
        omega
      · rfl
  · rfl
theorem flatMap_congr_ {α β : Type} {f g : α → List β} : ∀ {l : List α}, (∀ x ∈ l, f x = g x) → l.flatMap f = l.flatMap g
  | [], _ => rfl
  | x :: r, h => by
    rw [List.flatMap_cons, List.flatMap_cons, h x (by simp), flatMap_congr_ (fun y hy => h y (by simp [hy]))]
theorem Lay.objs_grant (h : Lay Pg n H) {r : Int} {A : AR} (hA : lk H.ar r = some A) (q : Nat) (k : Int) : objsL (grH H r A q k) = objsL H := by
  show (keysL H.live).flatMap (thsOf (grH H r A q k)) = (keysL H.live).flatMap (thsOf H)
  refine flatMap_congr_ fun id _ => ?_
  unfold thsOf
  rw [show lk (grH H r A q k).ar id = if id = r then some { A with rs := A.rs ++ [((q : Int), k)] } else lk H.ar id from lk_put h.ra _ _ _]
  by_cases e : id = r
  · subst e; rw [if_pos rfl, hA]
  · rw [if_neg e]
theorem Inv.grant (h : Inv Pg n H) (hn : n + 1 ≤ 200) {r : Int} {A : AR} (hA : lk H.ar r = some A) {k : Int} {q : Nat} (hf : findM H.gs k = some q) : Inv Pg (n + 1) (grH H r A q k) := by
  have hO := h.y.objs_grant hA q k
  have hT := h.y.tgt_grant hf r A
  have hF : fieldsL (grH H r A q k) = fieldsL H := by
    show (objsL (grH H r A q k)).flatMap (fun p => flds (fillL H.ms (16 * q) (16 * k) 0) H.ds p.1 p.2) = (objsL H).flatMap (fun p => flds H.ms H.ds p.1 p.2)
    rw [hO]
    refine flatMap_congr_ ?_
    rintro ⟨a, id⟩ hx
    obtain ⟨B, p, hB, hp, rfl⟩ := h.y.mem_objs.1 hx
    exact (h.y.grant_flds hf hB hp).2.2 id
  have hR : rootsL (grH H r A q k) = rootsL H := rfl
  refine ⟨h.y.grant hn hA hf, ?_, h.rp, ?_, h.rc, h.ck, h.gl, h.fl, h.fs⟩
  · intro f hf'
    rw [hF] at hf'
    have := h.fp f hf'
    unfold PtOk at this ⊢
    rw [hT]
    exact this
  · intro i hi
    unfold cntOf fz rz
    simp only [hT, hF, hR]
    exact h.ct i hi
variable {r : Int} {A : AR} {at_ s pg us : Int} {ms : List Int}
theorem Lay.keys_split (h : Lay Pg n H) (hA : lk H.ar r = some A) : ∃ k1 k2, keysL H.live = k1 ++ r :: k2 ∧ (∀ x ∈ k1, x ≠ r) ∧ (∀ x ∈ k2, x ≠ r) := by
  have hl := (h.ar r).1 (by rw [hA]; rfl)
  obtain ⟨u, hu⟩ := Option.isSome_iff_exists.1 hl
  have hm : r ∈ keysL H.live := List.mem_map.2 ⟨(r, u), (lk_some h.rl).1 hu, rfl⟩
  obtain ⟨k1, k2, e⟩ := List.append_of_mem hm
  have hk : (keysL H.live).Pairwise (fun a c => a < c) := List.pairwise_map.2 h.rl
  rw [e] at hk
  refine ⟨k1, k2, e, fun x hx => ?_, fun x hx => ?_⟩
  · have := (List.pairwise_append.1 hk).2.2 x hx r (by simp); omega
  · have := (List.pairwise_cons.1 (List.pairwise_append.1 hk).2.1).1 x hx; omega
theorem Room.objs (hr : Room Pg H r A at_ s pg us ms) (h : Lay Pg n H) : ∃ l1 l2, objsL H = l1 ++ l2 ∧ objsL (plH H r A at_ s pg us ms) = l1 ++ (at_ + 1, r) :: l2 := by
  obtain ⟨k1, k2, e, h1, h2⟩ := h.keys_split hr.ar
  have hth : ∀ id, thsOf (plH H r A at_ s pg us ms) id = if id = r then A.ts.map (fun p => (p.1 + 1, r)) ++ [(at_ + 1, r)] else thsOf H id := by
    intro id
    unfold thsOf
    rw [show lk (plH H r A at_ s pg us ms).ar id = if id = r then some { A with pg := pg, us := us, ts := A.ts ++ [(at_, s)] } else lk H.ar id from lk_put h.ra _ _ _]
    by_cases e : id = r
    · subst e; rw [if_pos rfl, if_pos rfl]; simp
    · rw [if_neg e, if_neg e]
  have hr0 : thsOf H r = A.ts.map (fun p => (p.1 + 1, r)) := by unfold thsOf; rw [hr.ar]
  refine ⟨k1.flatMap (thsOf H) ++ A.ts.map (fun p => (p.1 + 1, r)), k2.flatMap (thsOf H), ?_, ?_⟩
  · unfold objsL
    rw [e, List.flatMap_append, List.flatMap_cons, hr0, List.append_assoc]
  · show (keysL H.live).flatMap (thsOf (plH H r A at_ s pg us ms)) = _
    rw [e, List.flatMap_append, List.flatMap_cons, hth r, if_pos rfl, flatMap_congr_ (fun x hx => (hth x).trans (if_neg (h1 x hx))), flatMap_congr_ (fun x hx => (hth x).trans (if_neg (h2 x hx)))]
    simp
theorem Room.tgt_ (hr : Room Pg H r A at_ s pg us ms) (h : Lay Pg n H) {v : Int} (hv : v = 0 ∨ hasM H.st v = true) : tgt (plH H r A at_ s pg us ms) v = tgt H v ∧ (hasM (plH H r A at_ s pg us ms).st v = true ↔ hasM H.st v = true) := by
  have a0 := hr.a0
  have s2 := hr.s2
  have le := hr.le
  have hsl := h.sl
  have hs : hasM (plH H r A at_ s pg us ms).st v = true ↔ v = at_ + 1 ∨ hasM H.st v = true := hasM_set (by omega) (by omega) v
  have hs2 : hasM (plH H r A at_ s pg us ms).st v = true ↔ hasM H.st v = true := by
    rw [hs]
    constructor
    · rintro (e | e)
      · rcases hv with e2 | e2
        · omega
        · exact e2
      · exact e
    · exact .inr
  refine ⟨?_, hs2⟩
  unfold tgt
  by_cases e : hasM H.st v = true
  · rw [if_pos e, if_pos (hs2.2 e)]; rfl
  · rw [if_neg e, if_neg (fun e2 => e (hs2.1 e2))]
theorem Inv.place (h : Inv Pg n H) (hn : n + 1 ≤ 200) (hr : Room Pg H r A at_ s pg us ms) : Inv Pg (n + 1) (plH H r A at_ s pg us ms) := by
  obtain ⟨l1, l2, e1, e2⟩ := hr.objs h.y
  have hid := h.y.idl hr.ar
  have hold : ∀ p ∈ objsL H, flds ms H.ds p.1 p.2 = flds H.ms H.ds p.1 p.2 := by
    rintro ⟨a, id⟩ hx
    obtain ⟨B, p, hB, hp, rfl⟩ := h.y.mem_objs.1 hx
    exact (hr.flds h.y hB hp).2.2 id
  have hF0 : fieldsL H = l1.flatMap (fun p => flds H.ms H.ds p.1 p.2) ++ l2.flatMap (fun p => flds H.ms H.ds p.1 p.2) := by
    unfold fieldsL
    rw [e1, List.flatMap_append]
  have hF : fieldsL (plH H r A at_ s pg us ms) = l1.flatMap (fun p => flds H.ms H.ds p.1 p.2) ++ (flds ms H.ds (at_ + 1) r ++ l2.flatMap (fun p => flds H.ms H.ds p.1 p.2)) := by
    show (objsL (plH H r A at_ s pg us ms)).flatMap (fun p => flds ms H.ds p.1 p.2) = _
    rw [e2, List.flatMap_append, List.flatMap_cons, flatMap_congr_ (fun x hx => hold x (by rw [e1]; simp [hx])), flatMap_congr_ (l := l2) (fun x hx => hold x (by rw [e1]; simp [hx]))]
  have hnew : ∀ f ∈ flds ms H.ds (at_ + 1) r, f.1 = r ∧ f.2.2 = 0 := by
    intro f hf
    unfold flds at hf
    obtain ⟨i, hi, rfl⟩ := List.mem_map.1 hf
    refine ⟨rfl, ?_⟩
    show (onV ms H.ds (at_ + 1))[i]?.getD 0 = 0
    cases e : (onV ms H.ds (at_ + 1))[i]? with
    | none => rfl
    | some v => exact hr.hz v (List.mem_of_getElem? e)
  have hT0 : tgt (plH H r A at_ s pg us ms) 0 = 0 := by rw [(hr.tgt_ h.y (.inl rfl)).1]; exact h.y.tgt_no h.y.zero
  have hR : rootsL (plH H r A at_ s pg us ms) = rootsL H := rfl
  have hpt : ∀ f ∈ fieldsL H, fz (plH H r A at_ s pg us ms) f = fz H f := by
    intro f hf
    unfold fz
    rcases h.fp f hf with e | e | ⟨e, _⟩
    · rw [e]; simp [cz, cntB]
    · rw [(hr.tgt_ h.y (.inl e)).1]
    · rw [(hr.tgt_ h.y (.inr e)).1]
  have hrt : ∀ v ∈ rootsL H, rz (plH H r A at_ s pg us ms) v = rz H v := by
    intro v hv
    unfold rz
    rw [(hr.tgt_ h.y (h.rp v hv)).1]
  refine ⟨h.y.place hn hr, ?_, ?_, ?_, h.rc, h.ck, h.gl, h.fl, h.fs⟩
  · intro f hf
    rw [hF] at hf
    have hh : f ∈ fieldsL H ∨ f ∈ flds ms H.ds (at_ + 1) r := by
      rw [hF0]
      simp only [List.mem_append] at hf ⊢
      rcases hf with a | a | a
      · exact .inl (.inl a)
      · exact .inr a
      · exact .inl (.inr a)
    rcases hh with hf | hf
    · rcases h.fp f hf with e | e | ⟨e, e5, e6⟩
      · exact .inl e
      · exact .inr (.inl e)
      · obtain ⟨g1, g2⟩ := hr.tgt_ h.y (.inr e)
        refine .inr (.inr ⟨g2.2 e, ?_, ?_⟩)
        · rw [g1]; exact e5
        · rw [g1]; exact e6
    · exact .inr (.inl (hnew f hf).2)
  · intro v hv
    rw [hR] at hv
    have := h.rp v hv
    exact this.imp_right ((hr.tgt_ h.y this).2.2)
  · intro i hi
    show at0 H.cnt i = _
    rw [h.ct i hi]
    unfold cntOf
    rw [hF, hR, hF0]
    have c1 : (flds ms H.ds (at_ + 1) r).countP (fun f => decide (fz (plH H r A at_ s pg us ms) f = i)) = 0 := by
      rw [List.countP_eq_zero]
      intro f hf
      have := hnew f hf
      unfold fz
      rw [this.2, hT0]
      simp [cz, cntB]
      omega
    have c2 : ∀ l : List (Int × Int × Int), (∀ f ∈ l, f ∈ fieldsL H) → l.countP (fun f => decide (fz (plH H r A at_ s pg us ms) f = i)) = l.countP (fun f => decide (fz H f = i)) := fun l hl => List.countP_congr fun f hf => by rw [hpt f (hl f hf)]
    have c3 : (rootsL H).countP (fun v => decide (rz (plH H r A at_ s pg us ms) v = i)) = (rootsL H).countP (fun v => decide (rz H v = i)) := List.countP_congr fun v hv => by rw [hrt v hv]
    rw [List.countP_append, List.countP_append, List.countP_append, c1, c2 _ (fun f hf => by rw [hF0]; simp only [List.mem_append]; exact .inl hf), c2 _ (fun f hf => by rw [hF0]; simp only [List.mem_append]; exact .inr hf), c3]
    omega
end
end Go.Proofs.YtcenagpkfimkbaaGreatDoor
namespace Go.Proofs.YtcenagpkfimkbaaGreatDoor
open Go Go.RowKit

theorem oW_same {n : Nat} {ow : Nat → Int} {f k o : Int} (f0 : 0 ≤ f) (h : ∀ q : Nat, f ≤ q → (q : Int) < f + k → ow q = o) : oW n ow f k o = ow := by
  unfold oW
  split
  · funext p
    rw [owSet_at]
    split
    · exact (h p (by omega) (by omega)).symm
    · rfl
  · rfl
theorem owAll_same {n : Nat} {ow : Nat → Int} {o : Int} : ∀ {rs : List (Int × Int)}, (∀ p ∈ rs, 0 ≤ p.1 ∧ ∀ q : Nat, p.1 ≤ q → (q : Int) < p.1 + p.2 → ow q = o) → owAll n ow rs o = ow
  | [], _ => rfl
  | p :: r, h => by
    show owAll n (oW n ow p.1 p.2 o) r o = ow
    rw [oW_same (h p (by simp)).1 (h p (by simp)).2]
    exact owAll_same fun x hx => h x (by simp [hx])
theorem owAll_snoc (n : Nat) (ow : Nat → Int) (rs : List (Int × Int)) (p : Int × Int) (o : Int) : owAll n ow (rs ++ [p]) o = oW n (owAll n ow rs o) p.1 p.2 o := by
  unfold owAll
  rw [List.foldl_append]
  rfl
theorem mput_mput {α : Type} (m : IM α) (k : Int) (v v' : α) : mput (mput m k v) k v' = mput m k v' := by
  conv => lhs; unfold mput
  rw [mdel_mins]
  unfold mdel
  rw [List.filter_filter]
  simp [mput, mdel]
theorem wrL_at (xs : List Int) {i : Int} (v : Int) (h0 : 0 ≤ i) (h1 : i < xs.length) (x : Nat) : (wrL xs i v).getD x 0 = if (x : Int) = i then v else xs.getD x 0 := by
  unfold wrL inB
  rw [if_pos (by simp; omega)]
  simp only [List.getD_eq_getElem?_getD]
  by_cases e : (x : Int) = i
  · rw [if_pos e, show i.toNat = x by omega, List.getElem?_set_self (by omega)]
    rfl
  · rw [if_neg e, List.getElem?_set_ne (by omega)]
theorem get_word {a : Bool} {q t k : Int} (h : mayB a q t k = true) : putW a q t k = wordI a q t k ∧ gA (wordI a q t k) = a ∧ gK (wordI a q t k) = q ∧ gT (wordI a q t k) = t ∧ gN (wordI a q t k) = k ∧ getB (wordI a q t k) = true ∧ 0 ≤ wordI a q t k ∧ wordI a q t k < 18446744073709551616 := by
  have hb := mayB_bd h
  have e1 : gA (wordI a q t k) = a := by
    unfold gA wordI
    cases a
    · simp; omega
    · simp; omega
  have e2 : gK (wordI a q t k) = q := by unfold gK wordI; cases a <;> simp <;> omega
  have e3 : gT (wordI a q t k) = t := by unfold gT wordI; cases a <;> simp <;> omega
  have e4 : gN (wordI a q t k) = k := by unfold gN wordI; cases a <;> simp <;> omega
  exact ⟨by simp [putW, h], e1, e2, e3, e4, by unfold getB; rw [e1, e2, e3, e4, h]; simp, by unfold wordI; cases a <;> simp <;> omega, by unfold wordI; cases a <;> simp <;> omega⟩
theorem knL_len {ds : List (List Int)} {a : Bool} {q t k : Int} (h : knE ds a q t k = 0) : ((knL ds a q t k).length : Int) = k := by
  unfold knL
  rw [if_pos h]
  unfold knE at h
  cases a
  · simp only [Bool.false_eq_true, if_false] at h ⊢
    split at h
    · split at h
      · omega
      · cases h
    · cases h
  · simp only [if_true] at h ⊢
    split at h
    · split at h
      · simp; omega
      · cases h
    · cases h
theorem sizeI_eq {a : Bool} {q t k : Int} (h : mayB a q t k = true) : sizeI a q t k = 1 + max k 1 ∧ 2 ≤ sizeI a q t k ∧ sizeI a q t k ≤ 4001 := by
  have hb := mayB_bd h
  unfold sizeI
  rw [if_pos h]
  omega
theorem put_room {ds : List (List Int)} {ms0 : List Int} {at_ : Int} {a : Bool} {q t k : Int} (hm : mayB a q t k = true) (hk : knE ds a q t k = 0) (a0 : 0 ≤ at_) (al : at_ + sizeI a q t k ≤ ms0.length) (hv : ∀ v ∈ ms0, 0 ≤ v ∧ v < 18446744073709551616) (ms : List Int) (hms : puL ms0 at_ (sizeI a q t k) a q t k = ms) :
    ms.length = ms0.length ∧ (∀ v ∈ ms, 0 ≤ v ∧ v < 18446744073709551616) ∧ (∀ x : Nat, ¬ (at_ ≤ x ∧ (x : Int) < at_ + sizeI a q t k) → ms.getD x 0 = ms0.getD x 0) ∧ onE ms ds (at_ + 1) = 0 ∧ onK ms ds (at_ + 1) = knL ds a q t k ∧ ∀ v ∈ onV ms ds (at_ + 1), v = 0 := by
  obtain ⟨w1, w2, w3, w4, w5, w6, w7, w8⟩ := get_word hm
  obtain ⟨s1, s2, s3⟩ := sizeI_eq hm
  have hkl := knL_len hk
  have hB : hasB ms0.length at_ (sizeI a q t k) = true := by unfold hasB; simp; omega
  have e : ms = wrL (fillL ms0 at_ (sizeI a q t k) 0) at_ (wordI a q t k) := by
    rw [← hms]
    unfold puL
    rw [if_pos (by simp [puB, hm]), if_pos hB, w1]
  have hl : ms.length = ms0.length := by rw [e, wrL_length, fillL_length]
  have hat : ∀ x : Nat, x < ms0.length → ms.getD x 0 = if (x : Int) = at_ then wordI a q t k else if at_ ≤ x ∧ (x : Int) < at_ + sizeI a q t k then 0 else ms0.getD x 0 := by
    intro x hx
    rw [e, wrL_at _ _ a0 (by rw [fillL_length]; omega), fillL_at _ _ hB _ hx]
  have hX : onX ms (at_ + 1) = wordI a q t k := by
    unfold onX
    rw [hat _ (by omega), if_pos (by omega)]
  have hE : onE ms ds (at_ + 1) = 0 := by
    unfold onE
    rw [hX, w2, w3, w4, w5, if_pos (by omega), if_pos w6, if_pos hk, if_pos (by omega)]
  have hK : onK ms ds (at_ + 1) = knL ds a q t k := by
    unfold onK
    rw [if_pos hE, hX, w2, w3, w4, w5]
  refine ⟨hl, ?_, ?_, hE, hK, ?_⟩
  · intro v hv'
    obtain ⟨i, hi, rfl⟩ := List.getElem_of_mem hv'
    have h1 := hat i (by omega)
    rw [List.getD_eq_getElem?_getD, List.getElem?_eq_getElem hi, Option.getD_some] at h1
    rw [h1]
    split
    · exact ⟨w7, w8⟩
    · split
      · omega
      · rw [List.getD_eq_getElem?_getD, List.getElem?_eq_getElem (by omega), Option.getD_some]
        exact hv _ (List.getElem_mem _)
  · intro x hx
    by_cases hx2 : x < ms0.length
    · rw [hat x hx2, if_neg (by omega), if_neg hx]
    · simp only [List.getD_eq_getElem?_getD]
      rw [List.getElem?_eq_none (by omega), List.getElem?_eq_none (by omega)]
  · intro v hv'
    obtain ⟨i, hi, rfl⟩ := List.getElem_of_mem hv'
    have hi2 : i < (onK ms ds (at_ + 1)).length := by
      unfold onV at hi
      rw [if_pos hE, List.length_take] at hi
      omega
    have h1 := onV_at hE hi2
    rw [List.getElem?_eq_getElem hi, Option.getD_some] at h1
    rw [hK] at hi2
    rw [h1, hat _ (by omega), if_neg (by omega), if_pos (by omega)]
end Go.Proofs.YtcenagpkfimkbaaGreatDoor
namespace Go.Proofs.YtcenagpkfimkbaaGreatDoor
open Go Go.RowKit

section
variable {Pg n : Nat} {H : HM}
theorem alE_zero {r : Int} {a : Bool} {q t k : Int} (he : alE H r a q t k = 0) : livesB H r = true ∧ knE H.ds a q t k = 0 ∧ mayB a q t k = true ∧ arE H.gs (arOf H r).pg (arOf H r).us (sizeI a q t k) = 0 := by
  unfold alE at he
  split at he
  · cases he
  · rename_i h1
    split at he
    · rename_i h2; exact absurd he h2
    · rename_i h2
      split at he
      · rename_i h3; exact absurd he h3
      · rename_i h3
        have h3 : putE a q t k = 0 := by simpa using h3
        refine ⟨by simpa using h1, by simpa using h2, ?_, he⟩
        unfold putE at h3
        split at h3
        · assumption
        · cases h3
theorem arE_zero {gs : List Bool} {pg us s : Int} (h : arE gs pg us s = 0) : 1 ≤ s ∧ s ≤ 16384 ∧ (plN pg us s ≤ 0 ∨ ∃ q, findM gs (plN pg us s) = some q) := by
  unfold arE at h
  split at h
  · cases h
  · rename_i h1
    have h1 : plE s = 0 := by simpa using h1
    unfold plE at h1
    split at h1
    · cases h1
    · rename_i h2
      refine ⟨by omega, by omega, ?_⟩
      split at h
      · rename_i h3; exact .inl h3
      · split at h
        · rename_i h4; exact .inr (Option.isSome_iff_exists.1 h4)
        · cases h
inductive AlWay (Pg : Nat) (H : HM) (r : Int) (a : Bool) (q t k : Int) : Prop
  | old (A : AR) (at_ pg us : Int) (ms : List Int) : Room Pg H r A at_ (sizeI a q t k) pg us ms → onK ms H.ds (at_ + 1) = knL H.ds a q t k → alH H r a q t k = plH H r A at_ (sizeI a q t k) pg us ms → alA H r a q t k = at_ + 1 → arS H.gs (arOf H r).pg (arOf H r).us (sizeI a q t k) = H.gs → AlWay Pg H r a q t k
  | new (A : AR) (p : Nat) (K : Int) (at_ pg us : Int) (ms : List Int) : lk H.ar r = some A → findM H.gs K = some p → Room Pg (grH H r A p K) r { A with rs := A.rs ++ [((p : Int), K)] } at_ (sizeI a q t k) pg us ms → onK ms H.ds (at_ + 1) = knL H.ds a q t k → alH H r a q t k = plH (grH H r A p K) r { A with rs := A.rs ++ [((p : Int), K)] } at_ (sizeI a q t k) pg us ms → alA H r a q t k = at_ + 1 → AlWay Pg H r a q t k
theorem Lay.al_way (h : Lay Pg n H) (hn : n + 1 ≤ 200) {r : Int} {a : Bool} {q t k : Int} (he : alE H r a q t k = 0) : AlWay Pg H r a q t k := by
  obtain ⟨e1, e2, e3, e4⟩ := alE_zero he
  obtain ⟨z1, z2, z3⟩ := sizeI_eq e3
  have hlive := (h.lives r).1 e1
  obtain ⟨A, hA⟩ := Option.isSome_iff_exists.1 ((h.ar r).2 hlive)
  have hAo : arOf H r = A := by unfold arOf; rw [hA]; rfl
  have hid := h.idl hA
  rw [hAo] at e4
  obtain ⟨s1, s2, s3⟩ := arE_zero e4
  have hrs : owAll H.on H.ow A.rs r = H.ow := owAll_same fun p hp => by
    obtain ⟨a0, a1, a2, a3⟩ := h.r1 r A hA p hp
    exact ⟨a0, a3⟩
  have hgl := h.gl
  have hml := h.ml
  have hsl := h.sl
  have hon := h.on
  have hpg := h.pg
  obtain ⟨s, hs⟩ : ∃ s, sizeI a q t k = s := ⟨_, rfl⟩
  have hal : alH H r a q t k = alH2 H r A s (arA H.gs A.pg A.us s) a q t k := by
    unfold alH
    rw [if_pos he, hAo, hs]
  have hala : alA H r a q t k = arA H.gs A.pg A.us s + 1 := by
    unfold alA
    rw [if_pos he, hAo, hs]
  rw [hs] at e4 s1 s2 s3 z2 z3
  have hspl : ∀ (st : List Bool) (at_ : Int), st = H.st → 0 ≤ at_ → at_ + s ≤ 16 * Pg → (hasM H.st (at_ + 1) = false) → spL st (at_ + 1) = H.st.set (at_ + 1).toNat true := by
    rintro st at_ rfl h0 h1 h2
    unfold spL spE
    rw [if_pos]
    rw [if_neg (by omega), h2]
    simp
  by_cases hN : plN A.pg A.us s ≤ 0
  · -- no new page
    have hN0 : ¬ (A.pg = -1 ∧ A.us = 16) ∧ s ≤ 16 - A.us ∧ ¬ 16 < s ∧ plN A.pg A.us s = 0 := by
      unfold plN at hN ⊢
      split at hN
      · omega
      · split at hN
        · omega
        · split at hN
          · rename_i h1 h2 h3
            exact ⟨h3.1, h3.2, h2, by rw [if_neg h1, if_neg h2, if_pos h3]⟩
          · omega
    obtain ⟨n1, n2, n3, n4⟩ := hN0
    rcases h.pl r A hA with hh | ⟨p0, p1, p2, p3, p4, p5⟩
    · exact absurd hh n1
    · have f0 : findM H.gs (plN A.pg A.us s) = none := by rw [n4]; rfl
      have g1 : arA H.gs A.pg A.us s = 16 * A.pg + A.us := by
        unfold arA
        rw [if_pos e4]
        unfold plA
        rw [if_neg n3, if_pos n4]
        omega
      have g2 : arS H.gs A.pg A.us s = H.gs := by
        unfold arS grS
        rw [if_pos e4, f0]
      have g3 : arM H.gs H.ms A.pg A.us s = H.ms := by
        unfold arM grM
        rw [if_pos e4, f0]
      have g4 : arAl H.gs A s = { A with pg := A.pg, us := A.us + s, ts := A.ts ++ [(16 * A.pg + A.us, s)] } := by
        unfold arAl arP arU arR arT
        rw [if_pos e4, if_pos e4, if_pos e4, if_neg (by omega), g1]
        unfold plP plU
        rw [if_neg n3, if_pos n4, if_neg n3, if_pos n4]
      obtain ⟨ms, hms⟩ : ∃ ms, puL H.ms (16 * A.pg + A.us) s a q t k = ms := ⟨_, rfl⟩
      have hp := put_room (ds := H.ds) (ms0 := H.ms) (at_ := 16 * A.pg + A.us) e3 e2 (by omega) (by rw [hs]; omega) h.ms ms (by rw [hs]; exact hms)
      rw [hs] at hp
      obtain ⟨q1, q2, q3, q4, q5, q6⟩ := hp
      have how : ∀ x : Nat, 16 * A.pg + A.us ≤ x → (x : Int) < 16 * A.pg + A.us + s → H.ow (x / 16) = r := by
        intro x x0 x1
        rw [show x / 16 = A.pg.toNat by omega]
        exact p4
      have hap : ∀ p ∈ A.ts, Apart2 p (16 * A.pg + A.us, s) := by
        intro p hp
        have := p5 p hp
        unfold Apart2
        simp only
        omega
      have hkl := knL_len e2
      have hroom : Room Pg H r A (16 * A.pg + A.us) s A.pg (A.us + s) ms := by
        refine ⟨hA, by omega, z2, by omega, how, hap, ?_, q1, q2, q3, q4, by rw [q5]; omega, q6, by omega⟩
        refine .inr ⟨p0, p1, by omega, by omega, p4, fun p hp => ?_⟩
        rcases List.mem_append.1 hp with hp | hp
        · have := p5 p hp; omega
        · simp at hp
          subst hp
          simp only
          omega
      have hno : hasM H.st (16 * A.pg + A.us + 1) = false := by
        cases hb : hasM H.st (16 * A.pg + A.us + 1)
        · rfl
        · obtain ⟨id, B, p, hB, hp, e⟩ := (h.s _).1 hb
          have := (hroom.far h hB hp).ne (by have := (h.t2 id B hB p hp).2.1; omega) (by simp; omega)
          simp at this
          omega
      refine .old A (16 * A.pg + A.us) A.pg (A.us + s) ms (by rw [hs]; exact hroom) q5 ?_ (by rw [hala, g1]) (by rw [hAo, hs]; exact g2)
      rw [hal, g1, hs]
      unfold alH2 alH1 plH
      rw [g2, g3, g4, hms, hspl _ _ rfl (by omega) (by omega) hno]
      simp only [hrs]
  · -- new pages
    obtain ⟨p, hf⟩ := s3.resolve_left hN
    obtain ⟨K, hK⟩ : ∃ K, plN A.pg A.us s = K := ⟨_, rfl⟩
    rw [hK] at hf hN
    obtain ⟨f1, f2, f3⟩ := h.free0 hf
    have hpage : arPage H.gs A.pg A.us s = p := by unfold arPage; rw [hK, hf]; rfl
    have hgr : Lay Pg (n + 1) (grH H r A p K) := h.grant hn hA hf
    have hgA : lk (grH H r A p K).ar r = some { A with rs := A.rs ++ [((p : Int), K)] } := by
      show lk (mput H.ar r _) r = _
      rw [lk_put h.ra, if_pos rfl]
    have hs1 : s ≤ 16 * K ∧ (16 < s ∨ K = 1) := by
      unfold plN at hK
      rw [if_neg (by omega)] at hK
      split at hK
      · omega
      · split at hK
        · omega
        · omega
    have hBg : hasB H.on p K = true := by unfold hasB; simp; omega
    have g1 : arA H.gs A.pg A.us s = 16 * p := by
      unfold arA
      rw [if_pos e4, hpage]
      unfold plA
      split
      · omega
      · rw [hK, if_neg (by omega)]
        omega
    have g2 : arS H.gs A.pg A.us s = markX H.gs p K true := by
      unfold arS grS
      rw [if_pos e4, hK, hf]
    have g3 : arM H.gs H.ms A.pg A.us s = fillL H.ms (16 * p) (16 * K) 0 := by
      unfold arM grM
      rw [if_pos e4, hK, hf]
    obtain ⟨pg, hpg2⟩ : ∃ x, plP A.pg A.us s p = x := ⟨_, rfl⟩
    obtain ⟨us, hus⟩ : ∃ x, plU A.pg A.us s = x := ⟨_, rfl⟩
    have g4 : arAl H.gs A s = { A with rs := A.rs ++ [((p : Int), K)], pg := pg, us := us, ts := A.ts ++ [(16 * (p : Int), s)] } := by
      unfold arAl arP arU arR arT
      rw [if_pos e4, if_pos e4, if_pos e4, if_pos ⟨e4, by omega⟩, g1, hpage, hK, hpg2, hus]
    have hpu : (16 < s ∧ pg = A.pg ∧ us = A.us) ∨ (¬ 16 < s ∧ K = 1 ∧ pg = p ∧ us = s) := by
      rw [← hpg2, ← hus]
      unfold plP plU
      by_cases e : 16 < s
      · rw [if_pos e, if_pos e]; exact .inl ⟨e, rfl, rfl⟩
      · rw [if_neg e, if_neg e, hK, if_neg (by omega), if_neg (by omega)]; exact .inr ⟨e, by omega, rfl, rfl⟩
    have g5 : owAll H.on H.ow (A.rs ++ [((p : Int), K)]) r = owSet H.ow p K.toNat r := by
      rw [owAll_snoc, hrs]
      unfold oW oE
      rw [if_pos (by rw [if_neg (by omega), if_pos hBg])]
      rfl
    obtain ⟨ms, hms⟩ : ∃ ms, puL (fillL H.ms (16 * p) (16 * K) 0) (16 * p) s a q t k = ms := ⟨_, rfl⟩
    have hp := put_room (ds := H.ds) (ms0 := fillL H.ms (16 * p) (16 * K) 0) (at_ := 16 * p) e3 e2 (by omega) (by rw [hs, fillL_length]; omega) hgr.ms ms (by rw [hs]; exact hms)
    rw [hs] at hp
    obtain ⟨q1, q2, q3, q4, q5, q6⟩ := hp
    have hkl := knL_len e2
    have how : ∀ x : Nat, 16 * (p : Int) ≤ x → (x : Int) < 16 * p + s → (grH H r A p K).ow (x / 16) = r := by
      intro x x0 x1
      show owSet H.ow p K.toNat r (x / 16) = r
      rw [owSet_at, if_pos (by omega)]
    have hfree : ∀ x ∈ A.ts, x.1 + x.2 ≤ 16 * p ∨ 16 * (p + K) ≤ x.1 := fun x hx => h.free_word hf hA hx
    have hap : ∀ x ∈ A.ts, Apart2 x (16 * (p : Int), s) := by
      intro x hx
      have := hfree x hx
      unfold Apart2
      simp only
      omega
    have hroom : Room Pg (grH H r A p K) r { A with rs := A.rs ++ [((p : Int), K)] } (16 * p) s pg us ms := by
      refine ⟨hgA, by omega, z2, by omega, how, hap, ?_, q1, q2, q3, q4, by show 1 + ((onK ms H.ds _).length : Int) ≤ s; rw [q5]; omega, q6, by omega⟩
      rcases hpu with ⟨c1, c2, c3⟩ | ⟨c1, c2, c3, c4⟩
      · rcases h.pl r A hA with hh | ⟨p0, p1, p2, p3, p4, p5⟩
        · exact .inl (by rw [c2, c3]; exact hh)
        · refine .inr ⟨by omega, by omega, by omega, by omega, ?_, fun x hx => ?_⟩
          · rw [c2]
            show owSet H.ow p K.toNat r A.pg.toNat = r
            rw [owSet_at]
            split
            · rfl
            · exact p4
          · rw [c2, c3]
            rcases List.mem_append.1 hx with hx | hx
            · exact p5 x hx
            · simp at hx
              subst hx
              simp only
              by_cases hin : (p : Int) ≤ A.pg ∧ A.pg < p + K
              · have := f3 A.pg.toNat (by omega) (by omega)
                omega
              · omega
      · refine .inr ⟨by omega, by omega, by omega, by omega, ?_, fun x hx => ?_⟩
        · rw [c3]
          show owSet H.ow p K.toNat r (p : Int).toNat = r
          rw [owSet_at, if_pos (by omega)]
        · rw [c3, c4]
          rcases List.mem_append.1 hx with hx | hx
          · have := hfree x hx; omega
          · simp at hx
            subst hx
            simp only
            omega
    have hno : hasM H.st (16 * (p : Int) + 1) = false := by
      cases hb : hasM H.st (16 * (p : Int) + 1)
      · rfl
      · obtain ⟨id, B, x, hB, hx, e⟩ := (h.s _).1 hb
        have := h.free_word hf hB hx
        have := (h.t2 id B hB x hx).2.1
        omega
    refine .new A p K (16 * p) pg us ms hA hf (by rw [hs]; exact hroom) q5 ?_ (by rw [hala, g1])
    rw [hal, g1, hs]
    unfold alH2 alH1 plH grH
    rw [g2, g3, g4, hms, hspl _ _ rfl (by omega) (by omega) hno]
    simp only [g5, mput_mput]
theorem Inv.al (h : Inv Pg n H) (hn : n + 2 ≤ 200) (r : Int) (a : Bool) (q t k : Int) : Inv Pg (n + 2) (alH H r a q t k) := by
  by_cases he : alE H r a q t k = 0
  · rcases h.y.al_way (by omega) he with ⟨A, at_, pg, us, ms, h1, h2, h3, h4⟩ | ⟨A, p, K, at_, pg, us, ms, h0, hf, h1, h2, h3, h4⟩
    · rw [h3]
      exact (h.place (by omega) h1).more (by omega) (by omega)
    · rw [h3]
      exact (h.grant (by omega) h0 hf).place (by omega) h1
  · unfold alH
    rw [if_neg he]
    exact h.more (by omega) (by omega)
end
end Go.Proofs.YtcenagpkfimkbaaGreatDoor
namespace Go.Proofs.YtcenagpkfimkbaaGreatDoor
open Go Go.RowKit

structure Tal (N c : Int) (m : IM Int) : Prop where
  r : Rising m
  k : ∀ p ∈ m, 1 ≤ p.1 ∧ p.1 ≤ N
  v : ∀ x, 0 ≤ at0 m x ∧ at0 m x ≤ c
theorem at0_nil (x : Int) : at0 [] x = 0 := rfl
theorem Tal.nil (N : Int) : Tal N 0 [] := ⟨List.Pairwise.nil, by simp, fun x => by rw [at0_nil]; omega⟩
theorem taL_mem {m : IM Int} {x n : Int} {p : Int × Int} (h : p ∈ taL m x n) : p ∈ m ∨ p.1 = x := by
  unfold taL at h
  split at h
  · exact tSet_mem h
  · exact .inl h
theorem Tal.len {N c : Int} {m : IM Int} (h : Tal N c m) {k : Nat} (hN : N ≤ k) : m.length ≤ k :=
  rising_cap h.r fun p hp => by have := h.k p hp; omega
section
variable {Pg n : Nat} {H : HM}
def outZ (H : HM) (id a x : Int) : Int := fz H (id, (onK H.ms H.ds a).getD x.toNat 0, (onV H.ms H.ds a).getD x.toNat 0)
theorem outStep_z (H : HM) (id a : Int) (m : IM Int) (x : Int) : outStep H id a m x = if outZ H id a x ≠ 0 then taL m (outZ H id a x) 1 else m := by
  unfold outStep outZ fz cz
  by_cases hc : cntB ((onK H.ms H.ds a).getD x.toNat 0) id (tgt H ((onV H.ms H.ds a).getD x.toNat 0)) = true
  · have h0 : tgt H ((onV H.ms H.ds a).getD x.toNat 0) ≠ 0 := by
      unfold cntB at hc
      simp only [decide_eq_true_eq] at hc
      exact hc.2.1
    simp only [hc, if_true]
    rw [if_pos h0]
  · simp only [hc]
    simp
theorem outStep_tal (h : Lay Pg n H) {id a : Int} {m : IM Int} {c : Int} (ht : Tal H.last c m) (hc : c < 2147483647) (x : Int) : Tal H.last (c + 1) (outStep H id a m x) ∧ ∀ i, 1 ≤ i → at0 (outStep H id a m x) i = at0 m i + one (decide (outZ H id a x = i)) := by
  rw [outStep_z]
  have hz : outZ H id a x = 0 ∨ (1 ≤ outZ H id a x ∧ outZ H id a x ≤ H.last) := h.cz_in _ _ _
  by_cases e : outZ H id a x = 0
  · rw [if_neg (by simpa using e)]
    refine ⟨⟨ht.r, ht.k, fun y => by have := ht.v y; omega⟩, fun i hi => ?_⟩
    rw [e]
    unfold one
    rw [if_neg (by simp; omega)]
    omega
  · rw [if_pos e]
    have hz := hz.resolve_left e
    have hv := ht.v (outZ H id a x)
    have hat := at0_taL ht.r (x := outZ H id a x) (n := 1) hz.1 (by omega) (by omega)
    refine ⟨⟨taL_rising ht.r _ _, fun p hp => ?_, fun y => ?_⟩, fun i hi => ?_⟩
    · rcases taL_mem hp with hp | hp
      · exact ht.k p hp
      · rw [hp]; exact hz
    · rw [hat y]
      have := ht.v y
      split <;> omega
    · rw [hat i]
      unfold one
      by_cases e2 : i = outZ H id a x
      · rw [if_pos e2, if_pos (by simp [e2])]
      · rw [if_neg e2, if_neg (by simp; omega)]
theorem outFold_tal (h : Lay Pg n H) (id a : Int) : ∀ (l : List Int) (m : IM Int) (c : Int), Tal H.last c m → c + l.length ≤ 2147483646 → Tal H.last (c + l.length) (l.foldl (outStep H id a) m) ∧ ∀ i, 1 ≤ i → at0 (l.foldl (outStep H id a) m) i = at0 m i + l.countP (fun x => decide (outZ H id a x = i))
  | [], m, c, ht, _ => ⟨by simpa using ht, fun i _ => by simp⟩
  | x :: r, m, c, ht, hc => by
    simp only [List.length_cons] at hc
    obtain ⟨s1, s2⟩ := outStep_tal h (id := id) (a := a) ht (by omega) x
    obtain ⟨i1, i2⟩ := outFold_tal h id a r _ _ s1 (by omega)
    refine ⟨?_, fun i hi => ?_⟩
    · have e : c + ((x :: r).length : Int) = c + 1 + r.length := by simp; omega
      rw [e]
      exact i1
    · rw [List.foldl_cons, i2 i hi, s2 i hi, List.countP_cons]
      unfold one
      by_cases e : outZ H id a x = i
      · simp [e]; omega
      · simp [e]
theorem ptrIdx_count (H : HM) (id a i : Int) (hi : 1 ≤ i) : (ptrIdx (onK H.ms H.ds a) (onK H.ms H.ds a).length).countP (fun x => decide (outZ H id a x = i)) = (flds H.ms H.ds a id).countP (fun f => decide (fz H f = i)) := by
  unfold ptrIdx flds
  rw [List.countP_map, List.countP_filter, List.countP_map]
  refine List.countP_congr fun j hj => ?_
  simp only [Function.comp, Bool.and_eq_true, decide_eq_true_eq]
  have e : outZ H id a (j : Int) = fz H (id, (onK H.ms H.ds a)[j]?.getD 0, (onV H.ms H.ds a)[j]?.getD 0) := by
    unfold outZ
    simp only [List.getD_eq_getElem?_getD, Int.toNat_natCast]
  rw [e]
  constructor
  · exact fun h => h.1
  · refine fun h => ⟨h, ?_⟩
    unfold isPtr
    by_cases hk : (onK H.ms H.ds a)[j]?.getD 0 = 1
    · rw [List.getD_eq_getElem?_getD, hk]; rfl
    · exfalso
      unfold fz cz cntB at h
      simp only [hk, false_and, decide_false, Bool.false_eq_true, if_false] at h
      omega
theorem outObj_tal (h : Lay Pg n H) (id a : Int) {m : IM Int} {c : Int} (ht : Tal H.last c m) (hc : c + 4000 ≤ 2147483646) : Tal H.last (c + 4000) (outObj H id a m) ∧ ∀ i, 1 ≤ i → at0 (outObj H id a m) i = at0 m i + (flds H.ms H.ds a id).countP (fun f => decide (fz H f = i)) := by
  have hl := ptrIdx_length (onK H.ms H.ds a) (onK H.ms H.ds a).length
  have hk := onK_len h.dd H.ms a
  obtain ⟨i1, i2⟩ := outFold_tal h id a (ptrIdx (onK H.ms H.ds a) (onK H.ms H.ds a).length) m c ht (by omega)
  refine ⟨⟨i1.r, i1.k, fun x => by have := i1.v x; unfold outObj; omega⟩, fun i hi => ?_⟩
  unfold outObj
  rw [i2 i hi, ptrIdx_count H id a i hi]
theorem outAll_tal (h : Lay Pg n H) (id : Int) : ∀ (ts : List (Int × Int)) (m : IM Int) (c : Int), Tal H.last c m → c + 4000 * ts.length ≤ 2147483646 → Tal H.last (c + 4000 * ts.length) (ts.foldl (fun m p => outObj H id (p.1 + 1) m) m) ∧ ∀ i, 1 ≤ i → at0 (ts.foldl (fun m p => outObj H id (p.1 + 1) m) m) i = at0 m i + (ts.flatMap fun p => flds H.ms H.ds (p.1 + 1) id).countP (fun f => decide (fz H f = i))
  | [], m, c, ht, _ => ⟨by simpa using ht, fun i _ => by simp⟩
  | p :: r, m, c, ht, hc => by
    simp only [List.length_cons] at hc
    obtain ⟨s1, s2⟩ := outObj_tal h id (p.1 + 1) ht (by omega)
    obtain ⟨i1, i2⟩ := outAll_tal h id r _ _ s1 (by omega)
    refine ⟨?_, fun i hi => ?_⟩
    · have e : c + 4000 * ((p :: r).length : Int) = c + 4000 + 4000 * r.length := by simp; omega
      rw [e]
      exact i1
    · rw [List.foldl_cons, i2 i hi, s2 i hi, List.flatMap_cons, List.countP_append]
      omega
theorem outAll_ok (h : Lay Pg n H) (id : Int) {ts : List (Int × Int)} (hl : ts.length ≤ 200) : Tal H.last 800000 (outAll H id ts) ∧ (∀ i, 1 ≤ i → at0 (outAll H id ts) i = (ts.flatMap fun p => flds H.ms H.ds (p.1 + 1) id).countP (fun f => decide (fz H f = i))) ∧ OutOk H id ts := by
  have hall : ∀ ts : List (Int × Int), ts.length ≤ 200 → Tal H.last 800000 (outAll H id ts) ∧ ∀ i, 1 ≤ i → at0 (outAll H id ts) i = (ts.flatMap fun p => flds H.ms H.ds (p.1 + 1) id).countP (fun f => decide (fz H f = i)) := by
    intro ts hl
    obtain ⟨i1, i2⟩ := outAll_tal h id ts [] 0 (Tal.nil _) (by omega)
    refine ⟨⟨i1.r, i1.k, fun x => ?_⟩, fun i hi => ?_⟩
    · have := i1.v x
      show 0 ≤ at0 (ts.foldl (fun m p => outObj H id (p.1 + 1) m) []) x ∧ at0 (ts.foldl (fun m p => outObj H id (p.1 + 1) m) []) x ≤ _
      omega
    · have := i2 i hi
      rw [at0_nil] at this
      show at0 (ts.foldl (fun m p => outObj H id (p.1 + 1) m) []) i = _
      omega
  refine ⟨(hall ts hl).1, (hall ts hl).2, ?_⟩
  rintro j p i hj m rfl
  have hk := onK_len h.dd H.ms (p.1 + 1)
  have hpl := ptrIdx_length (onK H.ms H.ds (p.1 + 1)) (onK H.ms H.ds (p.1 + 1)).length
  have hlt : ((ptrIdx (onK H.ms H.ds (p.1 + 1)) (onK H.ms H.ds (p.1 + 1)).length).take i).length ≤ 4000 := Nat.le_trans (List.length_take_le' _ _) (by omega)
  obtain ⟨i1, _⟩ := outFold_tal h id (p.1 + 1) ((ptrIdx (onK H.ms H.ds (p.1 + 1)) (onK H.ms H.ds (p.1 + 1)).length).take i) _ _ (hall (ts.take j) (Nat.le_trans (List.length_take_le' _ _) hl)).1 (by omega)
  have h1 := h.ln
  have h2 := h.nn
  refine ⟨fun x => by have := i1.v x; omega, ?_⟩
  have := i1.len (k := 200) (by omega)
  omega
end
theorem at0_cons {p : Int × Int} {r : IM Int} (x : Int) : at0 (p :: r) x = if x = p.1 then p.2 else at0 r x := by
  unfold at0 lk
  rw [List.find?_cons]
  by_cases e : p.1 = x
  · simp [e]
  · simp [e, Ne.symm e]
theorem at0_low {m : IM Int} (h : Rising m) {x : Int} (hx : ∀ p ∈ m, x < p.1) : at0 m x = 0 := by
  have : lk m x = none := (lk_none h).2 fun v hv => by have := hx _ hv; simp at this
  unfold at0
  rw [this]
  rfl
theorem cntAll_ok {N c : Int} (hc : c ≤ 2147483647) : ∀ (l m : IM Int), Rising l → Tal N c m → (∀ p ∈ l, 1 ≤ p.1 ∧ p.1 ≤ N ∧ 0 ≤ p.2 ∧ p.2 ≤ at0 m p.1) → Tal N c (cntAll m l) ∧ ∀ i, at0 (cntAll m l) i = at0 m i - at0 l i
  | [], m, _, ht, _ => ⟨ht, fun i => by rw [at0_nil]; show at0 m i = _; omega⟩
  | p :: r, m, hr, ht, hp => by
    obtain ⟨r1, r2⟩ := List.pairwise_cons.1 hr
    obtain ⟨p1, p2, p3, p4⟩ := hp p (by simp)
    have hv := ht.v p.1
    have hat := at0_taL ht.r (x := p.1) (n := -p.2) p1 (by omega) (by omega)
    have ht2 : Tal N c (taL m p.1 (-p.2)) := ⟨taL_rising ht.r _ _, fun q hq => by
      rcases taL_mem hq with hq | hq
      · exact ht.k q hq
      · rw [hq]; exact ⟨p1, p2⟩, fun y => by
      rw [hat y]
      have := ht.v y
      split
      · rename_i e; subst e; omega
      · omega⟩
    obtain ⟨i1, i2⟩ := cntAll_ok hc r _ r2 ht2 (fun q hq => by
      obtain ⟨q1, q2, q3, q4⟩ := hp q (by simp [hq])
      have := r1 q hq
      rw [hat, if_neg (by omega)]
      exact ⟨q1, q2, q3, by omega⟩)
    refine ⟨i1, fun i => ?_⟩
    show at0 (cntAll (taL m p.1 (-p.2)) r) i = _
    rw [i2 i, hat i, at0_cons]
    by_cases e : i = p.1
    · rw [if_pos e, if_pos e, e, at0_low r2 (fun q hq => r1 q hq)]
      omega
    · rw [if_neg e, if_neg e]
      omega
end Go.Proofs.YtcenagpkfimkbaaGreatDoor
namespace Go.Proofs.YtcenagpkfimkbaaGreatDoor
open Go Go.RowKit

def InRuns (rs : List (Int × Int)) (q : Int) : Prop := ∃ p ∈ rs, p.1 ≤ q ∧ q < p.1 + p.2
theorem inRuns_cons {p : Int × Int} {rs : List (Int × Int)} {q : Int} : InRuns (p :: rs) q ↔ (p.1 ≤ q ∧ q < p.1 + p.2) ∨ InRuns rs q := by
  unfold InRuns
  simp
theorem relAll_len (rs : List (Int × Int)) : ∀ gs : List Bool, (relAll gs rs).length = gs.length := by
  induction rs with
  | nil => exact fun _ => rfl
  | cons p r ih => intro gs; show (relAll (markX gs p.1 p.2 false) r).length = _; rw [ih, markX_len]
theorem relAll_at : ∀ (rs : List (Int × Int)) (gs : List Bool), (∀ p ∈ rs, 0 ≤ p.1 ∧ 1 ≤ p.2 ∧ p.1 + p.2 ≤ gs.length) → ∀ q : Nat, q < gs.length → ((relAll gs rs).getD q false = true ↔ gs.getD q false = true ∧ ¬ InRuns rs q)
  | [], gs, _, q, _ => by
    show gs.getD q false = true ↔ _
    simp [InRuns]
  | p :: r, gs, h, q, hq => by
    have hp := h p (by simp)
    have hB : hasB gs.length p.1 p.2 = true := by unfold hasB; simp; omega
    show (relAll (markX gs p.1 p.2 false) r).getD q false = true ↔ _
    rw [relAll_at r _ (fun x hx => by rw [markX_len]; exact h x (by simp [hx])) q (by rw [markX_len]; exact hq), markX_at _ _ hB q hq, inRuns_cons]
    by_cases e : p.1 ≤ q ∧ (q : Int) < p.1 + p.2
    · rw [if_pos e]; simp [e]
    · rw [if_neg e]; simp [e]
theorem owAll_at {n : Nat} {o : Int} (ho : 0 ≤ o) : ∀ (rs : List (Int × Int)) (ow : Nat → Int), (∀ p ∈ rs, 0 ≤ p.1 ∧ 1 ≤ p.2 ∧ p.1 + p.2 ≤ n) → ∀ q : Nat, (InRuns rs q → owAll n ow rs o q = o) ∧ (¬ InRuns rs q → owAll n ow rs o q = ow q)
  | [], ow, _, q => ⟨fun h => by simp [InRuns] at h, fun _ => rfl⟩
  | p :: r, ow, h, q => by
    have hp := h p (by simp)
    have hB : hasB n p.1 p.2 = true := by unfold hasB; simp; omega
    have e : oW n ow p.1 p.2 o = owSet ow p.1.toNat p.2.toNat o := by
      unfold oW oE
      rw [if_pos (by rw [if_neg (by omega), if_pos hB])]
    obtain ⟨i1, i2⟩ := owAll_at ho r (oW n ow p.1 p.2 o) (fun x hx => h x (by simp [hx])) q
    show (InRuns (p :: r) q → owAll n (oW n ow p.1 p.2 o) r o q = o) ∧ (¬ InRuns (p :: r) q → owAll n (oW n ow p.1 p.2 o) r o q = ow q)
    rw [inRuns_cons]
    refine ⟨fun hh => ?_, fun hh => ?_⟩
    · by_cases hr : InRuns r q
      · exact i1 hr
      · rw [i2 hr, e, owSet_at, if_pos]
        have := hh.resolve_right hr
        omega
    · rw [i2 (fun hr => hh (.inr hr)), e, owSet_at, if_neg]
      intro h2
      exact hh (.inl (by omega))
theorem drpAll_len (rs : List (Int × Int)) : ∀ st : List Bool, (drpAll st rs).length = st.length := by
  induction rs with
  | nil => exact fun _ => rfl
  | cons p r ih => intro st; show (drpAll (drpL st _ _) r).length = _; rw [ih]; exact clrP_length _ _
theorem drpAll_has : ∀ (rs : List (Int × Int)) (st : List Bool) (v : Int), hasM (drpAll st rs) v = true ↔ hasM st v = true ∧ ∀ p ∈ rs, ¬ (p.1 * 16 + 1 ≤ v ∧ v < (p.1 + p.2) * 16)
  | [], st, v => by
    show hasM st v = true ↔ _
    simp
  | p :: r, st, v => by
    show hasM (drpAll (drpL st (p.1 * 16 + 1) (p.2 * 16 - 1)) r) v = true ↔ _
    rw [drpAll_has r _ v, drpL_has]
    simp only [Bool.and_eq_true, Bool.not_eq_true', decide_eq_false_iff_not, List.mem_cons, forall_eq_or_imp]
    rw [show p.1 * 16 + 1 + (p.2 * 16 - 1) = (p.1 + p.2) * 16 by omega]
    exact and_assoc
theorem InRuns.take {rs : List (Int × Int)} {k : Nat} {q : Int} (h : InRuns (rs.take k) q) : InRuns rs q := by
  obtain ⟨p, hp, h⟩ := h
  exact ⟨p, List.mem_of_mem_take hp, h⟩
section
variable {Pg n : Nat} {H : HM}
theorem Lay.runs_ok (h : Lay Pg n H) {r : Int} {A : AR} (hA : lk H.ar r = some A) : ∀ p ∈ A.rs, 0 ≤ p.1 ∧ 1 ≤ p.2 ∧ p.1 + p.2 ≤ Pg := fun p hp => by
  obtain ⟨a, b, c, _⟩ := h.r1 r A hA p hp
  exact ⟨a, b, c⟩
theorem Lay.in_runs (h : Lay Pg n H) {r : Int} {A : AR} (hA : lk H.ar r = some A) (q : Nat) (hq : q < Pg) : InRuns A.rs q ↔ H.ow q = r := by
  have hid := h.idl hA
  constructor
  · rintro ⟨p, hp, h1, h2⟩
    exact (h.r1 r A hA p hp).2.2.2 q h1 h2
  · intro e
    obtain ⟨B, hB, x, hx, h1, h2⟩ := h.r2 q hq (by omega)
    rw [e, hA] at hB
    cases hB
    exact ⟨x, hx, h1, h2⟩
theorem Lay.rel_ok (h : Lay Pg n H) {r : Int} {A : AR} (hA : lk H.ar r = some A) : RelOk H.gs A.rs := by
  intro k p hk
  have hp := List.mem_of_getElem? hk
  obtain ⟨a, b, c, d⟩ := h.r1 r A hA p hp
  have hid := h.idl hA
  refine ⟨b, ?_⟩
  unfold wholeM
  simp only [Bool.and_eq_true, decide_eq_true_eq]
  have hgl := h.gl
  refine ⟨by rw [relAll_len]; unfold hasB; simp; omega, fun i hi => ?_⟩
  rw [relAll_at _ _ (fun x hx => by rw [hgl]; exact h.runs_ok hA x (List.mem_of_mem_take hx)) _ (by omega)]
  refine ⟨(h.g _ (by omega)).2 (by rw [d _ (by omega) (by omega)]; omega), ?_⟩
  rintro ⟨x, hx, h1, h2⟩
  obtain ⟨j, hj, hjx⟩ := List.mem_take_iff_getElem.1 hx
  have hkl : k < A.rs.length := by
    rcases Nat.lt_or_ge k A.rs.length with e | e
    · exact e
    · rw [List.getElem?_eq_none e] at hk; cases hk
  have hpw := List.pairwise_iff_getElem.1 (h.r3 r A hA) j k (by omega) hkl (by omega)
  rw [List.getElem?_eq_getElem hkl] at hk
  obtain rfl := Option.some.inj hk
  rw [hjx] at hpw
  unfold Apart2 at hpw
  omega
end
end Go.Proofs.YtcenagpkfimkbaaGreatDoor
namespace Go.Proofs.YtcenagpkfimkbaaGreatDoor
open Go Go.RowKit

section
variable {Pg n : Nat} {H : HM} {r : Int} {A : AR}
theorem Lay.ow_del (h : Lay Pg n H) (hA : lk H.ar r = some A) (q : Nat) : (dlH H r A).ow q = if q < Pg ∧ H.ow q = r then 0 else H.ow q := by
  show owAll H.on H.ow A.rs 0 q = _
  obtain ⟨i1, i2⟩ := owAll_at (n := H.on) (o := 0) (by omega) A.rs H.ow (fun p hp => by rw [h.on]; exact h.runs_ok hA p hp) q
  by_cases hq : q < Pg
  · have hin := h.in_runs hA q hq
    by_cases e : H.ow q = r
    · rw [if_pos ⟨hq, e⟩]; exact i1 (hin.2 e)
    · rw [if_neg (fun x => e x.2)]; exact i2 (fun x => e (hin.1 x))
  · rw [if_neg (fun x => hq x.1)]
    refine i2 ?_
    rintro ⟨p, hp, a, b⟩
    have := h.runs_ok hA p hp
    omega
theorem lk_mdel_some {α : Type} {m : IM α} (hr : Rising m) {k j : Int} {v : α} (h : lk (mdel m k) j = some v) : j ≠ k ∧ lk m j = some v := by
  rw [lk_del hr] at h
  split at h
  · cases h
  · rename_i e; exact ⟨e, h⟩
theorem lk_mdel_of {α : Type} {m : IM α} (hr : Rising m) {k j : Int} {v : α} (h : lk m j = some v) (e : j ≠ k) : lk (mdel m k) j = some v := by
  rw [lk_del hr, if_neg e]
  exact h
theorem lk_mdel_is {α : Type} {m : IM α} (hr : Rising m) {k j : Int} : (lk (mdel m k) j).isSome = true ↔ j ≠ k ∧ (lk m j).isSome = true := by
  rw [lk_del hr]
  split
  · rename_i e; simp [e]
  · rename_i e; simp [e]
theorem kids_none {m : IM Int} (hr : Rising m) {r : Int} (hk : kidsL m r = []) {x p : Int} (h : lk m x = some p) : p ≠ r := by
  rintro rfl
  have : x ∈ kidsL m p := by
    unfold kidsL
    exact List.mem_map.2 ⟨(x, p), List.mem_filter.2 ⟨(lk_some hr).1 h, by simp⟩, rfl⟩
  rw [hk] at this
  cases this
theorem Lay.del (h : Lay Pg n H) (hA : lk H.ar r = some A) (hk : kidsL H.par r = []) : Lay Pg n (dlH H r A) := by
  have hid := h.idl hA
  have how := h.ow_del hA
  have hkeep : ∀ q : Nat, H.ow q ≠ r → (dlH H r A).ow q = H.ow q := fun q hq => by rw [how, if_neg (fun x => hq x.2)]
  have kA : ∀ {id A'}, lk (mdel H.ar r) id = some A' → id ≠ r ∧ lk H.ar id = some A' := fun h' => lk_mdel_some h.ra h'
  have hL : ∀ {id}, LiveR (dlH H r A) id ↔ id ≠ r ∧ LiveR H id := lk_mdel_is h.rl
  refine ⟨h.on, h.pg, (relAll_len _ _).trans h.gl, h.ml, (drpAll_len _ _).trans h.sl, h.ms, h.l0, h.ln, h.nn, h.rl.del r, h.ra.del r, h.rp.del r, ?_, ?_, ?_, ?_, ?_, ?_, ?_, ?_, ?_, ?_, ?_, ?_, ?_, ?_, ?_, h.ds, h.dl, h.dk, ?_⟩
  · intro id hi
    exact h.lv id (hL.1 hi).2
  · intro id
    rw [hL]
    show (lk (mdel H.ar r) id).isSome = true ↔ _
    rw [lk_mdel_is h.ra, h.ar]
  · intro id
    rw [hL]
    show (lk (mdel H.par r) id).isSome = true ↔ _
    rw [lk_mdel_is h.rp, h.par]
  · intro id p hp
    obtain ⟨e1, e2⟩ := lk_mdel_some h.rp hp
    obtain ⟨u1, u2, u3⟩ := h.up id p e2
    exact ⟨u1, u2, u3.imp_right fun e => hL.2 ⟨kids_none h.rp hk e2, e⟩⟩
  · intro id A' hA'
    exact h.sz id A' (kA hA').2
  · intro id A' hA' x hx
    obtain ⟨e1, e2⟩ := kA hA'
    obtain ⟨a, b, c, d⟩ := h.r1 id A' e2 x hx
    exact ⟨a, b, c, fun q q0 q1 => by rw [hkeep q (by rw [d q q0 q1]; exact e1)]; exact d q q0 q1⟩
  · intro q hq h0
    have hne : H.ow q ≠ r := by
      intro e
      rw [how, if_pos ⟨hq, e⟩] at h0
      exact h0 rfl
    rw [hkeep q hne] at h0 ⊢
    obtain ⟨B, hB, x⟩ := h.r2 q hq h0
    exact ⟨B, lk_mdel_of h.ra hB hne, x⟩
  · intro id A' hA'
    exact h.r3 id A' (kA hA').2
  · intro q hq
    show (relAll H.gs A.rs).getD q false = true ↔ _
    rw [relAll_at _ _ (fun x hx => by rw [h.gl]; exact h.runs_ok hA x hx) q (by rw [h.gl]; exact hq), h.in_runs hA q hq, h.g q hq, how]
    by_cases e : H.ow q = r
    · rw [if_pos ⟨hq, e⟩]; simp [e]
    · rw [if_neg (fun x => e x.2)]; simp [e]
  · intro q
    show 0 ≤ (dlH H r A).ow q ∧ (dlH H r A).ow q ≤ H.last
    rw [how]
    have := h.ob q
    have := h.l0
    split <;> omega
  · intro id A' hA'
    exact h.t1 id A' (kA hA').2
  · intro id A' hA' p hp
    obtain ⟨e1, e2⟩ := kA hA'
    obtain ⟨a, b, c, d⟩ := h.t2 id A' e2 p hp
    exact ⟨a, b, c, fun x x0 x1 => by rw [hkeep _ (by rw [d x x0 x1]; exact e1)]; exact d x x0 x1⟩
  · intro id A' hA'
    obtain ⟨e1, e2⟩ := kA hA'
    rcases h.pl id A' e2 with e | ⟨a, b, c, d, e, f⟩
    · exact .inl e
    · exact .inr ⟨a, b, c, d, by rw [hkeep _ (by rw [e]; exact e1)]; exact e, f⟩
  · intro x
    show hasM (drpAll H.st A.rs) x = true ↔ ∃ id B p, lk (mdel H.ar r) id = some B ∧ p ∈ B.ts ∧ x = p.1 + 1
    rw [drpAll_has, h.s]
    constructor
    · rintro ⟨⟨id, B, p, hB, hp, rfl⟩, hn⟩
      refine ⟨id, B, p, lk_mdel_of h.ra hB ?_, hp, rfl⟩
      rintro rfl
      rw [hA] at hB
      cases hB
      obtain ⟨a, b, c, d⟩ := h.t2 id A hA p hp
      have e := h.t3 id A hA p hp
      have e2 := d p.1.toNat (by omega) (by omega)
      obtain ⟨y, hy, y0, y1⟩ := (h.in_runs hA (p.1.toNat / 16) (by omega)).2 e2
      exact hn y hy (by omega)
    · rintro ⟨id, B, p, hB, hp, rfl⟩
      obtain ⟨e1, e2⟩ := kA hB
      refine ⟨⟨id, B, p, e2, hp, rfl⟩, fun y hy hh => ?_⟩
      obtain ⟨a, b, c, d⟩ := h.t2 id B e2 p hp
      have e3 := d p.1.toNat (by omega) (by omega)
      have e4 := (h.r1 r A hA y hy).2.2.2 (p.1.toNat / 16) (by omega) (by omega)
      exact e1 (e3.symm.trans e4)
  · intro id A' hA' p hp
    exact h.h id A' (kA hA').2 p hp
  · intro id A' hA'
    exact h.t3 id A' (kA hA').2
end
end Go.Proofs.YtcenagpkfimkbaaGreatDoor
namespace Go.Proofs.YtcenagpkfimkbaaGreatDoor
open Go Go.RowKit

section
variable {Pg n : Nat} {H : HM} {r : Int} {A : AR}
theorem keys_del {α : Type} {m : IM α} {k1 k2 : List Int} (e : keysL m = k1 ++ r :: k2) (h1 : ∀ x ∈ k1, x ≠ r) (h2 : ∀ x ∈ k2, x ≠ r) : keysL (mdel m r) = k1 ++ k2 := by
  have : keysL (mdel m r) = (keysL m).filter (fun x => decide (x ≠ r)) := by
    unfold keysL mdel
    rw [List.filter_map]
    rfl
  rw [this, e, List.filter_append, List.filter_cons_of_neg (by simp), List.filter_eq_self.2 (fun x hx => by simpa using h1 x hx), List.filter_eq_self.2 (fun x hx => by simpa using h2 x hx)]
theorem Lay.objs_del (h : Lay Pg n H) (hA : lk H.ar r = some A) : ∃ l1 l2, objsL H = l1 ++ (A.ts.map (fun p => (p.1 + 1, r)) ++ l2) ∧ objsL (dlH H r A) = l1 ++ l2 ∧ (∀ p ∈ l1, p.2 ≠ r) ∧ ∀ p ∈ l2, p.2 ≠ r := by
  obtain ⟨k1, k2, e, h1, h2⟩ := h.keys_split hA
  have hr0 : thsOf H r = A.ts.map (fun p => (p.1 + 1, r)) := by unfold thsOf; rw [hA]
  have hth : ∀ id, id ≠ r → thsOf (dlH H r A) id = thsOf H id := by
    intro id hid
    unfold thsOf
    rw [show lk (dlH H r A).ar id = if id = r then none else lk H.ar id from lk_del h.ra r id, if_neg hid]
  have hof : ∀ l : List Int, (∀ x ∈ l, x ≠ r) → ∀ p ∈ l.flatMap (thsOf H), p.2 ≠ r := by
    intro l hl p hp
    obtain ⟨id, hid, hp⟩ := List.mem_flatMap.1 hp
    unfold thsOf at hp
    cases e : lk H.ar id with
    | none => rw [e] at hp; cases hp
    | some B =>
      rw [e] at hp
      obtain ⟨q, _, rfl⟩ := List.mem_map.1 hp
      exact hl id hid
  refine ⟨k1.flatMap (thsOf H), k2.flatMap (thsOf H), ?_, ?_, hof k1 h1, hof k2 h2⟩
  · unfold objsL
    rw [e, List.flatMap_append, List.flatMap_cons, hr0]
  · show (keysL (mdel H.live r)).flatMap (thsOf (dlH H r A)) = _
    rw [keys_del e h1 h2, List.flatMap_append, flatMap_congr_ (fun x hx => hth x (h1 x hx)), flatMap_congr_ (fun x hx => hth x (h2 x hx))]
theorem Lay.up_no (h : Lay Pg n H) (hk : kidsL H.par r = []) (hr : r ≠ 0) (P' : IM Int) (hP : ∀ x, x ≠ r → at0 P' x = at0 H.par x) : ∀ (f : Nat) (x to : Int), (x = 0 ∨ (LiveR H x ∧ x ≠ r)) → upW P' to f x = upW H.par to f x ∧ (x.toNat ≤ f → upW H.par r f x = 0)
  | 0, x, to, hx => ⟨rfl, fun hf => by
    rcases hx with e | ⟨e, _⟩
    · exact e
    · have := h.lv x e; omega⟩
  | f + 1, x, to, hx => by
    rcases hx with e | ⟨e, e2⟩
    · subst e
      rw [upW_zero, upW_zero, upW_zero]
      exact ⟨rfl, fun _ => rfl⟩
    · have hl := h.lv x e
      obtain ⟨p, hp⟩ := Option.isSome_iff_exists.1 ((h.par x).2 e)
      have hne := kids_none h.rp hk hp
      obtain ⟨u1, u2, u3⟩ := h.up x p hp
      have hat : at0 H.par x = p := by unfold at0; rw [hp]; rfl
      obtain ⟨i1, i2⟩ := Lay.up_no h hk hr P' hP f p to (u3.imp_right fun u => ⟨u, hne⟩)
      refine ⟨?_, fun hf => ?_⟩
      · unfold upW
        split
        · rfl
        · rw [hP x e2, hat]; exact i1
      · unfold upW
        rw [if_neg (by omega), hat]
        exact i2 (by omega)
theorem Lay.up_del (h : Lay Pg n H) (hk : kidsL H.par r = []) (hr : r ≠ 0) {x : Int} (hx : LiveR H x ∧ x ≠ r) (to : Int) : upV (mdel H.par r) to x = upV H.par to x ∧ upV H.par r x = 0 := by
  have hP : ∀ y, y ≠ r → at0 (mdel H.par r) y = at0 H.par y := fun y hy => by
    unfold at0
    rw [lk_del h.rp, if_neg hy]
  obtain ⟨i1, i2⟩ := h.up_no hk hr _ hP x.toNat x to (.inr hx)
  exact ⟨i1, i2 (Nat.le_refl _)⟩
theorem delE_zero (h : Inv Pg n H) (he : delE H r = 0) : livesB H r = true ∧ kidsL H.par r = [] ∧ at0 H.cnt r = 0 := by
  unfold delE at he
  split at he
  · cases he
  · rename_i h1
    split at he
    · cases he
    · rename_i h2
      split at he
      · cases he
      · rename_i h3
        have := (h.cnt_le r).1
        exact ⟨by simpa using h1, by simpa using h2, by omega⟩
theorem Lay.tgt_del (h : Lay Pg n H) (hA : lk H.ar r = some A) (hk : kidsL H.par r = []) {v : Int} (hv : v = 0 ∨ (hasM H.st v = true ∧ tgt H v ≠ r)) : tgt (dlH H r A) v = tgt H v ∧ (hasM (dlH H r A).st v = true ↔ hasM H.st v = true) := by
  have hd := h.del hA hk
  rcases hv with rfl | ⟨hv, hne⟩
  · rw [h.tgt_no h.zero, hd.tgt_no hd.zero, h.zero, hd.zero]
    exact ⟨rfl, Iff.rfl⟩
  · obtain ⟨id, B, p, hB, hp, e, e1, e2, e3⟩ := h.start hv
    have hid : id ≠ r := by rw [← e1]; exact hne
    have hB' : lk (dlH H r A).ar id = some B := lk_mdel_of h.ra hB hid
    have hs : hasM (dlH H r A).st v = true := (hd.s v).2 ⟨id, B, p, hB', hp, e⟩
    refine ⟨?_, by rw [hs, hv]⟩
    rw [e1, tgt, if_pos hs, e]
    exact hd.owner hB' hp
theorem Lay.field_kind (h : Lay Pg n H) {f : Int × Int × Int} (hf : f ∈ fieldsL H) : 0 ≤ f.2.1 ∧ f.2.1 < 4 := by
  unfold fieldsL at hf
  obtain ⟨p, _, hf⟩ := List.mem_flatMap.1 hf
  unfold flds at hf
  obtain ⟨i, hi, rfl⟩ := List.mem_map.1 hf
  have hi := List.mem_range.1 hi
  show 0 ≤ (onK H.ms H.ds p.1)[i]?.getD 0 ∧ _
  rw [List.getElem?_eq_getElem hi]
  exact h.kinds (List.getElem_mem hi)
theorem Inv.dl (h : Inv Pg n H) (he : delE H r = 0) (hA : lk H.ar r = some A) : Inv Pg n (dlH H r A) := by
  obtain ⟨d1, d2, d3⟩ := delE_zero h he
  have hid := h.y.idl hA
  have hd := h.y.del hA d2
  obtain ⟨l1, l2, e1, e2, n1, n2⟩ := h.y.objs_del hA
  have hF0 : fieldsL H = l1.flatMap (fun p => flds H.ms H.ds p.1 p.2) ++ (A.ts.flatMap (fun p => flds H.ms H.ds (p.1 + 1) r) ++ l2.flatMap (fun p => flds H.ms H.ds p.1 p.2)) := by
    unfold fieldsL
    rw [e1, List.flatMap_append, List.flatMap_append, List.flatMap_map]
  have hF : fieldsL (dlH H r A) = l1.flatMap (fun p => flds H.ms H.ds p.1 p.2) ++ l2.flatMap (fun p => flds H.ms H.ds p.1 p.2) := by
    show (objsL (dlH H r A)).flatMap (fun p => flds H.ms H.ds p.1 p.2) = _
    rw [e2, List.flatMap_append]
  have hR : rootsL (dlH H r A) = rootsL H := rfl
  have hc := h.ct r hid.2.1
  rw [d3] at hc
  unfold cntOf at hc
  have hc1 : ∀ f ∈ fieldsL H, fz H f ≠ r := by
    have : (fieldsL H).countP (fun f => decide (fz H f = r)) = 0 := by omega
    intro f hf e
    have := List.countP_eq_zero.1 this f hf
    simp [e] at this
  have hc2 : ∀ v ∈ rootsL H, rz H v ≠ r := by
    have : (rootsL H).countP (fun v => decide (rz H v = r)) = 0 := by omega
    intro f hf e
    have := List.countP_eq_zero.1 this f hf
    simp [e] at this
  have hmem1 : ∀ f, (f ∈ l1.flatMap (fun p => flds H.ms H.ds p.1 p.2) ∨ f ∈ l2.flatMap (fun p => flds H.ms H.ds p.1 p.2)) → f ∈ fieldsL H ∧ f.1 ≠ r := by
    intro f hf
    refine ⟨by rw [hF0]; simp only [List.mem_append]; rcases hf with a | a; exact .inl a; exact .inr (.inr a), ?_⟩
    have : ∀ l : List (Int × Int), (∀ p ∈ l, p.2 ≠ r) → f ∈ l.flatMap (fun p => flds H.ms H.ds p.1 p.2) → f.1 ≠ r := by
      intro l hl hf
      obtain ⟨p, hp, hf⟩ := List.mem_flatMap.1 hf
      unfold flds at hf
      obtain ⟨i, _, rfl⟩ := List.mem_map.1 hf
      exact hl p hp
    rcases hf with a | a
    · exact this l1 n1 a
    · exact this l2 n2 a
  have hpt : ∀ f ∈ fieldsL H, f.1 ≠ r → f.2.1 = 0 ∨ f.2.2 = 0 ∨ (hasM H.st f.2.2 = true ∧ tgt H f.2.2 ≠ r) := by
    intro f hf hne
    have hk := h.y.field_kind hf
    have hz := hc1 f hf
    rcases h.fp f hf with e | e | ⟨e, e5, e6⟩
    · exact .inl e
    · exact .inr (.inl e)
    · by_cases hk0 : f.2.1 = 0
      · exact .inl hk0
      · refine .inr (.inr ⟨e, fun et => ?_⟩)
        rcases (show f.2.1 = 1 ∨ f.2.1 = 2 ∨ f.2.1 = 3 by omega) with k | k | k
        · apply hz
          unfold fz cz cntB
          rw [if_pos (by simp only [decide_eq_true_eq]; exact ⟨k, by omega, by omega⟩)]
          exact et
        · have := e5 k; omega
        · have h6 := e6 k
          rw [et] at h6
          exact h6 (h.y.up_del d2 (by omega) ⟨h.field_in hf, hne⟩ r).2
  have hfz : ∀ f ∈ fieldsL H, f.1 ≠ r → fz (dlH H r A) f = fz H f := by
    intro f hf hne
    unfold fz
    rcases hpt f hf hne with e | e | e
    · rw [e]; simp [cz, cntB]
    · rw [(h.y.tgt_del hA d2 (.inl e)).1]
    · rw [(h.y.tgt_del hA d2 (.inr e)).1]
  have hrt : ∀ v ∈ rootsL H, v = 0 ∨ (hasM H.st v = true ∧ tgt H v ≠ r) := by
    intro v hv
    have hz := hc2 v hv
    rcases h.rp v hv with e | e
    · exact .inl e
    · refine .inr ⟨e, fun et => hz ?_⟩
      unfold rz cz cntB
      rw [if_pos (by simp only [decide_eq_true_eq]; exact ⟨trivial, by omega, by omega⟩)]
      exact et
  have hrz : ∀ v ∈ rootsL H, rz (dlH H r A) v = rz H v := by
    intro v hv
    unfold rz
    rw [(h.y.tgt_del hA d2 (hrt v hv)).1]
  obtain ⟨o1, o2, _⟩ := outAll_ok h.y r (ts := A.ts) (by have := (h.y.sz r A hA).2; have := h.y.nn; omega)
  have hcT : Tal H.last 200000000 H.cnt := ⟨h.rc, h.ck, h.cnt_le⟩
  have hle : ∀ i, 1 ≤ i → at0 (outAll H r A.ts) i ≤ at0 H.cnt i := by
    intro i hi
    rw [o2 i hi, h.ct i hi]
    unfold cntOf
    rw [hF0, List.countP_append, List.countP_append]
    omega
  obtain ⟨c1, c2⟩ := cntAll_ok (N := H.last) (c := 200000000) (by omega) (outAll H r A.ts) H.cnt o1.r hcT (fun p hp => by
    have hk := o1.k p hp
    have hv : at0 (outAll H r A.ts) p.1 = p.2 := by unfold at0; rw [(lk_some o1.r).2 hp]; rfl
    have := o1.v p.1
    have := hle p.1 hk.1
    exact ⟨hk.1, hk.2, by omega, by omega⟩)
  refine ⟨hd, ?_, ?_, ?_, c1.r, c1.k, h.gl, h.fl, h.fs⟩
  · intro f hf
    rw [hF] at hf
    obtain ⟨m1, m2⟩ := hmem1 f (List.mem_append.1 hf)
    rcases hpt f m1 m2 with e | e | e
    · exact .inl e
    · exact .inr (.inl e)
    · obtain ⟨t1, t2⟩ := h.y.tgt_del hA d2 (.inr e)
      rcases h.fp f m1 with e' | e' | ⟨_, e5, e6⟩
      · exact .inl e'
      · exact .inr (.inl e')
      · refine .inr (.inr ⟨t2.2 e.1, fun k => by rw [t1]; exact e5 k, fun k => ?_⟩)
        rw [t1]
        show upV (mdel H.par r) _ _ ≠ 0
        rw [(h.y.up_del d2 (by omega) ⟨h.field_in m1, m2⟩ _).1]
        exact e6 k
  · intro v hv
    rw [hR] at hv
    have e := hrt v hv
    exact e.imp_right fun e => (h.y.tgt_del hA d2 (.inr e)).2.2 e.1
  · intro i hi
    show at0 (cntAll H.cnt (outAll H r A.ts)) i = _
    rw [c2 i, h.ct i hi, o2 i hi]
    unfold cntOf
    rw [hF, hR, hF0]
    have k1 : ∀ l : List (Int × Int × Int), (∀ f ∈ l, f ∈ fieldsL H ∧ f.1 ≠ r) → l.countP (fun f => decide (fz (dlH H r A) f = i)) = l.countP (fun f => decide (fz H f = i)) := fun l hl => List.countP_congr fun f hf => by rw [hfz f (hl f hf).1 (hl f hf).2]
    have k2 : (rootsL H).countP (fun v => decide (rz (dlH H r A) v = i)) = (rootsL H).countP (fun v => decide (rz H v = i)) := List.countP_congr fun v hv => by rw [hrz v hv]
    rw [List.countP_append, List.countP_append, List.countP_append, k1 _ (fun f hf => hmem1 f (.inl hf)), k1 _ (fun f hf => hmem1 f (.inr hf)), k2]
    omega
theorem Inv.ar_of (h : Inv Pg n H) (he : delE H r = 0) : lk H.ar r = some (arOf H r) := by
  obtain ⟨A, hA⟩ := Option.isSome_iff_exists.1 ((h.y.ar r).2 ((h.y.lives r).1 (delE_zero h he).1))
  unfold arOf
  rw [hA]
  rfl
theorem Inv.del (h : Inv Pg n H) (r : Int) : Inv Pg n (delH H r) := by
  unfold delH
  split
  · rename_i he
    exact h.dl he (h.ar_of he)
  · exact h
end
end Go.Proofs.YtcenagpkfimkbaaGreatDoor
namespace Go.Proofs.YtcenagpkfimkbaaGreatDoor
open Go Go.RowKit

section
variable {Pg n : Nat} {H : HM}
theorem Lay.start_le (h : Lay Pg n H) {v : Int} (hv : hasM H.st v = true) : 1 ≤ v ∧ v ≤ 16384 := by
  obtain ⟨id, A, p, hA, hp, rfl⟩ := (h.s v).1 hv
  obtain ⟨a, b, c, _⟩ := h.t2 id A hA p hp
  have := h.pg
  omega
theorem Inv.root_le (h : Inv Pg n H) {v : Int} (hv : v ∈ rootsL H) : 0 ≤ v ∧ v ≤ 16384 := by
  rcases h.rp v hv with e | e
  · omega
  · have := h.y.start_le e; omega
theorem Inv.fine (h : Inv Pg n H) : Fine H := by
  have hl := h.y.ln
  have hn := h.y.nn
  have hpl : H.par.length ≤ n := rising_cap h.y.rp fun p hp => by
    have := h.y.lv p.1 ((h.y.par p.1).1 (by rw [(lk_some h.y.rp).2 hp]; rfl))
    omega
  refine ⟨h.y.l0, by omega, by have := h.live_len; omega, by omega, by have := h.cnt_len; omega, h.told, fun p => by have := h.y.ob p; omega, fun i => ?_⟩
  unfold glV
  split
  · rw [List.getD_eq_getElem?_getD]
    cases e : H.gl[i.toNat]? with
    | none => simp
    | some v =>
      have := h.root_le (v := v) (by unfold rootsL; exact List.mem_append.2 (.inl (List.mem_of_getElem? e)))
      simp
      omega
  · omega
theorem Lay.it (h : Lay Pg n H) : ItOk H := by
  have hl := h.ln
  have hn := h.nn
  have hp := h.pg
  refine ⟨h.dd, by have := h.dl; omega, h.ms, fun r A hA => ?_⟩
  have h1 := h.idl hA
  have h2 := h.sz r A hA
  exact ⟨h1.2.1, by omega, by omega, fun p hp => by have := h.t2 r A hA p hp; omega⟩
theorem Inv.good (h : Inv Pg n H) : Good H := by
  have hn := h.y.nn
  have hln := h.y.ln
  have hal : H.ar.length ≤ n := rising_cap h.y.ra fun p hp => by
    have := h.y.lv p.1 ((h.y.ar p.1).1 (by rw [(lk_some h.y.ra).2 hp]; rfl))
    omega
  refine ⟨h.fine, by omega, fun r hr => ?_, h.y.dd, by have := h.y.dl; omega⟩
  have hl := (h.y.lives r).1 hr
  obtain ⟨A, hA⟩ := Option.isSome_iff_exists.1 ((h.y.ar r).2 hl)
  exact ⟨(h.y.lv r hl).1, A, hA, h.y.fineA hA, by have := (h.y.sz r A hA).1; omega⟩
theorem wkL_neg {m : IM Int} {M : Int} (hm : Wood m M) {id : Int} (h : id < 0) : wkL m M id = [] := by
  refine List.eq_nil_iff_forall_not_mem.2 fun x hx => ?_
  obtain ⟨kid, hk, _⟩ := (wkL_mem hm).1 hx
  have := (hm.kid hk).1
  omega
theorem len_of_nodup {l : List Int} (h : l.Nodup) {N : Nat} (hk : ∀ x ∈ l, 1 ≤ x ∧ x ≤ N) : l.length ≤ N := by
  have hs := h.length_le_of_subset (l₂ := (List.range N).map fun (i : Nat) => ((i : Int) + 1)) fun x hx => by
    have := hk x hx
    exact List.mem_map.2 ⟨(x - 1).toNat, List.mem_range.2 (by omega), by omega⟩
  simpa using hs
theorem Inv.setOk (h : Inv Pg n H) : SetOk H H.last := by
  have hn := h.y.nn
  have hln := h.y.ln
  have hp := h.y.pg
  have hl0 := h.y.l0
  have hw := h.y.wood
  refine ⟨h.fine, h.y.dd, by have := h.y.dl; omega, h.y.ms, by have := h.y.ml; omega, fun v => onK_len h.y.dd _ _, fun v hv => by have := h.y.start_le hv; omega, fun v hv => ?_, hw.d, fun id => ?_⟩
  · obtain ⟨id, A, p, hA, hp, rfl⟩ := (h.y.s v).1 hv
    exact (h.y.h id A hA p hp).1
  · by_cases e : id < 0
    · rw [wkL_neg hw e]; simp
    · have hnd := wkL_nodup hw ((H.last - id).toNat + 1) id (by omega) (by omega)
      have := len_of_nodup hnd (N := n) fun x hx => by
        have := (wkL_below hw ((H.last - id).toNat + 1) id x (by omega) (by omega) hx).1
        have := hw.pos this
        omega
      omega
theorem Tal.mem {N c : Int} {m : IM Int} (h : Tal N c m) {p : Int × Int} (hp : p ∈ m) : 1 ≤ p.1 ∧ p.1 ≤ N ∧ 0 ≤ p.2 ∧ p.2 ≤ c ∧ at0 m p.1 = p.2 := by
  have hv : at0 m p.1 = p.2 := by unfold at0; rw [(lk_some h.r).2 hp]; rfl
  have h1 := h.v p.1
  have h2 := h.k p hp
  exact ⟨h2.1, h2.2, by omega, by omega, hv⟩
theorem Inv.out_le (h : Inv Pg n H) {r : Int} {A : AR} (hA : lk H.ar r = some A) {i : Int} (hi : 1 ≤ i) : at0 (outAll H r A.ts) i ≤ at0 H.cnt i := by
  obtain ⟨o1, o2, _⟩ := outAll_ok h.y r (ts := A.ts) (by have := (h.y.sz r A hA).2; have := h.y.nn; omega)
  obtain ⟨l1, l2, e1, _⟩ := h.y.objs_del hA
  have hF0 : fieldsL H = l1.flatMap (fun p => flds H.ms H.ds p.1 p.2) ++ (A.ts.flatMap (fun p => flds H.ms H.ds (p.1 + 1) r) ++ l2.flatMap (fun p => flds H.ms H.ds p.1 p.2)) := by
    unfold fieldsL
    rw [e1, List.flatMap_append, List.flatMap_append, List.flatMap_map]
  rw [o2 i hi, h.ct i hi]
  unfold cntOf
  rw [hF0, List.countP_append, List.countP_append]
  omega
theorem Inv.delOk (h : Inv Pg n H) {r : Int} (he : delE H r = 0) : DelOk H r (arOf H r) := by
  have hA := h.ar_of he
  obtain ⟨A, hAA⟩ : ∃ A, arOf H r = A := ⟨_, rfl⟩
  rw [hAA] at hA ⊢
  have hn := h.y.nn
  have hln := h.y.ln
  have hpg := h.y.pg
  have hid := h.y.idl hA
  have hsz := h.y.sz r A hA
  obtain ⟨o1, o2, o3⟩ := outAll_ok h.y r (ts := A.ts) (by omega)
  have hcT : Tal H.last 200000000 H.cnt := ⟨h.rc, h.ck, h.cnt_le⟩
  refine ⟨h.fine, h.y.it, fun a => onK_len h.y.dd _ _, hA, o3, ?_, fun p hp => ?_, fun k => ?_, fun p hp => ?_, by omega, h.y.rel_ok hA, (h.y.par r).2 hid.1⟩
  · have := o1.len (k := 200) (by omega)
    omega
  · have := o1.mem hp
    omega
  · have hr : Rising ((outAll H r A.ts).take k) := List.Pairwise.sublist (List.take_sublist _ _) o1.r
    obtain ⟨c1, _⟩ := cntAll_ok (N := H.last) (c := 200000000) (by omega) ((outAll H r A.ts).take k) H.cnt hr hcT fun p hp => by
      have h1 := o1.mem (List.mem_of_mem_take hp)
      have h2 := h.out_le hA h1.1
      omega
    refine ⟨fun x => by have := c1.v x; omega, ?_⟩
    have := c1.len (k := 200) (by omega)
    omega
  · have := h.y.runs_ok hA p hp
    omega
theorem Inv.fr_ok (h : Inv Pg n H) : ∀ l ∈ H.fr, l.length ≤ 16 ∧ ∀ x ∈ l, 0 ≤ x ∧ x ≤ 18446744073709551615 := fun l hl => ⟨h.fs l hl, fun x hx => by
  have := h.root_le (v := x) (by unfold rootsL; exact List.mem_append.2 (.inr (List.mem_flatten.2 ⟨l, hl, hx⟩)))
  omega⟩
theorem Inv.top_ok (h : Inv Pg n H) (a : Int) : 0 ≤ topV H.fr a ∧ topV H.fr a ≤ 18446744073709551615 := by
  unfold topV
  split
  · omega
  · rename_i l e
    cases e2 : l[a.toNat]? with
    | none => simp
    | some x =>
      have := (h.fr_ok l (List.mem_of_getLast? e)).2 x (List.mem_of_getElem? e2)
      simpa using this
theorem Inv.new {g : Nat} {ds : List (List Int)} (h0 : Pg ≤ 1024) (hg : g ≤ 64) (hd : listD ds = true) : Inv Pg 0 (newH Pg g ds) := by
  have hdl := mayD_len hd
  have hno : ∀ x : Int, hasM (List.replicate (Pg * 16) false) x = false := fun x => by
    unfold hasM
    split
    · rw [List.getD_eq_getElem?_getD, List.getElem?_replicate]
      split <;> rfl
    · rfl
  have hk : ∀ d ∈ ds, ∀ k ∈ d, 0 ≤ k ∧ k < 4 := fun d hd' k hk => by
    simp only [listD, Bool.and_eq_true, List.all_eq_true, mayD] at hd
    have := (hd.2 d hd').2 k hk
    simpa [kindB] using this
  refine ⟨?_, ?_, ?_, ?_, List.Pairwise.nil, fun p hp => (List.not_mem_nil hp).elim, ?_, ?_, ?_⟩
  · have no : ∀ (id : Int) (A : AR), lk (newH Pg g ds).ar id = some A → False := fun id A hA => by cases hA
    refine ⟨rfl, h0, List.length_replicate .., List.length_replicate .., ?_, ?_, Int.le_refl 0, Int.le_refl 0, by omega, List.Pairwise.nil, List.Pairwise.nil, List.Pairwise.nil, fun id hid => (by cases hid), fun id => Iff.rfl, fun id => Iff.rfl, fun id p hp => (by cases hp), fun id A hA => (no id A hA).elim, fun id A hA => (no id A hA).elim, fun q _ h => absurd rfl h, fun id A hA => (no id A hA).elim, ?_, fun q => ⟨Int.le_refl 0, Int.le_refl 0⟩, fun id A hA => (no id A hA).elim, fun id A hA => (no id A hA).elim, fun id A hA => (no id A hA).elim, ?_, fun id A hA => (no id A hA).elim, fun d hd' => (hdl.2 d hd').2, hdl.1, hk, fun id A hA => (no id A hA).elim⟩
    · show (List.replicate _ _).length = _
      rw [List.length_replicate]; omega
    · intro v hv
      rw [(List.mem_replicate.1 hv).2]; omega
    · intro q hq
      show (List.replicate Pg false).getD q false = true ↔ (0 : Int) ≠ 0
      rw [List.getD_eq_getElem?_getD, List.getElem?_replicate]
      split <;> simp
    · intro x
      show hasM (List.replicate (Pg * 16) false) x = true ↔ _
      rw [hno]
      constructor
      · intro h; cases h
      · rintro ⟨id, A, p, hA, _⟩; cases hA
  · intro f hf; cases hf
  · intro v hv
    have hv : v ∈ List.replicate g (0 : Int) ++ [] := hv
    rw [List.append_nil] at hv
    exact .inl (List.mem_replicate.1 hv).2
  · intro r hr
    show at0 [] r = ((([] : List (Int × Int × Int)).countP _ : Nat) : Int) + (((List.replicate g (0 : Int) ++ ([] : List (List Int)).flatten).countP _ : Nat) : Int)
    have : (List.replicate g (0 : Int) ++ ([] : List (List Int)).flatten).countP (fun v => decide (rz (newH Pg g ds) v = r)) = 0 := by
      rw [List.countP_eq_zero]
      intro v hv
      simp only [List.flatten_nil, List.append_nil] at hv
      rw [(List.mem_replicate.1 hv).2]
      have : rz (newH Pg g ds) 0 = 0 := by
        unfold rz cz cntB tgt
        rw [show hasM (newH Pg g ds).st 0 = false from hno 0]
        simp
      rw [this]
      simp
      omega
    rw [this]
    simp [at0_nil]
  · show (List.replicate g (0 : Int)).length ≤ 64
    rw [List.length_replicate]; exact hg
  · exact Nat.zero_le _
  · intro l hl; cases hl
end
end Go.Proofs.YtcenagpkfimkbaaGreatDoor
