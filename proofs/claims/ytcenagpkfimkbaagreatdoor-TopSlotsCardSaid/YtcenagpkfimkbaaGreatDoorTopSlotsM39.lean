/-
  Contracts of functions of the program, laid together.
-/
import Derived.Test.YtcenagpkfimkbaaGreatDoorTopSlotsM30
import Derived.Test.YtcenagpkfimkbaaGreatDoorTopSlotsM33
import Derived.Test.YtcenagpkfimkbaaGreatDoorTopSlotsM35
import Derived.Test.YtcenagpkfimkbaaGreatDoorTopSlotsM36
import Derived.Test.YtcenagpkfimkbaaGreatDoorTopSlotsM38
namespace Go.Proofs.YtcenagpkfimkbaaGreatDoor
open Go Go.RowKit

structure OpN.Ok (x : OpN) : Prop where
  a0 : 0 ≤ x.a
  a1 : x.a ≤ 18446744073709551615
  b0 : 0 ≤ x.b
  b1 : x.b ≤ 18446744073709551615
  c0 : 0 ≤ x.c
  c1 : x.c ≤ 18446744073709551615
inductive OpStep (H : HM) : OpN → Int → Int → HM → Prop
  | region (a b c : Int) (ab plb : Nat) : OpStep H ⟨1, a, b, c⟩ (rgN H 0) (rgE H 0) (rgH H 0 ab plb)
  | sub0 (b c : Int) : OpStep H ⟨2, 0, b, c⟩ 0 2 H
  | sub (a b c : Int) (ab plb : Nat) : a ≠ 0 → OpStep H ⟨2, a, b, c⟩ (rgN H a) (rgE H a) (rgH H a ab plb)
  | delete (a b c : Int) : OpStep H ⟨3, a, b, c⟩ 0 (delE H a) (delH H a)
  | new0 (a b c : Int) : objE (lens H.ds) b ≠ 0 → OpStep H ⟨4, a, b, c⟩ 0 (objE (lens H.ds) b) H
  | new (a b c : Int) : objE (lens H.ds) b = 0 → OpStep H ⟨4, a, b, c⟩ (alA H a false 0 b ((lens H.ds).getD b.toNat 0)) (alE H a false 0 b ((lens H.ds).getD b.toNat 0)) (alH H a false 0 b ((lens H.ds).getD b.toNat 0))
  | array0 (a b c : Int) : arrE b c ≠ 0 → OpStep H ⟨5, a, b, c⟩ 0 (arrE b c) H
  | array (a b c : Int) : arrE b c = 0 → OpStep H ⟨5, a, b, c⟩ (alA H a true b 0 c) (alE H a true b 0 c) (alH H a true b 0 c)
  | set (a b c : Int) : OpStep H ⟨6, a, b, c⟩ 0 (hsE H H.last a b c) (hsH H H.last a b c)
  | get (a b c : Int) : OpStep H ⟨7, a, b, c⟩ (gtV H a b) (gtE H a b) H
  | global (a b c : Int) : OpStep H ⟨8, a, b, c⟩ 0 (sgE H a b) (sgH H a b)
  | look (a b c : Int) : OpStep H ⟨9, a, b, c⟩ (glV H.gl a) (glE H.gl a) H
  | push (a b c : Int) : OpStep H ⟨10, a, b, c⟩ 0 (pushE H.fr.length a) { H with fr := pushL H.fr a }
  | pop (a b c : Int) : OpStep H ⟨11, a, b, c⟩ 0 (popE H.fr) (popH H)
  | slot (a b c : Int) : OpStep H ⟨12, a, b, c⟩ 0 (ssE H a b) (ssH H a b)
  | peek (a b c : Int) : OpStep H ⟨13, a, b, c⟩ (topV H.fr a) (topE H.fr a) H
  | count (a b c : Int) : OpStep H ⟨14, a, b, c⟩ (cntV H a) (cntE H a) H
  | free (a b c : Int) : OpStep H ⟨15, a, b, c⟩ (freeV H.gs) 0 H
  | none_ (k a b c : Int) : (k < 1 ∨ 15 < k) → OpStep H ⟨k, a, b, c⟩ 0 11 H
theorem OpStep.inv {Pg n : Nat} {H H' : HM} {x : OpN} {v er : Int} (h : OpStep H x v er H') (hI : Inv Pg n H) (hn : n + 2 ≤ 200) (hx : x.Ok) : Inv Pg (n + 2) H' := by
  have hm : ∀ {H'}, Inv Pg n H' → Inv Pg (n + 2) H' := fun h => h.more (by omega) hn
  have hr : ∀ {H'}, Inv Pg (n + 1) H' → Inv Pg (n + 2) H' := fun h => h.more (by omega) hn
  obtain ⟨a0, a1, b0, b1, c0, c1⟩ := hx
  cases h
  case region ab plb => exact hr (hI.rg (by omega) _ _ _)
  case sub0 => exact hm hI
  case sub ab plb _ => exact hr (hI.rg (by omega) _ _ _)
  case delete => exact hm (hI.del _)
  case new0 => exact hm hI
  case new => exact hI.al hn _ _ _ _ _
  case array0 => exact hm hI
  case array => exact hI.al hn _ _ _ _ _
  case set => exact hm (hI.hs _ _ _ b0 c0 (by simp only at c1; omega))
  case get => exact hm hI
  case global => exact hm (hI.sg _ _ a0)
  case look => exact hm hI
  case push => exact hm (hI.push _)
  case pop => exact hm hI.pop
  case slot => exact hm (hI.ss _ _ a0)
  case peek => exact hm hI
  case count => exact hm hI
  case free => exact hm hI
  case none_ => exact hm hI

section
variable {B : HB} {H : HM} {O0 O1 : Obj} {mb : Nat} {fa : Option Addr} {fc : Nat} {S : Nat → Prop} {w : World}
theorem DoOut.imp {Q R : Int → Int → HM → Prop} (hQR : ∀ v er H', Q v er H' → R v er H') {e : Ending} {w' : World} (h : DoOut B O0 O1 mb fa fc S Q w e w') : DoOut B O0 O1 mb fa fc S R w e w' := by
  obtain ⟨v, er, H', S', he, hq, hm, hg⟩ := h
  exact ⟨v, er, H', S', he, hQR v er H' hq, hm, hg⟩
theorem do_all {Pg n : Nat} (hM : MSt B H O0 O1 mb fa fc w S) (hI : Inv Pg n H) (x : OpN) (hx : x.Ok) :
    Calls Tryz.prog 11 #[.pointer (some ⟨mb, 0, none⟩), opV x.k x.a x.b x.c] w (DoOut B O0 O1 mb fa fc S (fun v er H' => OpStep H x v er H') w) := by
  obtain ⟨a0, a1, b0, b1, c0, c1⟩ := hx
  obtain ⟨k, a, b, c⟩ := x
  simp only at a0 a1 b0 b1 c0 c1
  have hF := hI.fine
  have hG := hI.good
  have hn := hI.y.nn
  show Calls Tryz.prog 11 #[.pointer (some ⟨mb, 0, none⟩), opV k a b c] w (DoOut B O0 O1 mb fa fc S (fun v er H' => OpStep H ⟨k, a, b, c⟩ v er H') w)
  by_cases hk : k < 1 ∨ 15 < k
  · refine (doNone mb k a b c w hk).mono ?_
    rintro e w' ⟨rfl, hb⟩
    exact ⟨0, 11, H, S, rfl, .none_ k a b c hk, hM.later hb, .below hb⟩
  · have hk2 : k = 1 ∨ k = 2 ∨ k = 3 ∨ k = 4 ∨ k = 5 ∨ k = 6 ∨ k = 7 ∨ k = 8 ∨ k = 9 ∨ k = 10 ∨ k = 11 ∨ k = 12 ∨ k = 13 ∨ k = 14 ∨ k = 15 := by omega
    rcases hk2 with rfl | rfl | rfl | rfl | rfl | rfl | rfl | rfl | rfl | rfl | rfl | rfl | rfl | rfl | rfl
    · refine (doRegion hM hF hG.al a b c).mono fun e w' h => h.imp ?_
      rintro v er H' ⟨rfl, rfl, ab, plb, rfl⟩
      exact .region ..
    · refine (doSub hM hF hG.al a b c a0 a1).mono fun e w' h => h.imp ?_
      rintro v er H' (⟨rfl, rfl, rfl, rfl⟩ | ⟨h0, rfl, rfl, ab, plb, rfl⟩)
      · exact .sub0 ..
      · exact .sub _ _ _ _ _ h0
    · refine (doDelete hM hF a b c a0 a1 (fun he => hI.delOk he)).mono fun e w' h => h.imp ?_
      rintro v er H' ⟨rfl, rfl, rfl⟩
      exact .delete ..
    · refine (doNew hM hG a b c a0 a1 b0).mono fun e w' h => h.imp ?_
      rintro v er H' (⟨h0, rfl, rfl, rfl⟩ | ⟨h0, rfl, rfl, rfl⟩)
      · exact .new0 _ _ _ h0
      · exact .new _ _ _ h0
    · refine (doArray hM hG a b c a0 a1 b0 c0).mono fun e w' h => h.imp ?_
      rintro v er H' (⟨h0, rfl, rfl, rfl⟩ | ⟨h0, rfl, rfl, rfl⟩)
      · exact .array0 _ _ _ h0
      · exact .array _ _ _ h0
    · refine (doSet hM hI.setOk a b c a0 a1 b0 b1 c0 c1).mono fun e w' h => h.imp ?_
      rintro v er H' ⟨rfl, rfl, rfl⟩
      exact .set ..
    · refine (doGet hM hI.y.dd (by have := hI.y.dl; omega) hI.y.ms (fun v => onK_len hI.y.dd _ _) (fun v hv => by have := hI.y.start_le hv; omega) a b c a0 a1 b0 b1).mono fun e w' h => h.imp ?_
      rintro v er H' ⟨rfl, rfl, rfl⟩
      exact .get ..
    · refine (doGlobal hM hF a b c a0 a1 b0 b1).mono fun e w' h => h.imp ?_
      rintro v er H' ⟨rfl, rfl, rfl⟩
      exact .global ..
    · refine (doLook hM a b c a0 a1).mono fun e w' h => h.imp ?_
      rintro v er H' ⟨rfl, rfl, rfl⟩
      exact .look ..
    · refine (doPush hM a b c a0).mono fun e w' h => h.imp ?_
      rintro v er H' ⟨rfl, rfl, rfl⟩
      exact .push ..
    · refine (doPop hM hF (by have := hI.cnt_len; omega) hI.fr_ok a b c).mono fun e w' h => h.imp ?_
      rintro v er H' ⟨rfl, rfl, rfl⟩
      exact .pop ..
    · refine (doSlot hM hF a b c a0 a1 b0 b1 (hI.top_ok a)).mono fun e w' h => h.imp ?_
      rintro v er H' ⟨rfl, rfl, rfl⟩
      exact .slot ..
    · refine (doPeek hM a b c a0 a1).mono fun e w' h => h.imp ?_
      rintro v er H' ⟨rfl, rfl, rfl⟩
      exact .peek ..
    · refine (doCount hM hF a b c a0 a1).mono fun e w' h => h.imp ?_
      rintro v er H' ⟨rfl, rfl, rfl⟩
      exact .count ..
    · refine (doFree hM a b c).mono fun e w' h => h.imp ?_
      rintro v er H' ⟨rfl, rfl, rfl⟩
      exact .free ..
end
end Go.Proofs.YtcenagpkfimkbaaGreatDoor
namespace Go.Proofs.YtcenagpkfimkbaaGreatDoor
open Go Go.RowKit

structure Parents (H : HM) (P : IM Int) : Prop where
  r : Rising P
  k : ∀ p ∈ P, 1 ≤ p.1 ∧ p.1 ≤ H.last ∧ 0 ≤ p.2 ∧ p.2 < p.1
  e : ∀ x, LiveR H x → at0 P x = at0 H.par x
theorem Parents.new (Pg g : Nat) (ds : List (List Int)) : Parents (newH Pg g ds) [] := ⟨List.Pairwise.nil, fun p hp => (List.not_mem_nil hp).elim, fun x hx => by cases hx⟩
theorem Parents.same {H H' : HM} {P : IM Int} (h : Parents H P) (h1 : H'.par = H.par) (h2 : H'.live = H.live) (h3 : H'.last = H.last) : Parents H' P :=
  ⟨h.r, by rw [h3]; exact h.k, fun x hx => by rw [h1]; exact h.e x (by unfold LiveR at hx ⊢; rw [← h2]; exact hx)⟩
def parN (P : IM Int) (x : OpN) (v er : Int) : IM Int := if er = 0 ∧ x.k = 2 then mput P v x.a else P
theorem alH_tree (H : HM) (r : Int) (a : Bool) (q t k : Int) : (alH H r a q t k).par = H.par ∧ (alH H r a q t k).live = H.live ∧ (alH H r a q t k).last = H.last := by
  unfold alH
  split
  · exact ⟨rfl, rfl, rfl⟩
  · exact ⟨rfl, rfl, rfl⟩
theorem hsH_tree (H : HM) (M a i v : Int) : (hsH H M a i v).par = H.par ∧ (hsH H M a i v).live = H.live ∧ (hsH H M a i v).last = H.last := by
  unfold hsH
  split
  · by_cases e : isPtr (fkI H a i) = true
    · simp only [e, if_true]; exact ⟨rfl, rfl, rfl⟩
    · simp only [e]; exact ⟨rfl, rfl, rfl⟩
  · exact ⟨rfl, rfl, rfl⟩
theorem sgH_tree (H : HM) (i v : Int) : (sgH H i v).par = H.par ∧ (sgH H i v).live = H.live ∧ (sgH H i v).last = H.last := by
  unfold sgH
  split <;> exact ⟨rfl, rfl, rfl⟩
theorem ssH_tree (H : HM) (i v : Int) : (ssH H i v).par = H.par ∧ (ssH H i v).live = H.live ∧ (ssH H i v).last = H.last := by
  unfold ssH
  split <;> exact ⟨rfl, rfl, rfl⟩
theorem popH_tree (H : HM) : (popH H).par = H.par ∧ (popH H).live = H.live ∧ (popH H).last = H.last := by
  unfold popH
  rw [popM_eq]
  exact ⟨rfl, rfl, rfl⟩
section
variable {Pg n : Nat} {H : HM} {P : IM Int}
theorem Parents.rg (h : Parents H P) (hI : Inv Pg n H) (p : Int) (ab plb : Nat) (hp : p ≠ 0 → LiveR H p) : Parents (rgH H p ab plb) (if rgE H p = 0 ∧ p ≠ 0 then mput P (rgN H p) p else P) := by
  have hL0 := hI.y.l0
  unfold rgH
  by_cases he : rgE H p = 0
  · rw [if_pos he]
    have hgv : gvL H.live H.last 64 = mput H.live (H.last + 1) () := by
      unfold rgE gvE at he
      unfold gvL
      split at he
      · cases he
      · split at he
        · cases he
        · rename_i h1; rw [if_neg h1]
    have hnl : ¬ LiveR H (H.last + 1) := fun e => by have := (hI.y.lv _ e).2; omega
    have htr : trL H.par (H.last + 1) p = mput H.par (H.last + 1) p := by
      unfold trL trE
      rw [if_pos]
      rw [if_neg, if_neg]
      · rintro ⟨h1, h2⟩
        rw [(hI.y.par p).2 (hp h1)] at h2
        cases h2
      · rintro (h1 | h1)
        · omega
        · exact hnl ((hI.y.par _).1 h1)
    have hN : rgN H p = H.last + 1 := by unfold rgN; rw [if_pos he]
    have hat : ∀ x, at0 (mput H.par (H.last + 1) p) x = if x = H.last + 1 then p else at0 H.par x := fun x => by
      unfold at0
      rw [lk_put hI.y.rp]
      split <;> rfl
    have hlive : ∀ x, (lk (mput H.live (H.last + 1) ()) x).isSome = true → x = H.last + 1 ∨ LiveR H x := fun x hx => by
      rw [lk_put hI.y.rl] at hx
      split at hx
      · exact .inl ‹_›
      · exact .inr hx
    have hPn : at0 P (H.last + 1) = 0 := by
      have : lk P (H.last + 1) = none := (lk_none h.r).2 fun v hv => by have := h.k _ hv; simp only at this; omega
      unfold at0
      rw [this]
      rfl
    rw [hgv, htr]
    by_cases h0 : p = 0
    · subst h0
      rw [if_neg (by simp)]
      refine ⟨h.r, fun q hq => by have := h.k q hq; show _ ∧ _ ≤ H.last + 1 ∧ _; omega, fun x hx => ?_⟩
      show at0 P x = at0 (mput H.par (H.last + 1) 0) x
      rw [hat]
      rcases hlive x hx with e | e
      · rw [if_pos e, e]; exact hPn
      · rw [if_neg (fun (e2 : x = H.last + 1) => hnl (e2 ▸ e))]; exact h.e x e
    · rw [if_pos ⟨he, h0⟩, hN]
      have hpl := hI.y.lv p (hp h0)
      refine ⟨h.r.put _ _, fun q hq => ?_, fun x hx => ?_⟩
      · show _ ∧ _ ≤ H.last + 1 ∧ _
        rcases mem_mins.1 (show q ∈ mins (H.last + 1, p) (mdel P (H.last + 1)) from hq) with e | e
        · subst e; simp only; omega
        · have := h.k q (mem_mdel.1 e).1; omega
      · show at0 (mput P (H.last + 1) p) x = at0 (mput H.par (H.last + 1) p) x
        rw [hat]
        have : at0 (mput P (H.last + 1) p) x = if x = H.last + 1 then p else at0 P x := by
          unfold at0
          rw [lk_put h.r]
          split <;> rfl
        rw [this]
        rcases hlive x hx with e | e
        · rw [if_pos e, if_pos e]
        · rw [if_neg (fun (e2 : x = H.last + 1) => hnl (e2 ▸ e)), if_neg (fun (e2 : x = H.last + 1) => hnl (e2 ▸ e))]; exact h.e x e
  · rw [if_neg he, if_neg (fun e => he e.1)]
    exact h
theorem Parents.step (h : Parents H P) (hI : Inv Pg n H) {H' : HM} {x : OpN} {v er : Int} (hs : OpStep H x v er H') : Parents H' (parN P x v er) := by
  have no : ∀ {k a b c v er : Int}, (k ≠ 2 ∨ er ≠ 0) → parN P ⟨k, a, b, c⟩ v er = P := fun hk => by
    unfold parN
    rw [if_neg]
    rintro ⟨h1, h2⟩
    exact hk.elim (fun e => e h2) (fun e => e h1)
  cases hs
  case region ab plb =>
    rw [no (.inl (by decide))]
    have := h.rg hI 0 ab plb (fun e => absurd rfl e)
    rwa [if_neg (by simp)] at this
  case sub0 => rw [no (.inr (by decide))]; exact h
  case sub a b c ab plb h0 =>
    have hlv : rgE H a = 0 → LiveR H a := fun he => by
      unfold rgE at he
      split at he
      · cases he
      · rename_i h1
        refine (hI.y.lives a).1 ?_
        cases hb : livesB H a
        · exact absurd ⟨h0, hb⟩ h1
        · rfl
    by_cases he : rgE H a = 0
    · have := h.rg hI a ab plb (fun _ => hlv he)
      unfold parN
      rw [if_pos ⟨he, rfl⟩]
      rwa [if_pos ⟨he, h0⟩] at this
    · rw [no (.inr he)]
      unfold rgH
      rw [if_neg he]
      exact h
  case delete a b c =>
    rw [no (.inl (show (3 : Int) ≠ 2 by decide))]
    unfold delH
    split
    · refine ⟨h.r, h.k, fun x hx => ?_⟩
      obtain ⟨e1, e2⟩ := (lk_mdel_is hI.y.rl).1 (show (lk (mdel H.live a) x).isSome = true from hx)
      show at0 P x = at0 (mdel H.par a) x
      rw [h.e x e2]
      unfold at0
      rw [lk_del hI.y.rp, if_neg e1]
    · exact h
  case new0 => rw [no (.inl (by decide))]; exact h
  case new => rw [no (.inl (by decide))]; exact h.same (alH_tree ..).1 (alH_tree ..).2.1 (alH_tree ..).2.2
  case array0 => rw [no (.inl (by decide))]; exact h
  case array => rw [no (.inl (by decide))]; exact h.same (alH_tree ..).1 (alH_tree ..).2.1 (alH_tree ..).2.2
  case set => rw [no (.inl (by decide))]; exact h.same (hsH_tree ..).1 (hsH_tree ..).2.1 (hsH_tree ..).2.2
  case get => rw [no (.inl (by decide))]; exact h
  case global => rw [no (.inl (by decide))]; exact h.same (sgH_tree ..).1 (sgH_tree ..).2.1 (sgH_tree ..).2.2
  case look => rw [no (.inl (by decide))]; exact h
  case push => rw [no (.inl (by decide))]; exact h.same rfl rfl rfl
  case pop => rw [no (.inl (by decide))]; exact h.same (popH_tree ..).1 (popH_tree ..).2.1 (popH_tree ..).2.2
  case slot => rw [no (.inl (by decide))]; exact h.same (ssH_tree ..).1 (ssH_tree ..).2.1 (ssH_tree ..).2.2
  case peek => rw [no (.inl (by decide))]; exact h
  case count => rw [no (.inl (by decide))]; exact h
  case free => rw [no (.inl (by decide))]; exact h
  case none_ hk => rw [no (.inr (by decide))]; exact h
theorem OpStep.five {H' : HM} {x : OpN} {v er : Int} (hs : OpStep H x v er H') (h5 : er = 5) : x.k = 6 ∧ H' = H := by
  have rg : ∀ p, rgE H p ≠ 5 := fun p => by unfold rgE gvE; split <;> (try split) <;> decide
  have al : ∀ a q t k r, alE H r a q t k ≠ 5 := fun a q t k r => by
    have e1 : knE H.ds a q t k ≠ 5 := by unfold knE; split <;> split <;> (try split) <;> decide
    have e2 : putE a q t k ≠ 5 := by unfold putE; split <;> decide
    have e3 : ∀ pg us s, arE H.gs pg us s ≠ 5 := fun pg us s => by unfold arE; split <;> (try split) <;> (try split) <;> decide
    unfold alE
    split
    · decide
    · split
      · exact e1
      · split
        · exact e2
        · exact e3 _ _ _
  have gl : ∀ i, glE H.gl i ≠ 5 := fun i => by unfold glE; split <;> decide
  have tp : ∀ i, topE H.fr i ≠ 5 := fun i => by
    unfold topE
    split
    · decide
    · split <;> decide
  cases hs
  case region => exact absurd h5 (rg _)
  case sub0 => cases h5
  case sub => exact absurd h5 (rg _)
  case delete a b c =>
    refine absurd h5 ?_
    unfold delE
    split <;> (try split) <;> (try split) <;> decide
  case new0 =>
    refine absurd h5 ?_
    unfold objE
    split <;> decide
  case new => exact absurd h5 (al _ _ _ _ _)
  case array0 =>
    refine absurd h5 ?_
    unfold arrE
    split <;> (try split) <;> decide
  case array => exact absurd h5 (al _ _ _ _ _)
  case set a b c =>
    refine ⟨rfl, ?_⟩
    unfold hsH
    rw [if_neg (by rw [h5]; decide)]
  case get a b c =>
    refine absurd h5 ?_
    unfold gtE ldE wrE
    split <;> (try split) <;> (try split) <;> decide
  case global a b c =>
    refine absurd h5 ?_
    unfold sgE
    split
    · exact gl _
    · split <;> decide
  case look => exact absurd h5 (gl _)
  case push =>
    refine absurd h5 ?_
    unfold pushE
    split <;> (try split) <;> decide
  case pop =>
    refine absurd h5 ?_
    unfold popE
    split <;> decide
  case slot a b c =>
    refine absurd h5 ?_
    unfold ssE
    split
    · exact tp _
    · split <;> decide
  case peek => exact absurd h5 (tp _)
  case count =>
    refine absurd h5 ?_
    unfold cntE
    split <;> decide
  case free => cases h5
  case none_ => cases h5
end
end Go.Proofs.YtcenagpkfimkbaaGreatDoor
namespace Go.Proofs.YtcenagpkfimkbaaGreatDoor
open Go Go.RowKit

theorem atM_rising (L : List (Int × Int)) : Rising (atM L) := by
  suffices h : ∀ (L : List (Int × Int)) (m : IM Int), Rising m → Rising (L.foldl (fun m p => mput m p.1 p.2) m) by exact h L [] List.Pairwise.nil
  intro L
  induction L with
  | nil => exact fun m h => h
  | cons p r ih => exact fun m h => ih _ (h.put _ _)
theorem atM_at : ∀ (L : List (Int × Int)) (m : IM Int), Rising m → L.Pairwise (fun p q => p.1 ≠ q.1) → ∀ x, (∀ id, (x, id) ∈ L → at0 (L.foldl (fun m p => mput m p.1 p.2) m) x = id) ∧ ((∀ id, (x, id) ∉ L) → at0 (L.foldl (fun m p => mput m p.1 p.2) m) x = at0 m x)
  | [], m, _, _, x => ⟨fun id h => (List.not_mem_nil h).elim, fun _ => rfl⟩
  | p :: r, m, hm, hp, x => by
    obtain ⟨p1, p2⟩ := List.pairwise_cons.1 hp
    obtain ⟨i1, i2⟩ := atM_at r (mput m p.1 p.2) (hm.put _ _) p2 x
    have hat : at0 (mput m p.1 p.2) x = if x = p.1 then p.2 else at0 m x := by
      unfold at0
      rw [lk_put hm]
      split <;> rfl
    refine ⟨fun id hid => ?_, fun hn => ?_⟩
    · rcases List.mem_cons.1 hid with e | e
      · have hno : ∀ id', (x, id') ∉ r := fun id' hid' => by
          have := p1 _ hid'
          rw [← e] at this
          exact this rfl
        rw [List.foldl_cons, i2 hno, hat, ← e, if_pos rfl]
      · exact i1 id e
    · have hx : x ≠ p.1 := fun e => hn p.2 (by rw [e]; simp)
      rw [List.foldl_cons, i2 (fun id hid => hn id (by simp [hid])), hat, if_neg hx]
section
variable {Pg n : Nat} {H : HM} {P : IM Int}
theorem Lay.at_objs (h : Lay Pg n H) {a id : Int} (hm : (a, id) ∈ objsL H) : at0 (atM (objsL H)) a = id := (atM_at (objsL H) [] List.Pairwise.nil h.objs_nodup a).1 id hm
theorem Parents.up (h : Parents H P) (hI : Lay Pg n H) (to : Int) : ∀ (f : Nat) (x : Int), (x = 0 ∨ LiveR H x) → upW P to f x = upW H.par to f x
  | 0, _, _ => rfl
  | f + 1, x, hx => by
    unfold upW
    split
    · rfl
    · rename_i hn
      rcases hx with e | e
      · exact absurd (.inl e) hn
      · obtain ⟨p, hp⟩ := Option.isSome_iff_exists.1 ((hI.par x).2 e)
        have hat : at0 H.par x = p := by unfold at0; rw [hp]; rfl
        rw [h.e x e, hat]
        exact Parents.up h hI to f p (hI.up x p hp).2.2
theorem Inv.sound (hI : Inv Pg n H) (h : Parents H P) : SoundOk H.ms H.ds (objsL H) (rootsL H) P := by
  have hn := hI.y.nn
  have hln := hI.y.ln
  have hol := hI.objs_len
  have h2 : n * n ≤ 200 * 200 := Nat.mul_le_mul hn hn
  refine ⟨?_, ?_, ?_, ?_, hI.y.ms, ?_, ?_, fun a => Nat.le_trans (onK_len hI.y.dd _ _) (by omega), by omega, by have := hI.roots_len; omega⟩
  · rintro ⟨a, id⟩ hp
    obtain ⟨A, p, hA, hq, rfl⟩ := hI.y.mem_objs.1 hp
    have hid := hI.y.idl hA
    have ht := hI.y.t2 id A hA p hq
    have hh := hI.y.h id A hA p hq
    have hpg := hI.y.pg
    refine ⟨?_, by simp only; omega, by simp only; omega, hid.2.1, by simp only; omega⟩
    unfold onI
    rw [if_pos hh.1]
  · rintro j ⟨a, id⟩ hj
    have hl : j < (objsL H).length := by
      rcases Nat.lt_or_ge j (objsL H).length with e | e
      · exact e
      · rw [List.getElem?_eq_none e] at hj; cases hj
    have hnd := hI.y.objs_nodup
    have h1 := (atM_at ((objsL H).take j) [] List.Pairwise.nil (hnd.sublist (List.take_sublist _ _)) a).2 (fun id' hid' => by
      obtain ⟨i, hi, hii⟩ := List.mem_take_iff_getElem.1 hid'
      have hpw := List.pairwise_iff_getElem.1 hnd i j (by omega) hl (by omega)
      rw [List.getElem?_eq_getElem hl] at hj
      rw [hii, Option.some.inj hj] at hpw
      exact hpw rfl)
    exact h1
  · rintro ⟨a, id⟩ hp i hi
    have hf : (id, (onK H.ms H.ds a)[i]?.getD 0, (onV H.ms H.ds a)[i]?.getD 0) ∈ fieldsL H := by
      unfold fieldsL
      exact List.mem_flatMap.2 ⟨(a, id), hp, by unfold flds; exact List.mem_map.2 ⟨i, List.mem_range.2 hi, rfl⟩⟩
    have hlive := hI.field_in hf
    rcases hI.fp _ hf with e | e | ⟨e, e2, e3⟩
    · exact .inl e
    · exact .inr (.inl e)
    · obtain ⟨id', A, q, hA, hq, h0, h1, _, h3⟩ := hI.y.start e
      have hat : at0 (atM (objsL H)) ((onV H.ms H.ds a)[i]?.getD 0) = id' := hI.y.at_objs (hI.y.mem_objs.2 ⟨A, q, hA, hq, h0⟩)
      simp only at h1 e2 e3
      rw [h1] at e2 e3
      refine .inr (.inr ⟨by simp only; rw [hat]; omega, fun k => by simp only; rw [hat]; exact e2 k, fun k => ?_⟩)
      simp only
      rw [hat]
      have := e3 k
      unfold upV at this ⊢
      rw [h.up hI.y _ _ _ (.inr hlive)]
      exact this
  · intro v hv h0
    have hs := (hI.rp v hv).resolve_left h0
    obtain ⟨id', A, q, hA, hq, h0, h1, _, h3⟩ := hI.y.start hs
    rw [hI.y.at_objs (hI.y.mem_objs.2 ⟨A, q, hA, hq, h0⟩)]
    omega
  · intro v hv
    have := hI.root_le hv
    omega
  · intro x hx
    unfold at0
    cases e : lk P x with
    | none => simp; exact hx
    | some p => have := h.k _ ((lk_some h.r).1 e); simp at this ⊢; omega
theorem Inv.objs_ok (hI : Inv Pg n H) : ItOk H ∧ H.live.length ≤ 100000 ∧ (∀ id ∈ keysL H.live, ∃ A, lk H.ar id = some A) ∧ (objsL H).length ≤ 100000 := by
  have hn := hI.y.nn
  have hol := hI.objs_len
  have h2 : n * n ≤ 200 * 200 := Nat.mul_le_mul hn hn
  refine ⟨hI.y.it, by have := hI.live_len; omega, fun id hid => ?_, by omega⟩
  obtain ⟨p, hp, rfl⟩ := List.mem_map.1 hid
  exact Option.isSome_iff_exists.1 ((hI.y.ar p.1).2 (by unfold LiveR; rw [(lk_some hI.y.rl).2 hp]; rfl))
end
end Go.Proofs.YtcenagpkfimkbaaGreatDoor
namespace Go.Proofs.YtcenagpkfimkbaaGreatDoor
open Go Go.RowKit
attribute [local go_sem ↓] Go.wp_at_zero Go.wp_at_succ

theorem mHeap_any (w : World) (mb hb : Nat) (hc : w.cell? ⟨mb, 0, none⟩ = some (.pointer (some ⟨hb, 0, none⟩))) :
    Calls Tryz.prog 13 #[.pointer (some ⟨mb, 0, none⟩)] w fun e w' => e = .returned (.pointer (some ⟨hb, 0, none⟩)) ∧ w = w' := by
  go_enter Tryz.func13, Tryz.ntmps13
  go_wp2
  go_ret
  exact ⟨rfl, rfl⟩

structure TsI (B : HB) (O0 O1 : Obj) (mb : Nat) (fa : Option Addr) (fc pb : Nat) (ST : Nat → Prop) (w : World) (Pg j : Nat) (H : HM) (S : Nat → Prop) (P : IM Int) (wr : World) : Prop where
  m : MSt B H O0 O1 mb fa fc wr S
  i : Inv Pg (2 * j) H
  p : Parents H P
  mp : MapAt .i64 3 wr pb (mapV (Value.int .i64) P)
  np : ¬ S pb
  nb : pb ≠ mb
  nf : ∀ q, fa = some q → q.block ≠ pb
  mv : Moved ST w wr
  sn : ∀ k, S k → ST k ∨ w.heap.size ≤ k
  wp : w.heap.size ≤ pb
section
variable {B : HB} {O0 O1 : Obj} {mb : Nat} {fa : Option Addr} {fc pb : Nat} {ST : Nat → Prop} {w : World} {Pg j : Nat} {H : HM} {S : Nat → Prop} {P : IM Int} {wr : World}
theorem TsI.later (h : TsI B O0 O1 mb fa fc pb ST w Pg j H S P wr) {w' : World} (hb : Below wr.heap.size wr w') : TsI B O0 O1 mb fa fc pb ST w Pg j H S P w' :=
  ⟨h.m.later hb, h.i, h.p, h.mp.later hb, h.np, h.nb, h.nf, h.mv.trans (Moved.of_below hb (fun _ => False)) (fun _ e => e.elim), h.sn, h.wp⟩
theorem TsI.none_ (h : TsI B O0 O1 mb fa fc pb ST w Pg j H S P wr) (hj : j < 80) {x : OpN} (hx : x.Ok) {v er : Int} {H' : HM} {S' : Nat → Prop} {w' : World} (hs : OpStep H x v er H') (hm : MSt B H' O0 O1 mb fa fc w' S') (hg : Grows S S' wr w') (hno : ¬ (er = 0 ∧ x.k = 2)) :
    TsI B O0 O1 mb fa fc pb ST w Pg (j + 1) H' S' P w' := by
  have hi : Inv Pg (2 * (j + 1)) H' := by
    have := hs.inv (n := 2 * j) h.i (by omega) hx
    rwa [show 2 * (j + 1) = 2 * j + 2 by omega]
  have hp := h.p.step h.i hs
  unfold parN at hp
  rw [if_neg hno] at hp
  refine ⟨hm, hi, hp, h.mp.moved hg.m h.np, fun e => ?_, h.nb, h.nf, h.mv.trans hg.m (fun q e => h.sn q e), fun k e => ?_, h.wp⟩
  · rcases hg.s _ e with e | e
    · exact h.np e
    · have := h.mp.lt; omega
  · rcases hg.s _ e with e | e
    · exact h.sn k e
    · exact .inr (Nat.le_trans h.mv.size e)
theorem TsI.put (h : TsI B O0 O1 mb fa fc pb ST w Pg j H S P wr) (hj : j < 80) {x : OpN} (hx : x.Ok) {v er : Int} {H' : HM} {S' : Nat → Prop} {w' w'' w3 : World} (hs : OpStep H x v er H') (hm : MSt B H' O0 O1 mb fa fc w' S') (hg : Grows S S' wr w') (hyes : er = 0 ∧ x.k = 2) (hb : Below w'.heap.size w' w'') (hM : MapAt .i64 3 w3 pb (mapV (Value.int .i64) (mput P v x.a))) (ht : w''.mapTurned w3 pb) :
    TsI B O0 O1 mb fa fc pb ST w Pg (j + 1) H' S' (mput P v x.a) w3 := by
  have hi : Inv Pg (2 * (j + 1)) H' := by
    have := hs.inv (n := 2 * j) h.i (by omega) hx
    rwa [show 2 * (j + 1) = 2 * j + 2 by omega]
  have hp := h.p.step h.i hs
  unfold parN at hp
  rw [if_pos hyes] at hp
  have hnp : ¬ S' pb := fun e => by
    rcases hg.s _ e with e | e
    · exact h.np e
    · have := h.mp.lt; omega
  have hm2 := hm.later hb
  have hmt : Moved (fun k => k = pb) w'' w3 := Moved.turned ht
  refine ⟨⟨(HeapSt.ok B H' O0 O1).moved hm2.h hmt (fun k hk e => hnp (e ▸ hk)), hm2.m.moved hmt h.nb.symm h.nf, hm2.nm, hm2.nf, fun q e => Nat.lt_of_lt_of_le (hm2.fl q e) hmt.size⟩, hi, hp, hM, hnp, h.nb, h.nf, ?_, fun k e => ?_, h.wp⟩
  · refine ((h.mv.trans hg.m (fun q e => h.sn q e)).trans (Moved.of_below hb (fun _ => False)) (fun _ e => e.elim)).trans hmt (fun q e => ?_)
    subst e
    exact .inr h.wp
  · rcases hg.s _ e with e | e
    · exact h.sn k e
    · exact .inr (Nat.le_trans h.mv.size e)
theorem OpStep.subOk {Pg n : Nat} {H' : HM} {x : OpN} {v er : Int} (hs : OpStep H x v er H') (hI : Inv Pg n H) (hn : n + 2 ≤ 200) (hx : x.Ok) (hyes : er = 0 ∧ x.k = 2) : 0 ≤ v ∧ v ≤ 200 ∧ 0 ≤ x.a ∧ x.a ≤ 200 := by
  have hi := hs.inv hI hn hx
  obtain ⟨h0, h2⟩ := hyes
  have hln := hI.y.ln
  have hl0 := hI.y.l0
  have hnn := hI.y.nn
  cases hs
  case sub a b c ab plb ha =>
    have hlv : LiveR H a := by
      unfold rgE at h0
      split at h0
      · cases h0
      · rename_i h1
        refine (hI.y.lives a).1 ?_
        cases hb : livesB H a
        · exact absurd ⟨ha, hb⟩ h1
        · rfl
    have := hI.y.lv a hlv
    unfold rgN
    rw [if_pos h0]
    simp only
    omega
  case sub0 => cases h0
  all_goals first | (cases h2) | skip
  rename_i hk
  exact absurd h0 (by decide)
theorem TsI.plen (h : TsI B O0 O1 mb fa fc pb ST w Pg j H S P wr) : P.length ≤ 200 := by
  have h1 := h.i.y.ln
  have h2 := h.i.y.nn
  exact rising_cap h.p.r fun p hp => by have := h.p.k p hp; omega
end
end Go.Proofs.YtcenagpkfimkbaaGreatDoor
namespace Go.Proofs.YtcenagpkfimkbaaGreatDoor
open Go Go.RowKit
attribute [local go_sem ↓] Go.wp_at_zero Go.wp_at_succ

theorem confB_yes {n g : Int} {ds : List (List Int)} (h : confB n g ds = true) : (1 ≤ n ∧ n ≤ 1024) ∧ (0 ≤ g ∧ g ≤ 64) ∧ listD ds = true := by
  unfold confB at h
  simpa [and_assoc] using h
set_option maxRecDepth 100000 in
set_option maxHeartbeats 8000000 in
theorem TopSlots_any (n g : Int) (ty : Option Addr) (ds : List (List Int)) (tc : Nat) (oa : Option Addr) (ops : List OpN) (oc : Nat) (O0 O1 : Obj) (ST : Nat → Prop) (w : World) (hT : TabsP O0 O1 w ST) (hD : Descs w ty ds) (hn : ds.length ≤ 9223372036854775807) (hops : OpsAt w oa ops) (hox : ∀ x ∈ ops, x.Ok) (hol : ops.length ≤ 9223372036854775807) (hos : ops ≠ [] → ∀ q, oa = some q → ¬ ST q.block) :
    Calls Tryz.prog 5 #[.agg #[.int .i64 n, .int .i64 g, .slice ty ds.length tc], .slice oa ops.length oc] w fun e w' => e = .returned (.bool true) ∧ Below w.heap.size w w' := by
  obtain ⟨X, hX⟩ : ∃ X, w.alloc (.cells #[.int .i64 n, .int .i64 g, .slice ty ds.length tc] 24) = X := ⟨_, rfl⟩
  have hbX : Below w.heap.size w X := by rw [← hX]; exact (Below.refl _ _).alloc (Nat.le_refl _) _
  have oX : X.heap[w.heap.size]? = some (.cells #[.int .i64 n, .int .i64 g, .slice ty ds.length tc] 24 (0, 0)) := by rw [← hX]; exact heap_alloc_eq _ _
  have k0 := heap_cell oX 0
  have k1 := heap_cell oX 1
  have k2 := heap_cell oX 2
  simp at k0 k1 k2
  have hG := Great22_any n g ty ds tc oa ops.length oc X (hD.below hbX) hn hol
  have HB := Lib.hid (And.intro hbX (And.intro hT (And.intro hD (And.intro hops (And.intro hox hos)))))
  clear hbX oX hT hD hops hox hos
  cases hg : great22 ds n ops.length
  · rw [hg] at hG
    obtain ⟨g1, g2, g3⟩ := great22_no hg
    obtain ⟨g4, g5⟩ := greatB_false g1
    clear hg g1
    cases hc : confB n g ds
    · have hN := fun w1 hb => rNewNo_any n g ty ds tc w1 (HB.out.2.1.2.2.1.below (HB.out.2.1.2.2.1).lt hb) (HB.out.2.2.1.below hb) (fun d hd => by have := g5 d hd; omega) hn hc
      clear hc g4 g5 g2
      go_enter Tryz.func5, Tryz.ntmps5
      go_wp2_with fail
      try rw [hX]
      go_wp2_with fail
      refine hG.mono ?_
      rintro e w1 ⟨rfl, hb1⟩
      have j0 := (hb1.cell (cell_lt k0)).trans k0
      have j1 := (hb1.cell (cell_lt k1)).trans k1
      have j2 := (hb1.cell (cell_lt k2)).trans k2
      have hbw : Below w.heap.size w w1 := HB.out.1.trans (hb1.mono HB.out.1.size)
      have hN1 := hN w1 hbw
      have H1 := Lib.hid hbw
      clear hG hb1 hN hbw
      go_wp2_with fail
      refine hN1.mono ?_
      rintro e w2 ⟨rfl, hb2⟩
      have hbw : Below w.heap.size w w2 := H1.out.trans (hb2.mono H1.out.size)
      have hS := speaks_any O0 O1 ST w2 ((TabsP.ok O0 O1).below HB.out.2.1 hbw)
      have H2 := Lib.hid hbw
      clear hN1 hb2 hbw
      go_wp2_with fail
      refine hS.mono ?_
      rintro e w3 ⟨rfl, hb3⟩
      have H3 := Lib.hid hb3
      clear hS hb3
      go_wp2
      go_ret
      exact ⟨rfl, H2.out.trans (H3.out.mono H2.out.size)⟩
    · obtain ⟨⟨c1, c2⟩, ⟨c3, c4⟩, hl⟩ := confB_yes hc
      obtain ⟨n, rfl⟩ : ∃ m : Nat, n = m := ⟨n.toNat, by omega⟩
      obtain ⟨g, rfl⟩ : ∃ m : Nat, g = m := ⟨g.toNat, by omega⟩
      have hN := fun w1 hb => rNew_any n g ty ds tc O0 O1 ST w1 ((TabsP.ok O0 O1).below HB.out.2.1 hb) (by omega) (by omega) (by omega) (HB.out.2.2.1.below hb) hl
      have HC := Lib.hid (And.intro c2 (And.intro c4 hl))
      clear hc g2 g4 g5 c1 c2 c3 c4 hl
      go_enter Tryz.func5, Tryz.ntmps5
      go_wp2_with fail
      try rw [hX]
      go_wp2_with fail
      refine hG.mono ?_
      rintro e w1 ⟨rfl, hb1⟩
      have j0 := (hb1.cell (cell_lt k0)).trans k0
      have j1 := (hb1.cell (cell_lt k1)).trans k1
      have j2 := (hb1.cell (cell_lt k2)).trans k2
      have hbw : Below w.heap.size w w1 := HB.out.1.trans (hb1.mono HB.out.1.size)
      have hN1 := hN w1 hbw
      have H1 := Lib.hid hbw
      clear hG hb1 hN hbw k0 k1 k2
      go_wp2_with fail
      refine hN1.mono ?_
      rintro e w2 ⟨B, mb, fa, fc, S1, rfl, hb2, hM2, hs2, hmb2, hfa2⟩
      have hHp := mHeap_any w2 mb B.hb hM2.m0
      have H2 := Lib.hid (And.intro hb2 (And.intro hM2 (And.intro hs2 (And.intro hmb2 hfa2))))
      clear hN1 hb2 hM2 hs2 hmb2 hfa2
      go_wp2_with fail
      refine hHp.mono ?_
      rintro e w3 ⟨rfl, rfl⟩
      clear hHp j0 j1 j2
      have hmm := @run_makeMap Tryz.prog
      go_wp2
      go_loopw [9, 10, 11, 12, 41] (fun _ _ _ _ i wr => ∃ j : Nat, j ≤ ops.length ∧ i = .int .i64 j ∧ ∃ H S P, Hid (TsI B O0 O1 mb fa fc w2.heap.size ST w n j H S P wr)) (fun _ _ _ _ i _ => ops.length - (intOf i).toNat)
      case atStart =>
        obtain ⟨g1, g2, g3, g4, g5⟩ := H2.out
        have hbm : Below w2.heap.size w2 (w2.alloc (.map #[] 0)) := (Below.refl _ _).alloc (Nat.le_refl _) _
        refine ⟨0, Nat.zero_le _, rfl, newH n g ds, S1, [], Lib.hid ⟨g2.later hbm, Inv.new (by have := HC.out.1; omega) (by have := HC.out.2.1; omega) HC.out.2.2, Parents.new n g ds, MapAt.made w2, fun e => by have := g2.lt _ e; omega, fun e => by have := heap_lt g2.m.blk; omega, fun q e => by have := (g5 q e).2; omega, Moved.of_below ((H1.out.trans (g1.mono H1.out.size)).trans (hbm.mono (Nat.le_trans H1.out.size g1.size))) _, fun k e => (g3 k e).imp_right (fun e => Nat.le_trans H1.out.size e), Nat.le_trans H1.out.size g1.size⟩⟩
      case round =>
        obtain ⟨j, hj, rfl, H, S, P, HV⟩ := hrel
        by_cases hlt : j < ops.length
        · have hopr := HB.out.2.2.2.1.moved HV.out.mv (fun q e => HB.out.2.2.2.2.2 (fun e => by subst e; simp at hlt) q e)
          obtain ⟨x, hx⟩ : ∃ x, ops[j]? = some x := ⟨_, List.getElem?_eq_getElem hlt⟩
          have hxk := HB.out.2.2.2.2.1 x (List.mem_of_getElem? hx)
          rcases hopr with hopr | ⟨b, off, rfl, hc⟩
          · subst hopr; simp at hlt
          obtain ⟨c0, c1, c2, c3⟩ := hc j x hx
          clear hc
          obtain ⟨W1, hW1⟩ : ∃ W1, wr.alloc (.cells #[.int .i64 x.k, .int .u64 x.a, .int .u64 x.b, .int .u64 x.c] 36) = W1 := ⟨_, rfl⟩
          have hbn : Below wr.heap.size wr W1 := by rw [← hW1]; exact (Below.refl _ _).alloc (Nat.le_refl _) _
          have oW : W1.heap[wr.heap.size]? = some (.cells #[.int .i64 x.k, .int .u64 x.a, .int .u64 x.b, .int .u64 x.c] 36 (0, 0)) := by rw [← hW1]; exact heap_alloc_eq _ _
          have d0 := heap_cell oW 0
          have d1 := heap_cell oW 1
          have d2 := heap_cell oW 2
          have d3 := heap_cell oW 3
          simp at d0 d1 d2 d3
          have HV1 := Lib.hid (HV.out.later hbn)
          have hHp := mHeap_any W1 mb B.hb HV1.out.m.m0
          obtain ⟨u1, u2, u3, u4⟩ := HV1.out.i.objs_ok
          have hO := hObjects_any HV1.out.m.h u1 u2 u3 u4
          have HW := Lib.hid (And.intro hbn (And.intro oW hxk))
          clear u1 u2 u3 u4 hbn oW hx hxk
          go_wp2_with fail
          try rw [hW1]
          go_wp2_with fail
          refine hHp.mono ?_
          rintro e w3 ⟨rfl, rfl⟩
          clear hHp
          go_wp2_with fail
          refine hO.mono ?_
          rintro e w3 ⟨vw, SO, rfl, hP, hb3, hge⟩
          obtain ⟨ga, ca, aa, hsl⟩ := hP.sl
          obtain rfl := hsl.v
          have e0 := (hb3.cell (cell_lt d0)).trans d0
          have e1 := (hb3.cell (cell_lt d1)).trans d1
          have e2 := (hb3.cell (cell_lt d2)).trans d2
          have e3 := (hb3.cell (cell_lt d3)).trans d3
          have HV3 := Lib.hid (HV1.out.later hb3)
          have hDo := do_all HV3.out.m HV3.out.i x HW.out.2.2
          have HP := Lib.hid (And.intro hP (And.intro hb3 (And.intro hge hsl)))
          obtain ⟨N, hN⟩ : ∃ N, (objsL H).length = N := ⟨_, rfl⟩
          rw [hN]
          have HN := Lib.hid hN
          clear hO hP hb3 hge hsl d0 d1 d2 d3 hN
          go_wp2_with fail
          refine hDo.mono ?_
          rintro e w4 ⟨v, er, H', S', rfl, hst, hM4, hg4⟩
          obtain ⟨rv, hrv⟩ : ∃ rv, (if er = 0 then v else 0) = rv := ⟨_, rfl⟩
          obtain ⟨W5, hW5⟩ : ∃ W5, w4.alloc (.cells #[.int .i64 er, .int .u64 rv] 39) = W5 := ⟨_, rfl⟩
          have hb5 : Below w4.heap.size w4 W5 := by rw [← hW5]; exact (Below.refl _ _).alloc (Nat.le_refl _) _
          have oR : W5.heap[w4.heap.size]? = some (.cells #[.int .i64 er, .int .u64 rv] 39 (0, 0)) := by rw [← hW5]; exact heap_alloc_eq _ _
          have r0 := heap_cell oR 0
          have r1 := heap_cell oR 1
          simp at r0 r1
          have hSlt := HV3.out.m.lt
          have hno : ¬ S wr.heap.size := fun e => by have := HV.out.m.lt _ e; omega
          have f0 := (hb5.cell (p := ⟨wr.heap.size, 0, none⟩) (cell_lt (hg4.m.cell e0 hno))).trans (hg4.m.cell e0 hno)
          have f1 := (hb5.cell (p := ⟨wr.heap.size, 1, none⟩) (cell_lt (hg4.m.cell e1 hno))).trans (hg4.m.cell e1 hno)
          have hOs : ObjsP H.ms H.ds (.slice aa N ca) (objsL H) W5 SO := by
            have h1 := HP.out.1
            rw [HN.out] at h1
            refine (ObjsP.ok _ _ _ _).below ((ObjsP.ok _ _ _ _).moved h1 hg4.m (fun k hk e => ?_)) hb5
            have := HV1.out.m.lt k e
            have := HP.out.2.2.1 k hk
            omega
          have H5 := Lib.hid (And.intro hst (And.intro hM4 (And.intro hg4 (And.intro hb5 hOs))))
          clear hDo e0 e1 e2 e3 hst hM4 hg4 hb5 oR hSlt hno hOs
          by_cases hyes : er = 0 ∧ x.k = 2
          · obtain ⟨v0, v1, a0, a1⟩ := H5.out.1.subOk HV3.out.i (by omega) HW.out.2.2 hyes
            obtain ⟨w6, hs6, hm6, ht6⟩ := ((HV3.out.mp.moved H5.out.2.2.1.m HV3.out.np).later H5.out.2.2.2.1).store (t := 61) (e := 3) Tryz.underlying3 Tryz.underlying61 (by rw [mapV_length]; have := HV3.out.plen; unfold maxLen; omega) v (.int .i64 x.a) (wf_i64 (by omega) (by omega))
            have hm6' : MapAt .i64 3 w6 w2.heap.size (mapV (Value.int .i64) (mput P v x.a)) := by rw [← mput_mapV]; exact hm6
            have HV6 := Lib.hid (HV3.out.put (by omega) HW.out.2.2 H5.out.1 H5.out.2.1 H5.out.2.2.1 hyes H5.out.2.2.2.1 hm6' ht6)
            obtain ⟨h0, hk⟩ := hyes
            rw [if_pos h0] at hrv
            subst hrv
            rw [hk] at f0
            have y1 : IntKind.i64.wrap v = v := by rw [IntKind.wrap_i64]; omega
            have y2 : IntKind.i64.wrap x.a = x.a := by rw [IntKind.wrap_i64]; omega
            have hmt : Moved (fun k => k = w2.heap.size) W5 w6 := Moved.turned ht6
            have z1 : ¬ (w4.heap.size = w2.heap.size) := fun e => by have := HV3.out.mp.lt; have := H5.out.2.2.1.m.size; omega
            have z2 : ¬ (wr.heap.size = w2.heap.size) := fun e => by have := HV.out.mp.lt; omega
            have t0 := hmt.cell r0 z1
            have t1 := hmt.cell f0 z2
            subst h0
            have HR := Lib.hid (And.intro t0 t1)
            clear hm6 hm6' ht6 hk hmt z1 z2 t0 t1
            have hHp6 := mHeap_any w6 mb B.hb HV6.out.m.m0
            obtain ⟨q1, q2, q3, q4⟩ := HV6.out.i.objs_ok
            have hO6 := hObjects_any HV6.out.m.h q1 q2 q3 q4
            clear q1 q2 q3 q4
            go_wp2_with fail
            try rw [hW5]
            go_wp2_with fail
            clear r0 f0 r1 f1
            obtain ⟨r0, f0⟩ := HR.out
            refine hHp6.mono ?_
            rintro e w7 ⟨rfl, rfl⟩
            clear hHp6
            go_wp2_with fail
            refine hO6.mono ?_
            rintro e w7 ⟨vn, SO2, rfl, hP7, hb7, hge7⟩
            obtain ⟨gb, cb, ab, hsl7⟩ := hP7.sl
            obtain rfl := hsl7.v
            have s0 := (hb7.cell (cell_lt r0)).trans r0
            have s1 := (hb7.cell (cell_lt f0)).trans f0
            have HV7 := Lib.hid (HV6.out.later hb7)
            obtain ⟨N2, hN2⟩ : ∃ N2, (objsL H').length = N2 := ⟨_, rfl⟩
            rw [hN2]
            have H7 := Lib.hid (And.intro hN2 hsl7)
            clear hO6 hP7 hb7 hge7 hN2 hsl7
            obtain ⟨w8, hw8⟩ : ∃ w8, w8 = w7 := ⟨_, rfl⟩
            have HV8 := HV7
            have H8 := Lib.hid (Below.refl w7.heap.size w7)
            rw [← hw8] at s0 s1
            have H8 : Hid (Below w7.heap.size w7 w8) := Lib.hid (by rw [hw8]; exact Below.refl _ _)
            rw [← hw8] at HV8
            rw [← hw8]
            clear hw8
            have hHp8 := mHeap_any w8 mb B.hb HV8.out.m.m0
            have hR8 := hRoots_any HV8.out.m.h (by have := HV8.out.i.roots_len; unfold rootsL at this; rw [List.length_append] at this; omega)
            go_wp2_with fail
            refine hHp8.mono ?_
            rintro e w9 ⟨rfl, rfl⟩
            clear hHp8
            go_wp2_with fail
            refine hR8.mono ?_
            rintro e w9 ⟨vr, rfl, hb9, ho9⟩
            obtain ⟨ar9, cr9, rfl, hr9, _⟩ := owns_reads ho9
            have HV9 := Lib.hid (HV8.out.later hb9)
            obtain ⟨M2, hM2⟩ : ∃ M2, (rootsL H').length = M2 := ⟨_, rfl⟩
            have hSd : Calls Tryz.prog 16 #[.slice ab N2 cb, .slice ar9 M2 cr9, .map (some w2.heap.size)] w9 (fun e w' => e = .returned (.bool true) ∧ Below w9.heap.size w9 w') := by
              have h1 := (H7.out.2.below H8.out).below (hb9)
              rw [H7.out.1] at h1
              have h2 := sound_any h1 hr9 (rc := cr9) HV9.out.mp (HV9.out.i.sound HV9.out.p)
              rw [hM2] at h2
              exact h2
            rw [hM2]
            clear hR8 hb9 ho9 hr9 hM2
            go_wp2_with fail
            refine hSd.mono ?_
            rintro e w10 ⟨rfl, hb10⟩
            have HVA := Lib.hid (HV9.out.later hb10)
            clear hSd hb10
            go_wp2
            go_roundw
            case rel => exact ⟨j + 1, by omega, by go_num, _, _, _, HVA⟩
            case measure => simp [intOf]; omega
          · have HV6 := Lib.hid ((HV3.out.none_ (by omega) HW.out.2.2 H5.out.1 H5.out.2.1 H5.out.2.2.1 hyes).later H5.out.2.2.2.1)
            by_cases h5 : er = 5
            · obtain ⟨hk, hH⟩ := H5.out.1.five h5
              subst hH
              rw [if_neg (by omega)] at hrv
              subst hrv
              subst h5
              rw [hk] at f0
              clear hk hyes
              have hHp6 := mHeap_any W5 mb B.hb HV6.out.m.m0
              obtain ⟨q1, q2, q3, q4⟩ := HV6.out.i.objs_ok
              have hO6 := hObjects_any HV6.out.m.h q1 q2 q3 q4
              clear q1 q2 q3 q4
              have HW5 := Lib.hid hW5
              clear hW5
              go_wp2_with fail
              rw [HW5.out]
              refine hHp6.mono ?_
              rintro e w7 ⟨rfl, rfl⟩
              clear hHp6
              go_wp2_with fail
              refine hO6.mono ?_
              rintro e w7 ⟨vn, SO2, rfl, hP7, hb7, hge7⟩
              obtain ⟨gb, cb, ab, hsl7⟩ := hP7.sl
              obtain rfl := hsl7.v
              have s0 := (hb7.cell (cell_lt r0)).trans r0
              have s1 := (hb7.cell (cell_lt f0)).trans f0
              have HV7 := Lib.hid (HV6.out.later hb7)
              obtain ⟨N2, hN2⟩ : ∃ N2, (objsL H').length = N2 := ⟨_, rfl⟩
              rw [hN2]
              have HO := Lib.hid ((ObjsP.ok _ _ _ _).below H5.out.2.2.2.2 hb7)
              have H7 := Lib.hid (And.intro hN2 hsl7)
              clear hO6 hP7 hb7 hge7 hN2 hsl7
              obtain ⟨gc, cc, ac, hslW⟩ := HO.out.sl
              have hA : Calls Tryz.prog 15 #[.slice aa N ca, .slice ab N2 cb] w7 (fun e w' => e = .returned (.bool true) ∧ Below w7.heap.size w7 w') := by
                have h1 := H7.out.2
                rw [H7.out.1] at h1
                exact alike_any hslW h1 HV7.out.i.objs_ok.2.2.2 (fun a => Nat.le_trans (by rw [onV_length]; exact onK_len HV7.out.i.y.dd _ _) (by omega))
              clear hslW
              go_wp2_with fail
              refine hA.mono ?_
              rintro e w8 ⟨rfl, hb8⟩
              have HV8 := Lib.hid (HV7.out.later hb8)
              have H8 := Lib.hid hb8
              clear hA hb8 s0 s1
              have hHp8 := mHeap_any w8 mb B.hb HV8.out.m.m0
              have hR8 := hRoots_any HV8.out.m.h (by have := HV8.out.i.roots_len; unfold rootsL at this; rw [List.length_append] at this; omega)
              go_wp2_with fail
              refine hHp8.mono ?_
              rintro e w9 ⟨rfl, rfl⟩
              clear hHp8
              go_wp2_with fail
              refine hR8.mono ?_
              rintro e w9 ⟨vr, rfl, hb9, ho9⟩
              obtain ⟨ar9, cr9, rfl, hr9, _⟩ := owns_reads ho9
              have HV9 := Lib.hid (HV8.out.later hb9)
              obtain ⟨M2, hM2⟩ : ∃ M2, (rootsL H').length = M2 := ⟨_, rfl⟩
              have hSd : Calls Tryz.prog 16 #[.slice ab N2 cb, .slice ar9 M2 cr9, .map (some w2.heap.size)] w9 (fun e w' => e = .returned (.bool true) ∧ Below w9.heap.size w9 w') := by
                have h1 := (H7.out.2.below H8.out).below (hb9)
                rw [H7.out.1] at h1
                have h2 := sound_any h1 hr9 (rc := cr9) HV9.out.mp (HV9.out.i.sound HV9.out.p)
                rw [hM2] at h2
                exact h2
              rw [hM2]
              clear hR8 hb9 ho9 hr9 hM2
              go_wp2_with fail
              refine hSd.mono ?_
              rintro e w10 ⟨rfl, hb10⟩
              have HVA := Lib.hid (HV9.out.later hb10)
              clear hSd hb10
              go_wp2
              go_roundw
              case rel => exact ⟨j + 1, by omega, by go_num, _, _, _, HVA⟩
              case measure => simp [intOf]; omega
            · by_cases h0 : er = 0
              · have hk : ¬ x.k = 2 := fun e => hyes ⟨h0, e⟩
                rw [if_pos h0] at hrv
                subst hrv
                subst h0
                clear hyes h5
                have hHp6 := mHeap_any W5 mb B.hb HV6.out.m.m0
                obtain ⟨q1, q2, q3, q4⟩ := HV6.out.i.objs_ok
                have hO6 := hObjects_any HV6.out.m.h q1 q2 q3 q4
                clear q1 q2 q3 q4
                go_wp2_with fail
                try rw [hW5]
                go_wp2_with fail
                refine hHp6.mono ?_
                rintro e w7 ⟨rfl, rfl⟩
                clear hHp6
                go_wp2_with fail
                refine hO6.mono ?_
                rintro e w7 ⟨vn, SO2, rfl, hP7, hb7, hge7⟩
                obtain ⟨gb, cb, ab, hsl7⟩ := hP7.sl
                obtain rfl := hsl7.v
                have s0 := (hb7.cell (cell_lt r0)).trans r0
                have s1 := (hb7.cell (cell_lt f0)).trans f0
                have HV7 := Lib.hid (HV6.out.later hb7)
                obtain ⟨N2, hN2⟩ : ∃ N2, (objsL H').length = N2 := ⟨_, rfl⟩
                rw [hN2]
                have H7 := Lib.hid (And.intro hN2 hsl7)
                clear hO6 hP7 hb7 hge7 hN2 hsl7
                obtain ⟨w8, hw8⟩ : ∃ w8, w8 = w7 := ⟨_, rfl⟩
                have HV8 := HV7
                have H8 := Lib.hid (Below.refl w7.heap.size w7)
                rw [← hw8] at s0 s1
                have H8 : Hid (Below w7.heap.size w7 w8) := Lib.hid (by rw [hw8]; exact Below.refl _ _)
                rw [← hw8] at HV8
                rw [← hw8]
                clear hw8
                have hHp8 := mHeap_any w8 mb B.hb HV8.out.m.m0
                have hR8 := hRoots_any HV8.out.m.h (by have := HV8.out.i.roots_len; unfold rootsL at this; rw [List.length_append] at this; omega)
                go_wp2_with fail
                refine hHp8.mono ?_
                rintro e w9 ⟨rfl, rfl⟩
                clear hHp8
                go_wp2_with fail
                refine hR8.mono ?_
                rintro e w9 ⟨vr, rfl, hb9, ho9⟩
                obtain ⟨ar9, cr9, rfl, hr9, _⟩ := owns_reads ho9
                have HV9 := Lib.hid (HV8.out.later hb9)
                obtain ⟨M2, hM2⟩ : ∃ M2, (rootsL H').length = M2 := ⟨_, rfl⟩
                have hSd : Calls Tryz.prog 16 #[.slice ab N2 cb, .slice ar9 M2 cr9, .map (some w2.heap.size)] w9 (fun e w' => e = .returned (.bool true) ∧ Below w9.heap.size w9 w') := by
                  have h1 := (H7.out.2.below H8.out).below (hb9)
                  rw [H7.out.1] at h1
                  have h2 := sound_any h1 hr9 (rc := cr9) HV9.out.mp (HV9.out.i.sound HV9.out.p)
                  rw [hM2] at h2
                  exact h2
                rw [hM2]
                clear hR8 hb9 ho9 hr9 hM2
                go_wp2_with fail
                refine hSd.mono ?_
                rintro e w10 ⟨rfl, hb10⟩
                have HVA := Lib.hid (HV9.out.later hb10)
                clear hSd hb10
                go_wp2
                go_roundw
                case rel => exact ⟨j + 1, by omega, by go_num, _, _, _, HVA⟩
                case measure => simp [intOf]; omega
              · rw [if_neg h0] at hrv
                subst hrv
                clear hyes
                have hHp6 := mHeap_any W5 mb B.hb HV6.out.m.m0
                obtain ⟨q1, q2, q3, q4⟩ := HV6.out.i.objs_ok
                have hO6 := hObjects_any HV6.out.m.h q1 q2 q3 q4
                clear q1 q2 q3 q4
                have HW5 := Lib.hid hW5
                clear hW5
                go_wp2_with fail
                rw [HW5.out]
                refine hHp6.mono ?_
                rintro e w7 ⟨rfl, rfl⟩
                clear hHp6
                go_wp2_with fail
                refine hO6.mono ?_
                rintro e w7 ⟨vn, SO2, rfl, hP7, hb7, hge7⟩
                obtain ⟨gb, cb, ab, hsl7⟩ := hP7.sl
                obtain rfl := hsl7.v
                have s0 := (hb7.cell (cell_lt r0)).trans r0
                have s1 := (hb7.cell (cell_lt f0)).trans f0
                have HV7 := Lib.hid (HV6.out.later hb7)
                obtain ⟨N2, hN2⟩ : ∃ N2, (objsL H').length = N2 := ⟨_, rfl⟩
                rw [hN2]
                have H7 := Lib.hid (And.intro hN2 hsl7)
                clear hO6 hP7 hb7 hge7 hN2 hsl7
                obtain ⟨w8, hw8⟩ : ∃ w8, w8 = w7 := ⟨_, rfl⟩
                have HV8 := HV7
                have H8 := Lib.hid (Below.refl w7.heap.size w7)
                rw [← hw8] at s0 s1
                have H8 : Hid (Below w7.heap.size w7 w8) := Lib.hid (by rw [hw8]; exact Below.refl _ _)
                rw [← hw8] at HV8
                rw [← hw8]
                clear hw8
                have hHp8 := mHeap_any w8 mb B.hb HV8.out.m.m0
                have hR8 := hRoots_any HV8.out.m.h (by have := HV8.out.i.roots_len; unfold rootsL at this; rw [List.length_append] at this; omega)
                go_wp2_with fail
                refine hHp8.mono ?_
                rintro e w9 ⟨rfl, rfl⟩
                clear hHp8
                go_wp2_with fail
                refine hR8.mono ?_
                rintro e w9 ⟨vr, rfl, hb9, ho9⟩
                obtain ⟨ar9, cr9, rfl, hr9, _⟩ := owns_reads ho9
                have HV9 := Lib.hid (HV8.out.later hb9)
                obtain ⟨M2, hM2⟩ : ∃ M2, (rootsL H').length = M2 := ⟨_, rfl⟩
                have hSd : Calls Tryz.prog 16 #[.slice ab N2 cb, .slice ar9 M2 cr9, .map (some w2.heap.size)] w9 (fun e w' => e = .returned (.bool true) ∧ Below w9.heap.size w9 w') := by
                  have h1 := (H7.out.2.below H8.out).below (hb9)
                  rw [H7.out.1] at h1
                  have h2 := sound_any h1 hr9 (rc := cr9) HV9.out.mp (HV9.out.i.sound HV9.out.p)
                  rw [hM2] at h2
                  exact h2
                rw [hM2]
                clear hR8 hb9 ho9 hr9 hM2
                go_wp2_with fail
                refine hSd.mono ?_
                rintro e w10 ⟨rfl, hb10⟩
                have HVA := Lib.hid (HV9.out.later hb10)
                clear hSd hb10
                go_wp2
                go_roundw
                case rel => exact ⟨j + 1, by omega, by go_num, _, _, _, HVA⟩
                case measure => simp [intOf]; omega
        · obtain rfl : j = ops.length := by omega
          have hb : Below w.heap.size w wr := below_of_tabs HB.out.2.1 HV.out.mv HV.out.m.h.tab01
          have hS := speaks_any O0 O1 ST wr ((TabsP.ok O0 O1).below HB.out.2.1 hb)
          have HS := Lib.hid hb
          clear hb
          go_wp2_with fail
          refine hS.mono ?_
          rintro e w3 ⟨rfl, hb3⟩
          have H3 := Lib.hid hb3
          clear hS hb3
          go_wp2
          go_ret
          exact ⟨rfl, HS.out.trans (H3.out.mono HS.out.size)⟩
  · rw [hg] at hG
    clear hg
    go_enter Tryz.func5, Tryz.ntmps5
    go_wp2_with fail
    try rw [hX]
    go_wp2_with fail
    refine hG.mono ?_
    rintro e w1 ⟨rfl, hb1⟩
    have hbw : Below w.heap.size w w1 := HB.out.1.trans (hb1.mono HB.out.1.size)
    have hS := speaks_any O0 O1 ST w1 ((TabsP.ok O0 O1).below HB.out.2.1 hbw)
    have H1 := Lib.hid hbw
    clear hG hb1 hbw
    go_wp2_with fail
    refine hS.mono ?_
    rintro e w2 ⟨rfl, hb2⟩
    have H2 := Lib.hid hb2
    clear hS hb2
    go_wp2
    go_ret
    exact ⟨rfl, H1.out.trans (H2.out.mono H1.out.size)⟩
end Go.Proofs.YtcenagpkfimkbaaGreatDoor
