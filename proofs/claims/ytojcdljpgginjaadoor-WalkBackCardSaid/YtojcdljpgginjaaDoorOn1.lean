/-
  What stands at a word: the object, or why there is none. Plain.
-/
import Derived.Test.YtojcdljpgginjaaDoorRKinds
import Derived.Test.YtojcdljpgginjaaDoorHead2
import Derived.Test.YtojcdljpgginjaaDoorHas
import Derived.Test.YtojcdljpgginjaaDoorSet8
namespace Go.Proofs.YtojcdljpgginjaaDoor
open Go Go.RowKit

def onX (xs : List Int) (at_ : Int) : Int := xs.getD (at_ - 1).toNat 0
def onE (xs : List Int) (ds : List (List Int)) (at_ : Int) : Int :=
  if 1 ≤ at_ ∧ at_ ≤ xs.length then
    (if getB (onX xs at_) = true then
      (if knE ds (gA (onX xs at_)) (gK (onX xs at_)) (gT (onX xs at_)) (gN (onX xs at_)) = 0 then
        (if at_ + (knL ds (gA (onX xs at_)) (gK (onX xs at_)) (gT (onX xs at_)) (gN (onX xs at_))).length ≤ xs.length then 0 else 8)
      else knE ds (gA (onX xs at_)) (gK (onX xs at_)) (gT (onX xs at_)) (gN (onX xs at_)))
    else 11)
  else 8
def onI (xs : List Int) (ds : List (List Int)) (at_ v : Int) : Int := if onE xs ds at_ = 0 then v else 0
def onA (xs : List Int) (ds : List (List Int)) (at_ : Int) : Bool := if onE xs ds at_ = 0 then gA (onX xs at_) else false
def onK (xs : List Int) (ds : List (List Int)) (at_ : Int) : List Int := if onE xs ds at_ = 0 then knL ds (gA (onX xs at_)) (gK (onX xs at_)) (gT (onX xs at_)) (gN (onX xs at_)) else []
def onV (xs : List Int) (ds : List (List Int)) (at_ : Int) : List Int := if onE xs ds at_ = 0 then (xs.drop at_.toNat).take (onK xs ds at_).length else []

/-- An object comes back, and an error's number. -/
def OneRet (O : Addr → Prop) (xs : List Int) (ds : List (List Int)) (at_ : Int) (w : World) (e : Ending) (w' : World) : Prop :=
  ∃ (y1 y2 : Option Addr) (c1 c2 : Nat), e = .returned (.tuple #[.agg #[.int .i64 (onI xs ds at_ at_), .int .i64 0, .bool (onA xs ds at_), .int .i64 (onI xs ds at_ (gK (onX xs at_))), .int .i64 (onI xs ds at_ (gT (onX xs at_))), .int .i64 (onI xs ds at_ (gN (onX xs at_))), .slice y1 (onK xs ds at_).length c1, .slice y2 (onV xs ds at_).length c2], .int .i64 (onE xs ds at_)]) ∧
    Below w.heap.size w w' ∧ Reads .i64 w' y1 (onK xs ds at_) ∧ Reads .u64 w' y2 (onV xs ds at_) ∧ (onK xs ds at_ = [] ∨ ∀ p, y1 = some p → O p ∨ w.heap.size ≤ p.block) ∧ (onV xs ds at_ = [] ∨ ∀ p, y2 = some p → O p ∨ w.heap.size ≤ p.block)
theorem one_no {O : Addr → Prop} {xs : List Int} {ds : List (List Int)} {at_ E : Int} {w w' : World} (h : onE xs ds at_ = E) (hE : E ≠ 0) (hb : Below w.heap.size w w') :
    OneRet O xs ds at_ w (.returned (.tuple #[.agg #[.int .i64 0, .int .i64 0, .bool false, .int .i64 0, .int .i64 0, .int .i64 0, .slice none 0 0, .slice none 0 0], .int .i64 E])) w' := by
  have h0 : ¬ onE xs ds at_ = 0 := by rw [h]; exact hE
  have k : onK xs ds at_ = [] := by rw [onK, if_neg h0]
  have v : onV xs ds at_ = [] := by rw [onV, if_neg h0]
  refine ⟨none, none, 0, 0, ?_, hb, .inl k, .inl v, .inl k, .inl v⟩
  rw [k, v, show onA xs ds at_ = false by rw [onA, if_neg h0], show ∀ z, onI xs ds at_ z = 0 from fun z => by rw [onI, if_neg h0], show ∀ z, onI xs ds at_ z = 0 from fun z => by rw [onI, if_neg h0], show ∀ z, onI xs ds at_ z = 0 from fun z => by rw [onI, if_neg h0], show ∀ z, onI xs ds at_ z = 0 from fun z => by rw [onI, if_neg h0], h]
  rfl
theorem one_yes {O : Addr → Prop} {xs : List Int} {ds : List (List Int)} {at_ : Int} {x : Int} {L : List Int} {w w' : World} {y1 y2 : Option Addr} {c1 c2 : Nat} (h : onE xs ds at_ = 0) (hx : onX xs at_ = x) (hL : knL ds (gA x) (gK x) (gT x) (gN x) = L) (hl : ((xs.drop at_.toNat).take L.length).length = L.length) (hb : Below w.heap.size w w') (h1 : Reads .i64 w' y1 L) (h2 : Reads .u64 w' y2 ((xs.drop at_.toNat).take L.length)) (o1 : L = [] ∨ ∀ p, y1 = some p → O p ∨ w.heap.size ≤ p.block) (o2 : (xs.drop at_.toNat).take L.length = [] ∨ ∀ p, y2 = some p → O p ∨ w.heap.size ≤ p.block) :
    OneRet O xs ds at_ w (.returned (.tuple #[.agg #[.int .i64 at_, .int .i64 0, .bool (gA x), .int .i64 (gK x), .int .i64 (gT x), .int .i64 (gN x), .slice y1 L.length c1, .slice y2 L.length c2], .int .i64 0])) w' := by
  have k : onK xs ds at_ = L := by rw [onK, if_pos h, hx, hL]
  have v : onV xs ds at_ = (xs.drop at_.toNat).take L.length := by rw [onV, if_pos h, k]
  refine ⟨y1, y2, c1, c2, ?_, hb, by rw [k]; exact h1, by rw [v]; exact h2, by rw [k]; exact o1, by rw [v]; exact o2⟩
  rw [k, v, hl, show onA xs ds at_ = gA x by rw [onA, if_pos h, hx], h, hx]
  simp [onI, h]
end Go.Proofs.YtojcdljpgginjaaDoor
