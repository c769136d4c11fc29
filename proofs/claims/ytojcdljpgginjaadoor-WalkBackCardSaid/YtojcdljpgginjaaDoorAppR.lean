/-
  append of a row that is read (nil or not) onto a row of one's own.
-/
import Derived.Test.YtojcdljpgginjaaDoorOwnK
import Derived.Laws.AppendOwnNone
namespace Go.Proofs.YtojcdljpgginjaaDoor
open Go Go.RowKit

theorem wpList_append_reads {P : Program} {w : World} {ops : Array Oper} {rest : List Oper} {o : Oper} {a : Act} {Q : Exit → Act → World → Prop} (hgd : o.guard = none) (s x : Operand) (t : TypeId)
    (ho : o.op = .call { callee := .builtin .append, args := #[s, x], argTypes := #[t, t] })
    (base : Nat) (e : TypeId) (i : TypeInfo) (z : Value) (bytes : Nat) (ht : P.underlying t = some (.slice e)) (hi : P.info? e = some i) (hz : i.zero = some z)
    (hsize : i.size = 1) (hby : i.bytes = bytes) (hzs : z.cells.size = 1)
    (v : Value) (n : Nat) (ys : List Value) (hs : a.eval s = v) (hown : w.ownsRow base e 1 v n ys) {k : IntKind} (xa : Option Addr) (xs : List Int) (c : Nat) (hx : a.eval x = .slice xa xs.length c) (hR : Reads k w xa xs) (hnil : xa = none → xs = [] ∧ c = 0)
    (h63 : n + xs.length ≤ maxLen) (hbytes : (n + xs.length) * bytes ≤ 140737488355328) (hbase : base ≤ w.heap.size)
    (h : ∀ v' w', w'.ownsRow base e 1 v' (n + xs.length) (ys ++ xs.map (Value.int k)) → w.grownBy w' v.ownBlock → (v' = .slice none 0 0 ↔ v = .slice none 0 0 ∧ xs.length = 0) → wpList P ops Q rest (a.put o.dst v') w') : wpList P ops Q (o :: rest) a w := by
  rcases xa with _ | ad
  · obtain ⟨rfl, rfl⟩ := hnil rfl
    exact wpList_append_own_none hgd s x t ho base e i 1 ht hi v n ys hs hown hx (h v w (by simpa using hown) (grown_refl _ _) (by simp))
  · exact wpList_append_own w hgd s x t ho base e i z 1 bytes ht hi hz hsize hby hzs (by decide) v n ys hs hown ad xs.length c (xs.map (Value.int k)) hx (by simp) (cells_of_reads hR) (ints_oneCell _ _) h63 hbytes hbase h
end Go.Proofs.YtojcdljpgginjaaDoor
