/-
  Slices of numbers: what they read as, what is new and owned.
-/
import Derived.Test.YtojcdljpgginjaaDoorKit
import Derived.Deep.QuietTactic
import Derived.BigQuiet
import Derived.Lib.AppendZerosOnto
import Derived.Laws.AppendOwnNone
namespace Go.Proofs.YtojcdljpgginjaaDoor
open Go Go.RowKit

theorem info_int : (Tryd.prog.info? 3).map (fun i => (i.zero, i.size, i.bytes)) = some (some (.int .i64 0), 1, 8) := by kernel_rfl

/-- A call returns a slice of its own, in new memory, that holds the numbers xs. -/
def RetOwn (k : IntKind) (t : TypeId) (xs : List Int) (w : World) (e : Ending) (w' : World) : Prop :=
  ∃ v, e = .returned v ∧ Below w.heap.size w w' ∧ w'.ownsRow w.heap.size t 1 v xs.length (xs.map (Value.int k))

theorem owns_reads {k : IntKind} {t : TypeId} {w : World} {B : Nat} {v : Value} {xs : List Int} (h : w.ownsRow B t 1 v xs.length (xs.map (Value.int k))) :
    ∃ a cap, v = .slice a xs.length cap ∧ Reads k w a xs ∧ (∀ g, a = some g → B ≤ g.block ∧ g.block < w.heap.size) ∧ xs.length ≤ cap := by
  rcases h.2 with ⟨rfl, h0⟩ | ⟨g, cap, cur, rfl, hB, hg, hn, hcap, hsz, htake⟩
  · have : xs = [] := List.length_eq_zero_iff.1 h0
    subst this
    exact ⟨none, 0, rfl, .inl rfl, by simp, by simp⟩
  · refine ⟨some ⟨g, 0, none⟩, cap, rfl, .inr ⟨g, 0, rfl, fun i hi => ?_⟩, fun q hq => by cases hq; exact ⟨hB, heap_lt hg⟩, hn⟩
    rw [Nat.zero_add, heap_cell hg]
    have : (cur.toList.take (xs.length * 1))[i]? = (xs.map (Value.int k))[i]? := by rw [htake]
    rw [Nat.mul_one, List.getElem?_take, if_pos hi] at this
    simpa [hi] using this

theorem Reads.take {k : IntKind} {w : World} {a : Option Addr} {xs : List Int} (h : Reads k w a xs) (n : Nat) : Reads k w a (xs.take n) := by
  rcases h with rfl | ⟨b, off, ha, hc⟩
  · exact .inl (by simp)
  · refine .inr ⟨b, off, ha, fun i hi => ?_⟩
    have h1 : i < n ∧ i < xs.length := by simp at hi; omega
    rw [hc i h1.2]
    simp [h1.1]

theorem cells_of_reads {k : IntKind} {w : World} {ad : Addr} {xs : List Int} (h : Reads k w (some ad) xs) : ∀ j u, (xs.map (Value.int k))[j]? = some u → w.cell? (ad.add j) = some u := by
  intro j u hu
  rcases h with rfl | ⟨b, off, ha, hc⟩
  · simp at hu
  · simp only [Option.some.injEq] at ha
    subst ha
    have hj : j < xs.length := by
      have := (List.getElem?_eq_some_iff.1 hu).1
      simpa using this
    have e : (⟨b, off, none⟩ : Addr).add j = ⟨b, off + j, none⟩ := by unfold Addr.add; split <;> simp_all
    rw [e, hc j hj]
    simpa [hj] using hu

theorem cell_alloc_old {w : World} {p : Addr} {v : Value} (o : Obj) (h : w.cell? p = some v) : (w.alloc o).cell? p = some v :=
  (World.cell?_of_block (Below.heap_alloc w o p.block (cell_lt h))).trans h

/-! ### What a step may turn: the blocks of S, and new ones -/
structure Moved (S : Nat → Prop) (a b : World) : Prop where
  os : b.os = a.os
  tape : b.tape = a.tape
  output : b.output = a.output
  size : a.heap.size ≤ b.heap.size
  block : ∀ k, k < a.heap.size → ¬ S k → b.heap[k]? = a.heap[k]?
theorem Moved.refl (S : Nat → Prop) (w : World) : Moved S w w := ⟨rfl, rfl, rfl, Nat.le_refl _, fun _ _ _ => rfl⟩
theorem Moved.trans {S T : Nat → Prop} {a b c : World} (h : Moved S a b) (k : Moved T b c) (ht : ∀ q, T q → S q ∨ a.heap.size ≤ q) : Moved S a c :=
  ⟨k.os.trans h.os, k.tape.trans h.tape, k.output.trans h.output, Nat.le_trans h.size k.size, fun q hq hs => (k.block q (Nat.lt_of_lt_of_le hq h.size) (fun e => (ht q e).elim hs (fun e2 => by omega))).trans (h.block q hq hs)⟩
theorem Moved.of_below {a b : World} (h : Below a.heap.size a b) (S : Nat → Prop) : Moved S a b := ⟨h.os, h.tape, h.output, h.size, fun k hk _ => h.block k hk⟩
theorem Moved.of_grown {a b : World} {r : Option Nat} (h : a.grownBy b r) {S : Nat → Prop} (hr : ∀ k, r = some k → S k) : Moved S a b := ⟨h.os, h.tape, h.output, h.size, fun k hk hs => h.block k hk (fun e => hs (hr k e.symm))⟩
theorem Moved.of_set (a : World) (g i : Nat) (v : Value) {S : Nat → Prop} (hr : S g) : Moved S a (a.setCell ⟨g, i, none⟩ v) := .of_grown (grown_set a g i v) (fun k e => by cases e; exact hr)
theorem Moved.drew (S : Nat → Prop) (a : World) : Moved S a a.drew := ⟨rfl, rfl, rfl, Nat.le_refl _, fun _ _ _ => rfl⟩
theorem Moved.drewN (S : Nat → Prop) (a : World) (n : Nat) : Moved S a (a.drewN n) := ⟨rfl, rfl, rfl, Nat.le_refl _, fun _ _ _ => rfl⟩
theorem Moved.alloc (S : Nat → Prop) (a : World) (o : Obj) : Moved S a (a.alloc o) := .of_grown (grown_alloc a o none) (fun k e => by cases e)
theorem Moved.below {S : Nat → Prop} {B : Nat} {a b c : World} (h : Below B a b) (k : Moved S b c) (hB : B ≤ b.heap.size) (hs : ∀ q, S q → B ≤ q) : Below B a c :=
  ⟨k.os.trans h.os, k.tape.trans h.tape, k.output.trans h.output, Nat.le_trans h.size k.size, fun q hq => (k.block q (Nat.lt_of_lt_of_le hq hB) (fun e => by have := hs q e; omega)).trans (h.block q hq)⟩
theorem Moved.cell {S : Nat → Prop} {a b : World} (h : Moved S a b) {p : Addr} {v : Value} (hc : a.cell? p = some v) (hs : ¬ S p.block) : b.cell? p = some v :=
  (World.cell?_of_block (h.block p.block (cell_lt hc) hs)).trans hc
theorem Moved.heap {S : Nat → Prop} {a b : World} (h : Moved S a b) {k : Nat} {o : Obj} (hc : a.heap[k]? = some o) (hs : ¬ S k) : b.heap[k]? = some o :=
  (h.block k (heap_lt hc) hs).trans hc
theorem Moved.reads {S : Nat → Prop} {a b : World} (h : Moved S a b) {k : IntKind} {p : Option Addr} {xs : List Int} (hr : Reads k a p xs) (hs : ∀ q, p = some q → ¬ S q.block) : Reads k b p xs := by
  rcases hr with e | ⟨g, off, rfl, hc⟩
  · exact .inl e
  · exact .inr ⟨g, off, rfl, fun i hi => h.cell (hc i hi) (show ¬ S g from hs _ rfl)⟩
theorem Moved.owns {S : Nat → Prop} {a b : World} (h : Moved S a b) {B : Nat} {t : TypeId} {size : Nat} {v : Value} {n : Nat} {xs : List Value} (ho : a.ownsRow B t size v n xs) (hs : ∀ k, v.ownBlock = some k → ¬ S k) : b.ownsRow B t size v n xs := by
  refine ⟨ho.1, ?_⟩
  rcases ho.2 with hn | ⟨g, cap, cur, rfl, hb, hgg, rest⟩
  · exact .inl hn
  · exact .inr ⟨g, cap, cur, rfl, hb, h.heap hgg (hs g rfl), rest⟩

/-- A row's head: its first k. -/
theorem owns_take {w : World} {B : Nat} {t : TypeId} {size : Nat} {a : Option Addr} {cap n : Nat} {xs : List Value} (h : w.ownsRow B t size (.slice a n cap) n xs) (k : Nat) (hk : k ≤ n) : w.ownsRow B t size (.slice a k cap) k (xs.take (k * size)) := by
  have hl : (xs.take (k * size)).length = k * size := by
    rw [List.length_take, h.1]
    exact Nat.min_eq_left (Nat.mul_le_mul_right _ hk)
  rcases h.2 with ⟨h0, rfl⟩ | ⟨g, cap', cur, h0, hb, hg, hn, hm, hs, ht⟩
  · obtain rfl : k = 0 := by omega
    cases h0
    exact ⟨hl, .inl ⟨rfl, rfl⟩⟩
  · cases h0
    refine ⟨hl, .inr ⟨g, _, cur, rfl, hb, hg, Nat.le_trans hk hn, hm, hs, ?_⟩⟩
    rw [← ht, List.take_take, Nat.min_eq_left (Nat.mul_le_mul_right _ hk)]
theorem owns_slice {w : World} {B : Nat} {t : TypeId} {size : Nat} {v : Value} {n : Nat} {xs : List Value} (h : w.ownsRow B t size v n xs) : ∃ a cap, v = .slice a n cap ∧ n ≤ cap ∧ (a = none → n = 0 ∧ cap = 0) ∧ (∀ q, a = some q → ∃ g, q = ⟨g, 0, none⟩) := by
  rcases h.2 with ⟨rfl, rfl⟩ | ⟨g, cap, cur, rfl, _, _, hn, _⟩
  · exact ⟨none, 0, rfl, by simp, by simp, by simp⟩
  · exact ⟨some ⟨g, 0, none⟩, cap, rfl, hn, by simp, fun q e => ⟨g, by cases e; rfl⟩⟩
theorem owns_len {w : World} {B : Nat} {t : TypeId} {size : Nat} {v : Value} {n : Nat} {xs : List Value} (h : w.ownsRow B t size v n xs) : xs.length = n * size := h.1

/-- append(v, make([]T, m)...): elements of one cell. -/
theorem run_append_zeros1 {P : Program} (w : World) (base : Nat) (t ti ty e : TypeId) (i : TypeInfo) (z : Value) (bytes : Nat) (ht : P.underlying t = some (.slice e)) {k : IntKind} (hti : P.underlying ti = some (.int k)) (hi : P.info? e = some i) (hz : i.zero = some z)
    (hsize : i.size = 1) (hby : i.bytes = bytes) (hzs : z.cells = #[z]) (h1 : z.oneCell' = true) (hb0 : 0 < bytes)
    (v : Value) (n : Nat) (xs : List Value) (hown : w.ownsRow base e 1 v n xs) (kx : IntKind) (m : Nat)
    (hbytes : (n + m) * bytes ≤ 140737488355328) (hbase : base ≤ w.heap.size) :
    ∃ v' w', (Builtin.append_ #[t, ti] ty #[v, .int kx m]).run P w = .ok v' w' ∧ w'.ownsRow base e 1 v' (n + m) (xs ++ List.replicate m z) ∧ w.grownBy w' v.ownBlock ∧
      (v'.ownBlock = v.ownBlock ∨ v'.ownBlock = some w.heap.size) := by
  subst hby
  have hle : n + m ≤ 140737488355328 := Nat.le_trans (Nat.le_mul_of_pos_right _ hb0) hbytes
  have h63 : n + m ≤ maxLen := by simp only [maxLen]; omega
  have hw : IntKind.i64.wrap (m : Int) = m := by rw [IntKind.wrap_i64]; omega
  have hw0 : IntKind.i64.wrap 0 = 0 := by rw [IntKind.wrap_i64]; rfl
  have hneg : ¬ ((m : Int) < 0) := by omega
  have hmb : m * i.bytes ≤ 140737488355328 := Nat.le_trans (Nat.mul_le_mul_right _ (Nat.le_add_left m n)) hbytes
  have hbig : ¬ (281474976710656 < (m : Int) * (i.bytes : Int)) := by
    rw [← Int.natCast_mul]
    omega
  have hzc : ∀ q, Builtin.zeroCells z.cells q = (List.replicate q z).toArray := by
    intro q
    apply Array.toList_inj.1
    rw [show Builtin.zeroCells z.cells q = madeCells z.cells (q * 1) by unfold Builtin.zeroCells madeCells; rw [hzs]; rfl, hzs, Nat.mul_one]
    simp [toList_madeCells_one]
  have hlen : (xs ++ List.replicate m z).length = (n + m) * 1 := by rw [List.length_append, hown.1, List.length_replicate]; omega
  have grown : ∀ (old : Nat), old < n + m → ∀ (row : Option Nat),
      (w.drew.alloc (.cells (xs.toArray ++ Builtin.zeroCells z.cells m ++ Builtin.zeroCells z.cells (grownCap w (n + m) old e - (n + m))) e)).ownsRow base e 1
        (.slice (some ⟨w.heap.size, 0, none⟩) (n + m) (grownCap w (n + m) old e)) (n + m) (xs ++ List.replicate m z) ∧
      w.grownBy (w.drew.alloc (.cells (xs.toArray ++ Builtin.zeroCells z.cells m ++ Builtin.zeroCells z.cells (grownCap w (n + m) old e - (n + m))) e)) row := by
    intro old ho row
    have hge := grownCap_ge w (n + m) old e
    have hcm : grownCap w (n + m) old e ≤ maxLen := grownCap_le_maxLen w (n + m) old e h63
    refine ⟨⟨hlen, .inr ⟨w.heap.size, _, _, rfl, hbase, heap_alloc_new w.drew _, hge, hcm, ?_, ?_⟩⟩, ⟨rfl, rfl, rfl, by simp, fun k hk _ => heap_alloc_old w.drew _ hk⟩⟩
    · simp only [Array.size_append, List.size_toArray, size_zeroCells, hzs, hown.1]
      simp
      omega
    · simp only [Array.toList_append, hzc, List.append_assoc]
      rw [← List.append_assoc, ← hlen]
      exact List.take_left
  rcases hown.2 with ⟨rfl, rfl⟩ | ⟨g, cap, cur, rfl, hbg, hg, hnc, hcm, hcs, htake⟩
  · have hx : xs = [] := List.eq_nil_of_length_eq_zero (by simpa using hown.1)
    subst hx
    by_cases hm : m = 0
    · subst hm
      refine ⟨.slice none 0 0, w, ?_, by simpa using World.ownsRow_nil w base e 1, ⟨rfl, rfl, rfl, Nat.le_refl _, fun _ _ _ => rfl⟩, Or.inl rfl⟩
      simp [Builtin.append_, run_underlying ht, run_underlying hti, sizeOf, typeInfo, hi, asInt, asIntOf, hw0]
    · have hgr := grown 0 (by omega) (Value.ownBlock (.slice none 0 0))
      have hr := Lib.run_append_nil_zeros (P := P) w t ti ty e i z kx k ht hti hi hz m (by omega) (by omega) (by omega) (by omega)
      simp only [Nat.zero_add] at hgr hr ⊢
      rw [hr]
      refine ⟨_, _, rfl, ?_, ?_, Or.inr rfl⟩
      · simpa using hgr.1
      · simpa using hgr.2
  · by_cases hroom : n + m ≤ cap
    · by_cases hm : m = 0
      · subst hm
        refine ⟨_, w, ?_, by simpa using hown, ⟨rfl, rfl, rfl, Nat.le_refl _, fun _ _ _ => rfl⟩, Or.inl rfl⟩
        simp [Builtin.append_, run_underlying ht, run_underlying hti, sizeOf, typeInfo, hi, asInt, asIntOf, hw0, hnc]
        rfl
      · have hfit : n * i.size + (List.replicate m z).length ≤ cur.size := by rw [List.length_replicate, hcs, hsize]; omega
        have hst := run_storeCells_at P g (n * i.size) e (List.replicate m z) 0 cur w hg (by simpa using hfit) (fun u hu => by rw [List.mem_replicate] at hu; rw [hu.2]; exact h1)
        simp only [Nat.add_zero] at hst
        have hrun : (Builtin.append_ #[t, ti] ty #[.slice (some ⟨g, 0, none⟩) n cap, .int kx m]).run P w = .ok (.slice (some ⟨g, 0, none⟩) (n + m) cap) (w.setRow g (cur.toList.take (n * i.size) ++ List.replicate m z ++ cur.toList.drop (n * i.size + (List.replicate m z).length)).toArray) := by
          simp [Builtin.append_, run_underlying ht, run_underlying hti, sizeOf, typeInfo, zeroValue, hi, hz, asInt, asIntOf, hw, hneg, hbig, hroom, hm, hsize, hzc, Addr.add_lit]
          rw [hsize] at hst
          simp at hst
          rw [hst]
          simp
        refine ⟨.slice (some ⟨g, 0, none⟩) (n + m) cap, _, hrun, ⟨hlen, .inr ⟨g, cap, _, rfl, hbg, setRow_heap w g cur _ e _ hg, hroom, hcm, ?_, ?_⟩⟩, ⟨rfl, rfl, rfl, by simp, fun k _ hk => setRow_other w g k _ (fun e => hk (by simp [Value.ownBlock, e]))⟩, Or.inl rfl⟩
        · simp only [List.size_toArray, List.length_append, List.length_take, List.length_drop, Array.length_toList]
          rw [hsize] at hfit ⊢
          rw [List.length_replicate] at hfit ⊢
          omega
        · have h6 : cur.toList.take (n * i.size) = xs := by rw [hsize]; exact htake
          rw [h6, ← hlen]
          exact List.take_left
    · have holds : ∀ j u, xs[j]? = some u → w.cell? ((⟨g, 0, none⟩ : Addr).add j) = some u := hown.cells (g := g) rfl
      have hgr := grown cap (by omega) (Value.ownBlock (.slice (some ⟨g, 0, none⟩) n cap))
      have hr := Lib.run_append_grow_zeros (P := P) w t ti ty e i z kx k ht hti hi hz (some ⟨g, 0, none⟩) n cap xs (run_firstCells_some (P := P) w.drew i.size n _ n cap xs (by rw [hsize]; exact hown.1) (by simpa using holds)) m (by omega) (by omega) (by omega) (by omega) (by omega) (growslice_fits (by omega) hbytes)
      rw [hr]
      exact ⟨_, _, rfl, hgr.1, hgr.2, Or.inr rfl⟩
theorem wpList_append_zeros1 {P : Program} {w : World} {ops : Array Oper} {rest : List Oper} {o : Oper} {a : Act} {Q : Exit → Act → World → Prop} (hgd : o.guard = none) (s x : Operand) (t ti : TypeId)
    (ho : o.op = .call { callee := .builtin .append, args := #[s, x], argTypes := #[t, ti] })
    (base : Nat) (e : TypeId) (i : TypeInfo) (z : Value) (bytes : Nat) (ht : P.underlying t = some (.slice e)) {k : IntKind} (hti : P.underlying ti = some (.int k)) (hi : P.info? e = some i) (hz : i.zero = some z)
    (hsize : i.size = 1) (hby : i.bytes = bytes) (hzs : z.cells = #[z]) (h1 : z.oneCell' = true) (hb0 : 0 < bytes)
    (v : Value) (n : Nat) (xs : List Value) (hs : a.eval s = v) (hown : w.ownsRow base e 1 v n xs) (kx : IntKind) (m : Nat) (hx : a.eval x = .int kx m)
    (hbytes : (n + m) * bytes ≤ 140737488355328) (hbase : base ≤ w.heap.size)
    (h : ∀ v' w', w'.ownsRow base e 1 v' (n + m) (xs ++ List.replicate m z) → w.grownBy w' v.ownBlock → (v'.ownBlock = v.ownBlock ∨ v'.ownBlock = some w.heap.size) → wpList P ops Q rest (a.put o.dst v') w') : wpList P ops Q (o :: rest) a w := by
  obtain ⟨v', w', hr, h2, h3, h4⟩ := run_append_zeros1 (P := P) w base t ti o.type e i z bytes ht hti hi hz hsize hby hzs h1 hb0 v n xs hown kx m hbytes hbase
  exact Lib.wpList_append_run w hgd s x t ti ho v (.int kx m) hs hx v' w' hr (h v' w' h2 h3 h4)
theorem own_shape {w : World} {B : Nat} {t : TypeId} {v : Value} {n : Nat} {vs : List Value} (h : w.ownsRow B t 1 v n vs) (hn : 0 < n) :
    ∃ g cap cur, v = .slice (some ⟨g, 0, none⟩) n cap ∧ B ≤ g ∧ w.heap[g]? = some (.cells cur t (0, 0)) := by
  rcases h.2 with ⟨_, h0⟩ | ⟨g, cap, cur, rfl, hB, hg, _⟩
  · omega
  · exact ⟨g, cap, cur, rfl, hB, hg⟩
theorem own_set {k : IntKind} {w : World} {B : Nat} {t : TypeId} {g cap : Nat} {xs : List Int} (h : w.ownsRow B t 1 (.slice (some ⟨g, 0, none⟩) xs.length cap) xs.length (xs.map (Value.int k))) (i : Nat) (v : Int) (_hi : i < xs.length) :
    (w.setCell ⟨g, i, none⟩ (.int k v)).ownsRow B t 1 (.slice (some ⟨g, 0, none⟩) xs.length cap) xs.length ((xs.set i v).map (Value.int k)) := by
  have := (h.stored i (.int k v)).1
  rw [List.map_set]
  exact this
theorem addr_add_none (b off q : Nat) : (⟨b, off, none⟩ : Addr).add q = ⟨b, off + q, none⟩ := by
  unfold Addr.add; split <;> simp_all
end Go.Proofs.YtojcdljpgginjaaDoor
