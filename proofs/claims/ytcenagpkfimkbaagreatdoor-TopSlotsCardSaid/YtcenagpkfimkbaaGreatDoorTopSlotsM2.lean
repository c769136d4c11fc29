/-
  Contracts of functions of the program, laid together.
-/
import Derived.Test.YtcenagpkfimkbaaGreatDoorTopSlotsM1
import Derived.Deep.QuietTactic
import Derived.BigQuiet
import Derived.Lib.AppendZerosOnto
import Derived.Laws.AppendOwnNone
namespace Go.Proofs.YtcenagpkfimkbaaGreatDoor
open Go Go.RowKit

theorem info_int : (Tryz.prog.info? 3).map (fun i => (i.zero, i.size, i.bytes)) = some (some (.int .i64 0), 1, 8) := by kernel_rfl

def RetOwn (k : IntKind) (t : TypeId) (xs : List Int) (w : World) (e : Ending) (w' : World) : Prop :=
  ∃ v, e = .returned v ∧ Below w.heap.size w w' ∧ w'.ownsRow w.heap.size t 1 v xs.length (xs.map (Value.int k))

theorem owns_reads {k : IntKind} {t : TypeId} {w : World} {B : Nat} {v : Value} {xs : List Int} (h : w.ownsRow B t 1 v xs.length (xs.map (Value.int k))) :
    ∃ a cap, v = .slice a xs.length cap ∧ Reads k w a xs ∧ (∀ g, a = some g → B ≤ g.block ∧ g.block < w.heap.size) ∧ xs.length ≤ cap := by
  rcases h.2 with ⟨rfl, h0⟩ | ⟨g, cap, cur, rfl, hB, hg, hn, hcap, hsz, htake⟩
  · have : xs = [] := List.length_eq_zero_iff.1 h0
    subst this
    exact ⟨none, 0, rfl, .inl rfl, by simp, by simp⟩
  · refine ⟨some ⟨g, 0, none⟩, cap, rfl, .inr ⟨g, 0, rfl, fun i hi => ?_⟩, fun q hq => by cases hq; exact ⟨hB, heap_lt hg⟩, hn⟩
    rw [Nat.zero_add, heap_cell hg]
    have : (cur.toList.take (xs.length * 1))[i]? = (xs.map (Value.int k))[i]? := by rw [htake]
    rw [Nat.mul_one, List.getElem?_take, if_pos hi] at this
    simpa [hi] using this

theorem Reads.take {k : IntKind} {w : World} {a : Option Addr} {xs : List Int} (h : Reads k w a xs) (n : Nat) : Reads k w a (xs.take n) := by
  rcases h with rfl | ⟨b, off, ha, hc⟩
  · exact .inl (by simp)
  · refine .inr ⟨b, off, ha, fun i hi => ?_⟩
    have h1 : i < n ∧ i < xs.length := by simp at hi; omega
    rw [hc i h1.2]
    simp [h1.1]

theorem cells_of_reads {k : IntKind} {w : World} {ad : Addr} {xs : List Int} (h : Reads k w (some ad) xs) : ∀ j u, (xs.map (Value.int k))[j]? = some u → w.cell? (ad.add j) = some u := by
  intro j u hu
  rcases h with rfl | ⟨b, off, ha, hc⟩
  · simp at hu
  · simp only [Option.some.injEq] at ha
    subst ha
    have hj : j < xs.length := by
      have := (List.getElem?_eq_some_iff.1 hu).1
      simpa using this
    have e : (⟨b, off, none⟩ : Addr).add j = ⟨b, off + j, none⟩ := by unfold Addr.add; split <;> simp_all
    rw [e, hc j hj]
    simpa [hj] using hu

theorem cell_alloc_old {w : World} {p : Addr} {v : Value} (o : Obj) (h : w.cell? p = some v) : (w.alloc o).cell? p = some v :=
  (World.cell?_of_block (Below.heap_alloc w o p.block (cell_lt h))).trans h

/-! ### What a step may turn: the blocks of S, and new ones -/
structure Moved (S : Nat → Prop) (a b : World) : Prop where
  os : b.os = a.os
  tape : b.tape = a.tape
  output : b.output = a.output
  size : a.heap.size ≤ b.heap.size
  block : ∀ k, k < a.heap.size → ¬ S k → b.heap[k]? = a.heap[k]?
theorem Moved.refl (S : Nat → Prop) (w : World) : Moved S w w := ⟨rfl, rfl, rfl, Nat.le_refl _, fun _ _ _ => rfl⟩
theorem Moved.trans {S T : Nat → Prop} {a b c : World} (h : Moved S a b) (k : Moved T b c) (ht : ∀ q, T q → S q ∨ a.heap.size ≤ q) : Moved S a c :=
  ⟨k.os.trans h.os, k.tape.trans h.tape, k.output.trans h.output, Nat.le_trans h.size k.size, fun q hq hs => (k.block q (Nat.lt_of_lt_of_le hq h.size) (fun e => (ht q e).elim hs (fun e2 => by omega))).trans (h.block q hq hs)⟩
theorem Moved.of_below {a b : World} (h : Below a.heap.size a b) (S : Nat → Prop) : Moved S a b := ⟨h.os, h.tape, h.output, h.size, fun k hk _ => h.block k hk⟩
theorem Moved.of_grown {a b : World} {r : Option Nat} (h : a.grownBy b r) {S : Nat → Prop} (hr : ∀ k, r = some k → S k) : Moved S a b := ⟨h.os, h.tape, h.output, h.size, fun k hk hs => h.block k hk (fun e => hs (hr k e.symm))⟩
theorem Moved.of_set (a : World) (g i : Nat) (v : Value) {S : Nat → Prop} (hr : S g) : Moved S a (a.setCell ⟨g, i, none⟩ v) := .of_grown (grown_set a g i v) (fun k e => by cases e; exact hr)
theorem Moved.drew (S : Nat → Prop) (a : World) : Moved S a a.drew := ⟨rfl, rfl, rfl, Nat.le_refl _, fun _ _ _ => rfl⟩
theorem Moved.drewN (S : Nat → Prop) (a : World) (n : Nat) : Moved S a (a.drewN n) := ⟨rfl, rfl, rfl, Nat.le_refl _, fun _ _ _ => rfl⟩
theorem Moved.alloc (S : Nat → Prop) (a : World) (o : Obj) : Moved S a (a.alloc o) := .of_grown (grown_alloc a o none) (fun k e => by cases e)
theorem Moved.below {S : Nat → Prop} {B : Nat} {a b c : World} (h : Below B a b) (k : Moved S b c) (hB : B ≤ b.heap.size) (hs : ∀ q, S q → B ≤ q) : Below B a c :=
  ⟨k.os.trans h.os, k.tape.trans h.tape, k.output.trans h.output, Nat.le_trans h.size k.size, fun q hq => (k.block q (Nat.lt_of_lt_of_le hq hB) (fun e => by have := hs q e; omega)).trans (h.block q hq)⟩
theorem Moved.cell {S : Nat → Prop} {a b : World} (h : Moved S a b) {p : Addr} {v : Value} (hc : a.cell? p = some v) (hs : ¬ S p.block) : b.cell? p = some v :=
  (World.cell?_of_block (h.block p.block (cell_lt hc) hs)).trans hc
theorem Moved.heap {S : Nat → Prop} {a b : World} (h : Moved S a b) {k : Nat} {o : Obj} (hc : a.heap[k]? = some o) (hs : ¬ S k) : b.heap[k]? = some o :=
  (h.block k (heap_lt hc) hs).trans hc
theorem Moved.reads {S : Nat → Prop} {a b : World} (h : Moved S a b) {k : IntKind} {p : Option Addr} {xs : List Int} (hr : Reads k a p xs) (hs : ∀ q, p = some q → ¬ S q.block) : Reads k b p xs := by
  rcases hr with e | ⟨g, off, rfl, hc⟩
  · exact .inl e
  · exact .inr ⟨g, off, rfl, fun i hi => h.cell (hc i hi) (show ¬ S g from hs _ rfl)⟩
theorem Moved.owns {S : Nat → Prop} {a b : World} (h : Moved S a b) {B : Nat} {t : TypeId} {size : Nat} {v : Value} {n : Nat} {xs : List Value} (ho : a.ownsRow B t size v n xs) (hs : ∀ k, v.ownBlock = some k → ¬ S k) : b.ownsRow B t size v n xs := by
  refine ⟨ho.1, ?_⟩
  rcases ho.2 with hn | ⟨g, cap, cur, rfl, hb, hgg, rest⟩
  · exact .inl hn
  · exact .inr ⟨g, cap, cur, rfl, hb, h.heap hgg (hs g rfl), rest⟩

theorem owns_take {w : World} {B : Nat} {t : TypeId} {size : Nat} {a : Option Addr} {cap n : Nat} {xs : List Value} (h : w.ownsRow B t size (.slice a n cap) n xs) (k : Nat) (hk : k ≤ n) : w.ownsRow B t size (.slice a k cap) k (xs.take (k * size)) := by
  have hl : (xs.take (k * size)).length = k * size := by
    rw [List.length_take, h.1]
    exact Nat.min_eq_left (Nat.mul_le_mul_right _ hk)
  rcases h.2 with ⟨h0, rfl⟩ | ⟨g, cap', cur, h0, hb, hg, hn, hm, hs, ht⟩
  · obtain rfl : k = 0 := by omega
    cases h0
    exact ⟨hl, .inl ⟨rfl, rfl⟩⟩
  · cases h0
    refine ⟨hl, .inr ⟨g, _, cur, rfl, hb, hg, Nat.le_trans hk hn, hm, hs, ?_⟩⟩
    rw [← ht, List.take_take, Nat.min_eq_left (Nat.mul_le_mul_right _ hk)]
theorem owns_slice {w : World} {B : Nat} {t : TypeId} {size : Nat} {v : Value} {n : Nat} {xs : List Value} (h : w.ownsRow B t size v n xs) : ∃ a cap, v = .slice a n cap ∧ n ≤ cap ∧ (a = none → n = 0 ∧ cap = 0) ∧ (∀ q, a = some q → ∃ g, q = ⟨g, 0, none⟩) := by
  rcases h.2 with ⟨rfl, rfl⟩ | ⟨g, cap, cur, rfl, _, _, hn, _⟩
  · exact ⟨none, 0, rfl, by simp, by simp, by simp⟩
  · exact ⟨some ⟨g, 0, none⟩, cap, rfl, hn, by simp, fun q e => ⟨g, by cases e; rfl⟩⟩
theorem owns_len {w : World} {B : Nat} {t : TypeId} {size : Nat} {v : Value} {n : Nat} {xs : List Value} (h : w.ownsRow B t size v n xs) : xs.length = n * size := h.1

theorem run_append_zeros1 {P : Program} (w : World) (base : Nat) (t ti ty e : TypeId) (i : TypeInfo) (z : Value) (bytes : Nat) (ht : P.underlying t = some (.slice e)) {k : IntKind} (hti : P.underlying ti = some (.int k)) (hi : P.info? e = some i) (hz : i.zero = some z)
    (hsize : i.size = 1) (hby : i.bytes = bytes) (hzs : z.cells = #[z]) (h1 : z.oneCell' = true) (hb0 : 0 < bytes)
    (v : Value) (n : Nat) (xs : List Value) (hown : w.ownsRow base e 1 v n xs) (kx : IntKind) (m : Nat)
    (hbytes : (n + m) * bytes ≤ 140737488355328) (hbase : base ≤ w.heap.size) :
    ∃ v' w', (Builtin.append_ #[t, ti] ty #[v, .int kx m]).run P w = .ok v' w' ∧ w'.ownsRow base e 1 v' (n + m) (xs ++ List.replicate m z) ∧ w.grownBy w' v.ownBlock ∧
      (v'.ownBlock = v.ownBlock ∨ v'.ownBlock = some w.heap.size) := by
  subst hby
  have hle : n + m ≤ 140737488355328 := Nat.le_trans (Nat.le_mul_of_pos_right _ hb0) hbytes
  have h63 : n + m ≤ maxLen := by simp only [maxLen]; omega
  have hw : IntKind.i64.wrap (m : Int) = m := by rw [IntKind.wrap_i64]; omega
  have hw0 : IntKind.i64.wrap 0 = 0 := by rw [IntKind.wrap_i64]; rfl
  have hneg : ¬ ((m : Int) < 0) := by omega
  have hmb : m * i.bytes ≤ 140737488355328 := Nat.le_trans (Nat.mul_le_mul_right _ (Nat.le_add_left m n)) hbytes
  have hbig : ¬ (281474976710656 < (m : Int) * (i.bytes : Int)) := by
    rw [← Int.natCast_mul]
    omega
  have hzc : ∀ q, Builtin.zeroCells z.cells q = (List.replicate q z).toArray := by
    intro q
    apply Array.toList_inj.1
    rw [show Builtin.zeroCells z.cells q = madeCells z.cells (q * 1) by unfold Builtin.zeroCells madeCells; rw [hzs]; rfl, hzs, Nat.mul_one]
    simp [toList_madeCells_one]
  have hlen : (xs ++ List.replicate m z).length = (n + m) * 1 := by rw [List.length_append, hown.1, List.length_replicate]; omega
  have grown : ∀ (old : Nat), old < n + m → ∀ (row : Option Nat),
      (w.drew.alloc (.cells (xs.toArray ++ Builtin.zeroCells z.cells m ++ Builtin.zeroCells z.cells (grownCap w (n + m) old e - (n + m))) e)).ownsRow base e 1
        (.slice (some ⟨w.heap.size, 0, none⟩) (n + m) (grownCap w (n + m) old e)) (n + m) (xs ++ List.replicate m z) ∧
      w.grownBy (w.drew.alloc (.cells (xs.toArray ++ Builtin.zeroCells z.cells m ++ Builtin.zeroCells z.cells (grownCap w (n + m) old e - (n + m))) e)) row := by
    intro old ho row
    have hge := grownCap_ge w (n + m) old e
    have hcm : grownCap w (n + m) old e ≤ maxLen := grownCap_le_maxLen w (n + m) old e h63
    refine ⟨⟨hlen, .inr ⟨w.heap.size, _, _, rfl, hbase, heap_alloc_new w.drew _, hge, hcm, ?_, ?_⟩⟩, ⟨rfl, rfl, rfl, by simp, fun k hk _ => heap_alloc_old w.drew _ hk⟩⟩
    · simp only [Array.size_append, List.size_toArray, size_zeroCells, hzs, hown.1]
      simp
      omega
    · simp only [Array.toList_append, hzc, List.append_assoc]
      rw [← List.append_assoc, ← hlen]
      exact List.take_left
  rcases hown.2 with ⟨rfl, rfl⟩ | ⟨g, cap, cur, rfl, hbg, hg, hnc, hcm, hcs, htake⟩
  · have hx : xs = [] := List.eq_nil_of_length_eq_zero (by simpa using hown.1)
    subst hx
    by_cases hm : m = 0
    · subst hm
      refine ⟨.slice none 0 0, w, ?_, by simpa using World.ownsRow_nil w base e 1, ⟨rfl, rfl, rfl, Nat.le_refl _, fun _ _ _ => rfl⟩, Or.inl rfl⟩
      simp [Builtin.append_, run_underlying ht, run_underlying hti, sizeOf, typeInfo, hi, asInt, asIntOf, hw0]
    · have hgr := grown 0 (by omega) (Value.ownBlock (.slice none 0 0))
      have hr := Lib.run_append_nil_zeros (P := P) w t ti ty e i z kx k ht hti hi hz m (by omega) (by omega) (by omega) (by omega)
      simp only [Nat.zero_add] at hgr hr ⊢
      rw [hr]
      refine ⟨_, _, rfl, ?_, ?_, Or.inr rfl⟩
      · simpa using hgr.1
      · simpa using hgr.2
  · by_cases hroom : n + m ≤ cap
    · by_cases hm : m = 0
      · subst hm
        refine ⟨_, w, ?_, by simpa using hown, ⟨rfl, rfl, rfl, Nat.le_refl _, fun _ _ _ => rfl⟩, Or.inl rfl⟩
        simp [Builtin.append_, run_underlying ht, run_underlying hti, sizeOf, typeInfo, hi, asInt, asIntOf, hw0, hnc]
        rfl
      · have hfit : n * i.size + (List.replicate m z).length ≤ cur.size := by rw [List.length_replicate, hcs, hsize]; omega
        have hst := run_storeCells_at P g (n * i.size) e (List.replicate m z) 0 cur w hg (by simpa using hfit) (fun u hu => by rw [List.mem_replicate] at hu; rw [hu.2]; exact h1)
        simp only [Nat.add_zero] at hst
        have hrun : (Builtin.append_ #[t, ti] ty #[.slice (some ⟨g, 0, none⟩) n cap, .int kx m]).run P w = .ok (.slice (some ⟨g, 0, none⟩) (n + m) cap) (w.setRow g (cur.toList.take (n * i.size) ++ List.replicate m z ++ cur.toList.drop (n * i.size + (List.replicate m z).length)).toArray) := by
          simp [Builtin.append_, run_underlying ht, run_underlying hti, sizeOf, typeInfo, zeroValue, hi, hz, asInt, asIntOf, hw, hneg, hbig, hroom, hm, hsize, hzc, Addr.add_lit]
          rw [hsize] at hst
          simp at hst
          rw [hst]
          simp
        refine ⟨.slice (some ⟨g, 0, none⟩) (n + m) cap, _, hrun, ⟨hlen, .inr ⟨g, cap, _, rfl, hbg, setRow_heap w g cur _ e _ hg, hroom, hcm, ?_, ?_⟩⟩, ⟨rfl, rfl, rfl, by simp, fun k _ hk => setRow_other w g k _ (fun e => hk (by simp [Value.ownBlock, e]))⟩, Or.inl rfl⟩
        · simp only [List.size_toArray, List.length_append, List.length_take, List.length_drop, Array.length_toList]
          rw [hsize] at hfit ⊢
          rw [List.length_replicate] at hfit ⊢
          omega
        · have h6 : cur.toList.take (n * i.size) = xs := by rw [hsize]; exact htake
          rw [h6, ← hlen]
          exact List.take_left
    · have holds : ∀ j u, xs[j]? = some u → w.cell? ((⟨g, 0, none⟩ : Addr).add j) = some u := hown.cells (g := g) rfl
      have hgr := grown cap (by omega) (Value.ownBlock (.slice (some ⟨g, 0, none⟩) n cap))
      have hr := Lib.run_append_grow_zeros (P := P) w t ti ty e i z kx k ht hti hi hz (some ⟨g, 0, none⟩) n cap xs (run_firstCells_some (P := P) w.drew i.size n _ n cap xs (by rw [hsize]; exact hown.1) (by simpa using holds)) m (by omega) (by omega) (by omega) (by omega) (by omega) (growslice_fits (by omega) hbytes)
      rw [hr]
      exact ⟨_, _, rfl, hgr.1, hgr.2, Or.inr rfl⟩
theorem wpList_append_zeros1 {P : Program} {w : World} {ops : Array Oper} {rest : List Oper} {o : Oper} {a : Act} {Q : Exit → Act → World → Prop} (hgd : o.guard = none) (s x : Operand) (t ti : TypeId)
    (ho : o.op = .call { callee := .builtin .append, args := #[s, x], argTypes := #[t, ti] })
    (base : Nat) (e : TypeId) (i : TypeInfo) (z : Value) (bytes : Nat) (ht : P.underlying t = some (.slice e)) {k : IntKind} (hti : P.underlying ti = some (.int k)) (hi : P.info? e = some i) (hz : i.zero = some z)
    (hsize : i.size = 1) (hby : i.bytes = bytes) (hzs : z.cells = #[z]) (h1 : z.oneCell' = true) (hb0 : 0 < bytes)
    (v : Value) (n : Nat) (xs : List Value) (hs : a.eval s = v) (hown : w.ownsRow base e 1 v n xs) (kx : IntKind) (m : Nat) (hx : a.eval x = .int kx m)
    (hbytes : (n + m) * bytes ≤ 140737488355328) (hbase : base ≤ w.heap.size)
    (h : ∀ v' w', w'.ownsRow base e 1 v' (n + m) (xs ++ List.replicate m z) → w.grownBy w' v.ownBlock → (v'.ownBlock = v.ownBlock ∨ v'.ownBlock = some w.heap.size) → wpList P ops Q rest (a.put o.dst v') w') : wpList P ops Q (o :: rest) a w := by
  obtain ⟨v', w', hr, h2, h3, h4⟩ := run_append_zeros1 (P := P) w base t ti o.type e i z bytes ht hti hi hz hsize hby hzs h1 hb0 v n xs hown kx m hbytes hbase
  exact Lib.wpList_append_run w hgd s x t ti ho v (.int kx m) hs hx v' w' hr (h v' w' h2 h3 h4)
theorem own_shape {w : World} {B : Nat} {t : TypeId} {v : Value} {n : Nat} {vs : List Value} (h : w.ownsRow B t 1 v n vs) (hn : 0 < n) :
    ∃ g cap cur, v = .slice (some ⟨g, 0, none⟩) n cap ∧ B ≤ g ∧ w.heap[g]? = some (.cells cur t (0, 0)) := by
  rcases h.2 with ⟨_, h0⟩ | ⟨g, cap, cur, rfl, hB, hg, _⟩
  · omega
  · exact ⟨g, cap, cur, rfl, hB, hg⟩
theorem own_set {k : IntKind} {w : World} {B : Nat} {t : TypeId} {g cap : Nat} {xs : List Int} (h : w.ownsRow B t 1 (.slice (some ⟨g, 0, none⟩) xs.length cap) xs.length (xs.map (Value.int k))) (i : Nat) (v : Int) (_hi : i < xs.length) :
    (w.setCell ⟨g, i, none⟩ (.int k v)).ownsRow B t 1 (.slice (some ⟨g, 0, none⟩) xs.length cap) xs.length ((xs.set i v).map (Value.int k)) := by
  have := (h.stored i (.int k v)).1
  rw [List.map_set]
  exact this
theorem addr_add_none (b off q : Nat) : (⟨b, off, none⟩ : Addr).add q = ⟨b, off + q, none⟩ := by
  unfold Addr.add; split <;> simp_all
end Go.Proofs.YtcenagpkfimkbaaGreatDoor
namespace Go.Proofs.YtcenagpkfimkbaaGreatDoor
open Go Go.RowKit

structure Grows (S S' : Nat → Prop) (w w' : World) : Prop where
  m : Moved S w w'
  s : ∀ k, S' k → S k ∨ w.heap.size ≤ k
theorem Grows.refl (S : Nat → Prop) (w : World) : Grows S S w w := ⟨Moved.refl _ _, fun _ h => .inl h⟩
theorem Grows.trans {S S' S'' : Nat → Prop} {a b c : World} (h : Grows S S' a b) (k : Grows S' S'' b c) : Grows S S'' a c :=
  ⟨h.m.trans k.m h.s, fun q hq => (k.s q hq).elim (h.s q) (fun e => .inr (Nat.le_trans h.m.size e))⟩
theorem Grows.below {S : Nat → Prop} {a b : World} (h : Below a.heap.size a b) : Grows S S a b := ⟨Moved.of_below h S, fun _ e => .inl e⟩
theorem Grows.then_below {S S' : Nat → Prop} {a b c : World} (h : Grows S S' a b) (k : Below b.heap.size b c) : Grows S S' a c := h.trans (.below k)
theorem Grows.after_below {S S' : Nat → Prop} {a b c : World} (k : Below a.heap.size a b) (h : Grows S S' b c) : Grows S S' a c := (Grows.below k).trans h
theorem Grows.wide {S S' T : Nat → Prop} {a b : World} (h : Grows S S' a b) (hs : ∀ k, S k → T k) : Grows T (fun k => S' k ∨ (T k ∧ ¬ S k)) a b :=
  ⟨⟨h.m.os, h.m.tape, h.m.output, h.m.size, fun k hk ht => h.m.block k hk (fun e => ht (hs k e))⟩, fun k hk => hk.elim (fun e => (h.s k e).imp_left (hs k)) (fun e => .inl e.1)⟩

abbrev HP := World → (Nat → Prop) → Prop
structure HP.Ok (p : HP) : Prop where
  moved : ∀ {w w' : World} {S T : Nat → Prop}, p w S → Moved T w w' → (∀ k, S k → ¬ T k) → p w' S
  lt : ∀ {w : World} {S : Nat → Prop}, p w S → ∀ k, S k → k < w.heap.size
theorem HP.Ok.below {p : HP} (o : p.Ok) {w w' : World} {S : Nat → Prop} (h : p w S) (hb : Below w.heap.size w w') : p w' S :=
  o.moved h (Moved.of_below hb (fun _ => False)) (fun _ _ e => e)

def hemp : HP := fun _ S => ∀ k, ¬ S k
theorem hemp_ok : hemp.Ok := ⟨fun h _ _ => h, fun h k e => absurd e (h k)⟩

def Sep (P : Nat → HP) : HP := fun w S => ∃ γ : Nat → Nat, (∀ k, S k ↔ γ k ≠ 0) ∧ ∀ i, 0 < i → P i w (fun k => γ k = i)
theorem Sep.ok {P : Nat → HP} (o : ∀ i, (P i).Ok) : (Sep P).Ok := by
  constructor
  · rintro w w' S T ⟨γ, h1, h2⟩ hm hd
    exact ⟨γ, h1, fun i hi => (o i).moved (h2 i hi) hm (fun k hk => hd k ((h1 k).2 (by omega)))⟩
  · rintro w S ⟨γ, h1, h2⟩ k hk
    have h0 := (h1 k).1 hk
    exact (o (γ k)).lt (h2 (γ k) (by omega)) k rfl

def upd (P : Nat → HP) (i : Nat) (p : HP) : Nat → HP := fun j => if j = i then p else P j
theorem upd_same (P : Nat → HP) (i : Nat) (p : HP) : upd P i p i = p := by simp [upd]
theorem upd_ne (P : Nat → HP) {i j : Nat} (p : HP) (h : j ≠ i) : upd P i p j = P j := by simp [upd, h]
theorem upd_self (P : Nat → HP) (i : Nat) : upd P i (P i) = P := by funext j; unfold upd; split <;> simp_all
theorem upd_upd (P : Nat → HP) (i : Nat) (p q : HP) : upd (upd P i p) i q = upd P i q := by funext j; unfold upd; split <;> rfl

theorem Sep.open_ {P : Nat → HP} (o : ∀ i, (P i).Ok) {w : World} {S : Nat → Prop} (h : Sep P w S) (i : Nat) (hi : 0 < i) :
    ∃ S0, P i w S0 ∧ (∀ k, S0 k → S k) ∧ ∀ (w' : World) (S0' : Nat → Prop) (p' : HP), p' w' S0' → Grows S0 S0' w w' → ∃ S', Sep (upd P i p') w' S' ∧ Grows S S' w w' := by
  obtain ⟨γ, h1, h2⟩ := h
  refine ⟨fun k => γ k = i, h2 i hi, fun k hk => (h1 k).2 (by omega), fun w' S0' p' hp hg => ?_⟩
  classical
  have hlt : ∀ k, γ k ≠ 0 → k < w.heap.size := fun k hk => (o (γ k)).lt (h2 (γ k) (by omega)) k rfl
  refine ⟨fun k => S0' k ∨ (γ k ≠ 0 ∧ γ k ≠ i), ⟨fun k => if S0' k then i else if γ k = i then 0 else γ k, fun k => ?_, fun j hj => ?_⟩, ⟨⟨hg.m.os, hg.m.tape, hg.m.output, hg.m.size, fun k hk hs => hg.m.block k hk (fun e => hs ((h1 k).2 (by omega)))⟩, fun k hk => ?_⟩⟩
  · by_cases hs : S0' k
    · simp [hs]; omega
    · by_cases hi' : γ k = i
      · simp [hs, hi']
      · simp [hs, hi']
  · by_cases hji : j = i
    · subst hji
      rw [upd_same]
      have e : (fun k => (if S0' k then j else if γ k = j then 0 else γ k) = j) = S0' := by
        funext k
        by_cases hs : S0' k
        · simp [hs]
        · by_cases hi' : γ k = j
          · simp [hs, hi']; omega
          · simp [hs, hi']
      rw [e]
      exact hp
    · rw [upd_ne _ _ hji]
      have e : (fun k => (if S0' k then i else if γ k = i then 0 else γ k) = j) = (fun k => γ k = j) := by
        funext k
        by_cases hs : S0' k
        · rw [if_pos hs]
          refine propext ⟨fun h => absurd h.symm hji, fun h => ?_⟩
          rcases hg.s k hs with h' | h'
          · omega
          · have := hlt k (by omega); omega
        · rw [if_neg hs]
          by_cases hi' : γ k = i
          · rw [if_pos hi']; refine propext ⟨fun h => by omega, fun h => by omega⟩
          · rw [if_neg hi']
      rw [e]
      exact (o j).moved (h2 j hj) hg.m (fun k hk => by omega)
  · rcases hk with hk | hk
    · exact (hg.s k hk).imp_left fun e => (h1 k).2 (by omega)
    · exact .inl ((h1 k).2 hk.1)

theorem Sep.open2 {P : Nat → HP} (o : ∀ i, (P i).Ok) {w : World} {S : Nat → Prop} (h : Sep P w S) (i j : Nat) (hi : 0 < i) (hj : 0 < j) (hij : i ≠ j) :
    ∃ S1 S2, P i w S1 ∧ P j w S2 ∧ (∀ k, S1 k → ¬ S2 k) ∧ (∀ k, S1 k ∨ S2 k → S k) ∧ ∀ (w' : World) (S1' S2' : Nat → Prop) (p q : HP), p w' S1' → q w' S2' → (∀ k, S1' k → ¬ S2' k) → Grows (fun k => S1 k ∨ S2 k) (fun k => S1' k ∨ S2' k) w w' → ∃ S', Sep (upd (upd P i p) j q) w' S' ∧ Grows S S' w w' := by
  obtain ⟨γ, h1, h2⟩ := h
  refine ⟨fun k => γ k = i, fun k => γ k = j, h2 i hi, h2 j hj, fun k hk => by omega, fun k hk => (h1 k).2 (by omega), fun w' S1' S2' p q hp hq hd hg => ?_⟩
  classical
  have hlt : ∀ k, γ k ≠ 0 → k < w.heap.size := fun k hk => (o (γ k)).lt (h2 (γ k) (by omega)) k rfl
  refine ⟨fun k => S1' k ∨ S2' k ∨ (γ k ≠ 0 ∧ γ k ≠ i ∧ γ k ≠ j), ⟨fun k => if S1' k then i else if S2' k then j else if γ k = i ∨ γ k = j then 0 else γ k, fun k => ?_, fun l hl => ?_⟩, ⟨⟨hg.m.os, hg.m.tape, hg.m.output, hg.m.size, fun k hk hs => hg.m.block k hk (fun e => hs ((h1 k).2 (by omega)))⟩, fun k hk => ?_⟩⟩
  · by_cases hs : S1' k
    · simp [hs]; omega
    · by_cases ht : S2' k
      · simp [hs, ht]; omega
      · by_cases hi' : γ k = i ∨ γ k = j
        · simp [hs, ht, hi']; omega
        · simp [hs, ht, hi']; omega
  · by_cases hli : l = i
    · subst hli
      rw [upd_ne _ _ hij, upd_same]
      have e : (fun k => (if S1' k then l else if S2' k then j else if γ k = l ∨ γ k = j then 0 else γ k) = l) = S1' := by
        funext k
        by_cases hs : S1' k
        · simp [hs]
        · by_cases ht : S2' k
          · simp [hs, ht]; omega
          · by_cases hi' : γ k = l ∨ γ k = j
            · simp [hs, ht, hi']; omega
            · simp [hs, ht, hi']; omega
      rw [e]
      exact hp
    · by_cases hlj : l = j
      · subst hlj
        rw [upd_same]
        have e : (fun k => (if S1' k then i else if S2' k then l else if γ k = i ∨ γ k = l then 0 else γ k) = l) = S2' := by
          funext k
          by_cases hs : S1' k
          · have := hd k hs; simp [hs, this]; omega
          · by_cases ht : S2' k
            · simp [hs, ht]
            · by_cases hi' : γ k = i ∨ γ k = l
              · simp [hs, ht, hi']; omega
              · simp [hs, ht, hi']; omega
        rw [e]
        exact hq
      · rw [upd_ne _ _ hlj, upd_ne _ _ hli]
        have e : (fun k => (if S1' k then i else if S2' k then j else if γ k = i ∨ γ k = j then 0 else γ k) = l) = (fun k => γ k = l) := by
          funext k
          by_cases hs : S1' k ∨ S2' k
          · have hk : ¬ γ k = l := fun h => by
              rcases hg.s k hs with h' | h'
              · omega
              · have := hlt k (by omega); omega
            by_cases h5 : S1' k
            · simp [h5, hk]; omega
            · have h6 : S2' k := hs.resolve_left h5
              simp [h5, h6, hk]; omega
          · have h5 : ¬ S1' k := fun e => hs (.inl e)
            have h6 : ¬ S2' k := fun e => hs (.inr e)
            by_cases hi' : γ k = i ∨ γ k = j
            · simp [h5, h6, hi']; omega
            · simp [h5, h6, hi']
        rw [e]
        exact (o l).moved (h2 l hl) hg.m (fun k hk => by omega)
  · rcases hk with hk | hk | hk
    · exact (hg.s k (.inl hk)).imp_left fun e => (h1 k).2 (by omega)
    · exact (hg.s k (.inr hk)).imp_left fun e => (h1 k).2 (by omega)
    · exact .inl ((h1 k).2 hk.1)
end Go.Proofs.YtcenagpkfimkbaaGreatDoor
namespace Go.Proofs.YtcenagpkfimkbaaGreatDoor
open Go Go.RowKit

theorem info_u64 : (Tryz.prog.info? 34).map (fun i => (i.zero, i.size, i.bytes)) = some (some (.int .u64 0), 1, 8) := by kernel_rfl
theorem Clone_u64_nil (w : World) : Calls Tryz.prog 91 #[.slice none 0 0] w (RetOwn .u64 34 [] w) := by
  have hq := fun w => Lib.run_eql_slice_nil (P := Tryz.prog) w 43 34 none 0 0 0 0 Tryz.underlying43
  go_enter Tryz.func91, Tryz.ntmps91
  go_wp2
  go_ret
  exact ⟨_, rfl, Below.refl _ _, World.ownsRow_nil _ _ _ _⟩
theorem Clone_u64_some (ad : Addr) (xs : List Int) (cap : Nat) (w : World) (h : Reads .u64 w (some ad) xs) (hn : xs.length * 8 ≤ 140737488351232) :
    Calls Tryz.prog 91 #[.slice (some ad) xs.length cap] w (RetOwn .u64 34 xs w) := by
  obtain ⟨i0, hi, hz0, hz1, hz2⟩ := info_parts info_u64
  have hcs := Lib.hid (cells_of_reads h)
  have hq := fun w => Lib.run_eql_slice_nil (P := Tryz.prog) w 43 34 (some ad) xs.length cap 0 0 Tryz.underlying43
  go_enter Tryz.func91, Tryz.ntmps91
  go_wp2_with (at_builtin; refine wpList_append_own _ rfl _ _ 43 rfl w.heap.size 34 i0 (.int .u64 0) 1 8 Tryz.underlying43 hi hz0 hz1 hz2 rfl (by decide) _ _ _ rfl (World.ownsRow_made w #[] 0 (Nat.le_refl _) (by decide) rfl) ad xs.length cap (xs.map (Value.int .u64)) rfl ?c0 ?c1 ?c2 ?c3 ?c4 ?c5 ?_)
  case c0 => simp
  case c1 => exact fun j u hj => (cell_alloc_old _ (hcs.out j u hj))
  case c2 => exact ints_oneCell _ _
  case c3 => unfold maxLen; omega
  case c4 => omega
  case c5 => simp
  · intro v' w1 hown' hgrow _
    go_wp2
    go_ret
    refine ⟨_, rfl, ?_, by simpa using hown'⟩
    exact ((Below.refl _ _).alloc (Nat.le_refl _) _).grown hgrow (by simp) (fun k e => by simp [Value.ownBlock] at e; omega)

theorem Clone_u64_any (a : Option Addr) (xs : List Int) (cap : Nat) (w : World) (h : Reads .u64 w a xs) (hn : xs.length * 8 ≤ 140737488351232) (h0 : a = none → xs = [] ∧ cap = 0) :
    Calls Tryz.prog 91 #[.slice a xs.length cap] w (RetOwn .u64 34 xs w) := by
  rcases a with _ | ad
  · obtain ⟨rfl, rfl⟩ := h0 rfl
    exact Clone_u64_nil w
  · exact Clone_u64_some ad xs cap w h hn

end Go.Proofs.YtcenagpkfimkbaaGreatDoor
namespace Go.Proofs.YtcenagpkfimkbaaGreatDoor
open Go Go.RowKit

abbrev u64s (xs : List Int) : Array Value := (xs.map (Value.int .u64)).toArray

def MemAt (w : World) (b g : Nat) (xs : List Int) : Prop :=
  w.heap[b]? = some (.cells #[.slice (some ⟨g, 0, none⟩) xs.length xs.length] 233 (0, 0)) ∧ w.heap[g]? = some (.cells (u64s xs) 34 (0, 0)) ∧ xs.length ≤ 16384

theorem MemAt.ne {w : World} {b g : Nat} {xs : List Int} (h : MemAt w b g xs) : b ≠ g := by
  rintro rfl
  have := h.1.symm.trans h.2.1
  simp at this
theorem MemAt.below {w w' : World} {B b g : Nat} {xs : List Int} (h : MemAt w b g xs) (hb : Below B w w') (h1 : b < B) (h2 : g < B) : MemAt w' b g xs :=
  ⟨heap_below hb h.1 h1, heap_below hb h.2.1 h2, h.2.2⟩
theorem MemAt.later {w w' : World} {b g : Nat} {xs : List Int} (h : MemAt w b g xs) (hb : Below w.heap.size w w') : MemAt w' b g xs := h.below hb (heap_lt h.1) (heap_lt h.2.1)
theorem MemAt.grown {w w' : World} {b g k : Nat} {xs : List Int} (h : MemAt w b g xs) (hg : w.grownBy w' (some k)) (h1 : b ≠ k) (h2 : g ≠ k) : MemAt w' b g xs :=
  ⟨heap_grown hg h.1 h1, heap_grown hg h.2.1 h2, h.2.2⟩
theorem MemAt.cell {w : World} {b g : Nat} {xs : List Int} (h : MemAt w b g xs) : w.cell? ⟨b, 0, none⟩ = some (.slice (some ⟨g, 0, none⟩) xs.length xs.length) := by rw [heap_cell h.1]; rfl
theorem MemAt.word {w : World} {b g : Nat} {xs : List Int} (h : MemAt w b g xs) (i : Nat) (hi : i < xs.length) : w.cell? ⟨g, i, none⟩ = some (.int .u64 (xs.getD i 0)) := by
  rw [heap_cell h.2.1]; simp [hi]
theorem MemAt.free {w : World} {b g : Nat} {xs : List Int} (h : MemAt w b g xs) (i : Nat) : w.frozen? ⟨g, i, none⟩ = false := heap_free h.2.1 i
theorem MemAt.set {w : World} {b g : Nat} {xs : List Int} (h : MemAt w b g xs) (i : Nat) (v : Int) : MemAt (w.setCell ⟨g, i, none⟩ (.int .u64 v)) b g (xs.set i v) := by
  refine ⟨?_, ?_, by simpa using h.2.2⟩
  · rw [heap_set_ne h.ne]; simpa using h.1
  · rw [heap_set h.2.1]; simp [u64s, List.map_set]

def zrow (n : Nat) : Array Value := madeCells #[.int .u64 0] n
theorem zrow_eq (n : Nat) : zrow n = u64s (List.replicate n 0) := by
  apply Array.toList_inj.1
  simp [zrow, toList_madeCells_one]
theorem run_mk64 (n : Nat) (hn : n ≤ 16384) (w : World) :
    (Instr.makeSlice 43 (.int .i64 n) (.int .i64 n)).run Tryz.prog w = .ok (.slice (some ⟨w.heap.size, 0, none⟩) n n) (w.alloc (.cells (zrow n) 34)) := by
  obtain ⟨i0, hi, hz0, hz1, hz2⟩ := info_parts info_u64
  have := run_make (P := Tryz.prog) w 43 34 i0 (.int .u64 0) Tryz.underlying43 hi hz0 .i64 .i64 n n (by omega) (by omega) (by rw [hz2]; omega) (by omega)
  rw [this, hz1]
  simp [zrow, Value.cells]

theorem wNew_any (n : Nat) (w : World) (hn : n ≤ 16384) :
    Calls Tryz.prog 93 #[.int .i64 n] w fun e w' => e = .returned (.tuple #[.pointer (some ⟨w.heap.size + 1, 0, none⟩), .int .i64 0]) ∧ Below w.heap.size w w' ∧ MemAt w' (w.heap.size + 1) w.heap.size (List.replicate n 0) := by
  have hmk := run_mk64 n hn
  go_enter Tryz.func93, Tryz.ntmps93
  go_wp2
  go_ret2
  refine ⟨rfl, ((Below.refl _ _).alloc (Nat.le_refl _) _).alloc (by simp) _, ?_, ?_, by simpa using hn⟩
  · simpa using heap_alloc_eq (w.alloc (.cells (zrow n) 34)) (.cells #[.slice (some ⟨w.heap.size, 0, none⟩) n n] 233)
  · rw [← zrow_eq]
    exact heap_alloc_lt (heap_alloc_eq _ _) _
theorem wNew_bad (n : Int) (w : World) (h0 : n < 0 ∨ 16384 < n) :
    Calls Tryz.prog 93 #[.int .i64 n] w fun e w' => e = .returned (.tuple #[.pointer none, .int .i64 1]) ∧ w = w' := by
  rcases h0 with h0 | h0
  all_goals
    go_enter Tryz.func93, Tryz.ntmps93
    go_wp2
    go_ret2
    exact ⟨rfl, rfl⟩
def inB (n : Nat) (i : Int) : Bool := decide (0 ≤ i ∧ i < n)
def wrE (n : Nat) (i : Int) : Int := if inB n i = true then 0 else 8
def wrL (xs : List Int) (i v : Int) : List Int := if inB xs.length i = true then xs.set i.toNat v else xs
def rdV (xs : List Int) (i : Int) : Int := if inB xs.length i = true then xs.getD i.toNat 0 else 0
theorem wrL_length (xs : List Int) (i v : Int) : (wrL xs i v).length = xs.length := by unfold wrL; split <;> simp

theorem wRead_any (b g : Nat) (xs : List Int) (i : Int) (w : World) (h : MemAt w b g xs) :
    Calls Tryz.prog 136 #[.pointer (some ⟨b, 0, none⟩), .int .i64 i] w fun e w' => e = .returned (.tuple #[.int .u64 (rdV xs i), .int .i64 (wrE xs.length i)]) ∧ w = w' := by
  have hc := h.cell
  have hl := h.2.2
  rcases (show (0 ≤ i ∧ i < xs.length) ∨ i < 0 ∨ xs.length ≤ i by omega) with ⟨h0, h1⟩ | h0 | h0
  · obtain ⟨i, rfl⟩ := Int.eq_ofNat_of_zero_le h0
    have hi : i < xs.length := by omega
    have hw := h.word i hi
    have e1 : Hid (rdV xs i = xs.getD i 0) := by show _ = _; simp [rdV, inB, hi]
    have e2 : Hid (wrE xs.length i = 0) := by show _ = _; simp [wrE, inB, hi]
    go_enter Tryz.func136, Tryz.ntmps136
    go_wp2
    go_ret2
    rw [e1.out, e2.out]
    exact ⟨by simp [hi], rfl⟩
  all_goals
    have e1 : Hid (rdV xs i = 0) := by show _ = _; simp [rdV, inB]; omega
    have e2 : Hid (wrE xs.length i = 8) := by show _ = _; simp [wrE, inB]; omega
    go_enter Tryz.func136, Tryz.ntmps136
    go_wp2
    go_ret2
    rw [e1.out, e2.out]
    exact ⟨rfl, rfl⟩
theorem wWrite_any (b g : Nat) (xs : List Int) (i v : Int) (w : World) (h : MemAt w b g xs) :
    Calls Tryz.prog 170 #[.pointer (some ⟨b, 0, none⟩), .int .i64 i, .int .u64 v] w fun e w' => e = .returned (.int .i64 (wrE xs.length i)) ∧ w.grownBy w' (some g) ∧ MemAt w' b g (wrL xs i v) := by
  have hc := h.cell
  have hl := h.2.2
  rcases (show (0 ≤ i ∧ i < xs.length) ∨ i < 0 ∨ xs.length ≤ i by omega) with ⟨h0, h1⟩ | h0 | h0
  · obtain ⟨i, rfl⟩ := Int.eq_ofNat_of_zero_le h0
    have hi : i < xs.length := by omega
    have hw := h.word i hi
    have hf := h.free i
    have e1 : Hid (wrL xs i v = xs.set i v) := by show _ = _; simp [wrL, inB, hi]
    have e2 : Hid (wrE xs.length i = 0) := by show _ = _; simp [wrE, inB, hi]
    go_enter Tryz.func170, Tryz.ntmps170
    go_wp2
    go_ret
    rw [e1.out, e2.out]
    exact ⟨rfl, grown_set _ _ _ _, h.set i v⟩
  all_goals
    have e1 : Hid (wrL xs i v = xs) := by show _ = _; simp [wrL, inB]; omega
    have e2 : Hid (wrE xs.length i = 8) := by show _ = _; simp [wrE, inB]; omega
    go_enter Tryz.func170, Tryz.ntmps170
    go_wp2
    go_ret
    rw [e1.out, e2.out]
    exact ⟨rfl, grown_refl _ _, h⟩
end Go.Proofs.YtcenagpkfimkbaaGreatDoor
namespace Go.Proofs.YtcenagpkfimkbaaGreatDoor
open Go Go.RowKit

def hasB (n : Nat) (f k : Int) : Bool := decide (0 ≤ f ∧ 0 ≤ k ∧ f ≤ n ∧ k ≤ n - f)
theorem whas_any (b g : Nat) (xs : List Int) (f k : Int) (w : World) (h : MemAt w b g xs) :
    Calls Tryz.prog 216 #[.pointer (some ⟨b, 0, none⟩), .agg #[.int .i64 f, .int .i64 k]] w fun e w' => e = .returned (.bool (hasB xs.length f k)) ∧ Below w.heap.size w w' := by
  have hc := h.cell
  have hl := h.2.2
  have hlt := heap_lt h.1
  rcases (show f < 0 ∨ (0 ≤ f ∧ k < 0) ∨ (0 ≤ f ∧ 0 ≤ k ∧ (xs.length : Int) < f) ∨ (0 ≤ f ∧ 0 ≤ k ∧ f ≤ xs.length ∧ xs.length - f < k) ∨ (0 ≤ f ∧ 0 ≤ k ∧ f ≤ xs.length ∧ k ≤ xs.length - f) by omega) with h1 | ⟨h1, h2⟩ | ⟨h1, h2, h3⟩ | ⟨h1, h2, h3, h4⟩ | ⟨h1, h2, h3, h4⟩
  · have d1 : decide (0 ≤ f) = false := by simp; omega
    go_enter Tryz.func216, Tryz.ntmps216
    go_wp2
    go_quiet (fail)
    go_wp2
    go_ret
    exact ⟨ret_bool (by simp [hasB]; omega), below_drewN ((Below.refl _ _).alloc (Nat.le_refl _) _) _⟩
  · have d1 : decide (0 ≤ f) = true := by simp; omega
    have d2 : decide (0 ≤ k) = false := by simp; omega
    go_enter Tryz.func216, Tryz.ntmps216
    go_wp2
    go_quiet (fail)
    go_wp2
    go_ret
    exact ⟨ret_bool (by simp [hasB]; omega), below_drewN ((Below.refl _ _).alloc (Nat.le_refl _) _) _⟩
  · have d1 : decide (0 ≤ f) = true := by simp; omega
    have d2 : decide (0 ≤ k) = true := by simp; omega
    have d3 : decide (f ≤ (xs.length : Int)) = false := by simp; omega
    go_enter Tryz.func216, Tryz.ntmps216
    go_wp2
    go_quiet (fail)
    go_wp2
    go_ret
    exact ⟨ret_bool (by simp [hasB]; omega), below_drewN ((Below.refl _ _).alloc (Nat.le_refl _) _) _⟩
  · have d1 : decide (0 ≤ f) = true := by simp; omega
    have d2 : decide (0 ≤ k) = true := by simp; omega
    have d3 : decide (f ≤ (xs.length : Int)) = true := by simp; omega
    have d5 : IntKind.i64.wrap ((xs.length : Int) - f) = (xs.length : Int) - f := IntWalk.i64_in _ (by omega)
    have d4 : decide (k ≤ (xs.length : Int) - f) = false := by simp; omega
    go_enter Tryz.func216, Tryz.ntmps216
    go_wp2
    go_quiet (fail)
    go_wp2
    go_ret
    exact ⟨ret_bool (by simp [hasB]; omega), below_drewN ((Below.refl _ _).alloc (Nat.le_refl _) _) _⟩
  · have d1 : decide (0 ≤ f) = true := by simp; omega
    have d2 : decide (0 ≤ k) = true := by simp; omega
    have d3 : decide (f ≤ (xs.length : Int)) = true := by simp; omega
    have d5 : IntKind.i64.wrap ((xs.length : Int) - f) = (xs.length : Int) - f := IntWalk.i64_in _ (by omega)
    have d4 : decide (k ≤ (xs.length : Int) - f) = true := by simp; omega
    go_enter Tryz.func216, Tryz.ntmps216
    go_wp2
    go_quiet (fail)
    go_wp2
    go_ret
    exact ⟨ret_bool (by simp [hasB]; omega), below_drewN ((Below.refl _ _).alloc (Nat.le_refl _) _) _⟩
end Go.Proofs.YtcenagpkfimkbaaGreatDoor
namespace Go.Proofs.YtcenagpkfimkbaaGreatDoor
open Go Go.RowKit

def BitsOf (ws : List Int) (xs : List Bool) : Prop :=
  ws.length = (xs.length + 63) / 64 ∧ ∀ j, j < ws.length → ∃ v : Nat, ws[j]? = some (v : Int) ∧ v < 2 ^ 64 ∧ ∀ i, i < 64 → v.testBit i = xs.getD (64 * j + i) false
def RowAt (w : World) (b g : Nat) (xs : List Bool) : Prop :=
  ∃ ws, BitsOf ws xs ∧ w.heap[b]? = some (.cells #[.slice (some ⟨g, 0, none⟩) ws.length ws.length, .int .i64 xs.length] 231 (0, 0)) ∧ w.heap[g]? = some (.cells (u64s ws) 34 (0, 0)) ∧ xs.length ≤ 16384

theorem RowAt.ne {w : World} {b g : Nat} {xs : List Bool} (h : RowAt w b g xs) : b ≠ g := by
  obtain ⟨ws, _, h1, h2, _⟩ := h
  rintro rfl
  rw [h1] at h2
  simp at h2
theorem RowAt.moved {w w' : World} {b g : Nat} {xs : List Bool} {T : Nat → Prop} (h : RowAt w b g xs) (hm : Moved T w w') (hb : ¬ T b) (hg : ¬ T g) : RowAt w' b g xs := by
  obtain ⟨ws, h0, h1, h2, h3⟩ := h
  exact ⟨ws, h0, hm.heap h1 hb, hm.heap h2 hg, h3⟩
theorem RowAt.later {w w' : World} {b g : Nat} {xs : List Bool} (h : RowAt w b g xs) (hb : Below w.heap.size w w') : RowAt w' b g xs :=
  h.moved (Moved.of_below hb (fun _ => False)) id id

theorem BitsOf.zero (n : Nat) : BitsOf (List.replicate ((n + 63) / 64) 0) (List.replicate n false) := by
  refine ⟨by simp, fun j hj => ⟨0, ?_, by omega, fun i _ => ?_⟩⟩
  · simp at hj
    simp [hj]
  · rw [Nat.zero_testBit]
    simp [List.getElem?_replicate]
    split <;> simp

set_option maxRecDepth 100000 in
theorem bNew_any (n : Nat) (w : World) (hn : n ≤ 16384) :
    Calls Tryz.prog 92 #[.int .i64 n] w fun e w' => e = .returned (.tuple #[.pointer (some ⟨w.heap.size + 1, 0, none⟩), .int .i64 0]) ∧ Below w.heap.size w w' ∧ RowAt w' (w.heap.size + 1) w.heap.size (List.replicate n false) := by
  obtain ⟨q, hq⟩ : ∃ q, (n + 63) / 64 = q := ⟨_, rfl⟩
  have hmk := run_mk64 q (by omega)
  have h1 : ((n : Int) + 64 - 1) / 64 = (q : Int) := by omega
  have h2 : ((n : Int) + 63) / 64 = (q : Int) := by omega
  have HQ := Lib.hid hq
  clear hq
  go_enter Tryz.func92, Tryz.ntmps92
  go_wp2
  go_ret2
  refine ⟨rfl, ((Below.refl _ _).alloc (Nat.le_refl _) _).alloc (by simp) _, List.replicate ((n + 63) / 64) 0, BitsOf.zero n, ?_, ?_, by simpa using hn⟩
  · rw [HQ.out]
    simpa using heap_alloc_eq (w.alloc (.cells (zrow q) 34)) (.cells #[.slice (some ⟨w.heap.size, 0, none⟩) q q, .int .i64 n] 231)
  · rw [HQ.out, ← zrow_eq]
    exact heap_alloc_lt (heap_alloc_eq _ _) _

theorem bLen_any (b g : Nat) (xs : List Bool) (w : World) (h : RowAt w b g xs) :
    Calls Tryz.prog 132 #[.pointer (some ⟨b, 0, none⟩)] w fun e w' => e = .returned (.int .i64 xs.length) ∧ w = w' := by
  obtain ⟨ws, _, h1, _, _⟩ := h
  have c1 := heap_cell h1 1
  simp at c1
  clear h1
  go_enter Tryz.func132, Tryz.ntmps132
  go_wp2
  go_ret
  exact ⟨rfl, rfl⟩

theorem and_one (x : Int) (h0 : 0 ≤ x) (h1 : x < 18446744073709551616) : bits .and .u64 x 1 = x % 2 := by
  obtain ⟨m, rfl⟩ := Int.eq_ofNat_of_zero_le h0
  rw [u64_and _ _ h0 h1 (by omega) (by omega), Int.toNat_natCast, show ((1 : Int).toNat) = 1 from rfl, Nat.and_one_is_mod]
  rfl
theorem bit_eq (v m : Nat) (hv : v < 2 ^ 64) : (bits .and .u64 ((v : Int) / 2 ^ m) 1 == 1) = v.testBit m := by
  have e : (v : Int) / 2 ^ m = ((v / 2 ^ m : Nat) : Int) := by push_cast; rfl
  have hle : v / 2 ^ m ≤ v := Nat.div_le_self _ _
  obtain ⟨y, hy⟩ : ∃ y, v / 2 ^ m = y := ⟨_, rfl⟩
  rw [hy] at hle
  rw [e, hy, and_one _ (by omega) (by omega), Nat.testBit_eq_decide_div_mod_eq, hy]
  rw [Bool.eq_iff_iff]
  simp
  omega
def hasM (xs : List Bool) (i : Int) : Bool := if 0 ≤ i ∧ i < xs.length then xs.getD i.toNat false else false

set_option maxRecDepth 100000 in
theorem bHas_any (b g : Nat) (xs : List Bool) (i : Int) (w : World) (h : RowAt w b g xs) :
    Calls Tryz.prog 194 #[.pointer (some ⟨b, 0, none⟩), .int .i64 i] w fun e w' => e = .returned (.bool (hasM xs i)) ∧ w = w' := by
  obtain ⟨ws, ⟨hl, hbt⟩, h1, h2, h3⟩ := h
  have c0 := heap_cell h1 0
  have c1 := heap_cell h1 1
  simp at c0 c1
  clear h1
  by_cases hi : 0 ≤ i ∧ i < xs.length
  · obtain ⟨k, rfl⟩ := Int.eq_ofNat_of_zero_le hi.1
    have hk : k < xs.length := by omega
    have hkw : k / 64 < ws.length := by omega
    obtain ⟨v, hv, hv2, hv3⟩ := hbt (k / 64) hkw
    have c2 := heap_cell h2 (k / 64)
    simp [u64s, hv] at c2
    have hM : hasM xs (k : Int) = v.testBit (k % 64) := by
      rw [hv3 _ (by omega), hasM, if_pos hi, Int.toNat_natCast]
      congr 1
      omega
    have HM := Lib.hid (And.intro hM hv2)
    obtain ⟨wl, hwl⟩ : ∃ x, ws.length = x := ⟨_, rfl⟩
    rw [hwl] at c0 hkw
    clear h2 hbt hl hv hv3 hv2 hM hi hwl
    go_enter Tryz.func194, Tryz.ntmps194
    go_wp2
    go_ret
    exact ⟨ret_bool (by rw [HM.out.1]; exact bit_eq _ _ HM.out.2), rfl⟩
  · have hM : hasM xs i = false := by rw [hasM, if_neg hi]
    rw [hM]
    clear h2 hbt hl c0
    by_cases h0 : 0 ≤ i
    · have h5 : ¬ i < (xs.length : Int) := fun h => hi ⟨h0, h⟩
      go_enter Tryz.func194, Tryz.ntmps194
      go_wp2
      go_ret
      exact ⟨rfl, rfl⟩
    · go_enter Tryz.func194, Tryz.ntmps194
      go_wp2
      go_ret
      exact ⟨rfl, rfl⟩

theorem bfits_any (b g : Nat) (xs : List Bool) (f k : Int) (w : World) (h : RowAt w b g xs) :
    Calls Tryz.prog 187 #[.pointer (some ⟨b, 0, none⟩), .agg #[.int .i64 f, .int .i64 k]] w fun e w' => e = .returned (.bool (hasB xs.length f k)) ∧ Below w.heap.size w w' := by
  obtain ⟨ws, _, hrow, _, hl⟩ := h
  have hc := heap_cell hrow 1
  simp at hc
  have hlt := heap_lt hrow
  clear hrow
  rcases (show f < 0 ∨ (0 ≤ f ∧ k < 0) ∨ (0 ≤ f ∧ 0 ≤ k ∧ (xs.length : Int) < f) ∨ (0 ≤ f ∧ 0 ≤ k ∧ f ≤ xs.length ∧ xs.length - f < k) ∨ (0 ≤ f ∧ 0 ≤ k ∧ f ≤ xs.length ∧ k ≤ xs.length - f) by omega) with h1 | ⟨h1, h2⟩ | ⟨h1, h2, h3⟩ | ⟨h1, h2, h3, h4⟩ | ⟨h1, h2, h3, h4⟩
  · have d1 : decide (0 ≤ f) = false := by simp; omega
    go_enter Tryz.func187, Tryz.ntmps187
    go_wp2
    go_quiet (fail)
    go_wp2
    go_ret
    exact ⟨ret_bool (by simp [hasB]; omega), below_drewN ((Below.refl _ _).alloc (Nat.le_refl _) _) _⟩
  · have d1 : decide (0 ≤ f) = true := by simp; omega
    have d2 : decide (0 ≤ k) = false := by simp; omega
    go_enter Tryz.func187, Tryz.ntmps187
    go_wp2
    go_quiet (fail)
    go_wp2
    go_ret
    exact ⟨ret_bool (by simp [hasB]; omega), below_drewN ((Below.refl _ _).alloc (Nat.le_refl _) _) _⟩
  · have d1 : decide (0 ≤ f) = true := by simp; omega
    have d2 : decide (0 ≤ k) = true := by simp; omega
    have d3 : decide (f ≤ (xs.length : Int)) = false := by simp; omega
    go_enter Tryz.func187, Tryz.ntmps187
    go_wp2
    go_quiet (fail)
    go_wp2
    go_ret
    exact ⟨ret_bool (by simp [hasB]; omega), below_drewN ((Below.refl _ _).alloc (Nat.le_refl _) _) _⟩
  · have d1 : decide (0 ≤ f) = true := by simp; omega
    have d2 : decide (0 ≤ k) = true := by simp; omega
    have d3 : decide (f ≤ (xs.length : Int)) = true := by simp; omega
    have d5 : IntKind.i64.wrap ((xs.length : Int) - f) = (xs.length : Int) - f := IntWalk.i64_in _ (by omega)
    have d4 : decide (k ≤ (xs.length : Int) - f) = false := by simp; omega
    go_enter Tryz.func187, Tryz.ntmps187
    go_wp2
    go_quiet (fail)
    go_wp2
    go_ret
    exact ⟨ret_bool (by simp [hasB]; omega), below_drewN ((Below.refl _ _).alloc (Nat.le_refl _) _) _⟩
  · have d1 : decide (0 ≤ f) = true := by simp; omega
    have d2 : decide (0 ≤ k) = true := by simp; omega
    have d3 : decide (f ≤ (xs.length : Int)) = true := by simp; omega
    have d5 : IntKind.i64.wrap ((xs.length : Int) - f) = (xs.length : Int) - f := IntWalk.i64_in _ (by omega)
    have d4 : decide (k ≤ (xs.length : Int) - f) = true := by simp; omega
    go_enter Tryz.func187, Tryz.ntmps187
    go_wp2
    go_quiet (fail)
    go_wp2
    go_ret
    exact ⟨ret_bool (by simp [hasB]; omega), below_drewN ((Below.refl _ _).alloc (Nat.le_refl _) _) _⟩
end Go.Proofs.YtcenagpkfimkbaaGreatDoor
namespace Go.Proofs.YtcenagpkfimkbaaGreatDoor
open Go Go.RowKit

theorem drewN_add (w : World) (a b : Nat) : (w.drewN a).drewN b = w.drewN (a + b) := by simp [World.drewN, Nat.add_assoc]

def offs (xss : List (List Int)) : List Int := (List.range xss.length).map fun i => ((xss.take i).flatten.length : Int)
theorem offs_length (xss : List (List Int)) : (offs xss).length = xss.length := by simp [offs]
theorem offs_concat (xss : List (List Int)) (l : List Int) : offs (xss ++ [l]) = offs xss ++ [(xss.flatten.length : Int)] := by
  apply List.ext_getElem?
  intro i
  simp only [offs, List.length_append, List.length_singleton, List.getElem?_map]
  rcases Nat.lt_trichotomy i xss.length with h | h | h
  · rw [List.getElem?_append_left (by simpa using h), List.getElem?_map, List.getElem?_range (by omega), List.getElem?_range h]
    simp only [Option.map_some, Option.some.injEq]
    rw [List.take_append_of_le_length (by omega)]
  · subst h
    rw [List.getElem?_append_right (by simp), List.getElem?_range (by omega)]
    simp
  · rw [List.getElem?_append_right (by simp; omega), List.getElem?_eq_none (by simp; omega)]
    simp
    omega

def StackAt (w : World) (sb : Nat) (xss : List (List Int)) (S : Nat → Prop) : Prop :=
  ∃ sl fr, w.heap[sb]? = some (.cells #[sl, fr] 170 (0, 0)) ∧ w.ownsRow 0 34 1 sl xss.flatten.length (xss.flatten.map (Value.int .u64)) ∧ w.ownsRow 0 3 1 fr xss.length ((offs xss).map (Value.int .i64)) ∧
    S sb ∧ (∀ k, sl.ownBlock = some k → S k ∧ k ≠ sb ∧ fr.ownBlock ≠ some k) ∧ (∀ k, fr.ownBlock = some k → S k ∧ k ≠ sb) ∧ (∀ k, S k → k < w.heap.size) ∧ (∀ l ∈ xss, l.length ≤ 16) ∧ xss.length ≤ 64

theorem flat_len {xss : List (List Int)} (h : ∀ l ∈ xss, l.length ≤ 16) : xss.flatten.length ≤ xss.length * 16 := by
  induction xss with
  | nil => simp
  | cons a t ih =>
    have h1 := h a (by simp)
    have h2 := ih (fun l hl => h l (by simp [hl]))
    rw [List.flatten_cons, List.length_append, List.length_cons]
    omega

theorem StackAt.moved {w w' : World} {sb : Nat} {xss : List (List Int)} {S T : Nat → Prop} (h : StackAt w sb xss S) (hm : Moved T w w') (hd : ∀ k, S k → ¬ T k) : StackAt w' sb xss S := by
  obtain ⟨sl, fr, h1, h2, h3, h4, h5, h6, h7, h8, h9⟩ := h
  exact ⟨sl, fr, hm.heap h1 (hd _ h4), hm.owns h2 (fun k hk => hd k (h5 k hk).1), hm.owns h3 (fun k hk => hd k (h6 k hk).1), h4, h5, h6, fun k hk => Nat.lt_of_lt_of_le (h7 k hk) hm.size, h8, h9⟩
theorem StackAt.later {w w' : World} {sb : Nat} {xss : List (List Int)} {S : Nat → Prop} (h : StackAt w sb xss S) (hb : Below w.heap.size w w') : StackAt w' sb xss S :=
  h.moved (Moved.of_below hb (fun _ => False)) (fun _ _ e => e)

theorem sNew_any (w : World) : Calls Tryz.prog 44 #[] w fun e w' => e = .returned (.pointer (some ⟨w.heap.size, 0, none⟩)) ∧ Below w.heap.size w w' ∧ StackAt w' w.heap.size [] (fun k => k = w.heap.size) := by
  go_enter Tryz.func44, Tryz.ntmps44
  go_wp2
  go_ret
  refine ⟨rfl, (Below.refl _ _).alloc (Nat.le_refl _) _, .slice none 0 0, .slice none 0 0, heap_alloc_eq _ _, World.ownsRow_nil _ _ _ _, World.ownsRow_nil _ _ _ _, rfl, by simp [Value.ownBlock], by simp [Value.ownBlock], fun k hk => by subst hk; simp, by simp, by simp⟩

theorem Depth_any {sb : Nat} {xss : List (List Int)} {S : Nat → Prop} {w : World} (h : StackAt w sb xss S) :
    Calls Tryz.prog 172 #[.pointer (some ⟨sb, 0, none⟩)] w fun e w' => e = .returned (.int .i64 xss.length) ∧ w' = w := by
  obtain ⟨sl, fr, h1, _, h3, _⟩ := h
  obtain ⟨a, cap, rfl, _⟩ := owns_slice h3
  have c1 := heap_cell h1 1
  simp at c1
  clear h1 h3
  go_enter Tryz.func172, Tryz.ntmps172
  go_wp2
  go_ret
  exact ⟨rfl, rfl⟩

def topA (a : Option Addr) (f n : Nat) : Option Addr := if n = f then a else a.map (·.add f)

theorem top_none {sb : Nat} {S : Nat → Prop} {w : World} (h : StackAt w sb [] S) :
    Calls Tryz.prog 173 #[.pointer (some ⟨sb, 0, none⟩)] w fun e w' => e = .returned (.tuple #[.slice none 0 0, .int .i64 2]) ∧ w' = w := by
  obtain ⟨sl, fr, h1, _, h3, _⟩ := h
  obtain ⟨a, cap, rfl, _⟩ := owns_slice h3
  have c1 := heap_cell h1 1
  simp at c1
  clear h1 h3
  go_enter Tryz.func173, Tryz.ntmps173
  go_wp2
  go_ret2
  exact ⟨rfl, rfl⟩

theorem top_some {sb : Nat} {w : World} (a : Option Addr) (n cap g m cb f : Nat) (c0 : w.cell? ⟨sb, 0, none⟩ = some (.slice a n cap)) (c1 : w.cell? ⟨sb, 1, none⟩ = some (.slice (some ⟨g, 0, none⟩) (m + 1) cb)) (c2 : w.cell? ⟨g, m, none⟩ = some (.int .i64 f)) (hf : f ≤ n) (hn : n ≤ cap) (hs : n ≤ 2000) (hm : m ≤ 64) :
    Calls Tryz.prog 173 #[.pointer (some ⟨sb, 0, none⟩)] w fun e w' => e = .returned (.tuple #[.slice (topA a f n) (n - f) (n - f), .int .i64 0]) ∧ ∃ q, w' = w.drewN q := by
  have hb : (((m + 1 : Nat) : Int) == 0) = false := by simp; omega
  have hw : IntKind.i64.wrap ((m : Int) + 1 - 1) = m := by rw [IntKind.wrap_i64]; omega
  go_enter Tryz.func173, Tryz.ntmps173
  by_cases hnf : n = f
  all_goals
    go_wp2
    go_quiet (fail)
    go_wp2
    go_quiet (fail)
    go_wp2
    go_ret2
    exact ⟨by simp [topA, hnf], _, drewN_add _ _ _⟩

theorem StackAt.open_ {w : World} {sb : Nat} {xss : List (List Int)} {l : List Int} {S : Nat → Prop} (h : StackAt w sb (xss ++ [l]) S) :
    ∃ a cap g cb, w.heap[sb]? = some (.cells #[.slice a (xss.flatten.length + l.length) cap, .slice (some ⟨g, 0, none⟩) (xss.length + 1) cb] 170 (0, 0)) ∧
      w.ownsRow 0 34 1 (.slice a (xss.flatten.length + l.length) cap) (xss.flatten.length + l.length) ((xss.flatten ++ l).map (Value.int .u64)) ∧ w.ownsRow 0 3 1 (.slice (some ⟨g, 0, none⟩) (xss.length + 1) cb) (xss.length + 1) ((offs xss ++ [(xss.flatten.length : Int)]).map (Value.int .i64)) ∧
      w.cell? ⟨g, xss.length, none⟩ = some (.int .i64 xss.flatten.length) ∧ xss.flatten.length + l.length ≤ cap ∧ (a = none → xss.flatten.length + l.length = 0 ∧ cap = 0) ∧ (∀ q, a = some q → ∃ b, q = ⟨b, 0, none⟩ ∧ S b ∧ b ≠ sb ∧ b ≠ g) ∧ S sb ∧ S g ∧ g ≠ sb ∧
      (∀ k, S k → k < w.heap.size) ∧ (∀ l ∈ xss, l.length ≤ 16) ∧ l.length ≤ 16 ∧ xss.length ≤ 63 := by
  obtain ⟨sl, fr, h1, h2, h3, h4, h5, h6, h7, h8, h9⟩ := h
  rw [offs_concat] at h3
  simp only [List.flatten_append, List.flatten_cons, List.flatten_nil, List.append_nil, List.length_append, List.length_singleton] at h2 h3 h9
  obtain ⟨a, cap, rfl, hc, hn, hz⟩ := owns_slice h2
  obtain ⟨b, cb, rfl, hcb, hnb, hzb⟩ := owns_slice h3
  rcases b with _ | q
  · have := (hnb rfl).1; omega
  obtain ⟨g, rfl⟩ := hzb q rfl
  have hcell : w.cell? ⟨g, xss.length, none⟩ = some (.int .i64 xss.flatten.length) := by
    refine (h3.cellAt (g := g) xss.length (by omega)).trans ?_
    rw [List.map_append, List.getElem?_append_right (by simp [offs_length])]
    simp [offs_length]
  refine ⟨a, cap, g, cb, h1, h2, h3, hcell, hc, hn, fun q hq => ?_, h4, (h6 g rfl).1, (h6 g rfl).2, h7, fun l hl => h8 l (by simp [hl]), h8 l (by simp), by omega⟩
  obtain ⟨b, rfl⟩ := hz q hq
  subst hq
  have h := h5 b rfl
  exact ⟨b, rfl, h.1, h.2.1, fun e => h.2.2 (by rw [e]; rfl)⟩

theorem top_reads {w : World} {a : Option Addr} {cap : Nat} {xs l : List Int} (h : w.ownsRow 0 34 1 (.slice a (xs.length + l.length) cap) (xs.length + l.length) ((xs ++ l).map (Value.int .u64))) :
    Reads .u64 w (topA a xs.length (xs.length + l.length)) l ∧ (topA a xs.length (xs.length + l.length) = none → l = []) := by
  by_cases hl : l = []
  · subst hl; exact ⟨.inl rfl, fun _ => rfl⟩
  · have hp : 0 < l.length := List.length_pos_iff.2 hl
    obtain ⟨g, cap', cur, hs, _, hg⟩ := own_shape h (by omega)
    cases hs
    have e : topA (some ⟨g, 0, none⟩) xs.length (xs.length + l.length) = some ⟨g, xs.length, none⟩ := by
      unfold topA
      rw [if_neg (by omega)]
      simp [addr_add_none]
    rw [e]
    refine ⟨.inr ⟨g, xs.length, rfl, fun i hi => ?_⟩, by simp⟩
    refine (h.cellAt (g := g) (xs.length + i) (by omega)).trans ?_
    rw [List.map_append, List.getElem?_append_right (by simp)]
    simp [hi]

def topV (xss : List (List Int)) (i : Int) : Int := match xss.getLast? with | none => 0 | some l => (l[i.toNat]?).getD 0
def topE (xss : List (List Int)) (i : Int) : Int := match xss.getLast? with | none => 2 | some l => if i < l.length then 0 else 8
theorem topV_nil (i : Int) : topV [] i = 0 := rfl
theorem topE_nil (i : Int) : topE [] i = 2 := rfl
theorem topV_concat (xss : List (List Int)) (l : List Int) (i : Int) : topV (xss ++ [l]) i = (l[i.toNat]?).getD 0 := by simp [topV]
theorem topE_concat (xss : List (List Int)) (l : List Int) (i : Int) : topE (xss ++ [l]) i = if i < l.length then 0 else 8 := by simp [topE]

theorem sGet_any {sb : Nat} {xss : List (List Int)} {S : Nat → Prop} {w : World} (h : StackAt w sb xss S) (i : Int) (h0 : 0 ≤ i) (h1 : i ≤ 18446744073709551615) :
    Calls Tryz.prog 130 #[.pointer (some ⟨sb, 0, none⟩), .int .u64 i] w fun e w' => e = .returned (.tuple #[.int .u64 (topV xss i), .int .i64 (topE xss i)]) ∧ ∃ q, w' = w.drewN q := by
  rcases List.eq_nil_or_concat xss with rfl | ⟨yss, l, rfl⟩
  · have ht := top_none h
    clear h
    rw [topV_nil, topE_nil]
    go_enter Tryz.func130, Tryz.ntmps130
    go_wp2_with fail
    refine ht.mono ?_
    rintro e w1 ⟨rfl, rfl⟩
    go_wp2
    go_ret2
    exact ⟨rfl, 0, rfl⟩
  · rw [List.concat_eq_append] at h ⊢
    obtain ⟨a, cap, g, cb, o1, o2, o3, o4, o5, o6, o7, o8, o9, o10, o11, o12, o13, o14⟩ := h.open_
    have hfl := flat_len o12
    have hrd := top_reads o2
    have c0 := heap_cell o1 0
    have c1 := heap_cell o1 1
    simp at c0 c1
    have ht := top_some (sb := sb) (w := w) a (yss.flatten.length + l.length) cap g yss.length cb yss.flatten.length (by simpa using c0) (by simpa using c1) o4 (by omega) o5 (by omega) (by omega)
    rw [Nat.add_sub_cancel_left] at ht
    rw [topV_concat, topE_concat]
    obtain ⟨ta, hta⟩ : ∃ ta, topA a yss.flatten.length (yss.flatten.length + l.length) = ta := ⟨_, rfl⟩
    rw [hta] at ht hrd
    obtain ⟨hr, hrn⟩ := hrd
    have HL : l.length ≤ 16 := o13
    clear o1 o2 o3 o4 o5 o6 o7 o8 o9 o10 o11 o12 o13 o14 c0 c1 hta hrn hfl h
    have hw : IntKind.u64.wrap (l.length : Int) = l.length := by rw [IntKind.wrap_u64]; omega
    by_cases hi : i < l.length
    · obtain ⟨i, rfl⟩ := Int.eq_ofNat_of_zero_le h0
      have hi' : i < l.length := by omega
      obtain ⟨b, off, rfl, hc⟩ := hr.at_ i hi'
      rw [if_pos hi, Int.toNat_natCast]
      obtain ⟨v, hv⟩ : ∃ v, l[i]?.getD 0 = v := ⟨_, rfl⟩
      rw [hv] at hc ⊢
      clear hv
      go_enter Tryz.func130, Tryz.ntmps130
      go_wp2_with fail
      refine ht.mono ?_
      rintro e w1 ⟨rfl, q, rfl⟩
      have hc' : (w.drewN q).cell? ⟨b, off + i, none⟩ = some (.int .u64 v) := hc
      clear hr hc
      go_wp2
      go_ret2
      exact ⟨rfl, q, rfl⟩
    · rw [if_neg hi, List.getElem?_eq_none (by omega)]
      go_enter Tryz.func130, Tryz.ntmps130
      go_wp2_with fail
      refine ht.mono ?_
      rintro e w1 ⟨rfl, q, rfl⟩
      clear hr
      go_wp2
      go_ret2
      exact ⟨rfl, q, rfl⟩
end Go.Proofs.YtcenagpkfimkbaaGreatDoor
namespace Go.Proofs.YtcenagpkfimkbaaGreatDoor
open Go Go.RowKit

def kindB (k : Int) : Bool := decide (0 ≤ k ∧ k < 4)
theorem kindB_ofK (k : Int) : (ofK k != 2) = kindB k := by
  unfold ofK kindB
  rw [Bool.eq_iff_iff]
  simp
  repeat' split
  all_goals omega
theorem Kind_any (k : Int) (w : World) (h0 : Tab w) :
    Calls Tryz.prog 140 #[.int .i64 k] w fun e w' => e = .returned (.bool (kindB k)) ∧ w = w' := by
  go_enter Tryz.func140, Tryz.ntmps140
  go_wp2_with (go_at_call 167; refine (of_any _ _ h0).mono ?_; rintro e w' ⟨rfl, rfl⟩)
  go_ret
  refine ⟨?_, rfl⟩
  rw [← kindB_ofK]
  rfl

theorem Reads.lt_or {k : IntKind} {w : World} {a : Option Addr} {xs : List Int} (h : Reads k w a xs) : xs = [] ∨ ∀ q, a = some q → q.block < w.heap.size := by
  rcases h with h | ⟨b, off, rfl, hc⟩
  · exact .inl h
  · rcases Nat.eq_zero_or_pos xs.length with hz | hz
    · exact .inl (List.length_eq_zero_iff.1 hz)
    · exact .inr (fun q e => by cases e; exact cell_lt (hc 0 hz))

def Descs (w : World) (a : Option Addr) (ds : List (List Int)) : Prop :=
  ds = [] ∨ ∃ b off, a = some ⟨b, off, none⟩ ∧ ∀ i, i < ds.length → ∃ (fa : Option Addr) (c : Nat), w.cell? ⟨b, off + i, none⟩ = some (.slice fa (ds.getD i []).length c) ∧ Reads .i64 w fa (ds.getD i []) ∧ (fa = none → ds.getD i [] = [] ∧ c = 0)
theorem Descs.below {w w' : World} {a : Option Addr} {ds : List (List Int)} (h : Descs w a ds) (hb : Below w.heap.size w w') : Descs w' a ds := by
  rcases h with h | ⟨b, off, ha, hc⟩
  · exact .inl h
  · refine .inr ⟨b, off, ha, fun i hi => ?_⟩
    obtain ⟨fa, c, h1, h2, h3⟩ := hc i hi
    exact ⟨fa, c, (hb.cell (cell_lt h1)).trans h1, h2.below hb, h3⟩
theorem Descs.at_ {w : World} {a : Option Addr} {ds : List (List Int)} (h : Descs w a ds) (i : Nat) (hi : i < ds.length) :
    ∃ (b off : Nat) (fa : Option Addr) (c : Nat) (d : List Int), a = some ⟨b, off, none⟩ ∧ ds[i]? = some d ∧ w.cell? ⟨b, off + i, none⟩ = some (.slice fa d.length c) ∧ Reads .i64 w fa d ∧ (fa = none → d = [] ∧ c = 0) := by
  rcases h with rfl | ⟨b, off, rfl, hc⟩
  · simp at hi
  · obtain ⟨fa, c, h1, h2, h3⟩ := hc i hi
    refine ⟨b, off, fa, c, ds.getD i [], rfl, ?_, h1, h2, h3⟩
    simp [hi]

def greatB (ds : List (List Int)) : Bool := ds.any (fun d => decide (100 < d.length)) || decide (60 < ds.length)
theorem greatB_false {ds : List (List Int)} (h : greatB ds = false) : ds.length ≤ 60 ∧ ∀ d ∈ ds, d.length ≤ 100 := by
  unfold greatB at h
  simp at h
  exact ⟨h.2, fun d hd => h.1 d hd⟩

set_option maxHeartbeats 1000000 in
theorem Great_any (a : Option Addr) (ds : List (List Int)) (c : Nat) (w : World) (hD : Descs w a ds) (hn : ds.length ≤ 9223372036854775807) :
    Calls Tryz.prog 35 #[.slice a ds.length c] w fun e w' => e = .returned (.bool (greatB ds)) ∧ Below w.heap.size w w' := by
  go_enter Tryz.func35, Tryz.ntmps35
  go_wp2
  go_loopw [7] (fun i wr => ∃ j : Nat, j ≤ ds.length ∧ i = .int .i64 j ∧ (∀ d ∈ ds.take j, d.length ≤ 100) ∧ Below w.heap.size w wr) (fun i _ => ds.length - (intOf i).toNat)
  case atStart => exact ⟨0, Nat.zero_le _, rfl, by simp, Below.refl _ _⟩
  case round =>
    obtain ⟨j, hj, rfl, hall, hB⟩ := hrel
    have HA := Lib.hid hall
    clear hall
    by_cases hlt : j < ds.length
    · obtain ⟨b, off, fa, c', d, rfl, hd, hc, hr, _⟩ := (hD.below hB).at_ j hlt
      have HD := Lib.hid hd
      clear hd hD
      have hbo := hB.alloc hB.size (.cells #[.slice fa d.length c'] 76)
      by_cases hg : 100 < d.length
      · go_wp2
        go_ret
        refine ⟨ret_bool ?_, hbo⟩
        symm
        unfold greatB
        have : d ∈ ds := List.mem_of_getElem? HD.out
        simp only [Bool.or_eq_true, List.any_eq_true, decide_eq_true_eq]
        exact .inl ⟨d, this, hg⟩
      · go_wp2
        go_roundw
        case rel =>
          refine ⟨j + 1, by omega, by go_num, ?_, hbo⟩
          intro x hx
          rw [List.take_add_one, HD.out] at hx
          simp at hx
          rcases hx with hx | rfl
          · exact HA.out x hx
          · omega
        case measure => simp [intOf]; omega
    · obtain rfl : j = ds.length := by omega
      go_wp2
      go_ret
      refine ⟨ret_bool ?_, hB⟩
      unfold greatB
      have h1 := HA.out
      rw [List.take_length] at h1
      have h2 : ds.any (fun d => decide (100 < d.length)) = false := by
        rw [List.any_eq_false]
        intro d hd
        have := h1 d hd
        simp
        omega
      rw [h2]
      simp
      omega
end Go.Proofs.YtcenagpkfimkbaaGreatDoor
namespace Go.Proofs.YtcenagpkfimkbaaGreatDoor
open Go Go.RowKit

theorem Clone_int_nil (w : World) : Calls Tryz.prog 171 #[.slice none 0 0] w (RetOwn .i64 3 [] w) := by
  have hq := fun w => Lib.run_eql_slice_nil (P := Tryz.prog) w 58 3 none 0 0 0 0 Tryz.underlying58
  go_enter Tryz.func171, Tryz.ntmps171
  go_wp2
  go_ret
  exact ⟨_, rfl, Below.refl _ _, World.ownsRow_nil _ _ _ _⟩
theorem Clone_int_some (ad : Addr) (xs : List Int) (cap : Nat) (w : World) (h : Reads .i64 w (some ad) xs) (hn : xs.length * 8 ≤ 140737488351232) :
    Calls Tryz.prog 171 #[.slice (some ad) xs.length cap] w (RetOwn .i64 3 xs w) := by
  obtain ⟨i0, hi, hz0, hz1, hz2⟩ := info_parts info_int
  have hcs := Lib.hid (cells_of_reads h)
  have hq := fun w => Lib.run_eql_slice_nil (P := Tryz.prog) w 58 3 (some ad) xs.length cap 0 0 Tryz.underlying58
  go_enter Tryz.func171, Tryz.ntmps171
  go_wp2_with (at_builtin; refine wpList_append_own _ rfl _ _ 58 rfl w.heap.size 3 i0 (.int .i64 0) 1 8 Tryz.underlying58 hi hz0 hz1 hz2 rfl (by decide) _ _ _ rfl (World.ownsRow_made w #[] 0 (Nat.le_refl _) (by decide) rfl) ad xs.length cap (xs.map (Value.int .i64)) rfl ?c0 ?c1 ?c2 ?c3 ?c4 ?c5 ?_)
  case c0 => simp
  case c1 => exact fun j u hj => (cell_alloc_old _ (hcs.out j u hj))
  case c2 => exact ints_oneCell _ _
  case c3 => unfold maxLen; omega
  case c4 => omega
  case c5 => simp
  · intro v' w1 hown' hgrow _
    go_wp2
    go_ret
    refine ⟨_, rfl, ?_, by simpa using hown'⟩
    exact ((Below.refl _ _).alloc (Nat.le_refl _) _).grown hgrow (by simp) (fun k e => by simp [Value.ownBlock] at e; omega)

theorem Clone_int_any (a : Option Addr) (xs : List Int) (cap : Nat) (w : World) (h : Reads .i64 w a xs) (hn : xs.length * 8 ≤ 140737488351232) (h0 : a = none → xs = [] ∧ cap = 0) :
    Calls Tryz.prog 171 #[.slice a xs.length cap] w (RetOwn .i64 3 xs w) := by
  rcases a with _ | ad
  · obtain ⟨rfl, rfl⟩ := h0 rfl
    exact Clone_int_nil w
  · exact Clone_int_some ad xs cap w h hn
end Go.Proofs.YtcenagpkfimkbaaGreatDoor
namespace Go.Proofs.YtcenagpkfimkbaaGreatDoor
open Go Go.RowKit

def headV (arr : Bool) (k t n : Int) : Value := .agg #[.bool arr, .int .i64 k, .int .i64 t, .int .i64 n]

def mayB (arr : Bool) (k t n : Int) : Bool := bif arr then decide (0 ≤ k ∧ k < 4 ∧ 0 ≤ n ∧ n ≤ 4000 ∧ t = 0) else decide (k = 0 ∧ 0 ≤ t ∧ t < 32 ∧ 1 ≤ n ∧ n ≤ 60)

theorem hmay_any (arr : Bool) (k t n : Int) (w : World) (h0 : Tab w) :
    Calls Tryz.prog 177 #[.agg #[.bool arr, .int .i64 k, .int .i64 t, .int .i64 n]] w fun e w' => e = .returned (.bool (mayB arr k t n)) ∧ Below w.heap.size w w' := by
  have hT := h0.alloc (.cells #[.bool arr, .int .i64 k, .int .i64 t, .int .i64 n] 85)
  cases arr
  · go_enter Tryz.func177, Tryz.ntmps177
    go_wp2
    all_goals
      go_ret
      refine ⟨ret_bool ?_, (Below.refl _ _).alloc (Nat.le_refl _) _⟩
      rw [Bool.eq_iff_iff]
      simp [mayB]
      try omega
  · by_cases hk : 0 ≤ k ∧ k < 4
    · have hb : kindB k = true := by simpa [kindB] using hk
      go_enter Tryz.func177, Tryz.ntmps177
      go_wp2_with (go_at_call 140; refine (Kind_any _ _ ‹_›).mono ?_; rintro e w' ⟨rfl, rfl⟩)
      all_goals
        go_ret
        refine ⟨ret_bool ?_, (Below.refl _ _).alloc (Nat.le_refl _) _⟩
        rw [Bool.eq_iff_iff]
        simp [mayB]
        try omega
    · have hb : kindB k = false := by simpa [kindB] using hk
      go_enter Tryz.func177, Tryz.ntmps177
      go_wp2_with (go_at_call 140; refine (Kind_any _ _ ‹_›).mono ?_; rintro e w' ⟨rfl, rfl⟩)
      all_goals
        go_ret
        refine ⟨ret_bool ?_, (Below.refl _ _).alloc (Nat.le_refl _) _⟩
        rw [Bool.eq_iff_iff]
        simp [mayB]
        try omega

def wordI (arr : Bool) (k t n : Int) : Int := 1 + 4 * k + 256 * t + 65536 * n + bif arr then 2 else 0

theorem or_join (i x y : Nat) (hx : x % 2 ^ i = 0) (hy : y < 2 ^ i) : y ||| x = x + y := by
  rw [Nat.or_comm]; exact nat_join i x y hx hy
theorem or1 (k : Int) (h0 : 0 ≤ k) (h1 : k < 4) : bits .or .u64 1 (k * 4) = 1 + 4 * k := by
  rw [u64_or _ _ (by omega) (by omega) (by omega) (by omega), show (1 : Int).toNat = 1 from rfl, or_join 2 _ _ (by omega) (by omega)]; omega
theorem or2 (a t : Int) (ha : 0 ≤ a) (ha2 : a < 256) (h0 : 0 ≤ t) (h1 : t < 32) : bits .or .u64 a (t * 256) = a + 256 * t := by
  rw [u64_or _ _ (by omega) (by omega) (by omega) (by omega), or_join 8 _ _ (by omega) (by omega)]; omega
theorem or3 (a n : Int) (ha : 0 ≤ a) (ha2 : a < 65536) (h0 : 0 ≤ n) (h1 : n < 65536) : bits .or .u64 a (n * 65536) = a + 65536 * n := by
  rw [u64_or _ _ (by omega) (by omega) (by omega) (by omega), or_join 16 _ _ (by omega) (by omega)]; omega
theorem or4 (a : Int) (ha : 0 ≤ a) (ha2 : a < 4294967296) (h : a % 4 = 1) : bits .or .u64 a 2 = a + 2 := by
  rw [u64_or _ _ (by omega) (by omega) (by omega) (by omega)]
  obtain ⟨q, hq⟩ : ∃ q, a.toNat = 4 * q + 1 := ⟨a.toNat / 4, by omega⟩
  have e1 : 4 * q + 1 = 4 * q ||| 1 := (nat_join 2 (4 * q) 1 (by omega) (by omega)).symm
  have e2 : (4 * q ||| 3) = 4 * q + 3 := nat_join 2 (4 * q) 3 (by omega) (by omega)
  have : a.toNat ||| (2 : Int).toNat = a.toNat + 2 := by
    rw [hq, e1, Nat.or_assoc, show (1 ||| (2 : Int).toNat) = 3 from rfl, e2]
    omega
  rw [this]; omega

theorem word_any (arr : Bool) (k t n : Int) (w : World) (hk0 : 0 ≤ k) (hk1 : k < 4) (ht0 : 0 ≤ t) (ht1 : t < 32) (hn0 : 0 ≤ n) (hn1 : n ≤ 4000) :
    Calls Tryz.prog 178 #[.agg #[.bool arr, .int .i64 k, .int .i64 t, .int .i64 n]] w fun e w' => e = .returned (.int .u64 (wordI arr k t n)) ∧ Below w.heap.size w w' := by
  cases arr
  all_goals
    go_enter Tryz.func178, Tryz.ntmps178
    go_wp2
    go_ret
    refine ⟨ret_int ?_, (Below.refl _ _).alloc (Nat.le_refl _) _⟩
    rw [or1 k (by omega) (by omega), or2 _ t (by omega) (by omega) (by omega) (by omega), or3 _ n (by omega) (by omega) (by omega) (by omega)]
    try rw [or4 _ (by omega) (by omega) (by omega)]
    simp [wordI]

theorem mayB_bd {arr : Bool} {k t n : Int} (h : mayB arr k t n = true) : 0 ≤ k ∧ k < 4 ∧ 0 ≤ t ∧ t < 32 ∧ 0 ≤ n ∧ n ≤ 4000 := by
  cases arr <;> simp [mayB] at h <;> omega

def putW (arr : Bool) (k t n : Int) : Int := if mayB arr k t n = true then wordI arr k t n else 0
def putE (arr : Bool) (k t n : Int) : Int := if mayB arr k t n = true then 0 else 1

theorem hPut_any (arr : Bool) (k t n : Int) (w : World) (h0 : Tab w) :
    Calls Tryz.prog 160 #[.agg #[.bool arr, .int .i64 k, .int .i64 t, .int .i64 n]] w fun e w' => e = .returned (.tuple #[.int .u64 (putW arr k t n), .int .i64 (putE arr k t n)]) ∧ Below w.heap.size w w' := by
  have hT := h0.alloc (.cells #[.bool arr, .int .i64 k, .int .i64 t, .int .i64 n] 85)
  cases hb : mayB arr k t n
  · go_enter Tryz.func160, Tryz.ntmps160
    go_wp2_with (go_at_call 177; refine (hmay_any _ _ _ _ _ ‹_›).mono ?_; rintro e w' ⟨rfl, hb'⟩)
    go_ret2
    exact ⟨ret_int2 (by simp [putW, hb]) (by simp [putE, hb]), ((Below.refl _ _).alloc (Nat.le_refl _) _).trans (hb'.mono (by simp))⟩
  · obtain ⟨hk0, hk1, ht0, ht1, hn0, hn1⟩ := mayB_bd hb
    go_enter Tryz.func160, Tryz.ntmps160
    go_wp2_with (first | (go_at_call 177; refine (hmay_any _ _ _ _ _ ‹_›).mono ?_; rintro e w' ⟨rfl, hb'⟩; obtain ⟨hc', hf', hs'⟩ := bcell hb'; simp at hs') | (go_at_call 178; refine (word_any _ _ _ _ _ (by omega) (by omega) (by omega) (by omega) (by omega) (by omega)).mono ?_; rintro e w2 ⟨rfl, hb2⟩))
    go_ret2
    exact ⟨ret_int2 (by simp [putW, hb]) (by simp [putE, hb]), (((Below.refl _ _).alloc (Nat.le_refl _) _).trans (hb'.mono (by simp))).trans (hb2.mono (by have := hb'.size; simp at this; omega))⟩

def sizeI (arr : Bool) (k t n : Int) : Int := if mayB arr k t n = true then 1 + max n 1 else 0

theorem hSize_any (arr : Bool) (k t n : Int) (w : World) (h0 : Tab w) :
    Calls Tryz.prog 161 #[.agg #[.bool arr, .int .i64 k, .int .i64 t, .int .i64 n]] w fun e w' => e = .returned (.int .i64 (sizeI arr k t n)) ∧ Below w.heap.size w w' := by
  have hT := h0.alloc (.cells #[.bool arr, .int .i64 k, .int .i64 t, .int .i64 n] 85)
  cases hb : mayB arr k t n
  · go_enter Tryz.func161, Tryz.ntmps161
    go_wp2_with (go_at_call 177; refine (hmay_any _ _ _ _ _ ‹_›).mono ?_; rintro e w' ⟨rfl, hb'⟩)
    go_ret
    exact ⟨ret_int (by simp [sizeI, hb]), ((Below.refl _ _).alloc (Nat.le_refl _) _).trans (hb'.mono (by simp))⟩
  · obtain ⟨hk0, hk1, ht0, ht1, hn0, hn1⟩ := mayB_bd hb
    go_enter Tryz.func161, Tryz.ntmps161
    go_wp2_with (first | (go_at_call 177; refine (hmay_any _ _ _ _ _ ‹_›).mono ?_; rintro e w' ⟨rfl, hb'⟩; obtain ⟨hc', hf', hs'⟩ := bcell hb'; simp at hs'))
    all_goals
      go_ret
      refine ⟨ret_int (by simp [sizeI, hb]; try omega), ((Below.refl _ _).alloc (Nat.le_refl _) _).trans (hb'.mono (by simp))⟩

theorem and_mask (x : Int) (i : Nat) (hi : i ≤ 32) (h0 : 0 ≤ x) (h1 : x < 18446744073709551616) : bits .and .u64 x ((2 ^ i - 1 : Nat) : Int) = x % (2 ^ i : Nat) := by
  have h2 : 2 ^ i ≤ 2 ^ 32 := Nat.pow_le_pow_right (by omega) hi
  have h3 : 0 < 2 ^ i := Nat.pow_pos (by omega)
  obtain ⟨m, rfl⟩ := Int.eq_ofNat_of_zero_le h0
  rw [u64_and _ _ h0 h1 (by omega) (by omega)]
  rw [Int.toNat_natCast, show (((2 ^ i - 1 : Nat) : Int)).toNat = 2 ^ i - 1 from by omega, Nat.and_two_pow_sub_one_eq_mod]
  rfl

def gA (x : Int) : Bool := x / 2 % 2 == 1
def gK (x : Int) : Int := x / 4 % 4
def gT (x : Int) : Int := x / 256 % 32
def gN (x : Int) : Int := x / 65536 % 65536
def getB (x : Int) : Bool := mayB (gA x) (gK x) (gT x) (gN x) && (wordI (gA x) (gK x) (gT x) (gN x) == x)
def getV (x : Int) : Value := if getB x = true then .agg #[.bool (gA x), .int .i64 (gK x), .int .i64 (gT x), .int .i64 (gN x)] else .agg #[.bool false, .int .i64 0, .int .i64 0, .int .i64 0]
def getE (x : Int) : Int := if getB x = true then 0 else 11

theorem hGet_any (x : Int) (w : World) (h0 : Tab w) (hx0 : 0 ≤ x) (hx1 : x < 18446744073709551616) :
    Calls Tryz.prog 137 #[.int .u64 x] w fun e w' => e = .returned (.tuple #[getV x, .int .i64 (getE x)]) ∧ Below w.heap.size w w' := by
  obtain ⟨a, ha, Ha⟩ : ∃ a, bits .and .u64 (x / 2) 1 = a ∧ a = x / 2 % 2 := ⟨_, and_mask (x / 2) 1 (by omega) (by omega) (by omega), rfl⟩
  obtain ⟨k, hk, Hk⟩ : ∃ a, bits .and .u64 (x / 4) 3 = a ∧ a = gK x := ⟨_, and_mask (x / 4) 2 (by omega) (by omega) (by omega), rfl⟩
  obtain ⟨t, ht, Ht⟩ : ∃ a, bits .and .u64 (x / 256) 31 = a ∧ a = gT x := ⟨_, and_mask (x / 256) 5 (by omega) (by omega) (by omega), rfl⟩
  obtain ⟨n, hn, Hn⟩ : ∃ a, bits .and .u64 (x / 65536) 65535 = a ∧ a = gN x := ⟨_, and_mask (x / 65536) 16 (by omega) (by omega) (by omega), rfl⟩
  have hk0 : 0 ≤ k := by unfold gK at Hk; omega
  have hk1 : k < 4 := by unfold gK at Hk; omega
  have ht0 : 0 ≤ t := by unfold gT at Ht; omega
  have ht1 : t < 32 := by unfold gT at Ht; omega
  have hn0 : 0 ≤ n := by unfold gN at Hn; omega
  have hn1 : n < 65536 := by unfold gN at Hn; omega
  have Ha' : (a == 1) = gA x := by rw [Ha]; rfl
  have HV : Hid (getB x = (mayB (a == 1) k t n && (wordI (a == 1) k t n == x))) := by show _ = _; rw [Ha', Hk, Ht, Hn]; rfl
  have HT : Hid (getV x = if getB x = true then .agg #[.bool (a == 1), .int .i64 k, .int .i64 t, .int .i64 n] else .agg #[.bool false, .int .i64 0, .int .i64 0, .int .i64 0]) := by show _ = _; rw [Ha', Hk, Ht, Hn]; rfl
  clear Ha Hk Ht Hn Ha'
  obtain ⟨r, hr⟩ : ∃ r, (a == 1) = r := ⟨_, rfl⟩
  have hT : Tab ((w.alloc (Obj.cells #[.bool false, .int .i64 0, .int .i64 0, .int .i64 0] 85)).alloc (Obj.cells #[.bool r, .int .i64 k, .int .i64 t, .int .i64 n] 85)) := (h0.alloc _).alloc _
  rw [hr] at HV HT
  cases hb : mayB r k t n
  · go_enter Tryz.func137, Tryz.ntmps137
    go_wp2_with (go_at_call 177; refine (hmay_any _ _ _ _ _ ‹_›).mono ?_; rintro e w' ⟨rfl, hb'⟩; obtain ⟨hc', hf', hs'⟩ := bcell hb'; simp only [World.size_alloc] at hs'; have hz1 := Nat.lt_of_succ_le hs'; have hz2 := Nat.lt_of_succ_lt hz1)
    have hv : getB x = false := by rw [HV.out, hb]; rfl
    have c0 : w'.cell? ⟨w.heap.size, 0, none⟩ = some (.bool false) := by rw [hc' _ _ (by simp; omega)]; simp
    have c1 : w'.cell? ⟨w.heap.size, 1, none⟩ = some (.int .i64 0) := by rw [hc' _ _ (by simp; omega)]; simp
    have c2 : w'.cell? ⟨w.heap.size, 2, none⟩ = some (.int .i64 0) := by rw [hc' _ _ (by simp; omega)]; simp
    have c3 : w'.cell? ⟨w.heap.size, 3, none⟩ = some (.int .i64 0) := by rw [hc' _ _ (by simp; omega)]; simp
    refine bodyPost_ret (v := .tuple #[.agg #[.bool false, .int .i64 0, .int .i64 0, .int .i64 0], .int .i64 11]) (by simp [results, Tryz.results137, go_sem, c0, c1, c2, c3]) rfl ⟨by simp [getV, getE, hv], ?_⟩
    refine Below.setCell (Below.setCell (Below.setCell (Below.setCell ?_ (by simp) _) (by simp) _) (by simp) _) (by simp) _
    exact (((Below.refl _ _).alloc (Nat.le_refl _) _).alloc (by simp) _).trans (hb'.mono (by simp; omega))
  · have hbd := mayB_bd hb
    by_cases hw : wordI r k t n = x
    · have hv : getB x = true := by rw [HV.out, hb]; simp [hw]
      have hw1 : (wordI r k t n != x) = false := by simp [hw]
      have hE : Hid (getE x = 0) := by show _ = _; simp [getE, hv]
      have HT2 : Hid (getV x = .agg #[.bool r, .int .i64 k, .int .i64 t, .int .i64 n]) := by show _ = _; rw [HT.out, if_pos hv]
      clear hw HV HT hv
      rcases (show r = true ∨ (r = false ∧ k = 0 ∧ 1 ≤ n ∧ t = 0) ∨ (r = false ∧ k = 0 ∧ 1 ≤ n ∧ 1 ≤ t) by cases r <;> simp [mayB] at hb ⊢; omega) with rfl | ⟨rfl, rfl, hn2, rfl⟩ | ⟨rfl, rfl, hn2, ht2⟩
      all_goals
        go_enter Tryz.func137, Tryz.ntmps137
        go_wp2_with (first | (go_at_call 177; refine (hmay_any _ _ _ _ _ ‹_›).mono ?_; rintro e w' ⟨rfl, hb'⟩; obtain ⟨hc', hf', hs'⟩ := bcell hb'; simp only [World.size_alloc] at hs'; have hz1 := Nat.lt_of_succ_le hs'; have hz2 := Nat.lt_of_succ_lt hz1) | (go_at_call 178; refine (word_any _ _ _ _ _ (by omega) (by omega) (by omega) (by omega) (by omega) (by omega)).mono ?_; rintro e w2 ⟨rfl, hb2⟩; obtain ⟨hc2, hf2, hs2⟩ := bcell hb2))
        have c0 : w2.cell? ⟨w.heap.size, 0, none⟩ = some (.bool false) := by rw [hc2 _ _ (by omega), hc' _ _ (by simp; omega)]; simp
        have c1 : w2.cell? ⟨w.heap.size, 1, none⟩ = some (.int .i64 0) := by rw [hc2 _ _ (by omega), hc' _ _ (by simp; omega)]; simp
        have c2 : w2.cell? ⟨w.heap.size, 2, none⟩ = some (.int .i64 0) := by rw [hc2 _ _ (by omega), hc' _ _ (by simp; omega)]; simp
        have c3 : w2.cell? ⟨w.heap.size, 3, none⟩ = some (.int .i64 0) := by rw [hc2 _ _ (by omega), hc' _ _ (by simp; omega)]; simp
        rw [HT2.out, hE.out]
        refine bodyPost_ret (v := .tuple #[.agg #[.bool _, .int .i64 _, .int .i64 _, .int .i64 n], .int .i64 0]) (by simp [results, Tryz.results137, go_sem, c0, c1, c2, c3]) rfl ⟨rfl, ?_⟩
        refine Below.setCell (Below.setCell (Below.setCell (Below.setCell ?_ (by simp) _) (by simp) _) (by simp) _) (by simp) _
        exact ((((Below.refl _ _).alloc (Nat.le_refl _) _).alloc (by simp) _).trans (hb'.mono (by simp; omega))).trans (hb2.mono (by omega))
    · have hv : getB x = false := by rw [HV.out, hb]; simp [hw]
      have hw1 : (wordI r k t n != x) = true := by simp [hw]
      go_enter Tryz.func137, Tryz.ntmps137
      go_wp2_with (first | (go_at_call 177; refine (hmay_any _ _ _ _ _ ‹_›).mono ?_; rintro e w' ⟨rfl, hb'⟩; obtain ⟨hc', hf', hs'⟩ := bcell hb'; simp only [World.size_alloc] at hs'; have hz1 := Nat.lt_of_succ_le hs'; have hz2 := Nat.lt_of_succ_lt hz1) | (go_at_call 178; refine (word_any _ _ _ _ _ (by omega) (by omega) (by omega) (by omega) (by omega) (by omega)).mono ?_; rintro e w2 ⟨rfl, hb2⟩; obtain ⟨hc2, hf2, hs2⟩ := bcell hb2))
      have c0 : w2.cell? ⟨w.heap.size, 0, none⟩ = some (.bool false) := by rw [hc2 _ _ (by omega), hc' _ _ (by simp; omega)]; simp
      have c1 : w2.cell? ⟨w.heap.size, 1, none⟩ = some (.int .i64 0) := by rw [hc2 _ _ (by omega), hc' _ _ (by simp; omega)]; simp
      have c2 : w2.cell? ⟨w.heap.size, 2, none⟩ = some (.int .i64 0) := by rw [hc2 _ _ (by omega), hc' _ _ (by simp; omega)]; simp
      have c3 : w2.cell? ⟨w.heap.size, 3, none⟩ = some (.int .i64 0) := by rw [hc2 _ _ (by omega), hc' _ _ (by simp; omega)]; simp
      refine bodyPost_ret (v := .tuple #[.agg #[.bool false, .int .i64 0, .int .i64 0, .int .i64 0], .int .i64 11]) (by simp [results, Tryz.results137, go_sem, c0, c1, c2, c3]) rfl ⟨by simp [getV, getE, hv], ?_⟩
      refine Below.setCell (Below.setCell (Below.setCell (Below.setCell ?_ (by simp) _) (by simp) _) (by simp) _) (by simp) _
      exact ((((Below.refl _ _).alloc (Nat.le_refl _) _).alloc (by simp) _).trans (hb'.mono (by simp; omega))).trans (hb2.mono (by omega))
end Go.Proofs.YtcenagpkfimkbaaGreatDoor
namespace Go.Proofs.YtcenagpkfimkbaaGreatDoor
open Go Go.RowKit

def headEq (a : Bool) (k t n : Int) (a' : Bool) (k' t' n' : Int) : Bool := decide (a = a' ∧ k = k' ∧ t = t' ∧ n = n')
theorem run_eqHead (a : Bool) (k t n : Int) (a' : Bool) (k' t' n' : Int) (w : World) :
    (binOp .eql 85 (.agg #[.bool a, .int .i64 k, .int .i64 t, .int .i64 n]) (.agg #[.bool a', .int .i64 k', .int .i64 t', .int .i64 n'])).run Tryz.prog w = .ok (.bool (headEq a k t n a' k' t' n')) w := by
  unfold headEq
  by_cases h1 : a = a'
  · by_cases h2 : k = k'
    · by_cases h3 : t = t'
      · by_cases h4 : n = n'
        · simp [h1, h2, h3, h4, go_sem]
        · simp [h1, h2, h3, h4, go_sem]
      · simp [h1, h2, h3, go_sem]
    · simp [h1, h2, go_sem]
  · simp [h1, go_sem]
theorem run_neHead (a : Bool) (k t n : Int) (a' : Bool) (k' t' n' : Int) (w : World) :
    (binOp .neq 85 (.agg #[.bool a, .int .i64 k, .int .i64 t, .int .i64 n]) (.agg #[.bool a', .int .i64 k', .int .i64 t', .int .i64 n'])).run Tryz.prog w = .ok (.bool (!(headEq a k t n a' k' t' n'))) w := by
  unfold headEq
  by_cases h1 : a = a'
  · by_cases h2 : k = k'
    · by_cases h3 : t = t'
      · by_cases h4 : n = n'
        · simp [h1, h2, h3, h4, go_sem]
        · simp [h1, h2, h3, h4, go_sem]
      · simp [h1, h2, h3, go_sem]
    · simp [h1, h2, go_sem]
  · simp [h1, go_sem]

theorem rMay_any (arr : Bool) (k t n : Int) (w : World) :
    Calls Tryz.prog 49 #[.agg #[.bool arr, .int .i64 k, .int .i64 t, .int .i64 n]] w fun e w' => e = .returned (.bool (mayB arr k t n)) ∧ Below w.heap.size w w' := by
  cases arr
  all_goals
    go_enter Tryz.func49, Tryz.ntmps49
    go_wp2
    all_goals
      go_ret
      refine ⟨ret_bool ?_, (Below.refl _ _).alloc (Nat.le_refl _) _⟩
      rw [Bool.eq_iff_iff]
      simp [mayB]
      try omega

theorem rSize_any (arr : Bool) (k t n : Int) (w : World) :
    Calls Tryz.prog 51 #[.agg #[.bool arr, .int .i64 k, .int .i64 t, .int .i64 n]] w fun e w' => e = .returned (.int .i64 (sizeI arr k t n)) ∧ Below w.heap.size w w' := by
  cases hb : mayB arr k t n
  · go_enter Tryz.func51, Tryz.ntmps51
    go_wp2_with (go_at_call 49; refine (rMay_any _ _ _ _ _).mono ?_; rintro e w' ⟨rfl, hb'⟩)
    go_ret
    exact ⟨ret_int (by simp [sizeI, hb]), ((Below.refl _ _).alloc (Nat.le_refl _) _).trans (hb'.mono (by simp))⟩
  · obtain ⟨hk0, hk1, ht0, ht1, hn0, hn1⟩ := mayB_bd hb
    go_enter Tryz.func51, Tryz.ntmps51
    go_wp2_with (go_at_call 49; refine (rMay_any _ _ _ _ _).mono ?_; rintro e w' ⟨rfl, hb'⟩; obtain ⟨hc', hf', hs'⟩ := bcell hb'; simp only [World.size_alloc] at hs'; have hz1 := Nat.lt_of_succ_le hs')
    all_goals
      go_ret
      refine ⟨ret_int (by simp [sizeI, hb]; try omega), ((Below.refl _ _).alloc (Nat.le_refl _) _).trans (hb'.mono (by simp))⟩


theorem getB_bd {x : Int} (h : getB x = true) : x / 65536 ≤ 4000 ∧ x % 65536 / 256 < 32 := by
  simp only [getB, Bool.and_eq_true, beq_iff_eq] at h
  obtain ⟨h1, h2⟩ := h
  obtain ⟨k0, k1, t0, t1, n0, n1⟩ := mayB_bd h1
  unfold wordI at h2
  cases hg : gA x <;> rw [hg] at h2 <;> simp only [cond_true, cond_false] at h2 <;> omega
end Go.Proofs.YtcenagpkfimkbaaGreatDoor
namespace Go.Proofs.YtcenagpkfimkbaaGreatDoor
open Go Go.RowKit

def atB (n : Nat) (i : Int) : Bool := decide (i < n)
def atE (n : Nat) (i : Int) : Int := if atB n i = true then 0 else 8
def atV (at_ : Int) (n : Nat) (i : Int) : Int := if atB n i = true then wrap64 (at_ + i) else 0
def kiV (ks : List Int) (i : Int) : Int := if atB ks.length i = true then (ks[i.toNat]?).getD 0 else 0

theorem At_any (at_ rg k t n : Int) (arr : Bool) (ka : Option Addr) (ks : List Int) (kc : Nat) (va : Option Addr) (vl vc : Nat) (i : Int) (w : World) (hK : Reads .i64 w ka ks) (hl : ks.length ≤ 4000) (h0 : 0 ≤ i) (h1 : i ≤ 18446744073709551615) :
    Calls Tryz.prog 118 #[.agg #[.int .i64 at_, .int .i64 rg, .bool arr, .int .i64 k, .int .i64 t, .int .i64 n, .slice ka ks.length kc, .slice va vl vc], .int .u64 i] w
      fun e w' => e = .returned (.tuple #[.int .i64 (atV at_ ks.length i), .int .i64 (kiV ks i), .int .i64 (atE ks.length i)]) ∧ Below w.heap.size w w' := by
  have hw : IntKind.u64.wrap (ks.length : Int) = ks.length := by rw [IntKind.wrap_u64]; omega
  by_cases hi : i < ks.length
  · obtain ⟨i, rfl⟩ := Int.eq_ofNat_of_zero_le h0
    have hi' : i < ks.length := by omega
    have e1 : Hid (atV at_ ks.length i = wrap64 (at_ + i)) := by show _ = _; simp [atV, atB, hi']
    have e2 : Hid (kiV ks i = (ks[i]?).getD 0) := by show _ = _; simp [kiV, atB, hi']
    have e3 : Hid (atE ks.length i = 0) := by show _ = _; simp [atE, atB, hi']
    obtain ⟨b, off, rfl, hc⟩ := hK.at_ i hi'
    have hc2 := cell_alloc_old (.cells #[.int .i64 at_, .int .i64 rg, .bool arr, .int .i64 k, .int .i64 t, .int .i64 n, .slice (some ⟨b, off, none⟩) ks.length kc, .slice va vl vc] 104) hc
    obtain ⟨x, hx⟩ : ∃ x, (ks[i]?).getD 0 = x := ⟨_, rfl⟩
    rw [hx] at hc2 e2
    have hwi : IntKind.i64.wrap (i : Int) = i := by rw [IntKind.wrap_i64]; omega
    clear hc hx hK
    go_enter Tryz.func118, Tryz.ntmps118
    go_wp2
    go_quiet (fail)
    go_wp2
    go_ret3
    refine ⟨?_, below_drewN ((Below.refl _ _).alloc (Nat.le_refl _) _) _⟩
    rw [e1.out, e2.out, e3.out]
    rfl
  · have e1 : Hid (atV at_ ks.length i = 0) := by show _ = _; simp [atV, atB, hi]
    have e2 : Hid (kiV ks i = 0) := by show _ = _; simp [kiV, atB, hi]
    have e3 : Hid (atE ks.length i = 8) := by show _ = _; simp [atE, atB, hi]
    clear hK
    go_enter Tryz.func118, Tryz.ntmps118
    go_wp2
    go_ret3
    refine ⟨?_, (Below.refl _ _).alloc (Nat.le_refl _) _⟩
    rw [e1.out, e2.out, e3.out]
    rfl

def ldV (xs : List Int) (at_ : Int) (n : Nat) (i : Int) : Int := if atB n i = true then rdV xs (wrap64 (at_ + i)) else 0
def ldE (m : Nat) (at_ : Int) (n : Nat) (i : Int) : Int := if atB n i = true then wrE m (wrap64 (at_ + i)) else 8

theorem Load_any (b g : Nat) (xs : List Int) (at_ rg k t n : Int) (arr : Bool) (ka : Option Addr) (ks : List Int) (kc : Nat) (va : Option Addr) (vl vc : Nat) (i : Int) (w : World) (hM : MemAt w b g xs) (hK : Reads .i64 w ka ks) (hl : ks.length ≤ 4000) (h0 : 0 ≤ i) (h1 : i ≤ 18446744073709551615) :
    Calls Tryz.prog 125 #[.pointer (some ⟨b, 0, none⟩), .agg #[.int .i64 at_, .int .i64 rg, .bool arr, .int .i64 k, .int .i64 t, .int .i64 n, .slice ka ks.length kc, .slice va vl vc], .int .u64 i] w
      fun e w' => e = .returned (.tuple #[.int .u64 (ldV xs at_ ks.length i), .int .i64 (ldE xs.length at_ ks.length i)]) ∧ Below w.heap.size w w' := by
  have hbo : Below w.heap.size w (w.alloc (.cells #[.int .i64 at_, .int .i64 rg, .bool arr, .int .i64 k, .int .i64 t, .int .i64 n, .slice ka ks.length kc, .slice va vl vc] 104)) := (Below.refl _ _).alloc (Nat.le_refl _) _
  have hA := At_any at_ rg k t n arr ka ks kc va vl vc i _ (hK.below hbo) hl h0 h1
  have hM1 := hM.later hbo
  generalize hW : w.alloc (.cells #[.int .i64 at_, .int .i64 rg, .bool arr, .int .i64 k, .int .i64 t, .int .i64 n, .slice ka ks.length kc, .slice va vl vc] 104) = W at hbo hA hM1
  have HW := Lib.hid hW
  clear hW hK hM
  by_cases hi : atB ks.length i = true
  · have e1 : Hid (ldV xs at_ ks.length i = rdV xs (wrap64 (at_ + i))) := by show _ = _; rw [ldV, if_pos hi]
    have e2 : Hid (ldE xs.length at_ ks.length i = wrE xs.length (wrap64 (at_ + i))) := by show _ = _; rw [ldE, if_pos hi]
    have e3 : atE ks.length i = 0 := by rw [atE, if_pos hi]
    have e4 : atV at_ ks.length i = wrap64 (at_ + i) := by rw [atV, if_pos hi]
    obtain ⟨y, hy⟩ : ∃ y, kiV ks i = y := ⟨_, rfl⟩
    obtain ⟨z, hz⟩ : ∃ z, wrap64 (at_ + i) = z := ⟨_, rfl⟩
    rw [e3, e4, hy, hz] at hA
    rw [hz] at e1 e2
    rw [e1.out, e2.out]
    clear hi e1 e2 e3 e4 hy hz
    obtain ⟨p, hp⟩ : ∃ p, rdV xs z = p := ⟨_, rfl⟩
    obtain ⟨q, hq⟩ : ∃ q, wrE xs.length z = q := ⟨_, rfl⟩
    rw [hp, hq]
    have HPQ := Lib.hid (And.intro hp hq)
    clear hp hq
    go_enter Tryz.func125, Tryz.ntmps125
    go_wp2_with fail
    rw [HW.out]
    refine hA.mono ?_
    rintro e w1 ⟨rfl, hb1⟩
    have hM2 := hM1.later hb1
    clear hA hM1
    go_wp2_with fail
    refine (wRead_any b g xs z _ hM2).mono ?_
    rw [HPQ.out.1, HPQ.out.2]
    rintro e w2 ⟨rfl, rfl⟩
    clear hM2
    go_wp2
    go_ret2
    exact ⟨rfl, hbo.trans (hb1.mono hbo.size)⟩
  · have e1 : Hid (ldV xs at_ ks.length i = 0) := by show _ = _; rw [ldV, if_neg hi]
    have e2 : Hid (ldE xs.length at_ ks.length i = 8) := by show _ = _; rw [ldE, if_neg hi]
    have e3 : atE ks.length i = 8 := by rw [atE, if_neg hi]
    obtain ⟨y, hy⟩ : ∃ y, kiV ks i = y := ⟨_, rfl⟩
    obtain ⟨z, hz⟩ : ∃ z, atV at_ ks.length i = z := ⟨_, rfl⟩
    rw [e3, hy, hz] at hA
    rw [e1.out, e2.out]
    clear hi e1 e2 e3 hy hz
    go_enter Tryz.func125, Tryz.ntmps125
    go_wp2_with fail
    rw [HW.out]
    refine hA.mono ?_
    rintro e w1 ⟨rfl, hb1⟩
    clear hA hM1
    go_wp2
    go_ret2
    exact ⟨rfl, hbo.trans (hb1.mono hbo.size)⟩
end Go.Proofs.YtcenagpkfimkbaaGreatDoor
