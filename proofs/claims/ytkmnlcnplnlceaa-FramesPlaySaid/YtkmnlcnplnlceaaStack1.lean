/-
  The stack of package frames: what it is in the model, and the contracts of New, Depth, top, Get.
-/
import Derived.Test.YtkmnlcnplnlceaaSame2
namespace Go.Proofs.Ytkmnlcnplnlceaa
open Go Go.RowKit

theorem drewN_add (w : World) (a b : Nat) : (w.drewN a).drewN b = w.drewN (a + b) := by simp [World.drewN, Nat.add_assoc]

/-- Where each frame's slots begin. -/
def offs (xss : List (List Int)) : List Int := (List.range xss.length).map fun i => ((xss.take i).flatten.length : Int)
theorem offs_length (xss : List (List Int)) : (offs xss).length = xss.length := by simp [offs]
theorem offs_concat (xss : List (List Int)) (l : List Int) : offs (xss ++ [l]) = offs xss ++ [(xss.flatten.length : Int)] := by
  apply List.ext_getElem?
  intro i
  simp only [offs, List.length_append, List.length_singleton, List.getElem?_map]
  rcases Nat.lt_trichotomy i xss.length with h | h | h
  · rw [List.getElem?_append_left (by simpa using h), List.getElem?_map, List.getElem?_range (by omega), List.getElem?_range h]
    simp only [Option.map_some, Option.some.injEq]
    rw [List.take_append_of_le_length (by omega)]
  · subst h
    rw [List.getElem?_append_right (by simp), List.getElem?_range (by omega)]
    simp
  · rw [List.getElem?_append_right (by simp; omega), List.getElem?_eq_none (by simp; omega)]
    simp
    omega

/-- At block sb lies a stack; its frames are xss; it owns the blocks of S. -/
def StackAt (w : World) (sb : Nat) (xss : List (List Int)) (S : Nat → Prop) : Prop :=
  ∃ sl fr, w.heap[sb]? = some (.cells #[sl, fr] 54 (0, 0)) ∧ w.ownsRow 0 23 1 sl xss.flatten.length (xss.flatten.map (Value.int .u64)) ∧ w.ownsRow 0 3 1 fr xss.length ((offs xss).map (Value.int .i64)) ∧
    S sb ∧ (∀ k, sl.ownBlock = some k → S k ∧ k ≠ sb ∧ fr.ownBlock ≠ some k) ∧ (∀ k, fr.ownBlock = some k → S k ∧ k ≠ sb) ∧ (∀ k, S k → k < w.heap.size) ∧ (∀ l ∈ xss, l.length ≤ 16) ∧ xss.length ≤ 64

theorem flat_len {xss : List (List Int)} (h : ∀ l ∈ xss, l.length ≤ 16) : xss.flatten.length ≤ xss.length * 16 := by
  induction xss with
  | nil => simp
  | cons a t ih =>
    have h1 := h a (by simp)
    have h2 := ih (fun l hl => h l (by simp [hl]))
    rw [List.flatten_cons, List.length_append, List.length_cons]
    omega

/-- A stack on which nothing that is its was turned. -/
theorem StackAt.moved {w w' : World} {sb : Nat} {xss : List (List Int)} {S T : Nat → Prop} (h : StackAt w sb xss S) (hm : Moved T w w') (hd : ∀ k, S k → ¬ T k) : StackAt w' sb xss S := by
  obtain ⟨sl, fr, h1, h2, h3, h4, h5, h6, h7, h8, h9⟩ := h
  exact ⟨sl, fr, hm.heap h1 (hd _ h4), hm.owns h2 (fun k hk => hd k (h5 k hk).1), hm.owns h3 (fun k hk => hd k (h6 k hk).1), h4, h5, h6, fun k hk => Nat.lt_of_lt_of_le (h7 k hk) hm.size, h8, h9⟩
theorem StackAt.later {w w' : World} {sb : Nat} {xss : List (List Int)} {S : Nat → Prop} (h : StackAt w sb xss S) (hb : Below w.heap.size w w') : StackAt w' sb xss S :=
  h.moved (Moved.of_below hb (fun _ => False)) (fun _ _ e => e)

theorem sNew_any (w : World) : Calls Try.prog 6 #[] w fun e w' => e = .returned (.pointer (some ⟨w.heap.size, 0, none⟩)) ∧ Below w.heap.size w w' ∧ StackAt w' w.heap.size [] (fun k => k = w.heap.size) := by
  go_enter Try.func6, Try.ntmps6
  go_wp2
  go_ret
  refine ⟨rfl, (Below.refl _ _).alloc (Nat.le_refl _) _, .slice none 0 0, .slice none 0 0, heap_alloc_eq _ _, World.ownsRow_nil _ _ _ _, World.ownsRow_nil _ _ _ _, rfl, by simp [Value.ownBlock], by simp [Value.ownBlock], fun k hk => by subst hk; simp, by simp, by simp⟩

theorem Depth_any {sb : Nat} {xss : List (List Int)} {S : Nat → Prop} {w : World} (h : StackAt w sb xss S) :
    Calls Try.prog 15 #[.pointer (some ⟨sb, 0, none⟩)] w fun e w' => e = .returned (.int .i64 xss.length) ∧ w' = w := by
  obtain ⟨sl, fr, h1, _, h3, _⟩ := h
  obtain ⟨a, cap, rfl, _⟩ := owns_slice h3
  have c1 := heap_cell h1 1
  simp at c1
  clear h1 h3
  go_enter Try.func15, Try.ntmps15
  go_wp2
  go_ret
  exact ⟨rfl, rfl⟩

/-- Where the top frame's slots lie. -/
def topA (a : Option Addr) (f n : Nat) : Option Addr := if n = f then a else a.map (·.add f)

theorem top_none {sb : Nat} {S : Nat → Prop} {w : World} (h : StackAt w sb [] S) :
    Calls Try.prog 20 #[.pointer (some ⟨sb, 0, none⟩)] w fun e w' => e = .returned (.tuple #[.slice none 0 0, .int .i64 2]) ∧ w' = w := by
  obtain ⟨sl, fr, h1, _, h3, _⟩ := h
  obtain ⟨a, cap, rfl, _⟩ := owns_slice h3
  have c1 := heap_cell h1 1
  simp at c1
  clear h1 h3
  go_enter Try.func20, Try.ntmps20
  go_wp2
  go_ret2
  exact ⟨rfl, rfl⟩

theorem top_some {sb : Nat} {w : World} (a : Option Addr) (n cap g m cb f : Nat) (c0 : w.cell? ⟨sb, 0, none⟩ = some (.slice a n cap)) (c1 : w.cell? ⟨sb, 1, none⟩ = some (.slice (some ⟨g, 0, none⟩) (m + 1) cb)) (c2 : w.cell? ⟨g, m, none⟩ = some (.int .i64 f)) (hf : f ≤ n) (hn : n ≤ cap) (hs : n ≤ 2000) (hm : m ≤ 64) :
    Calls Try.prog 20 #[.pointer (some ⟨sb, 0, none⟩)] w fun e w' => e = .returned (.tuple #[.slice (topA a f n) (n - f) (n - f), .int .i64 0]) ∧ ∃ q, w' = w.drewN q := by
  have hb : (((m + 1 : Nat) : Int) == 0) = false := by simp; omega
  have hw : IntKind.i64.wrap ((m : Int) + 1 - 1) = m := by rw [IntKind.wrap_i64]; omega
  go_enter Try.func20, Try.ntmps20
  by_cases hnf : n = f
  all_goals
    go_wp2
    go_quiet (fail)
    go_wp2
    go_quiet (fail)
    go_wp2
    go_ret2
    exact ⟨by simp [topA, hnf], _, drewN_add _ _ _⟩

/-- A stack with a frame on top, opened. -/
theorem StackAt.open_ {w : World} {sb : Nat} {xss : List (List Int)} {l : List Int} {S : Nat → Prop} (h : StackAt w sb (xss ++ [l]) S) :
    ∃ a cap g cb, w.heap[sb]? = some (.cells #[.slice a (xss.flatten.length + l.length) cap, .slice (some ⟨g, 0, none⟩) (xss.length + 1) cb] 54 (0, 0)) ∧
      w.ownsRow 0 23 1 (.slice a (xss.flatten.length + l.length) cap) (xss.flatten.length + l.length) ((xss.flatten ++ l).map (Value.int .u64)) ∧ w.ownsRow 0 3 1 (.slice (some ⟨g, 0, none⟩) (xss.length + 1) cb) (xss.length + 1) ((offs xss ++ [(xss.flatten.length : Int)]).map (Value.int .i64)) ∧
      w.cell? ⟨g, xss.length, none⟩ = some (.int .i64 xss.flatten.length) ∧ xss.flatten.length + l.length ≤ cap ∧ (a = none → xss.flatten.length + l.length = 0 ∧ cap = 0) ∧ (∀ q, a = some q → ∃ b, q = ⟨b, 0, none⟩ ∧ S b ∧ b ≠ sb ∧ b ≠ g) ∧ S sb ∧ S g ∧ g ≠ sb ∧
      (∀ k, S k → k < w.heap.size) ∧ (∀ l ∈ xss, l.length ≤ 16) ∧ l.length ≤ 16 ∧ xss.length ≤ 63 := by
  obtain ⟨sl, fr, h1, h2, h3, h4, h5, h6, h7, h8, h9⟩ := h
  rw [offs_concat] at h3
  simp only [List.flatten_append, List.flatten_cons, List.flatten_nil, List.append_nil, List.length_append, List.length_singleton] at h2 h3 h9
  obtain ⟨a, cap, rfl, hc, hn, hz⟩ := owns_slice h2
  obtain ⟨b, cb, rfl, hcb, hnb, hzb⟩ := owns_slice h3
  rcases b with _ | q
  · have := (hnb rfl).1; omega
  obtain ⟨g, rfl⟩ := hzb q rfl
  have hcell : w.cell? ⟨g, xss.length, none⟩ = some (.int .i64 xss.flatten.length) := by
    refine (h3.cellAt (g := g) xss.length (by omega)).trans ?_
    rw [List.map_append, List.getElem?_append_right (by simp [offs_length])]
    simp [offs_length]
  refine ⟨a, cap, g, cb, h1, h2, h3, hcell, hc, hn, fun q hq => ?_, h4, (h6 g rfl).1, (h6 g rfl).2, h7, fun l hl => h8 l (by simp [hl]), h8 l (by simp), by omega⟩
  obtain ⟨b, rfl⟩ := hz q hq
  subst hq
  have h := h5 b rfl
  exact ⟨b, rfl, h.1, h.2.1, fun e => h.2.2 (by rw [e]; rfl)⟩

/-- The top frame's slots as they are read. -/
theorem top_reads {w : World} {a : Option Addr} {cap : Nat} {xs l : List Int} (h : w.ownsRow 0 23 1 (.slice a (xs.length + l.length) cap) (xs.length + l.length) ((xs ++ l).map (Value.int .u64))) :
    Reads .u64 w (topA a xs.length (xs.length + l.length)) l ∧ (topA a xs.length (xs.length + l.length) = none → l = []) := by
  by_cases hl : l = []
  · subst hl; exact ⟨.inl rfl, fun _ => rfl⟩
  · have hp : 0 < l.length := List.length_pos_iff.2 hl
    obtain ⟨g, cap', cur, hs, _, hg⟩ := own_shape h (by omega)
    cases hs
    have e : topA (some ⟨g, 0, none⟩) xs.length (xs.length + l.length) = some ⟨g, xs.length, none⟩ := by
      unfold topA
      rw [if_neg (by omega)]
      simp [addr_add_none]
    rw [e]
    refine ⟨.inr ⟨g, xs.length, rfl, fun i hi => ?_⟩, by simp⟩
    refine (h.cellAt (g := g) (xs.length + i) (by omega)).trans ?_
    rw [List.map_append, List.getElem?_append_right (by simp)]
    simp [hi]

/-- What Get answers: the value, and the error's number. -/
def getV (xss : List (List Int)) (i : Int) : Int := match xss.getLast? with | none => 0 | some l => (l[i.toNat]?).getD 0
def getE (xss : List (List Int)) (i : Int) : Int := match xss.getLast? with | none => 2 | some l => if i < l.length then 0 else 8
theorem getV_nil (i : Int) : getV [] i = 0 := rfl
theorem getE_nil (i : Int) : getE [] i = 2 := rfl
theorem getV_concat (xss : List (List Int)) (l : List Int) (i : Int) : getV (xss ++ [l]) i = (l[i.toNat]?).getD 0 := by simp [getV]
theorem getE_concat (xss : List (List Int)) (l : List Int) (i : Int) : getE (xss ++ [l]) i = if i < l.length then 0 else 8 := by simp [getE]

theorem sGet_any {sb : Nat} {xss : List (List Int)} {S : Nat → Prop} {w : World} (h : StackAt w sb xss S) (i : Int) (h0 : 0 ≤ i) (h1 : i ≤ 18446744073709551615) :
    Calls Try.prog 17 #[.pointer (some ⟨sb, 0, none⟩), .int .u64 i] w fun e w' => e = .returned (.tuple #[.int .u64 (getV xss i), .int .i64 (getE xss i)]) ∧ ∃ q, w' = w.drewN q := by
  rcases List.eq_nil_or_concat xss with rfl | ⟨yss, l, rfl⟩
  · have ht := top_none h
    clear h
    rw [getV_nil, getE_nil]
    go_enter Try.func17, Try.ntmps17
    go_wp2_with fail
    refine ht.mono ?_
    rintro e w1 ⟨rfl, rfl⟩
    go_wp2
    go_ret2
    exact ⟨rfl, 0, rfl⟩
  · rw [List.concat_eq_append] at h ⊢
    obtain ⟨a, cap, g, cb, o1, o2, o3, o4, o5, o6, o7, o8, o9, o10, o11, o12, o13, o14⟩ := h.open_
    have hfl := flat_len o12
    have hrd := top_reads o2
    have c0 := heap_cell o1 0
    have c1 := heap_cell o1 1
    simp at c0 c1
    have ht := top_some (sb := sb) (w := w) a (yss.flatten.length + l.length) cap g yss.length cb yss.flatten.length (by simpa using c0) (by simpa using c1) o4 (by omega) o5 (by omega) (by omega)
    rw [Nat.add_sub_cancel_left] at ht
    rw [getV_concat, getE_concat]
    obtain ⟨ta, hta⟩ : ∃ ta, topA a yss.flatten.length (yss.flatten.length + l.length) = ta := ⟨_, rfl⟩
    rw [hta] at ht hrd
    obtain ⟨hr, hrn⟩ := hrd
    have HL : l.length ≤ 16 := o13
    clear o1 o2 o3 o4 o5 o6 o7 o8 o9 o10 o11 o12 o13 o14 c0 c1 hta hrn hfl h
    have hw : IntKind.u64.wrap (l.length : Int) = l.length := by rw [IntKind.wrap_u64]; omega
    by_cases hi : i < l.length
    · obtain ⟨i, rfl⟩ := Int.eq_ofNat_of_zero_le h0
      have hi' : i < l.length := by omega
      obtain ⟨b, off, rfl, hc⟩ := hr.at_ i hi'
      rw [if_pos hi, Int.toNat_natCast]
      obtain ⟨v, hv⟩ : ∃ v, l[i]?.getD 0 = v := ⟨_, rfl⟩
      rw [hv] at hc ⊢
      clear hv
      go_enter Try.func17, Try.ntmps17
      go_wp2_with fail
      refine ht.mono ?_
      rintro e w1 ⟨rfl, q, rfl⟩
      have hc' : (w.drewN q).cell? ⟨b, off + i, none⟩ = some (.int .u64 v) := hc
      clear hr hc
      go_wp2
      go_ret2
      exact ⟨rfl, q, rfl⟩
    · rw [if_neg hi, List.getElem?_eq_none (by omega)]
      go_enter Try.func17, Try.ntmps17
      go_wp2_with fail
      refine ht.mono ?_
      rintro e w1 ⟨rfl, q, rfl⟩
      clear hr
      go_wp2
      go_ret2
      exact ⟨rfl, q, rfl⟩
end Go.Proofs.Ytkmnlcnplnlceaa
