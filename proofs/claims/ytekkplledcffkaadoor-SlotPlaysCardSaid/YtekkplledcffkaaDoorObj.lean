/-
  How an object that came in by value is opened: eight cells, two of them slices of whole numbers.
-/
import Derived.Test.YtekkplledcffkaaDoorOpen
namespace Go.Proofs.YtekkplledcffkaaDoor
open Go Go.RowKit Go.ChangeShapes Go.WideShapes Go.ChangeAt Go.Joins Go.Deep

section
variable {H : Type} {enc : TypeId × Value → H} {P : Program} {w : World} {base : Nat} {spare : Nat → Bool} {held : Bool}

/-- A slice of whole numbers in a cell. -/
theorem trod_reads {t e : TypeId} {k : IntKind} {n : Nat} {v : Value} {y : DataW H × List MemPlace} (ht : P.underlying t = some (.slice e)) (he : P.underlying e = some (.int k)) (hce : P.cellsOf e = 1)
    (hf : DataW.trod enc P w 0 (fun _ => true) true n t [v] = some y) :
    ∃ (a : Option Addr) (xs : List Int) (cap : Nat), v = .slice a xs.length cap ∧ Reads k w a xs ∧ (∀ z ∈ xs, (Lit.int k z).wf = true) ∧ (a = none → xs = [] ∧ cap = 0) ∧ xs.length ≤ cap ∧ cap ≤ maxLen := by
  rcases open_ints ht he hce hf with ⟨hcs, _⟩ | ⟨x, len, cap, zs, hcs, _, hl, hm, hz, _, hcell, hwz⟩
  · simp at hcs
    subst hcs
    exact ⟨none, [], 0, rfl, .inl rfl, by simp, fun _ => ⟨rfl, rfl⟩, by simp, by simp⟩
  · simp at hcs
    subst hcs
    have hzl : zs.length = cap := by simpa using hz
    have hlen : (zs.take len).length = len := by simp; omega
    refine ⟨some x, zs.take len, cap, by rw [hlen], ?_, fun z hz' => hwz z (List.mem_of_mem_take hz'), by simp, by omega, hm⟩
    by_cases h0 : len = 0
    · subst h0; exact .inl (by simp)
    · have hc0 := hcell 0 (by omega)
      obtain ⟨b, off, spot⟩ := x
      have hspot : spot = none := by simpa [Addr.add] using World.cell?_spot hc0
      subst hspot
      refine .inr ⟨b, off, rfl, fun i hi => ?_⟩
      rw [hlen] at hi
      have hci := hcell i (by omega)
      have e1 : (⟨b, off, none⟩ : Addr).add i = ⟨b, off + i, none⟩ := by unfold Addr.add; split <;> simp_all
      rw [e1] at hci
      rw [hci]
      simp [hi]

theorem open_object {r : Reach} {b0 : Nat} {t ti tb : TypeId} {tk tke tv tve : TypeId} {f0 f1 f2 f3 f4 g0 g1 g2 g3 : Field} {v : Value} {d : DataW H} {p : List MemPlace}
    (hs : P.underlying t = some (.struct #[f0, f1, f2, f3, f4])) (hC : P.cellsOf t = 8) (o0 : f0.offset = 0) (o1 : f1.offset = 1) (o2 : f2.offset = 2) (o3 : f3.offset = 6) (o4 : f4.offset = 7)
    (t0 : f0.type = ti) (t1 : f1.type = ti) (t3 : f3.type = tk) (t4 : f4.type = tv) (hki : P.cellsOf ti = 1) (hkb : P.cellsOf tb = 1) (hkk : P.cellsOf tk = 1) (hkv : P.cellsOf tv = 1) (hk2 : P.cellsOf f2.type = 4)
    (hi : P.underlying ti = some (.int .i64)) (hb : P.underlying tb = some .bool) (hh : P.underlying f2.type = some (.struct #[g0, g1, g2, g3]))
    (q0 : g0.offset = 0) (q1 : g1.offset = 1) (q2 : g2.offset = 2) (q3 : g3.offset = 3) (s0 : g0.type = tb) (s1 : g1.type = ti) (s2 : g2.type = ti) (s3 : g3.type = ti)
    (hk : P.underlying tk = some (.slice tke)) (hke : P.underlying tke = some (.int .i64)) (hkc : P.cellsOf tke = 1) (hvv : P.underlying tv = some (.slice tve)) (hve : P.underlying tve = some (.int .u64)) (hvc : P.cellsOf tve = 1)
    (hv : Value.okWide P w r b0 t v) (h : DataW.Trod enc P w 0 (fun _ => true) true t v d p) :
    ∃ (at_ rg k ty n : Int) (arr : Bool) (ka : Option Addr) (ks : List Int) (kc : Nat) (va : Option Addr) (vs : List Int) (vc : Nat),
      v = .agg #[.int .i64 at_, .int .i64 rg, .bool arr, .int .i64 k, .int .i64 ty, .int .i64 n, .slice ka ks.length kc, .slice va vs.length vc] ∧
      Reads .i64 w ka ks ∧ (∀ z ∈ ks, (Lit.int .i64 z).wf = true) ∧ (ka = none → ks = [] ∧ kc = 0) ∧ Reads .u64 w va vs ∧ (∀ z ∈ vs, (Lit.int .u64 z).wf = true) ∧ (va = none → vs = [] ∧ vc = 0) ∧ (Lit.int .i64 at_).wf = true := by
  obtain ⟨cs, rfl, hsz⟩ := okWide_struct hs hv
  obtain ⟨l⟩ := cs
  match l, hsz.trans hC with
  | [c0, c1, c2, c3, c4, c5, c6, c7], _ =>
    obtain ⟨fuel, hf⟩ := h
    obtain ⟨xs, m, _, hx, _, hlen, hg⟩ := DataW.trod_struct hs hf
    match xs, hlen with
    | [y0, y1, y2, y3, y4], _ =>
      have h0 := hg 0 f0 rfl
      have h1 := hg 1 f1 rfl
      have h2 := hg 2 f2 rfl
      have h3 := hg 3 f3 rfl
      have h4 := hg 4 f4 rfl
      rw [o0, t0, hki] at h0
      rw [o1, t1, hki] at h1
      rw [o2, hk2] at h2
      rw [o3, t3, hkk] at h3
      rw [o4, t4, hkv] at h4
      simp only [Value.cells, List.drop_zero, List.drop_succ_cons, List.take_succ_cons, List.take_zero, List.take_nil, List.getElem?_cons_zero, List.getElem?_cons_succ] at h0 h1 h2 h3 h4
      obtain ⟨z0, z1, z2, z3, m2, _, _, i0, i1, i2, i3⟩ := trod_struct4 hh h2
      rw [q0, s0, hkb] at i0
      rw [q1, s1, hki] at i1
      rw [q2, s2, hki] at i2
      rw [q3, s3, hki] at i3
      simp only [List.drop_zero, List.drop_succ_cons, List.take_succ_cons, List.take_zero, List.take_nil] at i0 i1 i2 i3
      obtain ⟨at_, e0, _, w0⟩ := DataW.trod_int hi h0
      obtain ⟨rg, e1, _, _⟩ := DataW.trod_int hi h1
      obtain ⟨arr, e2, _⟩ := DataW.trod_bool hb i0
      obtain ⟨k, e3, _, _⟩ := DataW.trod_int hi i1
      obtain ⟨ty, e4, _, _⟩ := DataW.trod_int hi i2
      obtain ⟨n, e5, _, _⟩ := DataW.trod_int hi i3
      obtain ⟨ka, ks, kc, rfl, rk, wk, nk, _, _⟩ := trod_reads hk hke hkc h3
      obtain ⟨va, vs, vc, rfl, rv, wv, nv, _, _⟩ := trod_reads hvv hve hvc h4
      simp at e0 e1 e2 e3 e4 e5
      subst e0 e1 e2 e3 e4 e5
      exact ⟨at_, rg, k, ty, n, arr, ka, ks, kc, va, vs, vc, rfl, rk, wk, nk, rv, wv, nv, w0⟩
end
/-- The object of this program. -/
theorem object_comes {H : Type} {enc : TypeId × Value → H} {w : World} {r : Reach} {b0 : Nat} {v : Value} {d : DataW H} {p : List MemPlace}
    (hv : Value.okWide Tryd.prog w r b0 27 v) (h : DataW.Trod enc Tryd.prog w 0 (fun _ => true) true 27 v d p) :
    ∃ (at_ rg k ty n : Int) (arr : Bool) (ka : Option Addr) (ks : List Int) (kc : Nat) (va : Option Addr) (vs : List Int) (vc : Nat),
      v = .agg #[.int .i64 at_, .int .i64 rg, .bool arr, .int .i64 k, .int .i64 ty, .int .i64 n, .slice ka ks.length kc, .slice va vs.length vc] ∧
      Reads .i64 w ka ks ∧ (∀ z ∈ ks, (Lit.int .i64 z).wf = true) ∧ (ka = none → ks = [] ∧ kc = 0) ∧ Reads .u64 w va vs ∧ (∀ z ∈ vs, (Lit.int .u64 z).wf = true) ∧ (va = none → vs = [] ∧ vc = 0) ∧ (Lit.int .i64 at_).wf = true :=
  open_object Tryd.underlying27 (by kernel_rfl) rfl rfl rfl rfl rfl rfl rfl rfl rfl (by kernel_rfl) (by kernel_rfl) (by kernel_rfl) (by kernel_rfl) (by kernel_rfl) Tryd.underlying3 Tryd.underlying4 Tryd.underlying24 rfl rfl rfl rfl rfl rfl rfl rfl
    Tryd.underlying25 Tryd.underlying3 (by kernel_rfl) Tryd.underlying22 Tryd.underlying28 (by kernel_rfl) hv h
end Go.Proofs.YtekkplledcffkaaDoor
