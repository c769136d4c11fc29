/-
  The law WalkBack, walked.
-/
import Derived.Test.YtojcdljpgginjaaDoorWB1
namespace Go.Proofs.YtojcdljpgginjaaDoor
open Go Go.RowKit

theorem box_cells {w : World} {b : Nat} {x0 x1 x2 x3 : Value} {t : TypeId} (h : w.heap[b]? = some (.cells #[x0, x1, x2, x3] t (0, 0))) :
    w.cell? ⟨b, 0, none⟩ = some x0 ∧ w.cell? ⟨b, 1, none⟩ = some x1 ∧ w.cell? ⟨b, 2, none⟩ = some x2 ∧ w.cell? ⟨b, 3, none⟩ = some x3 :=
  ⟨heap_cell h 0, heap_cell h 1, heap_cell h 2, heap_cell h 3⟩

/-- Where the first loop stands. -/
def WBAt (w0 : World) (gap : Nat) (hs : List (Bool × Int × Int × Int)) (q : Nat) (v6 v7 p : Value) (W : World) : Prop :=
  ∃ (a6 a7 : Option Addr) (c6 c7 : Nat), v6 = .slice a6 (goods (hs.take q)).length c6 ∧ v7 = .slice a7 (goods (hs.take q)).length c7 ∧ p = .int .i64 ((gap + gOff (goods (hs.take q)) : Nat) : Int) ∧
    WB w0 (.slice a6 (goods (hs.take q)).length c6) (.slice a7 (goods (hs.take q)).length c7) (goods (hs.take q)).length (goods (hs.take q)).length (runCells (gRuns gap (goods (hs.take q)))) (headCells (goods (hs.take q))) W

theorem step_yes {w0 : World} {gap : Nat} {hs : List (Bool × Int × Int × Int)} {q : Nat} {gs : List (Bool × Int × Int)} {a : Bool} {k t n N : Int} (hsn : goods (hs.take (q + 1)) = gs ++ good1 (a, k, t, n)) (hg : gdB a k n = true) (hN : gdN a n = N) {m : Nat} (hm : gs.length = m) {p : Nat} (hp : gap + gOff gs = p) {s : Nat} (hs' : gSz (a, k, N) = s)
    {a6 a7 : Option Addr} {c6 c7 : Nat} {W : World} (hW : WB w0 (.slice a6 (m + 1) c6) (.slice a7 (m + 1) c7) (m + 1) (m + 1) (runCells (gRuns gap gs) ++ [.int .i64 p, .int .i64 s]) (headCells gs ++ [.bool a, .int .i64 k, .int .i64 0, .int .i64 N]) W) :
    WBAt w0 gap hs (q + 1) (.slice a6 (m + 1) c6) (.slice a7 (m + 1) c7) (.int .i64 (p + s)) W := by
  have h1 : good1 (a, k, t, n) = [(a, k, N)] := by rw [good1, if_pos hg, hN]
  rw [h1] at hsn
  have hl : (gs ++ [(a, k, N)]).length = m + 1 := by simp [hm]
  refine ⟨a6, a7, c6, c7, ?_, ?_, ?_, ?_⟩
  · rw [hsn, hl]
  · rw [hsn, hl]
  · rw [hsn, gOff_append, gOff_one, hs', ← hp]
    push_cast
    rw [Int.add_assoc]
  · rw [hsn, hl, gRuns_append, headCells_snoc]
    have : gRuns (gap + gOff gs) [(a, k, N)] = [((p : Int), (s : Int))] := by simp [gRuns, hp, hs']
    rw [this, runCells_snoc]
    exact hW
theorem step_no {w0 : World} {gap : Nat} {hs : List (Bool × Int × Int × Int)} {q : Nat} {gs : List (Bool × Int × Int)} {a : Bool} {k t n : Int} (hsn : goods (hs.take (q + 1)) = gs ++ good1 (a, k, t, n)) (hg : ¬ gdB a k n = true) {m : Nat} (hm : gs.length = m) {p : Nat} (hp : gap + gOff gs = p)
    {a6 a7 : Option Addr} {c6 c7 : Nat} {W : World} (hW : WB w0 (.slice a6 m c6) (.slice a7 m c7) m m (runCells (gRuns gap gs)) (headCells gs) W) :
    WBAt w0 gap hs (q + 1) (.slice a6 m c6) (.slice a7 m c7) (.int .i64 p) W := by
  have h1 : good1 (a, k, t, n) = [] := by rw [good1, if_neg hg]
  rw [h1, List.append_nil] at hsn
  subst hm hp
  exact ⟨a6, a7, c6, c7, by rw [hsn], by rw [hsn], by rw [hsn], by rw [hsn]; exact hW⟩

set_option maxRecDepth 100000 in
set_option maxHeartbeats 4000000 in
theorem WalkBack_any (ha : Option Addr) (hs : List (Bool × Int × Int × Int)) (hc : Nat) (gp : Int) (w : World) (hT : Tab w) (hH : Heads w ha hs) (hg0 : 0 ≤ gp) (hg1 : gp ≤ 255) (hl : hs.length ≤ 9223372036854775807) :
    Calls Tryd.prog 4 #[.slice ha hs.length hc, .int .u8 gp] w fun e w' => e = .returned (.bool true) ∧ Below w.heap.size w w' := by
  obtain ⟨gap, rfl⟩ := Int.eq_ofNat_of_zero_le hg0
  have HH := Lib.hid (And.intro hT hH)
  clear hT hH
  by_cases hl2 : hs.length ≤ 20
  · go_enter Tryd.func4, Tryd.ntmps4
    go_wp2
    go_loopw [5, 6, 7, 28] (fun p v6 v7 i wr => ∃ q : Nat, q ≤ hs.length ∧ i = .int .i64 q ∧ Hid (WBAt w gap hs q v6 v7 p wr)) (fun _ _ _ i _ => hs.length - (intOf i).toNat)
    case atStart => exact ⟨0, Nat.zero_le _, rfl, Lib.hid ⟨none, none, 0, 0, rfl, rfl, rfl, ⟨Below.refl _ _, World.ownsRow_nil _ _ _ _, World.ownsRow_nil _ _ _ _⟩⟩⟩
    case round =>
      obtain ⟨q, hq, rfl, HV⟩ := hrel
      by_cases hlt : q < hs.length
      · obtain ⟨a6, a7, c6, c7, rfl, rfl, rfl, hB⟩ := HV.out
        obtain ⟨bh, oh, a, k, t, n, rfl, hqh, h0, h1, h2, h3⟩ := (HH.out.2.below hB.b).at_ q hlt
        obtain ⟨gs, hgs⟩ : ∃ x, goods (hs.take q) = x := ⟨_, rfl⟩
        have hle : gs.length ≤ q := by rw [← hgs]; have := goods_len (hs.take q); simp at this; omega
        have hok : ∀ g ∈ gs, GOk g := by rw [← hgs]; exact goods_ok _
        have hoff := gOff_le gs hok
        have hsn := goods_snoc hs q _ hqh
        rw [hgs] at hB hsn ⊢
        obtain ⟨m, hm⟩ : ∃ x, gs.length = x := ⟨_, rfl⟩
        rw [hm] at hB hle hoff ⊢
        obtain ⟨p, hp⟩ : ∃ x, gap + gOff gs = x := ⟨_, rfl⟩
        rw [hp]
        have hpb : p ≤ 255 + 20 * 41 := by omega
        have HQ := Lib.hid (And.intro hok (And.intro hsn (And.intro hm (And.intro hp hqh))))
        have HB := Lib.hid hB
        clear hB hok hsn hm hp hgs hqh hoff
        obtain ⟨N, hN⟩ : ∃ x, gdN a n = x := ⟨_, rfl⟩
        have HN := Lib.hid hN
        have h5 : N = if a = true then n else 2 := by rw [← hN]; rfl
        clear hN
        cases a
        --ARMS
        · simp at h5
          subst h5
          have hbA : Below wr.heap.size wr (wr.alloc (.cells #[.bool false, .int .i64 k, .int .i64 0, .int .i64 2] 26)) := (Below.refl _ _).alloc (Nat.le_refl _) _
          have HB1 := Lib.hid (And.intro (HB.out.below hbA) (heap_alloc_eq wr (.cells #[.bool false, .int .i64 k, .int .i64 0, .int .i64 2] 26)))
          clear hbA
          go_wp2_with fail
          refine (rMay_any _ _ _ _ _).mono ?_
          rintro e w1 ⟨rfl, hb1⟩
          have hW := HB1.out.1.below hb1
          have hBX : w1.heap[wr.heap.size]? = some (.cells #[.bool false, .int .i64 k, .int .i64 0, .int .i64 2] 26 (0, 0)) := heap_below hb1 HB1.out.2 (heap_lt HB1.out.2)
          have hc := box_cells hBX
          obtain ⟨e0, e1, e2, e3⟩ := hc
          clear hb1 h0 h1 h2 h3
          by_cases hgd : gdB false k n = true
          · obtain ⟨hm, hn4⟩ : mayB false k 0 2 = true ∧ 2 ≤ 40 := by simpa [gdB, gdN] using hgd
            have hgk : GOk (false, k, 2) := ⟨hm, by first | exact hn4 | simp, by simp⟩
            have hbd := hgk.bd
            have hsz : sizeI false k 0 2 = gSz (false, k, 2) := hbd.2.2.2.2.2.2.2
            have hs1 := hbd.2.2.2.2.1
            have hs2 := hbd.2.2.2.2.2.1
            rw [hm]
            have HG := Lib.hid (And.intro hgd (And.intro hm hgk))
            have hn5 : ¬ (40 : Int) < 2 := by omega
            clear hgd hm hgk hbd
            have hn6 : hs.length ≤ 9223372036854775807 := hl
            clear hn6
            have ES := Lib.hid hsz
            obtain ⟨s, hs⟩ : ∃ x, gSz (false, k, 2) = x := ⟨_, rfl⟩
            rw [hs] at hs1 hs2 hsz
            have HS := Lib.hid (And.intro hs hsz)
            clear hs hsz ES
            have H7 : Hid (∀ k, (Value.slice a7 m c7).ownBlock = some k → k < wr.heap.size) := Lib.hid fun k hk => by obtain ⟨_, cur, hc⟩ := own_block HB.out.o7 hk; exact heap_lt hc
            go_wp2
            have hW := hW.drew
            have hBX : w1.drew.heap[wr.heap.size]? = some (.cells #[.bool false, .int .i64 k, .int .i64 0, .int .i64 2] 26 (0, 0)) := hBX
            clear e0 e1 e2 e3
            go_region_held3 (fun w' => w'.cell? ⟨wr.heap.size, 0, none⟩ = some (.bool false) ∧ w'.cell? ⟨wr.heap.size, 1, none⟩ = some (.int .i64 k) ∧ w'.cell? ⟨wr.heap.size, 2, none⟩ = some (.int .i64 0) ∧ w'.cell? ⟨wr.heap.size, 3, none⟩ = some (.int .i64 2)) (first | exact box_cells hBX | exact box_cells (heap_alloc_lt hBX _) | exact box_cells (heap_alloc_lt (heap_alloc_lt hBX _) _)) (first | (go_at_call 13; refine (rSize_any _ _ _ _ _).mono ?_; rw [HS.out.2]; rintro e wS ⟨rfl, hbS⟩; have hW := WB.below (by first | exact hW | exact hW.alloc _) hbS; (first | (have hX7 := heap_below hbS (heap_alloc_eq w1.drew (.cells #[.bool false, .int .i64 k, .int .i64 0, .int .i64 2] 26)) (by simp)) | skip); have hBX := heap_below hbS (by first | exact hBX | exact heap_alloc_lt hBX _) (by first | exact heap_lt hBX | exact heap_lt (heap_alloc_lt hBX _)); clear hbS) | (refine step_wb6 (by first | exact hW.alloc _ | exact (hW.alloc _).alloc _) (by rfl) _ _ (by rfl) (by rfl) _ [.int .i64 p, .int .i64 s] (by rfl) (by rfl) (by first | exact cells_at (by simp) | exact fun j u hj => cell_alloc_old _ (cells_at (by simp) j u hj)) (by simp [Value.oneCell']) (by omega) ?_; intro g6 cp6 w6 hW6 hfar6; (first | (have hX7 := hfar6 _ _ _ (heap_alloc_lt hX7 _) (.inl (by decide))) | (have hX7 := hfar6 (wS.heap.size + 1) _ _ (heap_alloc_at (o := (.cells #[.bool false, .int .i64 k, .int .i64 0, .int .i64 2] 26)) (by simp)) (.inl (by decide))) | (have hX7 := hfar6 _ _ _ (heap_alloc_lt (heap_alloc_eq _ (.cells #[.bool false, .int .i64 k, .int .i64 0, .int .i64 2] 26)) _) (.inl (by decide))) | skip); (first | (have hBX := hfar6 _ _ _ (heap_alloc_lt hBX _) (.inl (by decide))) | (have hBX := hfar6 _ _ _ (heap_alloc_lt (heap_alloc_lt hBX _) _) (.inl (by decide)))); have hW := hW6; clear hW6 hfar6) | (refine step_wb7 (by first | exact hW | exact hW.alloc _) (by rfl) _ _ (by rfl) (by rfl) _ [.bool false, .int .i64 k, .int .i64 0, .int .i64 2] (by rfl) (by rfl) (by first | exact World.news_of_block hX7 | exact cells_at (by simp)) (by simp [Value.oneCell']) (by omega) ?_; intro g7 cp7 w7 hW7 hfar7; (first | (have hBX := hfar7 _ _ _ hBX (.inr (fun e => Nat.lt_irrefl _ (H7.out _ e)))) | (have hBX := hfar7 _ _ _ (heap_alloc_lt hBX _) (.inr (fun e => Nat.lt_irrefl _ (H7.out _ e))))); have hW := hW7; clear hW7 hfar7))
            all_goals
              obtain ⟨e0, e1, e2, e3⟩ := box_cells hBX
              have HL := Lib.hid (And.intro hW hBX)
              clear hW hBX
              go_wp2_with fail
              refine (rSize_any _ _ _ _ _).mono ?_
              rw [HS.out.2]
              rintro e wT ⟨rfl, hbT⟩
              have HZ := Lib.hid (step_yes HQ.out.2.1 HG.out.1 HN.out HQ.out.2.2.1 HQ.out.2.2.2.1 HS.out.1 (HL.out.1.below hbT))
              clear hbT e0 e1 e2 e3
              go_wp2
              go_roundw
              case rel => exact ⟨q + 1, by omega, by simp, HZ⟩
              case measure => simp [intOf]; omega
          · have HG := Lib.hid hgd
            by_cases hm : mayB false k 0 2 = true
            · have hn4 : (40 : Int) < 2 := by
                refine Int.not_le.1 fun h => hgd ?_
                simp [gdB, gdN] at hm h ⊢
                first | exact ⟨hm, h⟩ | exact hm
              omega
            · have hm : mayB false k 0 2 = false := by simpa using hm
              rw [hm]
              have HZ := Lib.hid (step_no HQ.out.2.1 HG.out HQ.out.2.2.1 HQ.out.2.2.2.1 hW)
              clear hgd hm hW hBX e0 e1 e2 e3
              go_wp2
              go_roundw
              case rel => exact ⟨q + 1, by omega, by simp, HZ⟩
              case measure => simp [intOf]; omega
        · simp at h5
          subst h5
          have hbA : Below wr.heap.size wr (wr.alloc (.cells #[.bool true, .int .i64 k, .int .i64 0, .int .i64 N] 26)) := (Below.refl _ _).alloc (Nat.le_refl _) _
          have HB1 := Lib.hid (And.intro (HB.out.below hbA) (heap_alloc_eq wr (.cells #[.bool true, .int .i64 k, .int .i64 0, .int .i64 N] 26)))
          clear hbA
          go_wp2_with fail
          refine (rMay_any _ _ _ _ _).mono ?_
          rintro e w1 ⟨rfl, hb1⟩
          have hW := HB1.out.1.below hb1
          have hBX : w1.heap[wr.heap.size]? = some (.cells #[.bool true, .int .i64 k, .int .i64 0, .int .i64 N] 26 (0, 0)) := heap_below hb1 HB1.out.2 (heap_lt HB1.out.2)
          have hc := box_cells hBX
          obtain ⟨e0, e1, e2, e3⟩ := hc
          clear hb1 h0 h1 h2 h3
          by_cases hgd : gdB true k N = true
          · obtain ⟨hm, hn4⟩ : mayB true k 0 N = true ∧ N ≤ 40 := by simpa [gdB, gdN] using hgd
            have hgk : GOk (true, k, N) := ⟨hm, by first | exact hn4 | simp, by simp⟩
            have hbd := hgk.bd
            have hsz : sizeI true k 0 N = gSz (true, k, N) := hbd.2.2.2.2.2.2.2
            have hs1 := hbd.2.2.2.2.1
            have hs2 := hbd.2.2.2.2.2.1
            rw [hm]
            have HG := Lib.hid (And.intro hgd (And.intro hm hgk))
            have hn5 : ¬ (40 : Int) < N := by omega
            clear hgd hm hgk hbd
            have hn6 : hs.length ≤ 9223372036854775807 := hl
            clear hn6
            have ES := Lib.hid hsz
            obtain ⟨s, hs⟩ : ∃ x, gSz (true, k, N) = x := ⟨_, rfl⟩
            rw [hs] at hs1 hs2 hsz
            have HS := Lib.hid (And.intro hs hsz)
            clear hs hsz ES
            have H7 : Hid (∀ k, (Value.slice a7 m c7).ownBlock = some k → k < wr.heap.size) := Lib.hid fun k hk => by obtain ⟨_, cur, hc⟩ := own_block HB.out.o7 hk; exact heap_lt hc
            go_wp2
            have hW := hW.drew
            have hBX : w1.drew.heap[wr.heap.size]? = some (.cells #[.bool true, .int .i64 k, .int .i64 0, .int .i64 N] 26 (0, 0)) := hBX
            clear e0 e1 e2 e3
            go_region_held3 (fun w' => w'.cell? ⟨wr.heap.size, 0, none⟩ = some (.bool true) ∧ w'.cell? ⟨wr.heap.size, 1, none⟩ = some (.int .i64 k) ∧ w'.cell? ⟨wr.heap.size, 2, none⟩ = some (.int .i64 0) ∧ w'.cell? ⟨wr.heap.size, 3, none⟩ = some (.int .i64 N)) (first | exact box_cells hBX | exact box_cells (heap_alloc_lt hBX _) | exact box_cells (heap_alloc_lt (heap_alloc_lt hBX _) _)) (first | (go_at_call 13; refine (rSize_any _ _ _ _ _).mono ?_; rw [HS.out.2]; rintro e wS ⟨rfl, hbS⟩; have hW := WB.below (by first | exact hW | exact hW.alloc _) hbS; (first | (have hX7 := heap_below hbS (heap_alloc_eq w1.drew (.cells #[.bool true, .int .i64 k, .int .i64 0, .int .i64 N] 26)) (by simp)) | skip); have hBX := heap_below hbS (by first | exact hBX | exact heap_alloc_lt hBX _) (by first | exact heap_lt hBX | exact heap_lt (heap_alloc_lt hBX _)); clear hbS) | (refine step_wb6 (by first | exact hW.alloc _ | exact (hW.alloc _).alloc _) (by rfl) _ _ (by rfl) (by rfl) _ [.int .i64 p, .int .i64 s] (by rfl) (by rfl) (by first | exact cells_at (by simp) | exact fun j u hj => cell_alloc_old _ (cells_at (by simp) j u hj)) (by simp [Value.oneCell']) (by omega) ?_; intro g6 cp6 w6 hW6 hfar6; (first | (have hX7 := hfar6 _ _ _ (heap_alloc_lt hX7 _) (.inl (by decide))) | (have hX7 := hfar6 (wS.heap.size + 1) _ _ (heap_alloc_at (o := (.cells #[.bool true, .int .i64 k, .int .i64 0, .int .i64 N] 26)) (by simp)) (.inl (by decide))) | (have hX7 := hfar6 _ _ _ (heap_alloc_lt (heap_alloc_eq _ (.cells #[.bool true, .int .i64 k, .int .i64 0, .int .i64 N] 26)) _) (.inl (by decide))) | skip); (first | (have hBX := hfar6 _ _ _ (heap_alloc_lt hBX _) (.inl (by decide))) | (have hBX := hfar6 _ _ _ (heap_alloc_lt (heap_alloc_lt hBX _) _) (.inl (by decide)))); have hW := hW6; clear hW6 hfar6) | (refine step_wb7 (by first | exact hW | exact hW.alloc _) (by rfl) _ _ (by rfl) (by rfl) _ [.bool true, .int .i64 k, .int .i64 0, .int .i64 N] (by rfl) (by rfl) (by first | exact World.news_of_block hX7 | exact cells_at (by simp)) (by simp [Value.oneCell']) (by omega) ?_; intro g7 cp7 w7 hW7 hfar7; (first | (have hBX := hfar7 _ _ _ hBX (.inr (fun e => Nat.lt_irrefl _ (H7.out _ e)))) | (have hBX := hfar7 _ _ _ (heap_alloc_lt hBX _) (.inr (fun e => Nat.lt_irrefl _ (H7.out _ e))))); have hW := hW7; clear hW7 hfar7))
            all_goals
              obtain ⟨e0, e1, e2, e3⟩ := box_cells hBX
              have HL := Lib.hid (And.intro hW hBX)
              clear hW hBX
              go_wp2_with fail
              refine (rSize_any _ _ _ _ _).mono ?_
              rw [HS.out.2]
              rintro e wT ⟨rfl, hbT⟩
              have HZ := Lib.hid (step_yes HQ.out.2.1 HG.out.1 HN.out HQ.out.2.2.1 HQ.out.2.2.2.1 HS.out.1 (HL.out.1.below hbT))
              clear hbT e0 e1 e2 e3
              go_wp2
              go_roundw
              case rel => exact ⟨q + 1, by omega, by simp, HZ⟩
              case measure => simp [intOf]; omega
          · have HG := Lib.hid hgd
            by_cases hm : mayB true k 0 N = true
            · have hn4 : (40 : Int) < N := by
                refine Int.not_le.1 fun h => hgd ?_
                simp [gdB, gdN] at hm h ⊢
                first | exact ⟨hm, h⟩ | exact hm
              rw [hm]
              have HZ := Lib.hid (step_no HQ.out.2.1 HG.out HQ.out.2.2.1 HQ.out.2.2.2.1 hW)
              clear hgd hm hW hBX
              go_wp2
              go_roundw
              case rel => exact ⟨q + 1, by omega, by simp, HZ⟩
              case measure => simp [intOf]; omega
            · have hm : mayB true k 0 N = false := by simpa using hm
              rw [hm]
              have HZ := Lib.hid (step_no HQ.out.2.1 HG.out HQ.out.2.2.1 HQ.out.2.2.2.1 hW)
              clear hgd hm hW hBX e0 e1 e2 e3
              go_wp2
              go_roundw
              case rel => exact ⟨q + 1, by omega, by simp, HZ⟩
              case measure => simp [intOf]; omega
        --END
      · obtain rfl : q = hs.length := by omega
        obtain ⟨a6, a7, c6, c7, rfl, rfl, rfl, hB⟩ := HV.out
        rw [List.take_length] at hB ⊢
        have hok := goods_ok hs
        have hgl := goods_len hs
        obtain ⟨gs, hgs⟩ : ∃ x, goods hs = x := ⟨_, rfl⟩
        rw [hgs] at hB hok hgl ⊢
        have hoff := gOff_le gs hok
        have hml := gMem_len gs hok
        obtain ⟨m, hm⟩ : ∃ x, gs.length = x := ⟨_, rfl⟩
        rw [hm] at hB hgl hoff ⊢
        obtain ⟨p, hp⟩ : ∃ x, gap + gOff gs = x := ⟨_, rfl⟩
        rw [hp]
        have hpb : p ≤ 255 + 20 * 41 := by omega
        have HQ := Lib.hid (And.intro hok (And.intro hm (And.intro hp (And.intro hml hgs))))
        have HB := Lib.hid hB
        clear hB hok hm hp hgs hoff hml
        have hnw := wNew_any p wr (by omega)
        go_wp2_with fail
        refine hnw.mono ?_
        rintro e w1 ⟨rfl, hb1, hM1⟩
        have HC := Lib.hid (WM.mk (HB.out.below hb1) hM1 HB.out.b.size)
        clear hb1 hM1 hnw
        obtain ⟨bm, hbm⟩ : ∃ x, wr.heap.size + 1 = x := ⟨_, rfl⟩
        rw [hbm] at HC
        rw [hbm]
        obtain ⟨gm, hgm⟩ : ∃ x, wr.heap.size = x := ⟨_, rfl⟩
        rw [hgm] at HC
        clear hbm hgm
        have hfl := wFill_any bm gm (List.replicate p 0) 0 p 9 w1 HC.out.m
        have hf1 : fillE (List.replicate p (0 : Int)).length 0 p = 0 := by simp [fillE, hasB]
        have hf2 : fillL (List.replicate p (0 : Int)) 0 p 9 = List.replicate p 9 := by simp [fillL, hasB]
        rw [hf1, hf2] at hfl
        clear hf1 hf2
        go_wp2_with fail
        refine hfl.mono ?_
        rintro e w2 ⟨rfl, hg2, hM2⟩
        have HD := Lib.hid (HC.out.put hg2 hM2)
        clear hg2 hM2 hfl
        go_wp2
        go_loopw [81] (fun i wr => ∃ q : Nat, q ≤ m ∧ i = .int .i64 q ∧ Hid (WM w (.slice a6 m c6) (.slice a7 m c7) m m (runCells (gRuns gap gs)) (headCells gs) bm gm (List.replicate gap 9 ++ gMem (gs.take q) ++ List.replicate (gOff (gs.drop q)) 9) wr)) (fun i _ => m - (intOf i).toNat)
        case atStart =>
          refine ⟨0, Nat.zero_le _, rfl, Lib.hid ?_⟩
          have e : List.replicate gap (9 : Int) ++ gMem (gs.take 0) ++ List.replicate (gOff (gs.drop 0)) 9 = List.replicate p 9 := by
            rw [List.take_zero, List.drop_zero, show gMem [] = [] from rfl, List.append_nil, List.replicate_append_replicate, HQ.out.2.2.1]
          rw [e]
          exact HD.out
        case round =>
          obtain ⟨q, hq, rfl, HV2⟩ := hrel
          by_cases hlt : q < m
          · obtain ⟨b1, o1, f, k, rfl, hrq, hcf, hck⟩ := (runs_of_own HV2.out.wb.o6 (by rw [gRuns_len, HQ.out.2.1])).at_ q (by rw [gRuns_len, HQ.out.2.1]; exact hlt)
            obtain ⟨b2, o2, ga, gk, gt, gn, rfl, hhq, h0, h1, h2, h3⟩ := (heads_of_own HV2.out.wb.o7 HQ.out.2.1).at_ q (by rw [List.length_map, HQ.out.2.1]; exact hlt)
            obtain ⟨g, hgq⟩ : ∃ g, gs[q]? = some g := ⟨gs[q]'(by rw [HQ.out.2.1]; exact hlt), by simp [HQ.out.2.1, hlt]⟩
            rw [gRuns_at gap gs q g hgq] at hrq
            rw [List.getElem?_map, hgq] at hhq
            simp only [Option.some.injEq, Prod.mk.injEq, Option.map_some] at hrq hhq
            obtain ⟨rfl, rfl⟩ := hrq
            obtain ⟨rfl, rfl, rfl, rfl⟩ := hhq
            have hps := put_step gap (gs.take q) (gs.drop (q + 1)) g (fun x hx => HQ.out.1 x (List.mem_of_mem_take hx)) (HQ.out.1 g (List.mem_of_getElem? hgq))
            have hdr : gs.drop q = g :: gs.drop (q + 1) := by
              obtain ⟨hl, he⟩ := List.getElem?_eq_some_iff.1 hgq
              rw [List.drop_eq_getElem_cons hl, he]
            have htk : gs.take (q + 1) = gs.take q ++ [g] := by rw [List.take_add_one, hgq]; rfl
            rw [← hdr, ← htk] at hps
            obtain ⟨fz, hfz⟩ : ∃ x, gap + gOff (gs.take q) = x := ⟨_, rfl⟩
            rw [hfz] at hps hcf
            obtain ⟨sz, hsz⟩ : ∃ x, gSz g = x := ⟨_, rfl⟩
            rw [hsz] at hps hck
            have hbb : Below wr.heap.size wr (wr.alloc (.cells #[.int .i64 fz, .int .i64 sz] 24)).drew := ((Below.refl _ _).alloc (Nat.le_refl _) _).trans ⟨rfl, rfl, rfl, Nat.le_refl _, fun _ _ => rfl⟩
            have HE := Lib.hid (HV2.out.below hbb)
            have hp2 := Put_any bm gm _ fz sz g.1 g.2.1 0 g.2.2 _ (HH.out.1.below HH.out.1.lt HE.out.wb.b) HE.out.m
            rw [hps.1, hps.2] at hp2
            have HP := Lib.hid hp2
            have i1 : (q : Int) < (m : Int) := by omega
            have i0 : (0 : Int) ≤ (q : Int) := by omega
            clear hbb hp2 hps hdr htk hgq hfz hsz
            have hbn : Below wr.heap.size wr (wr.alloc (.cells #[.int .i64 fz, .int .i64 sz] 24)) := (Below.refl _ _).alloc (Nat.le_refl _) _
            have d0 := (hbn.cell (cell_lt h0)).trans h0
            have d1 := (hbn.cell (cell_lt h1)).trans h1
            have d2 := (hbn.cell (cell_lt h2)).trans h2
            have d3 := (hbn.cell (cell_lt h3)).trans h3
            have e0 := heap_cell (heap_alloc_eq wr (.cells #[.int .i64 fz, .int .i64 sz] 24)) 0
            have e1 := heap_cell (heap_alloc_eq wr (.cells #[.int .i64 fz, .int .i64 sz] 24)) 1
            simp only [List.getElem?_toArray, List.getElem?_cons_zero, List.getElem?_cons_succ] at e0 e1
            have HDD := Lib.hid (And.intro d0 (And.intro d1 (And.intro d2 (And.intro d3 (And.intro e0 e1)))))
            clear hbn d0 d1 d2 d3 e0 e1
            go_wp2
            obtain ⟨d0, d1, d2, d3, e0, e1⟩ := HDD.out
            clear h0 h1 h2 h3 hcf hck
            generalize hW1 : wr.alloc _ = W1
            simp only [hW1] at d0 d1 d2 d3 e0 e1 HP HE
            clear hW1 HDD
            go_still_tail 6, (by kernel_rfl)
            change wpList _ _ _ _ _ W1.drew
            go_wp2_with fail
            refine HP.out.mono ?_
            rintro e w3 ⟨rfl, hg3, hM3⟩
            have HF := Lib.hid (HE.out.put hg3 hM3)
            clear hg3 hM3 d0 d1 d2 d3 e0 e1
            go_wp2
            go_roundw
            case rel => exact ⟨q + 1, by omega, by simp, HF⟩
            case measure => simp [intOf]; omega
          · obtain rfl : q = m := by omega
            have hV3 := HV2.out
            have e1 : gs.take q = gs := by rw [← HQ.out.2.1, List.take_length]
            have e2 : gs.drop q = [] := by rw [← HQ.out.2.1, List.drop_length]
            rw [e1, e2, show gOff [] = 0 from rfl, List.replicate_zero, List.append_nil] at hV3
            have HV3 : Hid (WM w (.slice a6 q c6) (.slice a7 q c7) q q (runCells (gRuns gap gs)) (headCells gs) bm gm (gAll gap gs) wr) := Lib.hid hV3
            clear e1 e2 hV3
            obtain ⟨W4, hW4⟩ : ∃ x, (wr.alloc (.cells #[.int .i64 1, .int .i64 0] 3)).alloc (.cells #[.slice (some ⟨wr.heap.size, 0, none⟩) 2 2] 50) = x := ⟨_, rfl⟩
            have hb4 : Below wr.heap.size wr W4 := by rw [← hW4]; exact ((Below.refl _ _).alloc (Nat.le_refl _) _).alloc (by simp) _
            have HE := Lib.hid (HV3.out.below hb4)
            have hDe : Descs W4 (some ⟨wr.heap.size + 1, 0, none⟩) [[1, 0]] := by
              have hc1 : W4.heap[wr.heap.size]? = some (.cells #[.int .i64 1, .int .i64 0] 3 (0, 0)) := by rw [← hW4]; exact heap_alloc_lt (heap_alloc_eq _ _) _
              have hc2 : W4.heap[wr.heap.size + 1]? = some (.cells #[.slice (some ⟨wr.heap.size, 0, none⟩) 2 2] 50 (0, 0)) := by rw [← hW4]; exact heap_alloc_at (by simp)
              refine .inr ⟨_, _, rfl, fun i hi => ?_⟩
              simp at hi
              subst hi
              refine ⟨some ⟨wr.heap.size, 0, none⟩, 2, by rw [heap_cell hc2]; rfl, .inr ⟨_, _, rfl, fun q hq => ?_⟩, by simp⟩
              rw [heap_cell hc1, Nat.zero_add]
              match q, hq with
              | 0, _ => rfl
              | 1, _ => rfl
            have hrl := gRuns_len gap gs
            rw [HQ.out.2.1] at hrl
            have hob := callsIn_wide.1 (objs_in bm gm (gAll gap gs) a6 (gRuns gap gs) c6 (some ⟨wr.heap.size + 1, 0, none⟩) [[1, 0]] 1 W4 (HH.out.1.below HH.out.1.lt HE.out.wb.b) HE.out.m hDe (runs_of_own HE.out.wb.o6 hrl) (by decide) (by decide) (by omega) (gAll_word gap gs HQ.out.1) (fun r hr => by
              obtain ⟨j, g, hg, rfl⟩ := gRuns_mem gap gs r hr
              have := gOff_le (gs.take j) (fun x hx => HQ.out.1 x (List.mem_of_mem_take hx))
              have : (gs.take j).length ≤ gs.length := by simp; omega
              have := HQ.out.2.1
              simp only
              omega))
            rw [hrl] at hob
            clear hDe hrl hb4
            go_wp2_with fail
            try rw [hW4]
            refine hob.mono ?_
            intro e w5 hret
            obtain ⟨v, rfl, hb5, ⟨hE, _⟩ | ⟨hE, flat, ho, hj⟩⟩ := hret
            · exact absurd (back_all gap gs HQ.out.1 (by have := HQ.out.2.1; omega) (by omega)) hE
            obtain ⟨a5, c5, rfl, hO⟩ := objs_of_own ho hj
            rw [hE, List.length_map, gRuns_len, HQ.out.2.1]
            have HF := Lib.hid (And.intro (HE.out.below hb5) hO)
            clear hb5 hE flat ho hj hO hob hW4
            go_wp2
            go_loopw [115] (fun i wr => ∃ r : Nat, r ≤ q ∧ i = .int .i64 r ∧ Hid (Below w5.heap.size w5 wr)) (fun i _ => q - (intOf i).toNat)
            case atStart => exact ⟨0, Nat.zero_le _, rfl, Lib.hid (Below.refl _ _)⟩
            case round =>
              obtain ⟨r, hr, rfl, HV5⟩ := hrel
              have HG := Lib.hid (HF.out.1.below HV5.out)
              by_cases hlt : r < q
              · have hgl2 := HQ.out.2.1
                obtain ⟨⟨x, k, nn⟩, hgq⟩ : ∃ g, gs[r]? = some g := ⟨gs[r]'(by omega), by simp [hgl2, hlt]⟩
                have hbd := (HQ.out.1 _ (List.mem_of_getElem? hgq)).bd
                obtain ⟨n, rfl⟩ : ∃ n : Nat, nn = n := ⟨nn.toNat, by simp at hbd; omega⟩
                obtain ⟨fz, hfz⟩ : ∃ y, gap + gOff (gs.take r) = y := ⟨_, rfl⟩
                have hfb : fz ≤ 1075 := by
                  have := gOff_le (gs.take r) (fun x hx => HQ.out.1 x (List.mem_of_mem_take hx))
                  have : (gs.take r).length ≤ r := by simp; omega
                  omega
                have hnb : n ≤ 40 := by simp at hbd; omega
                obtain ⟨b3, o3, y1, y2, c1, c2, rfl, k0, k1, k2, k3, k4, k5, k6, k7, hry⟩ := back_obj HQ.out.1 (by omega) (by omega) (HF.out.2.below HV5.out) hgq hfz
                obtain ⟨b1, o1, f1, s1, rfl, hrq, hcf, hck⟩ := (runs_of_own HG.out.wb.o6 (by rw [gRuns_len, hgl2])).at_ r (by rw [gRuns_len, hgl2]; exact hlt)
                obtain ⟨b2, o2, ga, gk, gt, gn, rfl, hhq, h0, h1, h2, h3⟩ := (heads_of_own HG.out.wb.o7 hgl2).at_ r (by rw [List.length_map, hgl2]; exact hlt)
                rw [gRuns_at gap gs r _ hgq] at hrq
                rw [List.getElem?_map, hgq] at hhq
                simp only [Option.some.injEq, Prod.mk.injEq, Option.map_some, hfz] at hrq hhq
                obtain ⟨rfl, rfl⟩ := hrq
                obtain ⟨rfl, rfl, rfl, rfl⟩ := hhq
                have hne := fun w => run_neLike x k 0 n w
                have i1 : (r : Int) < (q : Int) := by omega
                have i0 : (0 : Int) ≤ (r : Int) := by omega
                have y9 : ((fz : Int) + 1 != (fz : Int) + 1) = false := by simp
                have y8 : ((n : Int) != (n : Int)) = false := by simp
                have y7 : IntKind.i64.wrap ((fz : Int) + 1) = (fz : Int) + 1 := by rw [IntKind.wrap_i64]; omega
                have hbx : Below wr.heap.size wr (wr.alloc (.cells #[.int .i64 ((fz : Int) + 1), .int .i64 0, .bool x, .int .i64 k, .int .i64 0, .int .i64 n, .slice y1 n c1, .slice y2 n c2] 53)) := (Below.refl _ _).alloc (Nat.le_refl _) _
                have HRY := Lib.hid (hry.below hbx)
                have HB6 := Lib.hid (HV5.out.trans (hbx.mono HV5.out.size))
                have d0 := (hbx.cell (cell_lt h0)).trans h0
                have d1 := (hbx.cell (cell_lt h1)).trans h1
                have d2 := (hbx.cell (cell_lt h2)).trans h2
                have d3 := (hbx.cell (cell_lt h3)).trans h3
                have d4 := (hbx.cell (cell_lt hcf)).trans hcf
                have hbo := heap_alloc_eq wr (.cells #[.int .i64 ((fz : Int) + 1), .int .i64 0, .bool x, .int .i64 k, .int .i64 0, .int .i64 n, .slice y1 n c1, .slice y2 n c2] 53)
                have HDD := Lib.hid (And.intro d0 (And.intro d1 (And.intro d2 (And.intro d3 (And.intro d4 hbo)))))
                clear hgl2 hgq hbd hfz hck hry hbx d0 d1 d2 d3 d4 hbo
                go_wp2
                obtain ⟨d0, d1, d2, d3, d4, hbo⟩ := HDD.out
                have e0 := heap_cell hbo 0
                have e2 := heap_cell hbo 2
                have e3 := heap_cell hbo 3
                have e4 := heap_cell hbo 4
                have e5 := heap_cell hbo 5
                have e6 := heap_cell hbo 6
                have e7 := heap_cell hbo 7
                simp only [List.getElem?_toArray, List.getElem?_cons_zero, List.getElem?_cons_succ] at e0 e2 e3 e4 e5 e6 e7
                clear h0 h1 h2 h3 hcf hbo k0 k1 k2 k3 k4 k5 k6 k7
                generalize hW1 : wr.alloc _ = W1
                simp only [hW1] at d0 d1 d2 d3 d4 e0 e2 e3 e4 e5 e6 e7 HRY HB6
                clear hW1 HDD
                go_quiet (fail)
                go_wp2
                go_loopw [163] (fun i wx => ∃ j : Nat, j ≤ n ∧ i = .int .i64 j ∧ wx = W1.drewN nq) (fun i _ => n - (intOf i).toNat)
                case atStart => exact ⟨0, Nat.zero_le _, rfl, rfl⟩
                case round =>
                  obtain ⟨j, hj, rfl, rfl⟩ := hrel
                  by_cases hlj : j < n
                  · obtain ⟨bz, oz, rfl, hcz⟩ := HRY.out.at_ j (by simpa using hlj)
                    simp [hlj] at hcz
                    have hcz' : (W1.drewN nq).cell? ⟨bz, oz + j, none⟩ = some (.int .u64 0) := hcz
                    clear hcz
                    go_wp2
                    go_roundw
                    case rel => exact ⟨j + 1, by omega, by simp, trivial⟩
                    case measure => simp [intOf]; omega
                  · obtain rfl : j = n := by omega
                    clear d0 d1 d2 d3 d4 e0 e2 e3 e4 e5 e6 e7
                    go_wp2
                    go_roundw
                    case rel => exact ⟨r + 1, by omega, by simp, Lib.hid (HB6.out.trans ⟨rfl, rfl, rfl, Nat.le_refl _, fun _ _ => rfl⟩)⟩
                    case measure => simp [intOf]; omega
              · obtain rfl : r = q := by omega
                have HT9 := Lib.hid (HH.out.1.below HH.out.1.lt HG.out.wb.b)
                go_wp2_with fail
                refine (wfixed_any _ HT9.out).mono ?_
                rintro e w9 ⟨rfl, hb9⟩
                have hB9 := HG.out.wb.b.trans (hb9.mono HG.out.wb.b.size)
                clear hb9
                go_wp2
                go_ret
                exact ⟨rfl, hB9⟩
  · go_enter Tryd.func4, Tryd.ntmps4
    go_wp2_with fail
    refine (wfixed_any _ HH.out.1).mono ?_
    rintro e w9 ⟨rfl, hb9⟩
    go_wp2
    go_ret
    exact ⟨rfl, hb9⟩
end Go.Proofs.YtojcdljpgginjaaDoor
