/-
  slices.Clone of a row of words.
-/
import Derived.Test.YtojcdljpgginjaaDoorOwnK
namespace Go.Proofs.YtojcdljpgginjaaDoor
open Go Go.RowKit

theorem info_u64 : (Tryd.prog.info? 44).map (fun i => (i.zero, i.size, i.bytes)) = some (some (.int .u64 0), 1, 8) := by kernel_rfl
theorem Clone_u64_nil (w : World) : Calls Tryd.prog 29 #[.slice none 0 0] w (RetOwn .u64 44 [] w) := by
  have hq := fun w => Lib.run_eql_slice_nil (P := Tryd.prog) w 22 44 none 0 0 0 0 Tryd.underlying22
  go_enter Tryd.func29, Tryd.ntmps29
  go_wp2
  go_ret
  exact ⟨_, rfl, Below.refl _ _, World.ownsRow_nil _ _ _ _⟩
theorem Clone_u64_some (ad : Addr) (xs : List Int) (cap : Nat) (w : World) (h : Reads .u64 w (some ad) xs) (hn : xs.length * 8 ≤ 140737488351232) :
    Calls Tryd.prog 29 #[.slice (some ad) xs.length cap] w (RetOwn .u64 44 xs w) := by
  obtain ⟨i0, hi, hz0, hz1, hz2⟩ := info_parts info_u64
  have hcs := Lib.hid (cells_of_reads h)
  have hq := fun w => Lib.run_eql_slice_nil (P := Tryd.prog) w 22 44 (some ad) xs.length cap 0 0 Tryd.underlying22
  go_enter Tryd.func29, Tryd.ntmps29
  go_wp2_with (at_builtin; refine wpList_append_own _ rfl _ _ 22 rfl w.heap.size 44 i0 (.int .u64 0) 1 8 Tryd.underlying22 hi hz0 hz1 hz2 rfl (by decide) _ _ _ rfl (World.ownsRow_made w #[] 0 (Nat.le_refl _) (by decide) rfl) ad xs.length cap (xs.map (Value.int .u64)) rfl ?c0 ?c1 ?c2 ?c3 ?c4 ?c5 ?_)
  case c0 => simp
  case c1 => exact fun j u hj => (cell_alloc_old _ (hcs.out j u hj))
  case c2 => exact ints_oneCell _ _
  case c3 => unfold maxLen; omega
  case c4 => omega
  case c5 => simp
  · intro v' w1 hown' hgrow _
    go_wp2
    go_ret
    refine ⟨_, rfl, ?_, by simpa using hown'⟩
    exact ((Below.refl _ _).alloc (Nat.le_refl _) _).grown hgrow (by simp) (fun k e => by simp [Value.ownBlock] at e; omega)

theorem Clone_u64_any (a : Option Addr) (xs : List Int) (cap : Nat) (w : World) (h : Reads .u64 w a xs) (hn : xs.length * 8 ≤ 140737488351232) (h0 : a = none → xs = [] ∧ cap = 0) :
    Calls Tryd.prog 29 #[.slice a xs.length cap] w (RetOwn .u64 44 xs w) := by
  rcases a with _ | ad
  · obtain ⟨rfl, rfl⟩ := h0 rfl
    exact Clone_u64_nil w
  · exact Clone_u64_some ad xs cap w h hn

end Go.Proofs.YtojcdljpgginjaaDoor
