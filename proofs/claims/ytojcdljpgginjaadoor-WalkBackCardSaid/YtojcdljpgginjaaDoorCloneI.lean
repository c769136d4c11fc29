/-
  slices.Clone of a row of ints.
-/
import Derived.Test.YtojcdljpgginjaaDoorOwnK
namespace Go.Proofs.YtojcdljpgginjaaDoor
open Go Go.RowKit

theorem Clone_int_nil (w : World) : Calls Tryd.prog 45 #[.slice none 0 0] w (RetOwn .i64 3 [] w) := by
  have hq := fun w => Lib.run_eql_slice_nil (P := Tryd.prog) w 48 3 none 0 0 0 0 Tryd.underlying48
  go_enter Tryd.func45, Tryd.ntmps45
  go_wp2
  go_ret
  exact ⟨_, rfl, Below.refl _ _, World.ownsRow_nil _ _ _ _⟩
theorem Clone_int_some (ad : Addr) (xs : List Int) (cap : Nat) (w : World) (h : Reads .i64 w (some ad) xs) (hn : xs.length * 8 ≤ 140737488351232) :
    Calls Tryd.prog 45 #[.slice (some ad) xs.length cap] w (RetOwn .i64 3 xs w) := by
  obtain ⟨i0, hi, hz0, hz1, hz2⟩ := info_parts info_int
  have hcs := Lib.hid (cells_of_reads h)
  have hq := fun w => Lib.run_eql_slice_nil (P := Tryd.prog) w 48 3 (some ad) xs.length cap 0 0 Tryd.underlying48
  go_enter Tryd.func45, Tryd.ntmps45
  go_wp2_with (at_builtin; refine wpList_append_own _ rfl _ _ 48 rfl w.heap.size 3 i0 (.int .i64 0) 1 8 Tryd.underlying48 hi hz0 hz1 hz2 rfl (by decide) _ _ _ rfl (World.ownsRow_made w #[] 0 (Nat.le_refl _) (by decide) rfl) ad xs.length cap (xs.map (Value.int .i64)) rfl ?c0 ?c1 ?c2 ?c3 ?c4 ?c5 ?_)
  case c0 => simp
  case c1 => exact fun j u hj => (cell_alloc_old _ (hcs.out j u hj))
  case c2 => exact ints_oneCell _ _
  case c3 => unfold maxLen; omega
  case c4 => omega
  case c5 => simp
  · intro v' w1 hown' hgrow _
    go_wp2
    go_ret
    refine ⟨_, rfl, ?_, by simpa using hown'⟩
    exact ((Below.refl _ _).alloc (Nat.le_refl _) _).grown hgrow (by simp) (fun k e => by simp [Value.ownBlock] at e; omega)

theorem Clone_int_any (a : Option Addr) (xs : List Int) (cap : Nat) (w : World) (h : Reads .i64 w a xs) (hn : xs.length * 8 ≤ 140737488351232) (h0 : a = none → xs = [] ∧ cap = 0) :
    Calls Tryd.prog 45 #[.slice a xs.length cap] w (RetOwn .i64 3 xs w) := by
  rcases a with _ | ad
  · obtain ⟨rfl, rfl⟩ := h0 rfl
    exact Clone_int_nil w
  · exact Clone_int_some ad xs cap w h hn
end Go.Proofs.YtojcdljpgginjaaDoor
