/-
  Laying a row of fields: pack.may.
-/
import Derived.Test.YtgnebofjfmbccaaPg
set_option linter.all false
namespace Go.Proofs.Ytgnebofjfmbccaa
open Go.RowKit
def mayF (f : Fld) (last : Int) : Int := if 255 < f.tag ∨ f.tag ≤ last then 1 else if 65536 < f.data.size then 2 else 0
set_option maxRecDepth 20000 in
set_option maxHeartbeats 1000000 in
theorem pack_may (f : Fld) (last : Int) (w : World) : Calls Try.prog 109 #[.agg (encFld f).toArray, .int .i64 last] w (Res (.int .i64 (mayF f last)) w) := by
  by_cases h1 : 255 < f.tag
  · rw [show mayF f last = 1 by simp [mayF, h1]]
    go_enter Try.func109, Try.ntmps109
    go_wp2
    go_ret
    exact ⟨rfl, by (repeat' (first | exact Below.refl _ _ | assumption | refine below_drew ?_ | refine below_drewN ?_ _ | refine below_alloc ?_ _ | refine below_call ?_ (by assumption) | refine below_put ?_ _ _ _ (by first | omega | (simp; omega)) | refine below_setCell ?_ _ _ (by first | (simp; omega) | (simp; done) | omega) | refine below_putObj ?_ _ _ (by first | omega | (simp; omega) | (simp; done))))⟩
  by_cases h2 : f.tag ≤ last
  · rw [show mayF f last = 1 by simp [mayF, h2]]
    go_enter Try.func109, Try.ntmps109
    go_wp2
    go_ret
    exact ⟨rfl, by (repeat' (first | exact Below.refl _ _ | assumption | refine below_drew ?_ | refine below_drewN ?_ _ | refine below_alloc ?_ _ | refine below_call ?_ (by assumption) | refine below_put ?_ _ _ _ (by first | omega | (simp; omega)) | refine below_setCell ?_ _ _ (by first | (simp; omega) | (simp; done) | omega) | refine below_putObj ?_ _ _ (by first | omega | (simp; omega) | (simp; done))))⟩
  by_cases h3 : 65536 < f.data.size
  · rw [show mayF f last = 2 by simp [mayF, h1, h2, h3]]
    have h3' : (65536 : Int) < (f.data.size : Int) := by omega
    clear h3
    go_enter Try.func109, Try.ntmps109
    go_wp2
    go_ret
    exact ⟨rfl, by (repeat' (first | exact Below.refl _ _ | assumption | refine below_drew ?_ | refine below_drewN ?_ _ | refine below_alloc ?_ _ | refine below_call ?_ (by assumption) | refine below_put ?_ _ _ _ (by first | omega | (simp; omega)) | refine below_setCell ?_ _ _ (by first | (simp; omega) | (simp; done) | omega) | refine below_putObj ?_ _ _ (by first | omega | (simp; omega) | (simp; done))))⟩
  · rw [show mayF f last = 0 by simp [mayF, h1, h2, h3]]
    have h3' : ¬ (65536 : Int) < (f.data.size : Int) := by omega
    clear h3
    go_enter Try.func109, Try.ntmps109
    go_wp2
    go_ret
    exact ⟨rfl, by (repeat' (first | exact Below.refl _ _ | assumption | refine below_drew ?_ | refine below_drewN ?_ _ | refine below_alloc ?_ _ | refine below_call ?_ (by assumption) | refine below_put ?_ _ _ _ (by first | omega | (simp; omega)) | refine below_setCell ?_ _ _ (by first | (simp; omega) | (simp; done) | omega) | refine below_putObj ?_ _ _ (by first | omega | (simp; omega) | (simp; done))))⟩
end Go.Proofs.Ytgnebofjfmbccaa
