/-
  The reference's rows of bytes.
-/
import Derived.Test.YtgnebofjfmbccaaPa
set_option linter.all false
namespace Go.Proofs.Ytgnebofjfmbccaa
open Go.RowKit
@[go_sem] theorem digOk (d : Dig) : (encDig d).all byteOk = true := bytesOk_bcells d.l
@[go_sem] theorem bytesIn_dig (d : Dig) : bytesIn (encDig d) = d.l := bytesIn_bcells d.l
set_option maxRecDepth 20000 in
theorem ref07_Number (n : Int) (w : World) : Calls Try.prog 94 #[.int .i64 n] w (Res (.string (strOf (numB n))) w) := by
  go_enter Try.func94, Try.ntmps94
  go_wp2_with ((go_at_call 112; refine (ref01_Number _ _).mono ?_; rintro e w1 ⟨rfl, hb⟩; have ha := below_rule hb; have hs := hb.size; (try simp only [World.size_alloc, World.size_setCell, size_put, World.size_drew] at hs)))
  go_ret
  exact ⟨rfl, by (repeat' (first | exact Below.refl _ _ | assumption | refine below_drew ?_ | refine below_drewN ?_ _ | refine below_alloc ?_ _ | refine below_call ?_ (by assumption) | refine below_put ?_ _ _ _ (by first | omega | (simp; omega)) | refine below_setCell ?_ _ _ (by first | (simp; omega) | (simp; done) | omega) | refine below_putObj ?_ _ _ (by first | omega | (simp; omega) | (simp; done))))⟩
set_option maxRecDepth 20000 in
theorem ref02_Text (d : Dig) (w : World) : Calls Try.prog 95 #[.agg (encDig d).toArray] w (Res (.string (strOf d.l)) w) := by
  go_enter Try.func95, Try.ntmps95
  go_wp2
  go_ret
  exact ⟨rfl, by (repeat' (first | exact Below.refl _ _ | assumption | refine below_drew ?_ | refine below_drewN ?_ _ | refine below_alloc ?_ _ | refine below_call ?_ (by assumption) | refine below_put ?_ _ _ _ (by first | omega | (simp; omega)) | refine below_setCell ?_ _ _ (by first | (simp; omega) | (simp; done) | omega) | refine below_putObj ?_ _ _ (by first | omega | (simp; omega) | (simp; done))))⟩
end Go.Proofs.Ytgnebofjfmbccaa
