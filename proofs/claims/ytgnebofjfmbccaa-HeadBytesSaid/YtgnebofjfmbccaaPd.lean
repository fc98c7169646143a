/-
  The reference's row of fields.
-/
import Derived.Test.YtgnebofjfmbccaaPc
set_option linter.all false
namespace Go.Proofs.Ytgnebofjfmbccaa
open Go.RowKit
theorem flatMap_encB (l : List UInt8) : l.flatMap encB = bcells l := by
  induction l with
  | nil => rfl
  | cons b r ih => rw [List.flatMap_cons, ih]; rfl
theorem OwnB.sl {w : World} {B : Nat} {v : Value} {l : List UInt8} (h : OwnB w B v l) : OwnSl encB 1 5 w B v l := by unfold OwnSl; rw [flatMap_encB]; exact h
theorem OwnSl.b {w : World} {B : Nat} {v : Value} {l : List UInt8} (h : OwnSl encB 1 5 w B v l) : OwnB w B v l := by unfold OwnB; rw [← flatMap_encB]; exact h
def encS (d : List UInt8) : List Value := [.string (strOf d)]
theorem encS_length (d : List UInt8) : (encS d).length = 1 := rfl
def rowFrom : Nat → List (List UInt8) → List UInt8
  | _, [] => []
  | k, d :: r => fieldB ((k : Int) + 1) d ++ rowFrom (k + 1) r
theorem rowFrom_drop (l : List (List UInt8)) (k : Nat) (hk : k < l.length) : rowFrom k (l.drop k) = fieldB ((k : Int) + 1) l[k] ++ rowFrom (k + 1) (l.drop (k + 1)) := by
  rw [List.drop_eq_getElem_cons hk]; rfl
set_option maxRecDepth 20000 in
set_option maxHeartbeats 1000000 in
theorem ref07_Row (l : List (List UInt8)) (a : Option Addr) (cap : Nat) (w : World) (h : SliceAt encS 1 w a l) (hl : l.length ≤ 1000) (hd : ∀ d ∈ l, d.length ≤ 1000000) (htot : (rowFrom 0 l).length ≤ 1000000000) :
    Calls Try.prog 93 #[.slice a l.length cap] w (ResB (rowFrom 0 l) w) := by
  go_enter Try.func93, Try.ntmps93
  go_wp2
  go_loopw [3, 4] (fun v i wr => ∃ (k : Nat) (acc : List UInt8), k ≤ l.length ∧ i = .int .i64 k ∧ OwnB wr w.heap.size v acc ∧ rowFrom 0 l = acc ++ rowFrom k (l.drop k) ∧ Below w.heap.size w wr) (fun _ i _ => l.length - (intOf i).toNat)
  case atStart => exact ⟨0, [], Nat.zero_le _, rfl, (OwnSl.nil _ _ _ _ _ : OwnSl encB 1 5 w w.heap.size _ []).b, rfl, Below.refl _ _⟩
  case round =>
    obtain ⟨k, acc, hk, rfl, hown, hdd, hb0⟩ := hrel
    have hsz := hb0.size
    by_cases hlt : k < l.length
    · obtain ⟨b, off, ha, hbl, hrow⟩ := (h.below hb0).get hlt
      subst ha
      have c0 : cellOf (wr.at_ b) (off + k * 1) = some (.string (strOf l[k])) := by have := rowOf_cell hrow 0 (by omega); simpa [encS] using this
      have c1 : cellOf (wr.at_ b) (off + k) = some (.string (strOf l[k])) := by rw [Nat.mul_one] at c0; exact c0
      have hlk := hd _ (List.getElem_mem hlt)
      rw [rowFrom_drop l k hlt] at hdd
      have hal : acc.length + (fieldB ((k : Int) + 1) l[k]).length ≤ 1000000000 := by
        rw [hdd, List.length_append, List.length_append] at htot; omega
      have H := Lib.hid hdd; clear hdd
      go_wp2_with (first | (go_at_call 111; refine (ref01_Bytes _ _ (by omega) _).mono ?_; rintro e w1 ⟨v1, rfl, hown1, hb⟩; obtain ⟨a1, cap1, rfl, hsl1, hcap1, hblk1⟩ := hown1.sl.slice encB_length; have ha := below_rule hb; have hs := hb.size; (try simp only [World.size_alloc, World.size_setCell, size_put, World.size_drew] at hs)) | (at_builtin; refine wpList_app (enc := encB) rfl _ _ 47 rfl w.heap.size 5 _ 1 1 Try.underlying47 info_u8 rfl (by omega) encB_length encB_one _ acc rfl (hown.sl.kept (by assumption)) _ _ (fieldB ((k : Int) + 1) l[k]) rfl hsl1 (by omega) (by omega) (by omega) ?_; intro v' w' hown' hg' hk'))
      refine ⟨⟨k + 1, acc ++ fieldB ((k : Int) + 1) l[k], by omega, by go_num, OwnSl.b hown', by rw [H.out, List.append_assoc], below_grown (by (repeat' (first | exact Below.refl _ _ | assumption | refine below_drew ?_ | refine below_drewN ?_ _ | refine below_alloc ?_ _ | refine below_call ?_ (by assumption) | refine below_put ?_ _ _ _ (by first | omega | (simp; omega)) | refine below_setCell ?_ _ _ (by first | (simp; omega) | (simp; done) | omega) | refine below_putObj ?_ _ _ (by first | omega | (simp; omega) | (simp; done))))) hg' (fun j hj => (hown.sl.block j hj).1)⟩, by simp [intOf]; omega⟩
    · have hkl : k = l.length := by omega
      subst hkl
      rw [List.drop_length, rowFrom, List.append_nil] at hdd
      have H := Lib.hid hdd; clear hdd htot
      go_wp2
      go_ret
      refine ⟨_, rfl, ?_, by (repeat' (first | exact Below.refl _ _ | assumption | refine below_drew ?_ | refine below_drewN ?_ _ | refine below_alloc ?_ _ | refine below_call ?_ (by assumption) | refine below_put ?_ _ _ _ (by first | omega | (simp; omega)) | refine below_setCell ?_ _ _ (by first | (simp; omega) | (simp; done) | omega) | refine below_putObj ?_ _ _ (by first | omega | (simp; omega) | (simp; done))))⟩
      rw [H.out]
      simpa using hown
end Go.Proofs.Ytgnebofjfmbccaa
