/-
  The reference of a log: find, old, may, same.
-/
import Derived.Test.YtgnebofjfmbccaaD
set_option linter.all false
namespace Go.Proofs.Ytgnebofjfmbccaa
open Go.RowKit
def posFrom (p : Item → Bool) : Nat → List Item → Option Nat
  | _, [] => none
  | k, x :: r => if p x then some k else posFrom p (k + 1) r
theorem posFrom_drop (p : Item → Bool) (l : List Item) (k j : Nat) (hk : k < l.length) : posFrom p j (l.drop k) = if p l[k] then some j else posFrom p (j + 1) (l.drop (k + 1)) := by
  rw [List.drop_eq_getElem_cons hk]; rfl
def isSeq (c s : Int) (x : Item) : Bool := decide (x.entry.kind = 1) && decide (x.entry.client = c) && decide (x.entry.seq = s)
def isOld (c s : Int) (x : Item) : Bool := decide (x.entry.kind = 1) && decide (x.entry.client = c) && decide (s ≤ x.entry.seq)
def foundAt (o : Option Nat) : Int := match o with | some k => k | none => 0
theorem ret_two {u v u' v' : Value} (h : u = u') (h' : v = v') : Ending.returned (.tuple #[u, v]) = .returned (.tuple #[u', v']) := by rw [h, h']
set_option maxHeartbeats 1000000 in
theorem ref11_Find (l : List Item) (a : Option Addr) (cap : Nat) (c s : Int) (w : World) (h : SliceAt encItem 110 w a l) (hl : l.length ≤ 1000000000000) :
    Calls Try.prog 16 #[.slice a l.length cap, .int .i64 c, .int .i64 s] w (Res2 (.int .i64 (foundAt (posFrom (isSeq c s) 0 l))) (.bool (posFrom (isSeq c s) 0 l).isSome) w) := by
  go_enter Try.func16, Try.ntmps16
  go_wp2
  go_loopw [8] (fun i wr => ∃ (k : Nat), k ≤ l.length ∧ i = .int .i64 k ∧ posFrom (isSeq c s) 0 l = posFrom (isSeq c s) k (l.drop k) ∧ Below w.heap.size w wr) (fun i _ => l.length - (intOf i).toNat)
  case atStart => exact ⟨0, Nat.zero_le _, rfl, rfl, Below.refl _ _⟩
  case round =>
    obtain ⟨k, hk, rfl, hd, hb0⟩ := hrel
    by_cases hlt : k < l.length
    · obtain ⟨b, off, ha, hbl, hrow⟩ := (h.below hb0).get hlt
      subst ha
      obtain ⟨c0, c1, c2, c3, c4, c5, c6⟩ := item_cells hrow
      rw [posFrom_drop _ l k k hlt] at hd
      have H := Lib.hid hd; clear hd
      go_wp2
      all_goals
        first
          | (go_roundw
             case rel => exact ⟨k + 1, by omega, by go_num, by rw [H.out, if_neg (by (try simp only [beq_iff_eq, beq_eq_false_iff_ne] at *); simp [isSeq, *])], by (repeat' (first | exact Below.refl _ _ | assumption | refine below_drew ?_ | refine below_drewN ?_ _ | refine below_alloc ?_ _ | refine below_call ?_ (by assumption) | refine below_put ?_ _ _ _ (by first | omega | (simp; omega)) | refine below_setCell ?_ _ _ (by first | (simp; omega) | (simp; done) | omega) | refine below_putObj ?_ _ _ (by first | omega | (simp; omega) | (simp; done))))⟩
             case measure => simp [intOf]; omega)
          | (have hi : isSeq c s l[k] = true := by (try simp only [beq_iff_eq, beq_eq_false_iff_ne] at *); simp [isSeq, *]
             go_ret2
             exact ⟨ret_two (by rw [H.out, if_pos hi]; rfl) (by rw [H.out, if_pos hi]; rfl), by (repeat' (first | exact Below.refl _ _ | assumption | refine below_drew ?_ | refine below_drewN ?_ _ | refine below_alloc ?_ _ | refine below_call ?_ (by assumption) | refine below_put ?_ _ _ _ (by first | omega | (simp; omega)) | refine below_setCell ?_ _ _ (by first | (simp; omega) | (simp; done) | omega) | refine below_putObj ?_ _ _ (by first | omega | (simp; omega) | (simp; done))))⟩)
    · have hkl : k = l.length := by omega
      subst hkl
      simp only [List.drop_length, posFrom] at hd
      have H := Lib.hid hd; clear hd
      go_wp2
      go_ret2
      exact ⟨ret_two (by rw [H.out]; rfl) (by rw [H.out]; rfl), by (repeat' (first | exact Below.refl _ _ | assumption | refine below_drew ?_ | refine below_drewN ?_ _ | refine below_alloc ?_ _ | refine below_call ?_ (by assumption) | refine below_put ?_ _ _ _ (by first | omega | (simp; omega)) | refine below_setCell ?_ _ _ (by first | (simp; omega) | (simp; done) | omega) | refine below_putObj ?_ _ _ (by first | omega | (simp; omega) | (simp; done))))⟩
set_option maxHeartbeats 1000000 in
theorem ref11_Old (l : List Item) (a : Option Addr) (cap : Nat) (c s : Int) (w : World) (h : SliceAt encItem 110 w a l) (hl : l.length ≤ 1000000000000) :
    Calls Try.prog 50 #[.slice a l.length cap, .int .i64 c, .int .i64 s] w (Res (.bool (l.any (isOld c s))) w) := by
  go_enter Try.func50, Try.ntmps50
  go_wp2
  go_loopw [7] (fun i wr => ∃ (k : Nat), k ≤ l.length ∧ i = .int .i64 k ∧ l.any (isOld c s) = (l.drop k).any (isOld c s) ∧ Below w.heap.size w wr) (fun i _ => l.length - (intOf i).toNat)
  case atStart => exact ⟨0, Nat.zero_le _, rfl, rfl, Below.refl _ _⟩
  case round =>
    obtain ⟨k, hk, rfl, hd, hb0⟩ := hrel
    by_cases hlt : k < l.length
    · obtain ⟨b, off, ha, hbl, hrow⟩ := (h.below hb0).get hlt
      subst ha
      obtain ⟨c0, c1, c2, c3, c4, c5, c6⟩ := item_cells hrow
      rw [any_drop _ l k hlt] at hd
      have H := Lib.hid hd; clear hd
      go_wp2
      all_goals
        first
          | (go_roundw
             case rel => exact ⟨k + 1, by omega, by go_num, by rw [H.out, show isOld c s l[k] = false by simp [isOld, *], Bool.false_or], by (repeat' (first | exact Below.refl _ _ | assumption | refine below_drew ?_ | refine below_drewN ?_ _ | refine below_alloc ?_ _ | refine below_call ?_ (by assumption) | refine below_put ?_ _ _ _ (by first | omega | (simp; omega)) | refine below_setCell ?_ _ _ (by first | (simp; omega) | (simp; done) | omega) | refine below_putObj ?_ _ _ (by first | omega | (simp; omega) | (simp; done))))⟩
             case measure => simp [intOf]; omega)
          | (have hi : isOld c s l[k] = true := by simp [isOld, *]
             go_ret
             exact ⟨ret_bool (by rw [H.out, hi, Bool.true_or]), by (repeat' (first | exact Below.refl _ _ | assumption | refine below_drew ?_ | refine below_drewN ?_ _ | refine below_alloc ?_ _ | refine below_call ?_ (by assumption) | refine below_put ?_ _ _ _ (by first | omega | (simp; omega)) | refine below_setCell ?_ _ _ (by first | (simp; omega) | (simp; done) | omega) | refine below_putObj ?_ _ _ (by first | omega | (simp; omega) | (simp; done))))⟩)
    · have hkl : k = l.length := by omega
      subst hkl
      simp only [List.drop_length, List.any_nil] at hd
      have H := Lib.hid hd; clear hd
      go_wp2
      go_ret
      exact ⟨ret_bool H.out.symm, by (repeat' (first | exact Below.refl _ _ | assumption | refine below_drew ?_ | refine below_drewN ?_ _ | refine below_alloc ?_ _ | refine below_call ?_ (by assumption) | refine below_put ?_ _ _ _ (by first | omega | (simp; omega)) | refine below_setCell ?_ _ _ (by first | (simp; omega) | (simp; done) | omega) | refine below_putObj ?_ _ _ (by first | omega | (simp; omega) | (simp; done))))⟩
def lastEpoch (l : List Item) : Int := epochAt l l.length
def mayErr (l : List Item) (x : Item) : Int :=
  if !(logOk l && x.ok) then 100 else if decide (x.epoch < lastEpoch l) then 102 else if decide (2000 ≤ l.length) then 2 else if decide (x.entry.kind = 1) && l.any (isOld x.entry.client x.entry.seq) then 101 else 0
set_option maxHeartbeats 2000000 in
theorem ref11_Same (l m : List Item) (a a' : Option Addr) (cap cap' : Nat) (w : World) (h : SliceAt encItem 110 w a l) (h' : SliceAt encItem 110 w a' m) (hl : l.length ≤ 1000000000000) (hm : m.length ≤ 1000000000000) :
    Calls Try.prog 21 #[.slice a l.length cap, .slice a' m.length cap'] w (Res (.bool (decide (l = m))) w) := by
  by_cases hlen : l.length = m.length
  case neg =>
    have hne : ((l.length : Int) == m.length) = false := by simp; omega
    have hne' : ((l.length : Int) != m.length) = true := by simp; omega
    have hlm : l ≠ m := fun e => hlen (by rw [e])
    go_enter Try.func21, Try.ntmps21
    go_wp2
    go_ret
    exact ⟨ret_bool (by simp [hlm]), by (repeat' (first | exact Below.refl _ _ | assumption | refine below_drew ?_ | refine below_drewN ?_ _ | refine below_alloc ?_ _ | refine below_call ?_ (by assumption) | refine below_put ?_ _ _ _ (by first | omega | (simp; omega)) | refine below_setCell ?_ _ _ (by first | (simp; omega) | (simp; done) | omega) | refine below_putObj ?_ _ _ (by first | omega | (simp; omega) | (simp; done))))⟩
  have hne' : ((l.length : Int) != m.length) = false := by simp; omega
  have H0 := Lib.hid hlen; clear hlen
  go_enter Try.func21, Try.ntmps21
  go_wp2
  have hlen := H0.out
  go_loopw [5] (fun i wr => ∃ (k : Nat), k ≤ l.length ∧ i = .int .i64 k ∧ (l = m ↔ l.drop k = m.drop k) ∧ Below w.heap.size w wr) (fun i _ => l.length - (intOf i).toNat)
  case atStart => exact ⟨0, Nat.zero_le _, rfl, Iff.rfl, Below.refl _ _⟩
  case round =>
    obtain ⟨k, hk, rfl, hd, hb0⟩ := hrel
    by_cases hlt : k < l.length
    · have hlt' : k < m.length := by omega
      obtain ⟨b, off, ha, hbl, hrow⟩ := (h.below hb0).get hlt
      subst ha
      obtain ⟨b', off', ha', hbl', hrow'⟩ := (h'.below hb0).get hlt'
      subst ha'
      rw [List.drop_eq_getElem_cons hlt, List.drop_eq_getElem_cons hlt', List.cons.injEq] at hd
      have H := Lib.hid hd; clear hd hlen
      by_cases he : l[k] = m[k]
      · have hdec : decide (l[k] = m[k]) = true := by simp [he]
        have HE := Lib.hid he; clear he
        go_wp2
        (refine wp_region_ext (by kernel_rfl) (by kernel_rfl) ?_; (repeat (go_big_quiet_step (fail))); refine wpQuiet_nil ?_; intro w1 hw'; have hb := ext_below hw'; clear hw'; have ha := below_rule hb; have hs := hb.size; (try simp only [World.size_alloc, World.size_setCell, size_put, World.size_drew] at hs))
        go_wp2
        go_roundw
        case rel => exact ⟨k + 1, by omega, by go_num, by rw [H.out]; simp [HE.out], by (repeat' (first | exact Below.refl _ _ | assumption | refine below_drew ?_ | refine below_drewN ?_ _ | refine below_alloc ?_ _ | refine below_call ?_ (by assumption) | refine below_put ?_ _ _ _ (by first | omega | (simp; omega)) | refine below_setCell ?_ _ _ (by first | (simp; omega) | (simp; done) | omega) | refine below_putObj ?_ _ _ (by first | omega | (simp; omega) | (simp; done))))⟩
        case measure => simp [intOf]; omega
      · have hdec : decide (l[k] = m[k]) = false := by simp [he]
        go_wp2
        (refine wp_region_ext (by kernel_rfl) (by kernel_rfl) ?_; (repeat (go_big_quiet_step (fail))); refine wpQuiet_nil ?_; intro w1 hw'; have hb := ext_below hw'; clear hw'; have ha := below_rule hb; have hs := hb.size; (try simp only [World.size_alloc, World.size_setCell, size_put, World.size_drew] at hs))
        go_wp2
        go_ret
        exact ⟨ret_bool (by rw [eq_comm, decide_eq_false_iff_not, H.out]; exact fun e => he e.1), by (repeat' (first | exact Below.refl _ _ | assumption | refine below_drew ?_ | refine below_drewN ?_ _ | refine below_alloc ?_ _ | refine below_call ?_ (by assumption) | refine below_put ?_ _ _ _ (by first | omega | (simp; omega)) | refine below_setCell ?_ _ _ (by first | (simp; omega) | (simp; done) | omega) | refine below_putObj ?_ _ _ (by first | omega | (simp; omega) | (simp; done))))⟩
    · have hkl : k = l.length := by omega
      subst hkl
      rw [List.drop_length, hlen, List.drop_length] at hd
      have H := Lib.hid hd; clear hd
      go_wp2
      go_ret
      exact ⟨ret_bool (by simp [H.out]), by (repeat' (first | exact Below.refl _ _ | assumption | refine below_drew ?_ | refine below_drewN ?_ _ | refine below_alloc ?_ _ | refine below_call ?_ (by assumption) | refine below_put ?_ _ _ _ (by first | omega | (simp; omega)) | refine below_setCell ?_ _ _ (by first | (simp; omega) | (simp; done) | omega) | refine below_putObj ?_ _ _ (by first | omega | (simp; omega) | (simp; done))))⟩
end Go.Proofs.Ytgnebofjfmbccaa
