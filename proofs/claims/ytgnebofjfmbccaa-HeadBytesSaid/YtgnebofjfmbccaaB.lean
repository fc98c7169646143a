/-
  A log's checks: slices of structs, read in loops.
-/
import Derived.Test.YtgnebofjfmbccaaA
set_option linter.all false
namespace Go.Proofs.Ytgnebofjfmbccaa
open Go.RowKit
/-- The elements l lie one behind the other from a on, each of n cells. -/
def SliceAt {α : Type} (enc : α → List Value) (n : Nat) (w : World) (a : Option Addr) (l : List α) : Prop :=
  l = [] ∨ ∃ b off, a = some ⟨b, off, none⟩ ∧ b < w.heap.size ∧ ∀ i x, l[i]? = some x → rowOf (w.at_ b) (off + i * n) n = some (enc x)
theorem SliceAt.below {α : Type} {enc : α → List Value} {n : Nat} {w w' : World} {a : Option Addr} {l : List α} (h : SliceAt enc n w a l) (hb : Below w.heap.size w w') : SliceAt enc n w' a l := by
  rcases h with h | ⟨b, off, rfl, hlt, h⟩
  · exact .inl h
  · refine .inr ⟨b, off, rfl, by have := hb.size; omega, fun i x hx => ?_⟩
    rw [below_rule hb b, if_pos hlt]; exact h i x hx
theorem SliceAt.get {α : Type} {enc : α → List Value} {n : Nat} {w : World} {a : Option Addr} {l : List α} (h : SliceAt enc n w a l) {k : Nat} (hk : k < l.length) : ∃ b off, a = some ⟨b, off, none⟩ ∧ b < w.heap.size ∧ rowOf (w.at_ b) (off + k * n) n = some (enc l[k]) := by
  rcases h with rfl | ⟨b, off, rfl, hlt, h⟩
  · simp at hk
  · exact ⟨b, off, rfl, hlt, h k _ (List.getElem?_eq_getElem hk)⟩

theorem rowOf_sub {ob : Option Obj} {o n p m : Nat} {cs : List Value} (h : rowOf ob o n = some cs) (hp : p + m ≤ n) : rowOf ob (o + p) m = some (seg cs p m) := by
  cases ob with
  | none => cases h
  | some ob =>
    cases ob with
    | cells c t f =>
      simp only [rowOf] at h ⊢
      split at h
      · rename_i hh
        rw [if_pos (by omega)]
        simp only [Option.some.injEq] at h
        rw [sub_sub h rfl hp]
      · cases h
    | _ => cases h
theorem row_cell {w : World} {b o n : Nat} {cs : List Value} (h : rowOf (w.at_ b) o n = some cs) (j : Nat) (hj : j < n) {v : Value} (hv : cs[j]? = some v) : cellOf (w.at_ b) (o + j) = some v := by
  rw [rowOf_cell h j hj, hv]
/-- The first cells of an item, in the forms in which a walk reckons their places. -/
theorem item_cells {w : World} {b o : Nat} {x : Item} (h : rowOf (w.at_ b) o 110 = some (encItem x)) :
    cellOf (w.at_ b) (o) = some (.int .i64 x.epoch) ∧ cellOf (w.at_ b) (o + 1) = some (.int .i64 x.entry.kind) ∧ cellOf (w.at_ b) (o + 1 + 1) = some (.int .i64 x.entry.client) ∧ cellOf (w.at_ b) (o + 1 + 2) = some (.int .i64 x.entry.seq) ∧ cellOf (w.at_ b) (o + 1 + 3) = some (.string x.entry.text) ∧
    rowOf (w.at_ b) (o + 1) 109 = some (encEntry x.entry) ∧ rowOf (w.at_ b) (o + 1 + 4) 69 = some (encSigned x.entry.head) :=
  ⟨row_cell h 0 (by omega) (encItem_epoch _), row_cell h 1 (by omega) (encItem_entry_kind _), row_cell h 2 (by omega) (encItem_entry_client _), row_cell h 3 (by omega) (encItem_entry_seq _), row_cell h 4 (by omega) (encItem_entry_text _),
   by rw [rowOf_sub h (p := 1) (m := 109) (by omega), encItem_entry], by rw [rowOf_sub h (p := 5) (m := 69) (by omega), encItem_entry_head]⟩
set_option maxHeartbeats 400000 in
theorem history_within (n lo hi : Int) (w : World) :
    Calls Try.prog 86 #[.int .i64 n, .int .i64 lo, .int .i64 hi] w fun e w' => e = .returned (.bool (inR n lo hi)) ∧ w = w' := by
  by_cases h : lo ≤ n <;> by_cases h2 : n ≤ hi
  all_goals
    go_enter Try.func86, Try.ntmps86
    go_wp2
    go_ret
    exact ⟨by simp [inR, h, h2], rfl⟩
set_option maxHeartbeats 400000 in
theorem history_right (x : Item) (w : World) :
    Calls Try.prog 46 #[.agg (encItem x).toArray] w (Res (.bool x.ok) w) := by
  have hq := tell_eq
  go_enter Try.func46, Try.ntmps46
  go_wp2_with (first | (go_at_call 86; refine (history_within _ _ _ _).mono ?_; rintro e w' ⟨rfl, rfl⟩) | (go_at_call 87; refine (entry_Check _ _).mono ?_; rintro e w1 ⟨rfl, hb⟩; have ha := below_rule hb; have hs := hb.size; (try simp only [World.size_alloc, World.size_setCell, size_put, World.size_drew] at hs)))
  all_goals
    go_ret
    exact ⟨by simp [Item.ok, *], by (repeat' (first | exact Below.refl _ _ | assumption | refine below_drew ?_ | refine below_drewN ?_ _ | refine below_alloc ?_ _ | refine below_call ?_ (by assumption) | refine below_put ?_ _ _ _ (by first | omega | (simp; omega)) | refine below_setCell ?_ _ _ (by first | (simp; omega) | (simp; done) | omega) | refine below_putObj ?_ _ _ (by first | omega | (simp; omega) | (simp; done))))⟩

def okFrom : Int → List Item → Bool
  | _, [] => true
  | e, x :: r => x.ok && decide (e ≤ x.epoch) && okFrom x.epoch r
def logOk (l : List Item) : Bool := okFrom 0 l && decide (l.length ≤ 2000)
def logErr (l : List Item) : Int := if logOk l then 0 else 100
theorem okFrom_drop (l : List Item) (k : Nat) (hk : k < l.length) (e : Int) : okFrom e (l.drop k) = (l[k].ok && decide (e ≤ l[k].epoch) && okFrom l[k].epoch (l.drop (k + 1))) := by
  rw [List.drop_eq_getElem_cons hk]; rfl
theorem ret_int {k : IntKind} {a b : Int} (h : a = b) : Ending.returned (.int k a) = .returned (.int k b) := by rw [h]
theorem ret_bool {a b : Bool} (h : a = b) : Ending.returned (.bool a) = .returned (.bool b) := by rw [h]
set_option maxHeartbeats 1000000 in
theorem history_Check (l : List Item) (a : Option Addr) (cap : Nat) (w : World) (h : SliceAt encItem 110 w a l) (hl : l.length ≤ 1000000) :
    Calls Try.prog 14 #[.slice a l.length cap] w (Res (.int .i64 (logErr l)) w) := by
  go_enter Try.func14, Try.ntmps14
  go_wp2
  go_loopw [3, 8] (fun ep i wr => ∃ (k : Nat) (e : Int), k ≤ l.length ∧ i = .int .i64 k ∧ ep = .int .i64 e ∧ okFrom 0 l = okFrom e (l.drop k) ∧ Below w.heap.size w wr) (fun _ i _ => l.length - (intOf i).toNat)
  case atStart => exact ⟨0, 0, Nat.zero_le _, rfl, rfl, rfl, Below.refl _ _⟩
  case round =>
    obtain ⟨k, e, hk, rfl, rfl, hd, hb0⟩ := hrel
    by_cases hlt : k < l.length
    · obtain ⟨b, off, rfl, hbl, hrow⟩ := (h.below hb0).get hlt
      go_wp2_with (first | (go_at_call 46; refine (history_right _ _).mono ?_; rintro e w1 ⟨rfl, hb⟩; have ha := below_rule hb; have hs := hb.size; (try simp only [World.size_alloc, World.size_setCell, size_put, World.size_drew] at hs)))
      all_goals
        rw [okFrom_drop l k hlt] at hd
        first
          | (go_round
             case rel => exact ⟨k + 1, _, by omega, by go_num, rfl, by simp [hd, *], by (repeat' (first | exact Below.refl _ _ | assumption | refine below_drew ?_ | refine below_drewN ?_ _ | refine below_alloc ?_ _ | refine below_call ?_ (by assumption) | refine below_put ?_ _ _ _ (by first | omega | (simp; omega)) | refine below_setCell ?_ _ _ (by first | (simp; omega) | (simp; done) | omega) | refine below_putObj ?_ _ _ (by first | omega | (simp; omega) | (simp; done))))⟩
             case measure => simp [intOf]; omega)
          | (go_ret
             exact ⟨ret_int (by first | (have hn : ¬ e ≤ l[k].epoch := by omega); simp [logErr, logOk, hd, hn] | simp [logErr, logOk, hd, *]), by (repeat' (first | exact Below.refl _ _ | assumption | refine below_drew ?_ | refine below_drewN ?_ _ | refine below_alloc ?_ _ | refine below_call ?_ (by assumption) | refine below_put ?_ _ _ _ (by first | omega | (simp; omega)) | refine below_setCell ?_ _ _ (by first | (simp; omega) | (simp; done) | omega) | refine below_putObj ?_ _ _ (by first | omega | (simp; omega) | (simp; done))))⟩)
    · have hkl : k = l.length := by omega
      subst hkl
      simp only [List.drop_length, okFrom] at hd
      go_wp2
      all_goals
        go_ret
        exact ⟨ret_int (by first | (have hn : ¬ l.length ≤ 2000 := by omega); simp [logErr, logOk, hd, hn]; done | (have hn : l.length ≤ 2000 := by omega); simp [logErr, logOk, hd, hn]), by (repeat' (first | exact Below.refl _ _ | assumption | refine below_drew ?_ | refine below_drewN ?_ _ | refine below_alloc ?_ _ | refine below_call ?_ (by assumption) | refine below_put ?_ _ _ _ (by first | omega | (simp; omega)) | refine below_setCell ?_ _ _ (by first | (simp; omega) | (simp; done) | omega) | refine below_putObj ?_ _ _ (by first | omega | (simp; omega) | (simp; done))))⟩
end Go.Proofs.Ytgnebofjfmbccaa
