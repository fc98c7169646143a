/-
  pack.Value: the number that bytes are.
-/
import Derived.Test.YtgnebofjfmbccaaPo
set_option linter.all false
namespace Go.Proofs.Ytgnebofjfmbccaa
open Go.RowKit
@[go_sem] theorem strOf_toList (l : List UInt8) : (strOf l).toList = l := ByteArray.toList_mk l
@[go_sem] theorem strOf_get (l : List UInt8) (i : Nat) (h : i < (strOf l).size) : (strOf l)[i]'h = l[i]'(by rwa [strOf_size] at h) := rfl
def bCap (w : World) (n : Nat) : Nat := grownCap w n 0 5
/-- What '[]byte(s)' lays. -/
def bRow (w : World) (l : List UInt8) : List Value := bcells l ++ List.replicate (bCap w l.length - l.length) (.int .u8 0)
def bObj (w : World) (l : List UInt8) : Obj := .cells (bRow w l).toArray 5 ((bRow w l).length, (bRow w l).length + 1)
def toBytes (v : Value) : Sem Value := convert 9 47 v
@[go_sem ↓] theorem convert_bytes (v : Value) : convert 9 47 v = toBytes v := rfl
@[go_sem] theorem run_toBytes (w : World) (l : List UInt8) : (toBytes (.string (strOf l))).run Try.prog w = .ok (.slice (some ⟨w.heap.size, 0, none⟩) l.length (bCap w l.length)) (w.drew.alloc (bObj w l)) := by
  unfold toBytes
  rw [run_bytes_of_string w 9 47 5 (strOf l) Try.underlying9 Try.underlying47 Try.underlying5, strOf_size]
  have e : bytesRow (strOf l) (grownCap w l.length 0 5) = (bRow w l).toArray := by
    unfold bytesRow bRow bcells bCap
    rw [strOf_size]
    simp [strOf]
  rw [e]
  simp [bObj, bCap]
theorem bObj_row (w : World) (l : List UInt8) : rowOf (some (bObj w l)) 0 l.length = some (bcells l) := by
  unfold bObj
  rw [rowOf_cells, ln_eq, if_pos (by simp [bRow, bcells_length])]
  simp [seg, bRow, List.take_append_of_le_length, bcells_length]
theorem bObj_cell (w : World) (l : List UInt8) (k : Nat) (hk : k < l.length) : cellOf (some (bObj w l)) k = some (.int .u8 l[k].toNat) := by
  have := rowOf_cell (bObj_row w l) k hk
  rw [Nat.zero_add] at this
  rw [this]
  simp [bcells, hk]
theorem valA_drop (l : List UInt8) (k : Nat) (hk : k < l.length) (n : Nat) : valA n (l.drop k) = if 18014398509481983 < n then (0, 11) else valA (n * 256 + l[k].toNat) (l.drop (k + 1)) := by
  rw [List.drop_eq_getElem_cons hk]; rfl
theorem shl_or (n : Nat) (x : UInt8) (h : n ≤ 18014398509481983) : bits .or .i64 ((n : Int) * 256) (wrap64 x.toNat) = ((n * 256 + x.toNat : Nat) : Int) := by
  have := x.toNat_lt
  rw [show wrap64 (x.toNat : Int) = x.toNat by unfold wrap64; omega, bits_join .i64 63 (by decide) wraps_i64 8 (n * 256) x.toNat (by omega) (by omega) (by omega) (by omega) (by omega) (by omega)]
  omega
set_option maxRecDepth 20000 in
set_option maxHeartbeats 2000000 in
theorem pack_Value (l : List UInt8) (w : World) (hl : l.length ≤ 1000000000) :
    Calls Try.prog 98 #[.string (strOf l)] w (Res2 (.int .i64 (valF l).1) (.int .i64 (valF l).2) w) := by
  have hsz : (strOf l).size = l.length := strOf_size l
  by_cases h8 : 8 < l.length
  · have hv : valF l = (0, 11) := by unfold valF; rw [if_pos (.inl h8)]
    rw [hv]
    have h8' : (8 : Int) < l.length := by omega
    go_enter Try.func98, Try.ntmps98
    go_wp2
    go_ret2
    exact ⟨rfl, by (repeat' (first | exact Below.refl _ _ | assumption | refine below_drew ?_ | refine below_drewN ?_ _ | refine below_alloc ?_ _ | refine below_call ?_ (by assumption) | refine below_put ?_ _ _ _ (by first | omega | (simp; omega)) | refine below_setCell ?_ _ _ (by first | (simp; omega) | (simp; done) | omega) | refine below_putObj ?_ _ _ (by first | omega | (simp; omega) | (simp; done))))⟩
  have h8' : ¬ (8 : Int) < l.length := by omega
  rcases (show l = [] ∨ (∃ r, l = 0 :: r) ∨ ∃ x r, l = x :: r ∧ x ≠ 0 by
    cases l with
    | nil => exact .inl rfl
    | cons x r =>
      by_cases hx : x = 0
      · subst hx; exact .inr (.inl ⟨r, rfl⟩)
      · exact .inr (.inr ⟨x, r, rfl, hx⟩)) with rfl | ⟨r, rfl⟩ | ⟨x, r, rfl, hx⟩
  · have hv : valF ([] : List UInt8) = (0, 0) := rfl
    rw [hv]
    go_enter Try.func98, Try.ntmps98
    go_wp2
    go_loopw [4, 21] (fun v i wr => v = .int .i64 0 ∧ i = .int .i64 0 ∧ Below w.heap.size w wr) (fun _ i _ => 0)
    case atStart => exact ⟨rfl, rfl, by (repeat' (first | exact Below.refl _ _ | assumption | refine below_drew ?_ | refine below_drewN ?_ _ | refine below_alloc ?_ _ | refine below_call ?_ (by assumption) | refine below_put ?_ _ _ _ (by first | omega | (simp; omega)) | refine below_setCell ?_ _ _ (by first | (simp; omega) | (simp; done) | omega) | refine below_putObj ?_ _ _ (by first | omega | (simp; omega) | (simp; done))))⟩
    case round =>
      obtain ⟨rfl, rfl, hb0⟩ := hrel
      go_wp2
      go_ret2
      exact ⟨rfl, by (repeat' (first | exact Below.refl _ _ | assumption | refine below_drew ?_ | refine below_drewN ?_ _ | refine below_alloc ?_ _ | refine below_call ?_ (by assumption) | refine below_put ?_ _ _ _ (by first | omega | (simp; omega)) | refine below_setCell ?_ _ _ (by first | (simp; omega) | (simp; done) | omega) | refine below_putObj ?_ _ _ (by first | omega | (simp; omega) | (simp; done))))⟩
  · have hv : valF (0 :: r) = (0, 11) := by unfold valF; rw [if_pos (.inr rfl)]
    rw [hv]
    go_enter Try.func98, Try.ntmps98
    go_wp2
    go_ret2
    exact ⟨rfl, by (repeat' (first | exact Below.refl _ _ | assumption | refine below_drew ?_ | refine below_drewN ?_ _ | refine below_alloc ?_ _ | refine below_call ?_ (by assumption) | refine below_put ?_ _ _ _ (by first | omega | (simp; omega)) | refine below_setCell ?_ _ _ (by first | (simp; omega) | (simp; done) | omega) | refine below_putObj ?_ _ _ (by first | omega | (simp; omega) | (simp; done))))⟩
  · have hv : valF (x :: r) = valA 0 (x :: r) := by
      unfold valF
      rw [if_neg]
      intro hh
      rcases hh with hh | hh
      · exact h8 hh
      · exact hx (by simpa using hh)
    have hx0 : ((x.toNat : Int) == 0) = false := by
      simp only [beq_eq_false_iff_ne, ne_eq]
      intro e
      exact hx (UInt8.toNat_inj.1 (by simpa using e))
    rw [hv]
    have hl8 : (x :: r).length ≤ 8 := by omega
    go_enter Try.func98, Try.ntmps98
    go_wp2
    generalize hW : World.drew (World.alloc w (bObj w (x :: r))) = W
    have hbW : Below w.heap.size w W := by rw [← hW]; (repeat' (first | exact Below.refl _ _ | assumption | refine below_drew ?_ | refine below_drewN ?_ _ | refine below_alloc ?_ _ | refine below_call ?_ (by assumption) | refine below_put ?_ _ _ _ (by first | omega | (simp; omega)) | refine below_setCell ?_ _ _ (by first | (simp; omega) | (simp; done) | omega) | refine below_putObj ?_ _ _ (by first | omega | (simp; omega) | (simp; done))))
    have rB : W.at_ w.heap.size = some (bObj w (x :: r)) := by rw [← hW]; (repeat' (first | assumption | exact at_alloc_new (by simp; done) | refine at_alloc_old ?_ _ | refine setCell_other (by omega) ?_ | rw [at_drew] | refine at_below (by assumption) ?_))
    clear hW
    have hcell := bObj_cell w (x :: r)
    rw [← rB] at hcell
    clear rB
    generalize bCap w _ = cap
    have hrl : r.length + 1 = (x :: r).length := rfl
    have hrl' : (r.length : Int) + 1 = (x :: r).length := rfl
    rw [hrl, hrl']
    clear hrl hrl' hv hx0
    generalize (x :: r) = l at *
    go_loopw [4, 21] (fun v i wr => ∃ (k n : Nat), v = .int .i64 n ∧ i = .int .i64 k ∧ k ≤ l.length ∧ n ≤ 4611686018427387903 ∧ valA 0 l = valA n (l.drop k) ∧ wr = W) (fun _ i _ => l.length - (intOf i).toNat)
    case atStart => exact ⟨0, 0, rfl, rfl, Nat.zero_le _, by omega, rfl, rfl⟩
    case round =>
      obtain ⟨k, n, rfl, rfl, hk, hn, hd, rfl⟩ := hrel
      by_cases hlt : k < l.length
      · have c0 := hcell k hlt
        rw [valA_drop l k hlt] at hd
        by_cases hbig : 18014398509481983 < n
        · rw [if_pos hbig] at hd
          have hbig' : (18014398509481983 : Int) < n := by omega
          have H := Lib.hid hd; clear hd
          go_wp2
          rw [H.out]
          go_ret2
          exact ⟨rfl, by (repeat' (first | exact Below.refl _ _ | assumption | refine below_drew ?_ | refine below_drewN ?_ _ | refine below_alloc ?_ _ | refine below_call ?_ (by assumption) | refine below_put ?_ _ _ _ (by first | omega | (simp; omega)) | refine below_setCell ?_ _ _ (by first | (simp; omega) | (simp; done) | omega) | refine below_putObj ?_ _ _ (by first | omega | (simp; omega) | (simp; done))))⟩
        · rw [if_neg hbig] at hd
          have hbig' : ¬ (18014398509481983 : Int) < n := by omega
          have H := Lib.hid hd; clear hd
          have hsh := shl_or n l[k] (by omega)
          go_wp2
          go_roundw
          case rel => exact ⟨k + 1, n * 256 + l[k].toNat, by first | rfl | go_num, by go_num, by omega, by have := l[k].toNat_lt; omega, H.out, trivial⟩
          case measure => simp [intOf]; omega
      · have hkl : k = l.length := by omega
        subst hkl
        rw [List.drop_length, valA] at hd
        have H := Lib.hid hd; clear hd
        go_wp2
        rw [H.out]
        go_ret2
        exact ⟨rfl, by (repeat' (first | exact Below.refl _ _ | assumption | refine below_drew ?_ | refine below_drewN ?_ _ | refine below_alloc ?_ _ | refine below_call ?_ (by assumption) | refine below_put ?_ _ _ _ (by first | omega | (simp; omega)) | refine below_setCell ?_ _ _ (by first | (simp; omega) | (simp; done) | omega) | refine below_putObj ?_ _ _ (by first | omega | (simp; omega) | (simp; done))))⟩
set_option maxRecDepth 20000 in
theorem entry_number (d : ByteArray) (w : World) (hl : d.size ≤ 1000000000) :
    Calls Try.prog 60 #[.string d] w (Res (.int .i64 (valF d.data.toList).1) w) := by
  have hv := fun w => pack_Value d.data.toList w (by rw [Array.length_toList]; exact hl)
  go_enter Try.func60, Try.ntmps60
  go_wp2_with ((go_at_call 98; refine (hv _).mono ?_; rintro e w1 ⟨rfl, hb⟩; have ha := below_rule hb; have hs := hb.size; (try simp only [World.size_alloc, World.size_setCell, size_put, World.size_drew] at hs)))
  go_ret
  exact ⟨rfl, by (repeat' (first | exact Below.refl _ _ | assumption | refine below_drew ?_ | refine below_drewN ?_ _ | refine below_alloc ?_ _ | refine below_call ?_ (by assumption) | refine below_put ?_ _ _ _ (by first | omega | (simp; omega)) | refine below_setCell ?_ _ _ (by first | (simp; omega) | (simp; done) | omega) | refine below_putObj ?_ _ _ (by first | omega | (simp; omega) | (simp; done))))⟩
end Go.Proofs.Ytgnebofjfmbccaa
