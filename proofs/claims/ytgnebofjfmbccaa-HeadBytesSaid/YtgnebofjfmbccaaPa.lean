/-
  Numbers as bytes.
-/
import Derived.Test.YtgnebofjfmbccaaP
set_option linter.all false
namespace Go.Proofs.Ytgnebofjfmbccaa
open Go.RowKit
def numOk (n : Int) : Bool := decide (0 ≤ n) && decide (n ≤ 4611686018427387903)
def numErr (n : Int) : Int := if numOk n then 0 else 1
def numB (n : Int) : List UInt8 := if numOk n then numL n.toNat else []
set_option maxRecDepth 20000 in
set_option maxHeartbeats 1000000 in
theorem ref01_Number (n : Int) (w : World) :
    Calls Try.prog 112 #[.int .i64 n] w (Res2 (.string (strOf (numB n))) (.int .i64 (numErr n)) w) := by
  by_cases h0 : 0 ≤ n
  case neg =>
    have ho : numOk n = false := by simp [numOk]; omega
    rw [show numB n = [] by simp [numB, ho], show numErr n = 1 by simp [numErr, ho]]
    go_enter Try.func112, Try.ntmps112
    go_wp2
    go_ret2
    exact ⟨rfl, by (repeat' (first | exact Below.refl _ _ | assumption | refine below_drew ?_ | refine below_drewN ?_ _ | refine below_alloc ?_ _ | refine below_call ?_ (by assumption) | refine below_put ?_ _ _ _ (by first | omega | (simp; omega)) | refine below_setCell ?_ _ _ (by first | (simp; omega) | (simp; done) | omega) | refine below_putObj ?_ _ _ (by first | omega | (simp; omega) | (simp; done))))⟩
  by_cases h1 : n ≤ 4611686018427387903
  case neg =>
    have ho : numOk n = false := by simp [numOk]; omega
    rw [show numB n = [] by simp [numB, ho], show numErr n = 1 by simp [numErr, ho]]
    go_enter Try.func112, Try.ntmps112
    go_wp2
    go_ret2
    exact ⟨rfl, by (repeat' (first | exact Below.refl _ _ | assumption | refine below_drew ?_ | refine below_drewN ?_ _ | refine below_alloc ?_ _ | refine below_call ?_ (by assumption) | refine below_put ?_ _ _ _ (by first | omega | (simp; omega)) | refine below_setCell ?_ _ _ (by first | (simp; omega) | (simp; done) | omega) | refine below_putObj ?_ _ _ (by first | omega | (simp; omega) | (simp; done))))⟩
  have ho : numOk n = true := by simp [numOk]; omega
  rw [show numB n = numL n.toNat by simp [numB, ho], show numErr n = 0 by simp [numErr, ho]]
  clear ho
  go_enter Try.func112, Try.ntmps112
  go_wp2
  go_loopw [0, 4] (fun v s wr => ∃ (m : Nat) (suf : List UInt8), v = .int .i64 m ∧ s = .string (strOf suf) ∧ numL n.toNat = numL m ++ suf ∧ (m : Int) ≤ 4611686018427387903 ∧ Below w.heap.size w wr) (fun v _ _ => (intOf v).toNat)
  case atStart => exact ⟨n.toNat, [], by congr 1; omega, rfl, by simp, by omega, Below.refl _ _⟩
  case round =>
    obtain ⟨m, suf, rfl, rfl, hd, hm, hb0⟩ := hrel
    have H := Lib.hid hd; clear hd
    by_cases hpos : 0 < m
    · have hbo : ([.int .u8 ((m : Int) % 256)] : List Value).all byteOk = true := by simp [byteOk_mod]
      have hby := bytes_one m
      have hsz : ¬ 9223372036854775807 < (strOf [UInt8.ofNat (m % 256)]).size + (strOf suf).size := by
        have h8 := numL_len8 h0 h1
        rw [H.out, List.length_append] at h8
        rw [strOf_size, strOf_size]; simp; omega
      go_wp2
      refine ⟨⟨m / 256, UInt8.ofNat (m % 256) :: suf, by congr 1, by rw [strOf_append]; rfl, ?_, by omega, by (repeat' (first | exact Below.refl _ _ | assumption | refine below_drew ?_ | refine below_drewN ?_ _ | refine below_alloc ?_ _ | refine below_call ?_ (by assumption) | refine below_put ?_ _ _ _ (by first | omega | (simp; omega)) | refine below_setCell ?_ _ _ (by first | (simp; omega) | (simp; done) | omega) | refine below_putObj ?_ _ _ (by first | omega | (simp; omega) | (simp; done))))⟩, by simp [intOf]; omega⟩
      rw [H.out, numL_pos hpos, List.append_assoc]; rfl
    · have hm0 : m = 0 := by omega
      subst hm0
      go_wp2
      go_ret2
      exact ⟨ret_two (by rw [H.out, numL_zero]; rfl) rfl, by (repeat' (first | exact Below.refl _ _ | assumption | refine below_drew ?_ | refine below_drewN ?_ _ | refine below_alloc ?_ _ | refine below_call ?_ (by assumption) | refine below_put ?_ _ _ _ (by first | omega | (simp; omega)) | refine below_setCell ?_ _ _ (by first | (simp; omega) | (simp; done) | omega) | refine below_putObj ?_ _ _ (by first | omega | (simp; omega) | (simp; done))))⟩
def tailB (suf : List UInt8) : List UInt8 := List.replicate (8 - suf.length) 0 ++ suf
theorem tailB_length {suf : List UInt8} (h : suf.length ≤ 8) : (tailB suf).length = 8 := by simp [tailB]; omega
theorem tailB_set {suf : List UInt8} (h : suf.length < 8) (b : UInt8) : (bcells (tailB suf)).set (7 - suf.length) (.int .u8 b.toNat) = bcells (tailB (b :: suf)) := by
  have e : List.replicate (8 - suf.length) (0 : UInt8) = List.replicate (7 - suf.length) 0 ++ [0] := by
    rw [show 8 - suf.length = (7 - suf.length) + 1 by omega, List.replicate_succ']
  unfold bcells tailB
  rw [e, List.length_cons, show 8 - (suf.length + 1) = 7 - suf.length by omega]
  simp only [List.map_append, List.map_cons, List.map_nil, List.append_assoc, List.cons_append, List.nil_append]
  rw [List.set_append_right _ _ (by simp)]
  simp
theorem tailB_seg {suf : List UInt8} (h : suf.length ≤ 8) : seg (bcells (tailB suf)) (8 - suf.length) suf.length = bcells suf := by
  unfold seg bcells tailB
  rw [List.map_append, List.drop_left' (by simp), List.take_of_length_le (by simp)]
set_option maxRecDepth 20000 in
set_option maxHeartbeats 1000000 in
theorem pack_Number (n : Int) (w : World) :
    Calls Try.prog 91 #[.int .i64 n] w (Res2 (.string (strOf (numB n))) (.int .i64 (numErr n)) w) := by
  by_cases h0 : 0 ≤ n
  case neg =>
    have ho : numOk n = false := by simp [numOk]; omega
    rw [show numB n = [] by simp [numB, ho], show numErr n = 1 by simp [numErr, ho]]
    go_enter Try.func91, Try.ntmps91
    go_wp2
    go_ret2
    exact ⟨rfl, by (repeat' (first | exact Below.refl _ _ | assumption | refine below_drew ?_ | refine below_drewN ?_ _ | refine below_alloc ?_ _ | refine below_call ?_ (by assumption) | refine below_put ?_ _ _ _ (by first | omega | (simp; omega)) | refine below_setCell ?_ _ _ (by first | (simp; omega) | (simp; done) | omega) | refine below_putObj ?_ _ _ (by first | omega | (simp; omega) | (simp; done))))⟩
  by_cases h1 : n ≤ 4611686018427387903
  case neg =>
    have ho : numOk n = false := by simp [numOk]; omega
    rw [show numB n = [] by simp [numB, ho], show numErr n = 1 by simp [numErr, ho]]
    go_enter Try.func91, Try.ntmps91
    go_wp2
    go_ret2
    exact ⟨rfl, by (repeat' (first | exact Below.refl _ _ | assumption | refine below_drew ?_ | refine below_drewN ?_ _ | refine below_alloc ?_ _ | refine below_call ?_ (by assumption) | refine below_put ?_ _ _ _ (by first | omega | (simp; omega)) | refine below_setCell ?_ _ _ (by first | (simp; omega) | (simp; done) | omega) | refine below_putObj ?_ _ _ (by first | omega | (simp; omega) | (simp; done))))⟩
  have ho : numOk n = true := by simp [numOk]; omega
  rw [show numB n = numL n.toNat by simp [numB, ho], show numErr n = 0 by simp [numErr, ho]]
  clear ho
  go_enter Try.func91, Try.ntmps91
  go_wp2
  go_loopw [0, 5] (fun v s wr => ∃ (m : Nat) (suf : List UInt8), v = .int .i64 m ∧ suf.length ≤ 8 ∧ s = .int .i64 (8 - suf.length : Int) ∧ numL n.toNat = numL m ++ suf ∧ (m : Int) ≤ 4611686018427387903 ∧ wr.at_ w.heap.size = some (.cells (bcells (tailB suf)).toArray 147) ∧ Below w.heap.size w wr) (fun v _ _ => (intOf v).toNat)
  case atStart => exact ⟨n.toNat, [], by congr 1; omega, by simp, rfl, by simp, by omega, by rw [at_alloc, if_pos rfl]; rfl, by (repeat' (first | exact Below.refl _ _ | assumption | refine below_drew ?_ | refine below_drewN ?_ _ | refine below_alloc ?_ _ | refine below_call ?_ (by assumption) | refine below_put ?_ _ _ _ (by first | omega | (simp; omega)) | refine below_setCell ?_ _ _ (by first | (simp; omega) | (simp; done) | omega) | refine below_putObj ?_ _ _ (by first | omega | (simp; omega) | (simp; done))))⟩
  case round =>
    obtain ⟨m, suf, rfl, hsl, rfl, hd, hm, hB, hb0⟩ := hrel
    have H := Lib.hid hd; clear hd
    have hlt := at_lt hB
    by_cases hpos : 0 < m
    · have hs7 : suf.length < 8 := by
        have h8 := numL_len8 h0 h1
        rw [H.out, numL_pos hpos, List.length_append, List.length_append, List.length_singleton] at h8
        omega
      have hcell : (bcells (tailB suf))[8 - suf.length - 1]? = some (.int .u8 0) := by
        unfold bcells tailB
        rw [List.getElem?_map, List.getElem?_append_left (by simp; omega), List.getElem?_replicate, if_pos (by omega)]; rfl
      go_wp2
      refine ⟨⟨m / 256, UInt8.ofNat (m % 256) :: suf, by congr 1, by simp; omega, by congr 1; simp; omega, ?_, by omega, ?_, by (repeat' (first | exact Below.refl _ _ | assumption | refine below_drew ?_ | refine below_drewN ?_ _ | refine below_alloc ?_ _ | refine below_call ?_ (by assumption) | refine below_put ?_ _ _ _ (by first | omega | (simp; omega)) | refine below_setCell ?_ _ _ (by first | (simp; omega) | (simp; done) | omega) | refine below_putObj ?_ _ _ (by first | omega | (simp; omega) | (simp; done))))⟩, by simp [intOf]; omega⟩
      · rw [H.out, numL_pos hpos, List.append_assoc]; rfl
      · rw [at_setCell, if_pos rfl, hB, ← tailB_set hs7]
        show some (Obj.cells _ _ _) = _
        congr 2
        rw [show 8 - suf.length - 1 = 7 - suf.length by omega]
        simp
    · have hm0 : m = 0 := by omega
      subst hm0
      have hi1 : (0 : Int) ≤ 8 - (suf.length : Int) := by omega
      have hal : Try.prog.arrayLen 147 = 8 := by kernel_rfl
      have hel : Try.prog.elem 147 = 5 := by kernel_rfl
      have hi2 : (8 - (suf.length : Int)) ≤ Try.prog.arrayLen 147 := by rw [hal]; omega
      have hi3 : (8 - (suf.length : Int)).toNat = 8 - suf.length := by omega
      have hsz : (Try.prog.info? 5).map (·.size) = some 1 := by kernel_rfl
      have hsl2 : (Instr.sliceAt 147 (.pointer (some ⟨w.heap.size, 0, none⟩)) (some (.int .i64 (8 - (suf.length : Int)))) none none).run Try.prog wr = .ok (.slice (some ⟨w.heap.size, if suf.length = 0 then 0 else 8 - suf.length, none⟩) suf.length suf.length) wr := by
        rw [run_sliceAt_array_l (P := Try.prog) wr 147 ⟨w.heap.size, 0, none⟩ (by rw [hal, hel]; exact Try.underlying147) .i64 _ hi1 hi2, hel]
        cases hq : Try.prog.info? 5 with
        | none => rw [hq] at hsz; cases hsz
        | some i =>
          rw [hq] at hsz
          have h1 : i.size = 1 := by simpa using hsz
          have h2 : (sizeOf 5).run Try.prog wr = .ok 1 wr := by simp [sizeOf, typeInfo, hq, h1]
          rw [h2]
          simp only [Result.andThen_ok, hal, hi3, slicedAt]
          by_cases hs0 : suf.length = 0
          · rw [hs0]; rfl
          · rw [if_neg (by omega), if_neg hs0, Nat.mul_one]
            by_cases h8 : suf.length = 8
            · rw [h8]; rfl
            · rw [show (⟨w.heap.size, 0, none⟩ : Addr).add (8 - suf.length) = ⟨w.heap.size, 8 - suf.length, none⟩ by simp [Addr.add, show ¬ 8 - suf.length = 0 by omega], show 8 - (8 - suf.length) = suf.length by omega]
      have hrow : rowOf (wr.at_ w.heap.size) (if suf.length = 0 then 0 else 8 - suf.length) suf.length = some (bcells suf) := by
        rw [hB, rowOf_cells, ln_bcells, tailB_length hsl]
        by_cases hs0 : suf.length = 0
        · have : suf = [] := List.eq_nil_of_length_eq_zero hs0
          subst this; rfl
        · rw [if_neg hs0, if_pos (by omega), tailB_seg hsl]
      obtain ⟨o, ho⟩ : ∃ o, (if suf.length = 0 then 0 else 8 - suf.length) = o := ⟨_, rfl⟩
      rw [ho] at hsl2 hrow
      clear hB ho hi1 hi2 hi3 hal hel hsz
      go_wp2
      go_ret2
      exact ⟨ret_two (by rw [H.out, numL_zero]; rfl) rfl, by (repeat' (first | exact Below.refl _ _ | assumption | refine below_drew ?_ | refine below_drewN ?_ _ | refine below_alloc ?_ _ | refine below_call ?_ (by assumption) | refine below_put ?_ _ _ _ (by first | omega | (simp; omega)) | refine below_setCell ?_ _ _ (by first | (simp; omega) | (simp; done) | omega) | refine below_putObj ?_ _ _ (by first | omega | (simp; omega) | (simp; done))))⟩
end Go.Proofs.Ytgnebofjfmbccaa
