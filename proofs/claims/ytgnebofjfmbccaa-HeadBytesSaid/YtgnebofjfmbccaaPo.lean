/-
  pack.Get: the field that bytes begin with.
-/
import Derived.Test.YtgnebofjfmbccaaPk
import Derived.Laws.BitsLemmas
set_option linter.all false
namespace Go.Proofs.Ytgnebofjfmbccaa
open Go.RowKit
theorem mapM_three {P : Program} {r s t : ResultVar} {u v x : Value} {tmps : Array Value} {w : World} (f : ResultVar → Sem Value) (hf : f r = resOf tmps r) (hf' : f s = resOf tmps s) (hf'' : f t = resOf tmps t) (hr : ResultIs P tmps w r u) (hs : ResultIs P tmps w s v) (ht : ResultIs P tmps w t x) : ([r, s, t].mapM f).run P w = .ok [u, v, x] w := by
  unfold ResultIs at hr hs ht
  simp [List.mapM_cons, hf, hf', hf'', hr, hs, ht]
theorem results_three {P : Program} {fn : Func} {r s t : ResultVar} {u v x : Value} {tmps : Array Value} {w : World} (h : fn.results = #[r, s, t]) (hr : ResultIs P tmps w r u) (hs : ResultIs P tmps w s v) (ht : ResultIs P tmps w t x) : (results fn tmps).run P w = .ok (.tuple #[u, v, x]) w := by
  unfold results
  rw [show fn.results = [r, s, t].toArray from h, List.mapM_toArray]
  simp only [Sem.run_bind, Sem.run_map]
  rw [mapM_three _ (by cases r <;> rfl) (by cases s <;> rfl) (by cases t <;> rfl) hr hs ht]
  simp
theorem wraps_i64 (n : Int) (h₀ : 0 ≤ n) (h₁ : n < 2 ^ 63) : IntKind.i64.wrap n = n := by rw [IntKind.wrap_i64]; omega
theorem len_bits (x1 x2 x3 : UInt8) : bits .or .i64 (bits .or .i64 (wrap64 (wrap64 x1.toNat * 65536)) (wrap64 (wrap64 x2.toNat * 256))) (wrap64 x3.toNat) = ((lenOf x1 x2 x3 : Nat) : Int) := by
  have h1 := x1.toNat_lt
  have h2 := x2.toNat_lt
  have h3 := x3.toNat_lt
  have w1 : wrap64 (x1.toNat : Int) = x1.toNat := by unfold wrap64; omega
  have w2 : wrap64 (x2.toNat : Int) = x2.toNat := by unfold wrap64; omega
  have w3 : wrap64 (x3.toNat : Int) = x3.toNat := by unfold wrap64; omega
  have w4 : wrap64 ((x1.toNat : Int) * 65536) = x1.toNat * 65536 := by unfold wrap64; omega
  have w5 : wrap64 ((x2.toNat : Int) * 256) = x2.toNat * 256 := by unfold wrap64; omega
  rw [w1, w2, w3, w4, w5, bits_join .i64 63 (by decide) wraps_i64 16 (x1.toNat * 65536) (x2.toNat * 256) (by omega) (by omega) (by omega) (by omega) (by omega) (by omega), bits_join .i64 63 (by decide) wraps_i64 8 (x1.toNat * 65536 + x2.toNat * 256) x3.toNat (by omega) (by omega) (by omega) (by omega) (by omega) (by omega)]
  unfold lenOf; omega
def Res3 (u v x : Value) (w : World) (e : Ending) (w' : World) : Prop := e = .returned (.tuple #[u, v, x]) ∧ Below w.heap.size w w'
set_option maxRecDepth 20000 in
set_option maxHeartbeats 2000000 in
theorem pack_Get (l : List UInt8) (a : Option Addr) (cap : Nat) (w : World) (h : BytesAt w a l) (hl : l.length ≤ 1000000000) (hcap : l.length ≤ cap) :
    Calls Try.prog 119 #[.slice a l.length cap] w (Res3 (.agg (encFld (getF l).1).toArray) (.int .i64 (getF l).2.1) (.int .i64 (getF l).2.2) w) := by
  by_cases h4 : l.length < 4
  · rw [getF_short h4]
    have h4' : (l.length : Int) < 4 := by omega
    go_enter Try.func119, Try.ntmps119
    go_wp2
    refine bodyPost_ret (results_three rfl (.agg 2 (g := w.heap.size) (by (repeat' (first | assumption | exact at_alloc_new (by simp; done) | refine at_alloc_old ?_ _ | refine setCell_other (by omega) ?_ | rw [at_drew] | refine at_below (by assumption) ?_))) rfl (by kernel_rfl) (encFld_length _)) .tmp .tmp) rfl ?_
    exact ⟨rfl, by (repeat' (first | exact Below.refl _ _ | assumption | refine below_drew ?_ | refine below_drewN ?_ _ | refine below_alloc ?_ _ | refine below_call ?_ (by assumption) | refine below_put ?_ _ _ _ (by first | omega | (simp; omega)) | refine below_setCell ?_ _ _ (by first | (simp; omega) | (simp; done) | omega) | refine below_putObj ?_ _ _ (by first | omega | (simp; omega) | (simp; done))))⟩
  · obtain ⟨b, o, rfl, hb, hrow⟩ := h.row (by omega)
    obtain ⟨x0, x1, x2, x3, r, he⟩ : ∃ x0 x1 x2 x3 r, l = x0 :: x1 :: x2 :: x3 :: r := by
      match l, h4 with
      | [], h4 => simp at h4
      | [_], h4 => simp at h4
      | [_, _], h4 => simp at h4
      | [_, _, _], h4 => simp at h4
      | x0 :: x1 :: x2 :: x3 :: r, _ => exact ⟨_, _, _, _, _, rfl⟩
    have c0 : cellOf (w.at_ b) o = some (.int .u8 x0.toNat) := row_cell hrow 0 (by omega) (by rw [he]; rfl)
    have c1 : cellOf (w.at_ b) (o + 1) = some (.int .u8 x1.toNat) := row_cell hrow 1 (by omega) (by rw [he]; rfl)
    have c2 : cellOf (w.at_ b) (o + 2) = some (.int .u8 x2.toNat) := row_cell hrow 2 (by omega) (by rw [he]; rfl)
    have c3 : cellOf (w.at_ b) (o + 3) = some (.int .u8 x3.toNat) := row_cell hrow 3 (by omega) (by rw [he]; rfl)
    have hlen : l.length = r.length + 4 := by rw [he]; rfl
    have H := Lib.hid he; clear he
    have h4' : ¬ (l.length : Int) < 4 := by omega
    go_enter Try.func119, Try.ntmps119
    go_wp2
    go_region
    rw [len_bits]
    clear c1 c2 c3
    have hN : lenOf x1 x2 x3 < 16777216 := by have := x1.toNat_lt; have := x2.toNat_lt; have := x3.toNat_lt; unfold lenOf; omega
    have hgF : getF l = if x0 = 0 ∨ 65536 < lenOf x1 x2 x3 then (Fld.zero, 0, 11) else if r.length < lenOf x1 x2 x3 then (Fld.zero, 0, 10) else (⟨x0.toNat, strOf (r.take (lenOf x1 x2 x3))⟩, 4 + lenOf x1 x2 x3, 0) := by rw [H.out]; rfl
    have hrow4 : rowOf (w.at_ b) (o + 4) (l.length - 4) = some (bcells r) := by
      rw [rowOf_sub hrow (p := 4) (m := l.length - 4) (by omega)]
      congr 1
      rw [H.out]
      simp only [seg, bcells, List.map_cons, List.drop_succ_cons, List.drop_zero]
      rw [List.take_of_length_le (by simp)]
    generalize lenOf x1 x2 x3 = n at *
    by_cases hx0 : x0 = 0
    · rw [if_pos (.inl hx0)] at hgF
      subst hx0
      go_wp2
      refine bodyPost_ret (results_three rfl (.agg 2 (g := w.heap.size) (by (repeat' (first | assumption | exact at_alloc_new (by simp; done) | refine at_alloc_old ?_ _ | refine setCell_other (by omega) ?_ | rw [at_drew] | refine at_below (by assumption) ?_))) rfl (by kernel_rfl) (encFld_length _)) .tmp .tmp) rfl ?_
      exact ⟨by first | rfl | (rw [hgF]; rfl), by (repeat' (first | exact Below.refl _ _ | assumption | refine below_drew ?_ | refine below_drewN ?_ _ | refine below_alloc ?_ _ | refine below_call ?_ (by assumption) | refine below_put ?_ _ _ _ (by first | omega | (simp; omega)) | refine below_setCell ?_ _ _ (by first | (simp; omega) | (simp; done) | omega) | refine below_putObj ?_ _ _ (by first | omega | (simp; omega) | (simp; done))))⟩
    have hx0' : ((x0.toNat : Int) == 0) = false := by
      simp only [beq_eq_false_iff_ne, ne_eq]
      intro e
      exact hx0 (UInt8.toNat_inj.1 (by simpa using e))
    by_cases hn1 : 65536 < n
    · rw [if_pos (.inr hn1)] at hgF
      have hn1' : (65536 : Int) < n := by omega
      go_wp2
      refine bodyPost_ret (results_three rfl (.agg 2 (g := w.heap.size) (by (repeat' (first | assumption | exact at_alloc_new (by simp; done) | refine at_alloc_old ?_ _ | refine setCell_other (by omega) ?_ | rw [at_drew] | refine at_below (by assumption) ?_))) rfl (by kernel_rfl) (encFld_length _)) .tmp .tmp) rfl ?_
      exact ⟨by first | rfl | (rw [hgF]; rfl), by (repeat' (first | exact Below.refl _ _ | assumption | refine below_drew ?_ | refine below_drewN ?_ _ | refine below_alloc ?_ _ | refine below_call ?_ (by assumption) | refine below_put ?_ _ _ _ (by first | omega | (simp; omega)) | refine below_setCell ?_ _ _ (by first | (simp; omega) | (simp; done) | omega) | refine below_putObj ?_ _ _ (by first | omega | (simp; omega) | (simp; done))))⟩
    rw [if_neg (by intro hh; rcases hh with hh | hh; · exact hx0 hh
                   · exact hn1 hh)] at hgF
    by_cases hn2 : r.length < n
    · rw [if_pos hn2] at hgF
      have hn1' : ¬ (65536 : Int) < n := by omega
      go_wp2
      refine bodyPost_ret (results_three rfl (.agg 2 (g := w.heap.size) (by (repeat' (first | assumption | exact at_alloc_new (by simp; done) | refine at_alloc_old ?_ _ | refine setCell_other (by omega) ?_ | rw [at_drew] | refine at_below (by assumption) ?_))) rfl (by kernel_rfl) (encFld_length _)) .tmp .tmp) rfl ?_
      exact ⟨by first | rfl | (rw [hgF]; rfl), by (repeat' (first | exact Below.refl _ _ | assumption | refine below_drew ?_ | refine below_drewN ?_ _ | refine below_alloc ?_ _ | refine below_call ?_ (by assumption) | refine below_put ?_ _ _ _ (by first | omega | (simp; omega)) | refine below_setCell ?_ _ _ (by first | (simp; omega) | (simp; done) | omega) | refine below_putObj ?_ _ _ (by first | omega | (simp; omega) | (simp; done))))⟩
    rw [if_neg hn2] at hgF
    have hn1' : ¬ (65536 : Int) < n := by omega
    obtain ⟨o', ho', hrow'⟩ : ∃ o', (if cap = 4 then (some ⟨b, o, none⟩ : Option Addr) else some ⟨b, o + 4, none⟩) = some ⟨b, o', none⟩ ∧ rowOf (w.at_ b) o' (4 + n - 4) = some (bcells (r.take n)) := by
      have e : 4 + n - 4 = n := by omega
      rw [e]
      by_cases hc : cap = 4
      · have hn : n = 0 := by omega
        subst hn
        refine ⟨o, by rw [if_pos hc], ?_⟩
        have := rowOf_sub hrow (p := 0) (m := 0) (by omega)
        rw [Nat.add_zero] at this
        rw [this]; rfl
      · refine ⟨o + 4, by rw [if_neg hc], ?_⟩
        have := rowOf_sub hrow4 (p := 0) (m := n) (by omega)
        rw [Nat.add_zero] at this
        rw [this]
        simp [seg, bcells, List.map_take]
    clear hrow hrow4
    have hrow'' := hrow'
    rw [show 4 + n - 4 = n by omega] at hrow''
    have hbn : ¬ b = w.heap.size := by omega
    have wx : wrap64 (x0.toNat : Int) = x0.toNat := by have := x0.toNat_lt; unfold wrap64; omega
    go_wp2
    go_region
    go_wp2
    refine bodyPost_ret (results_three rfl (.agg 2 (g := w.heap.size) (by (repeat' (first | assumption | exact at_alloc_new (by simp; done) | refine at_alloc_old ?_ _ | refine setCell_other (by omega) ?_ | rw [at_drew] | refine at_below (by assumption) ?_))) rfl (by kernel_rfl) (encFld_length _)) .tmp .tmp) rfl ?_
    exact ⟨by first | rfl | (rw [hgF]; rfl), by (repeat' (first | exact Below.refl _ _ | assumption | refine below_drew ?_ | refine below_drewN ?_ _ | refine below_alloc ?_ _ | refine below_call ?_ (by assumption) | refine below_put ?_ _ _ _ (by first | omega | (simp; omega)) | refine below_setCell ?_ _ _ (by first | (simp; omega) | (simp; done) | omega) | refine below_putObj ?_ _ _ (by first | omega | (simp; omega) | (simp; done))))⟩
end Go.Proofs.Ytgnebofjfmbccaa
