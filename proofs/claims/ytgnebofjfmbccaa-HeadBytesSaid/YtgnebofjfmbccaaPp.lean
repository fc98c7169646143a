/-
  pack.fields: bytes, gone through field by field.
-/
import Derived.Test.YtgnebofjfmbccaaPo
import Derived.Test.YtgnebofjfmbccaaU
set_option linter.all false
namespace Go.Proofs.Ytgnebofjfmbccaa
open Go.RowKit
attribute [local go_sem] Oper.semAt_some
def encY (x : Fld × Int) : Array Value := #[.agg (encFld x.1).toArray, .int .i64 x.2]
theorem pack_fields (a : Option Addr) (n cap : Nat) (w : World) :
    Calls Try.prog 113 #[.slice a n cap] w fun e w' =>
      e = .returned (.func (.func 118) #[] #[.pointer (some ⟨w.heap.size, 0, none⟩)]) ∧ w' = w.alloc (.cells #[.slice a n cap] 47) := by
  go_enter Try.func113, Try.ntmps113
  go_wp2
  go_ret
  exact ⟨rfl, rfl⟩
/-- What an iterator that keeps its state in the cell p, and reads what lies below B, asks of the loop's body. -/
def StaysP (B p : Nat) (A A' : World) : Prop := Moves (fun k => B ≤ k ∧ k ≠ p) A A'
def lenAt : Option Obj → Nat
  | some (.cells c _ _) => match c[0]? with | some (Value.slice _ n _) => n | _ => 0
  | _ => 0
/-- A part of bytes from the n-th on. -/
theorem BytesAt.from {w : World} {b o n cap : Nat} {m : List UInt8} (h : BytesAt w (some ⟨b, o, none⟩) m) (hn : n ≤ m.length) (hcap : m.length ≤ cap) :
    ∃ o', (if cap = n then (some ⟨b, o, none⟩ : Option Addr) else some ⟨b, o + n, none⟩) = some ⟨b, o', none⟩ ∧ BytesAt w (some ⟨b, o', none⟩) (m.drop n) := by
  by_cases hc : cap = n
  · refine ⟨o, by rw [if_pos hc], .inl ?_⟩
    rw [List.drop_eq_nil_iff]; omega
  · refine ⟨o + n, by rw [if_neg hc], ?_⟩
    rcases h with h | ⟨b', o', e, hb, h⟩
    · left; rw [h]; simp
    · cases e
      right
      refine ⟨b, o + n, rfl, hb, fun i x hx => ?_⟩
      rw [List.getElem?_drop] at hx
      have := h (n + i) x hx
      rw [show o + n + i * 1 = o + (n + i) * 1 by omega]
      exact this
set_option maxRecDepth 20000 in
set_option maxHeartbeats 2000000 in
theorem pack_fields1 (l : List UInt8) (a : Option Addr) (cap : Nat) (w0 w : World) (p : Nat) (h : BytesAt w0 a l) (hl : l.length ≤ 1000000000) (hcap : l.length ≤ cap) (hb0 : Below w0.heap.size w0 w) (hp0 : w0.heap.size ≤ p)
    (hp : w.at_ p = some (.cells #[.slice a l.length cap] 47)) :
    SeqM Try.prog 118 #[.pointer (some ⟨p, 0, none⟩)] encY (· = p) (StaysP w0.heap.size p) (yields l) w := by
  intro lp J Jx W hbW hJ hJx hY hJ0
  have hpw : p < w.heap.size := at_lt hp
  have hpW : W.at_ p = some (.cells #[.slice a l.length cap] 47) := at_below hbW hp
  refine callsIn_of_wp Try.func118 rfl trivial ?_ rfl; simp only [Try.ntmps118, List.size_toArray, List.length_cons, List.length_nil, Nat.reduceAdd, Nat.reduceSub, Array.replicate_succ, Array.replicate_zero, List.push_toArray, List.append_toArray, List.nil_append, List.cons_append]
  gi_wp2
  gi_loopw [] (fun wr => ∃ (m : List UInt8) (a' : Option Addr) (cap' : Nat) (pre : List (Fld × Int)), wr.at_ p = some (.cells #[.slice a' m.length cap'] 47) ∧ BytesAt w0 a' m ∧ m.length ≤ cap' ∧ m.length ≤ 1000000000 ∧ yields l = pre ++ yields m ∧ J pre wr ∧ Moves (fun k => w0.heap.size ≤ k) w wr) (fun wr => lenAt (wr.at_ p))
  case atStart => exact ⟨l, a, cap, [], hpW, h, hcap, hl, rfl, hJ0, Moves.of_below hbW⟩
  case round =>
    obtain ⟨m, a', cap', pre, hP, hm, hmc, hml, hd, hJr, hmv⟩ := hrel
    have hpr := at_lt hP
    have hb1 : Below w0.heap.size w0 wr := hmv.below hb0 (fun k hk => hk)
    by_cases hm0 : m = []
    · subst hm0
      rw [yields_nil, List.append_nil] at hd
      have H := Lib.hid hd; clear hd
      gi_wp2
      go_end0
      exact ⟨⟨_, rfl⟩, .inl (H.out ▸ hJr)⟩
    · have hpos : 0 < m.length := by cases m with | nil => exact absurd rfl hm0 | cons _ _ => simp
      have hpos' : (0 : Int) < m.length := by omega
      obtain ⟨b, o, rfl, hbl, hrow⟩ := BytesAt.row hm hpos
      have hGet := pack_Get m (some ⟨b, o, none⟩) cap' wr (SliceAt.below hm hb1) hml hmc
      by_cases he : (getF m).2.2 = 0
      · rw [yields_ok hm0 he] at hd
        have hn := getF_ok he
        obtain ⟨o', ho', hfrom⟩ := BytesAt.from hm hn.2 hmc
        rw [he] at hGet
        generalize (getF m).1 = f at *
        generalize (getF m).2.1 = n at *
        clear he
        have H := Lib.hid hd; clear hd hrow
        gi_wp2_with (refine ⟨trivial, ?_⟩; gi_at_call 119; refine (callsIn_wide.2 (hGet)).mono ?_; rintro e w1 ⟨rfl, hb⟩; have ha := below_rule hb; have hs := hb.size; (try simp only [World.size_alloc, World.size_setCell, size_put, World.size_drew] at hs))
        have mv1 : Moves (· = p) wr (w1.alloc (.cells (encFld f).toArray 96)) := (Moves.of_below hb).alloc _
        obtain ⟨fn, tmps, assign, body, hy, hR⟩ := hY pre (f, 0) _ (hJ _ _ _ hJr mv1) ⟨yields (m.drop n), by rw [H.out]; simp⟩
        simp only [encY] at hy
        rw [hy]
        gi_wp2
        refine hR.mono ?_
        rintro e W3 (⟨rfl, hJ3, hk3⟩ | ⟨rfl, hJx3⟩)
        · have hP3 : W3.at_ p = some (.cells #[.slice (some ⟨b, o, none⟩) m.length cap'] 47) := (hk3.block p (by simp; omega) (by simp)).trans (at_alloc_old (at_below hb hP) _)
          have hmv3 : Moves (fun k => w0.heap.size ≤ k) w W3 := (hmv.trans (mv1.mono (fun k hk => by omega))).trans (hk3.mono (fun k hk => hk.1))
          have hn1 : (n : Int) ≤ cap' := by omega
          gi_wp2
          refine ⟨⟨m.drop n, some ⟨b, o', none⟩, cap' - n, pre ++ [(f, 0)], by rw [List.length_drop]; exact setCell_same hP3, hfrom, by rw [List.length_drop]; omega, by rw [List.length_drop]; omega, by rw [H.out]; simp, hJ _ _ _ hJ3 (Moves.setCell (Moves.refl _ _) _ _ (.inl rfl)), Moves.setCell hmv3 _ _ (.inl hp0)⟩, by rw [setCell_same hP3, hP]; simp [lenAt]; omega⟩
        · gi_wp2
          refine bodyPost_ret (results_none rfl _ _ _) rfl ?_
          exact ⟨⟨_, rfl⟩, .inr ⟨_, ⟨yields (m.drop n), by rw [H.out]; simp⟩, hJx3⟩⟩
      · rw [yields_bad hm0 he] at hd
        generalize (getF m).1 = f at *
        generalize (getF m).2.1 = n at *
        generalize (getF m).2.2 = er at *
        have he' : (er != 0) = true := by simp [he]
        have H := Lib.hid hd; clear hd hrow
        gi_wp2_with (refine ⟨trivial, ?_⟩; gi_at_call 119; refine (callsIn_wide.2 (hGet)).mono ?_; rintro e w1 ⟨rfl, hb⟩; have ha := below_rule hb; have hs := hb.size; (try simp only [World.size_alloc, World.size_setCell, size_put, World.size_drew] at hs))
        have mv1 : Moves (· = p) wr (w1.alloc (.cells (encFld f).toArray 96)) := (Moves.of_below hb).alloc _
        obtain ⟨fn, tmps, assign, body, hy, hR⟩ := hY pre (f, er) _ (hJ _ _ _ hJr mv1) ⟨[], by rw [H.out]; simp⟩
        simp only [encY] at hy
        rw [hy]
        gi_wp2
        refine hR.mono ?_
        rintro e W3 (⟨rfl, hJ3, hk3⟩ | ⟨rfl, hJx3⟩)
        · gi_wp2
          refine bodyPost_ret (results_none rfl _ _ _) rfl ?_
          exact ⟨⟨_, rfl⟩, .inl (by rw [H.out]; exact hJ3)⟩
        · gi_wp2
          refine bodyPost_ret (results_none rfl _ _ _) rfl ?_
          exact ⟨⟨_, rfl⟩, .inr ⟨_, ⟨[], by rw [H.out]; simp⟩, hJx3⟩⟩
end Go.Proofs.Ytgnebofjfmbccaa
