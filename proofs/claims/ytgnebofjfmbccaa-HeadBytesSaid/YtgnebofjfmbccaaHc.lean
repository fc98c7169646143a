/-
  A head's row of texts, read: the next text, number, digest.
-/
import Derived.Test.YtgnebofjfmbccaaHa
import Derived.Test.YtgnebofjfmbccaaR
import Derived.Test.YtgnebofjfmbccaaPr
import Derived.Test.YtgnebofjfmbccaaPt
set_option linter.all false
namespace Go.Proofs.Ytgnebofjfmbccaa
open Go.RowKit
attribute [local go_sem high] encDig_over
/-- The next text of a row: it, what is left, and whether all was there. -/
def nxt (ds : List (List UInt8)) (ok : Bool) : List UInt8 × List (List UInt8) × Bool := match ds with | [] => ([], [], false) | d :: r => (d, r, ok)
def nxtNum (ds : List (List UInt8)) (ok : Bool) : Int × List (List UInt8) × Bool := ((valF (nxt ds ok).1).1, (nxt ds ok).2.1, (nxt ds ok).2.2 && decide ((valF (nxt ds ok).1).2 = 0))
def nxtDig (ds : List (List UInt8)) (ok : Bool) : Dig × List (List UInt8) × Bool := (if (nxt ds ok).2.2 then overDig Dig.zero (nxt ds ok).1 else Dig.zero, (nxt ds ok).2.1, (nxt ds ok).2.2 && decide ((nxt ds ok).1.length = 32))
/-- A row of texts ds in the cell R, whose array lies at B or beyond, ahead of C; the cell K holds ok. -/
structure RowSt (w : World) (R K B C : Nat) (ds : List (List UInt8)) (ok : Bool) : Prop where
  r : ∃ a cap, w.at_ R = some (.cells #[.slice a ds.length cap] 100) ∧ SliceAt encS 1 w a ds ∧ ds.length ≤ cap ∧ ∀ b, a = some b → B ≤ b.block ∧ b.block ≠ R ∧ b.block < C
  k : w.at_ K = some (.cells #[.bool ok] 4)
  lt : K < B
  ge : B ≤ R
  rlt : R < C
theorem SliceAt.moves {α : Type} {enc : α → List Value} {n : Nat} {M : Nat → Prop} {w w' : World} {a : Option Addr} {l : List α} (h : SliceAt enc n w a l) (hm : Moves M w w') (hM : ∀ b, a = some b → ¬ M b.block) : SliceAt enc n w' a l := by
  rcases h with h | ⟨b, off, rfl, hlt, h⟩
  · exact .inl h
  · refine .inr ⟨b, off, rfl, Nat.lt_of_lt_of_le hlt hm.size, fun i x hx => ?_⟩
    have e : w'.at_ b = w.at_ b := hm.block b hlt (hM _ rfl)
    rw [e]; exact h i x hx
theorem put_other {w : World} {b k i : Nat} {m : List Value} {o : Option Obj} (hk : k ≠ b) (h : w.at_ k = o) : (w.put_ b i m).at_ k = o := by
  rw [at_put, if_neg hk, h]
theorem RowSt.moves {M : Nat → Prop} {w w' : World} {R K B C : Nat} {ds : List (List UInt8)} {ok : Bool} (h : RowSt w R K B C ds ok) (hm : Moves M w w') (hM : ∀ k, M k → (k < B ∨ C ≤ k) ∧ k ≠ K) : RowSt w' R K B C ds ok := by
  obtain ⟨a, cap, h1, h2, h3, h4⟩ := h.r
  exact ⟨⟨a, cap, hm.at h1 (fun e => by have := hM _ e; have := h.ge; have := h.rlt; omega), h2.moves hm (fun b e e' => by have := hM _ e'; have := h4 b e; omega), h3, h4⟩, hm.at h.k (fun e => (hM _ e).2 rfl), h.lt, h.ge, h.rlt⟩
theorem RowSt.setK {w : World} {R K B C : Nat} {ds : List (List UInt8)} {ok : Bool} (h : RowSt w R K B C ds ok) (k : Bool) : RowSt (w.setCell ⟨K, 0, none⟩ (.bool k)) R K B C ds k := by
  obtain ⟨a, cap, h1, h2, h3, h4⟩ := h.r
  have := h.lt
  have := h.ge
  exact ⟨⟨a, cap, setCell_other (by omega) h1, SliceAt.moves (M := (· = K)) h2 (Moves.setCell (Moves.refl _ w) _ _ (.inl rfl)) (fun b e => by have := h4 b e; omega), h3, h4⟩, setCell_same h.k, h.lt, h.ge, h.rlt⟩
/-- A text is handed back; the row and ok are these now. -/
def ResRow (v : Value) (R K B C : Nat) (ds : List (List UInt8)) (ok : Bool) (w : World) (e : Ending) (w' : World) : Prop := e = .returned v ∧ RowSt w' R K B C ds ok ∧ Moves (fun k => k = R ∨ k = K) w w'
theorem SliceAt.tail {w : World} {b o cap : Nat} {d : List UInt8} {r : List (List UInt8)} (h : SliceAt encS 1 w (some ⟨b, o, none⟩) (d :: r)) (hcap : (d :: r).length ≤ cap) :
    ∃ o', (if cap = 1 then (some ⟨b, o, none⟩ : Option Addr) else some ⟨b, o + 1, none⟩) = some ⟨b, o', none⟩ ∧ SliceAt encS 1 w (some ⟨b, o', none⟩) r := by
  simp only [List.length_cons] at hcap
  by_cases hc : cap = 1
  · refine ⟨o, by rw [if_pos hc], .inl ?_⟩
    exact List.eq_nil_of_length_eq_zero (by omega)
  · refine ⟨o + 1, by rw [if_neg hc], ?_⟩
    rcases h with h | ⟨b', o', e, hb, h⟩
    · cases h
    · cases e
      right
      refine ⟨b, o + 1, rfl, hb, fun i x hx => ?_⟩
      have := h (i + 1) x (by simpa using hx)
      rw [show o + 1 + i * 1 = o + (i + 1) * 1 by omega]
      exact this
set_option maxRecDepth 20000 in
set_option maxHeartbeats 2000000 in
theorem head_next (R K B C : Nat) (ds : List (List UInt8)) (ok : Bool) (w : World) (h : RowSt w R K B C ds ok) :
    Calls Try.prog 100 #[.pointer (some ⟨R, 0, none⟩), .pointer (some ⟨K, 0, none⟩)] w (ResRow (.string (strOf (nxt ds ok).1)) R K B C (nxt ds ok).2.1 (nxt ds ok).2.2 w) := by
  obtain ⟨⟨a, cap, hR, hsl, hcap, hblk⟩, hK, hlt, hge, hrl⟩ := h
  have hRl := at_lt hR
  have hKl := at_lt hK
  cases ds with
  | nil =>
    go_enter Try.func100, Try.ntmps100
    go_wp2
    go_ret
    exact ⟨rfl, ⟨⟨a, cap, setCell_other (by omega) hR, .inl rfl, hcap, hblk⟩, setCell_same hK, hlt, hge, hrl⟩, Moves.setCell (Moves.refl _ w) _ _ (.inl (.inr rfl))⟩
  | cons d r =>
    obtain ⟨b, o, rfl, hbl, hrow⟩ := hsl.get (k := 0) (by simp)
    have hb2 := hblk _ rfl
    have c0 : cellOf (w.at_ b) o = some (.string (strOf d)) := by have := rowOf_cell hrow 0 (by omega); simpa [encS] using this
    obtain ⟨o', ho', htail⟩ := SliceAt.tail hsl hcap
    have hcap1 : (1 : Int) ≤ cap := by simp only [List.length_cons] at hcap; omega
    go_enter Try.func100, Try.ntmps100
    go_wp2
    go_ret
    refine ⟨rfl, ⟨⟨some ⟨b, o', none⟩, cap - 1, setCell_same hR, ?_, by simp only [List.length_cons] at hcap; simp only [nxt]; omega, fun b' e => by cases e; exact hb2⟩, setCell_other (by omega) hK, hlt, hge, hrl⟩, Moves.setCell (Moves.refl _ w) _ _ (.inl (.inl rfl))⟩
    exact SliceAt.moves (M := (· = R)) htail (Moves.setCell (Moves.refl _ w) _ _ (.inl rfl)) (fun b' e => by cases e; exact hb2.2.1)
set_option maxRecDepth 20000 in
set_option maxHeartbeats 2000000 in
theorem head_number (R K B C : Nat) (ds : List (List UInt8)) (ok : Bool) (w : World) (h : RowSt w R K B C ds ok) (hd : ∀ d ∈ ds, d.length ≤ 1000000000) :
    Calls Try.prog 69 #[.pointer (some ⟨R, 0, none⟩), .pointer (some ⟨K, 0, none⟩)] w (ResRow (.int .i64 (nxtNum ds ok).1) R K B C (nxtNum ds ok).2.1 (nxtNum ds ok).2.2 w) := by
  have hl : (nxt ds ok).1.length ≤ 1000000000 := by
    cases ds with
    | nil => simp [nxt]
    | cons d r => exact hd d (by simp)
  have hnext := head_next R K B C ds ok w h
  unfold nxtNum
  generalize (nxt ds ok).1 = s at *
  generalize (nxt ds ok).2.1 = r at *
  generalize (nxt ds ok).2.2 = k at *
  rcases (show (valF s).2 = 0 ∧ decide ((valF s).2 = 0) = true ∨ ((valF s).2 == 0) = false ∧ decide ((valF s).2 = 0) = false by by_cases hv : (valF s).2 = 0 <;> simp [hv]) with ⟨hv, hv'⟩ | ⟨hv, hv'⟩
  all_goals
    rw [hv']
    cases k
    all_goals
      go_enter Try.func69, Try.ntmps69
      go_wp2_with (first | (go_at_call 100; refine hnext.mono ?_; rintro e w1 ⟨rfl, hst, hm1⟩; have hK1 := hst.k; have hKl := at_lt hK1) | (go_at_call 98; refine (pack_Value s _ hl).mono ?_; rintro e w2 ⟨rfl, hb⟩; have hK2 := at_below hb hK1; have hKl2 := at_lt hK2; have ha := below_rule hb; have hs := hb.size; (try simp only [World.size_alloc, World.size_setCell, size_put, World.size_drew] at hs)))
      go_ret
      have hst2 := RowSt.moves hst (Moves.of_below (M := fun _ => False) hb) (fun k hk => hk.elim)
      exact ⟨rfl, hst2.setK _, Moves.setCell (hm1.call hb) _ _ (.inl (.inr rfl))⟩
set_option maxRecDepth 20000 in
set_option maxHeartbeats 2000000 in
theorem head_digest (R K B C : Nat) (ds : List (List UInt8)) (ok : Bool) (w : World) (h : RowSt w R K B C ds ok) (hC : C ≤ w.heap.size) :
    Calls Try.prog 70 #[.pointer (some ⟨R, 0, none⟩), .pointer (some ⟨K, 0, none⟩)] w (ResRow (.agg (encDig (nxtDig ds ok).1).toArray) R K B C (nxtDig ds ok).2.1 (nxtDig ds ok).2.2 w) := by
  have hW : RowSt ((w.alloc (.cells (encDig Dig.zero).toArray 25)).alloc (.cells (encDig Dig.zero).toArray 25)) R K B C ds ok := RowSt.moves h (M := fun _ => False) (((Moves.refl _ w).alloc _).alloc _) (fun k hk => hk.elim)
  have hnext := head_next R K B C ds ok _ hW
  have hRl : R < w.heap.size := by obtain ⟨a, cap, g1, _⟩ := h.r; exact at_lt g1
  have hKl := at_lt h.k
  have hgt := h.lt
  have hge := h.ge
  unfold nxtDig
  generalize (nxt ds ok).1 = s at *
  generalize (nxt ds ok).2.1 = r at *
  generalize (nxt ds ok).2.2 = k at *
  have hsz : (strOf s).size = s.length := strOf_size s
  have r1 : ((w.alloc (.cells (encDig Dig.zero).toArray 25)).alloc (.cells (encDig Dig.zero).toArray 25)).at_ w.heap.size = some (.cells (encDig Dig.zero).toArray 25) := by simp only [at_alloc, World.size_alloc]; (repeat (first | rw [if_pos trivial] | rw [if_pos rfl] | rw [if_neg (by omega)]))
  have r2 : ((w.alloc (.cells (encDig Dig.zero).toArray 25)).alloc (.cells (encDig Dig.zero).toArray 25)).at_ (w.heap.size + 1) = some (.cells (encDig Dig.zero).toArray 25) := by simp only [at_alloc, World.size_alloc]; (repeat (first | rw [if_pos trivial] | rw [if_pos rfl] | rw [if_neg (by omega)]))
  cases k
  · rw [if_neg (by simp), Bool.false_and]
    go_enter Try.func70, Try.ntmps70
    go_wp2_with (go_at_call 100; refine hnext.mono ?_; rintro e w1 ⟨rfl, hst, hm1⟩; have hK1 := hst.k; have hKl1 := at_lt hK1; have q1 := hm1.at r1 (by omega); have q2 := hm1.at r2 (by omega); have hl2 := at_lt q2)
    have q3 := put_list (l := encDig Dig.zero) (k := 0) (m := encDig Dig.zero) (setCell_other (b := K) (v := .bool false) (by omega) q1)
    rw [splice_all _ _ (by simp only [ln_encDig])] at q3
    refine bodyPost_ret (results_one rfl (.agg 32 (g := w.heap.size) q3 rfl (by kernel_rfl) (encDig_length _))) rfl ?_
    refine ⟨rfl, (hst.setK false).moves (M := (· = w.heap.size)) (Moves.put_ (Moves.refl _ _) _ _ _ (.inl rfl)) (fun k hk => by omega), ?_⟩
    exact Moves.put_ (Moves.setCell ((((Moves.refl _ w).alloc _).alloc _).trans hm1) _ _ (.inl (.inr rfl))) _ _ _ (.inr (by omega))
  · rw [if_pos rfl, Bool.true_and]
    by_cases h32 : s.length = 32
    · rw [show decide (s.length = 32) = true by simp [h32]]
      have e1 : min (strOf s).size 32 = s.length := by omega
      have e2 : (s.length : Int) = 32 := by omega
      go_enter Try.func70, Try.ntmps70
      go_wp2_with (go_at_call 100; refine hnext.mono ?_; rintro e w1 ⟨rfl, hst, hm1⟩; have hK1 := hst.k; have hKl1 := at_lt hK1; have q1 := hm1.at r1 (by omega); have q2 := hm1.at r2 (by omega); have hl2 := at_lt q2)
      have q3 := put_list (l := encDig Dig.zero) (k := 0) (m := encDig (overDig Dig.zero s)) (setCell_other (b := K) (v := .bool true) (by omega) (put_other (b := w.heap.size + 1) (i := 0) (m := bcells (s.take 32)) (by omega) q1))
      rw [splice_all _ _ (by simp only [ln_encDig])] at q3
      refine bodyPost_ret (results_one rfl (.agg 32 (g := w.heap.size) q3 rfl (by kernel_rfl) (encDig_length _))) rfl ?_
      refine ⟨rfl, ((hst.moves (M := (· = w.heap.size + 1)) (Moves.put_ (Moves.refl _ _) _ _ _ (.inl rfl)) (fun k hk => by omega)).setK true).moves (M := (· = w.heap.size)) (Moves.put_ (Moves.refl _ _) _ _ _ (.inl rfl)) (fun k hk => by omega), ?_⟩
      exact Moves.put_ (Moves.setCell (Moves.put_ ((((Moves.refl _ w).alloc _).alloc _).trans hm1) _ _ _ (.inr (by omega))) _ _ (.inl (.inr rfl))) _ _ _ (.inr (by omega))
    · rw [show decide (s.length = 32) = false by simp [h32]]
      by_cases hle : s.length ≤ 32
      · have e1 : min (strOf s).size 32 = s.length := by omega
        have e2 : ((s.length : Int) == 32) = false := by simp; omega
        have e3 : min s.length 32 = s.length := by omega
        go_enter Try.func70, Try.ntmps70
        go_wp2_with (go_at_call 100; refine hnext.mono ?_; rintro e w1 ⟨rfl, hst, hm1⟩; have hK1 := hst.k; have hKl1 := at_lt hK1; have q1 := hm1.at r1 (by omega); have q2 := hm1.at r2 (by omega); have hl2 := at_lt q2)
        have q3 := put_list (l := encDig Dig.zero) (k := 0) (m := encDig (overDig Dig.zero s)) (setCell_other (b := K) (v := .bool false) (by omega) (put_other (b := w.heap.size + 1) (i := 0) (m := bcells (s.take 32)) (by omega) q1))
        rw [splice_all _ _ (by simp only [ln_encDig])] at q3
        refine bodyPost_ret (results_one rfl (.agg 32 (g := w.heap.size) q3 rfl (by kernel_rfl) (encDig_length _))) rfl ?_
        refine ⟨rfl, ((hst.moves (M := (· = w.heap.size + 1)) (Moves.put_ (Moves.refl _ _) _ _ _ (.inl rfl)) (fun k hk => by omega)).setK false).moves (M := (· = w.heap.size)) (Moves.put_ (Moves.refl _ _) _ _ _ (.inl rfl)) (fun k hk => by omega), ?_⟩
        exact Moves.put_ (Moves.setCell (Moves.put_ ((((Moves.refl _ w).alloc _).alloc _).trans hm1) _ _ _ (.inr (by omega))) _ _ (.inl (.inr rfl))) _ _ _ (.inr (by omega))
      · have e1 : min (strOf s).size 32 = 32 := by omega
        have e2 : ((32 : Int) == s.length) = false := by simp; omega
        have e3 : min s.length 32 = 32 := by omega
        go_enter Try.func70, Try.ntmps70
        go_wp2_with (go_at_call 100; refine hnext.mono ?_; rintro e w1 ⟨rfl, hst, hm1⟩; have hK1 := hst.k; have hKl1 := at_lt hK1; have q1 := hm1.at r1 (by omega); have q2 := hm1.at r2 (by omega); have hl2 := at_lt q2)
        have q3 := put_list (l := encDig Dig.zero) (k := 0) (m := encDig (overDig Dig.zero s)) (setCell_other (b := K) (v := .bool false) (by omega) (put_other (b := w.heap.size + 1) (i := 0) (m := bcells (s.take 32)) (by omega) q1))
        rw [splice_all _ _ (by simp only [ln_encDig])] at q3
        refine bodyPost_ret (results_one rfl (.agg 32 (g := w.heap.size) q3 rfl (by kernel_rfl) (encDig_length _))) rfl ?_
        refine ⟨rfl, ((hst.moves (M := (· = w.heap.size + 1)) (Moves.put_ (Moves.refl _ _) _ _ _ (.inl rfl)) (fun k hk => by omega)).setK false).moves (M := (· = w.heap.size)) (Moves.put_ (Moves.refl _ _) _ _ _ (.inl rfl)) (fun k hk => by omega), ?_⟩
        exact Moves.put_ (Moves.setCell (Moves.put_ ((((Moves.refl _ w).alloc _).alloc _).trans hm1) _ _ _ (.inr (by omega))) _ _ (.inl (.inr rfl))) _ _ _ (.inr (by omega))
end Go.Proofs.Ytgnebofjfmbccaa
