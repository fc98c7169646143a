/-
  Results that lie in cells; what a range's facts become; history.Find over the client's entries.
-/
import Derived.Test.YtgnebofjfmbccaaU
import Derived.Laws.Rows
set_option linter.all false
namespace Go.Proofs.Ytgnebofjfmbccaa
open Go.RowKit
attribute [local go_sem] Oper.semAt_some
def isAggT (P : Program) (t : TypeId) : Bool := match P.underlying t with | some (.struct _) | some (.array _ _) => true | _ => false
/-- What a result variable is read as, at a function's end. -/
def resOf (tmps : Array Value) : ResultVar → Sem Value
  | .tmp t => pure (tmps.getD t undef)
  | .cell a t => do loadVar t (← asAddr (tmps.getD a undef))
def ResultIs (P : Program) (tmps : Array Value) (w : World) (r : ResultVar) (v : Value) : Prop := (resOf tmps r).run P w = .ok v w
theorem ResultIs.tmp {P : Program} {tmps : Array Value} {w : World} {t : Tmp} : ResultIs P tmps w (.tmp t) (tmps.getD t undef) := rfl
theorem ResultIs.agg {P : Program} {tmps : Array Value} {w : World} {p : Tmp} {t ty : TypeId} {cs : List Value} {fr : Nat × Nat} {g : Nat} (n : Nat) (hg : w.at_ g = some (.cells cs.toArray t fr)) (hp : tmps.getD p undef = .pointer (some ⟨g, 0, none⟩))
    (ha : aggSize P ty = some n) (hi : cs.length = n) : ResultIs P tmps w (.cell p ty) (.agg cs.toArray) := by
  unfold aggSize at ha
  split at ha
  · rename_i d i hd hii
    cases ha
    simp only [ResultIs, resOf, hp]; simp [asAddr, run_loadVar_row (P := P) w g t ty cs.toArray fr _ hg hd rfl (by rw [hii]; simp [hi])]
  · rename_i d e i hd hii
    cases ha
    simp only [ResultIs, resOf, hp]; simp [asAddr, run_loadVar_row (P := P) w g t ty cs.toArray fr _ hg hd rfl (by rw [hii]; simp [hi])]
  · cases ha
theorem ResultIs.cell {P : Program} {tmps : Array Value} {w : World} {p : Tmp} {t ty : TypeId} {v : Value} {fr : Nat × Nat} {g : Nat} (hg : w.at_ g = some (.cells #[v] t fr)) (hp : tmps.getD p undef = .pointer (some ⟨g, 0, none⟩))
    (ha : isAggT P ty = false) (hu : (P.underlying ty).isSome = true) : ResultIs P tmps w (.cell p ty) v := by
  have hc : w.cell? ⟨g, 0, none⟩ = some v := by rw [cell_at, hg]; rfl
  simp only [ResultIs, resOf, hp]
  cases hq : P.underlying ty with
  | none => rw [hq] at hu; cases hu
  | some d =>
    have hagg : (isAgg ty).run P w = .ok false w := by
      unfold isAgg
      rw [Sem.run_bind, run_underlying hq w]
      unfold isAggT at ha
      rw [hq] at ha
      cases d <;> simp_all
    simp [asAddr, loadVar, Sem.run_bind, hagg, run_load, hc]
theorem mapM_one {P : Program} {r : ResultVar} {v : Value} {tmps : Array Value} {w : World} (f : ResultVar → Sem Value) (hf : f r = resOf tmps r) (hv : ResultIs P tmps w r v) : ([r].mapM f).run P w = .ok [v] w := by
  unfold ResultIs at hv
  simp [List.mapM_cons, hf, hv]
theorem mapM_two {P : Program} {r s : ResultVar} {u v : Value} {tmps : Array Value} {w : World} (f : ResultVar → Sem Value) (hf : f r = resOf tmps r) (hf' : f s = resOf tmps s) (hr : ResultIs P tmps w r u) (hs : ResultIs P tmps w s v) : ([r, s].mapM f).run P w = .ok [u, v] w := by
  unfold ResultIs at hr hs
  simp [List.mapM_cons, hf, hf', hr, hs]
theorem results_one {P : Program} {fn : Func} {r : ResultVar} {v : Value} {tmps : Array Value} {w : World} (h : fn.results = #[r]) (hv : ResultIs P tmps w r v) : (results fn tmps).run P w = .ok v w := by
  unfold results
  rw [show fn.results = [r].toArray from h, List.mapM_toArray]
  simp only [Sem.run_bind, Sem.run_map]
  rw [mapM_one _ (by cases r <;> rfl) hv]
  simp
theorem results_two {P : Program} {fn : Func} {r s : ResultVar} {u v : Value} {tmps : Array Value} {w : World} (h : fn.results = #[r, s]) (hr : ResultIs P tmps w r u) (hs : ResultIs P tmps w s v) : (results fn tmps).run P w = .ok (.tuple #[u, v]) w := by
  unfold results
  rw [show fn.results = [r, s].toArray from h, List.mapM_toArray]
  simp only [Sem.run_bind, Sem.run_map]
  rw [mapM_two _ (by cases r <;> rfl) (by cases s <;> rfl) hr hs]
  simp
theorem Moves.at {M : Nat → Prop} {A B : World} (h : Moves M A B) {k : Nat} {o : Obj} (e : A.at_ k = some o) (hm : ¬ M k) : B.at_ k = some o :=
  (h.block k (Array.getElem?_eq_some_iff.1 e).1 hm).trans e
theorem below_putObj {n : Nat} {w A : World} (h : Below n w A) (r : Nat) (o : Obj) (hr : n ≤ r) : Below n w (A.putObj r o) :=
  ⟨h.os, h.tape, h.output, by rw [World.putObj_size]; exact h.size, fun k hk => by rw [World.putObj_heap_other (show k ≠ r by omega)]; exact h.block k hk⟩
theorem setCell_same {w : World} {b : Nat} {u v : Value} {t : TypeId} {fr : Nat × Nat} (h : w.at_ b = some (.cells #[u] t fr)) : (w.setCell ⟨b, 0, none⟩ v).at_ b = some (.cells #[v] t fr) := by
  rw [at_setCell, if_pos rfl, h]; rfl
theorem setCell_other {w : World} {b k : Nat} {v : Value} {o : Option Obj} (hk : k ≠ b) (h : w.at_ k = o) : (w.setCell ⟨b, 0, none⟩ v).at_ k = o := by
  rw [at_setCell, if_neg hk, h]
theorem putObj_other {w : World} {b k : Nat} {x : Obj} {o : Option Obj} (hk : k ≠ b) (h : w.at_ k = o) : (w.putObj b x).at_ k = o := by
  rw [at_putObj, if_neg hk, h]
theorem at_below {W W' : World} {k : Nat} {o : Obj} (hb : Below W.heap.size W W') (h : W.at_ k = some o) : W'.at_ k = some o := (hb.block k (Array.getElem?_eq_some_iff.1 h).1).trans h
theorem at_alloc_new {W : World} {k : Nat} {o : Obj} (h : k = W.heap.size) : (W.alloc o).at_ k = some o := by rw [at_alloc, if_pos h]
theorem at_alloc_old {W : World} {k : Nat} {o : Obj} (h : W.at_ k = some o) (x : Obj) : (W.alloc x).at_ k = some o := by
  rw [at_alloc, if_neg (by have := (Array.getElem?_eq_some_iff.1 h).1; omega)]; exact h
theorem at_drew_old {W : World} {k : Nat} {o : Obj} (h : W.at_ k = some o) : W.drew.at_ k = some o := h
theorem find_first {α : Type} (q : α → Bool) (p : List α) (x : α) (l : List α) (hp : ∀ y ∈ p, ¬ q y = true) (hx : q x = true) (h : p ++ [x] <+: l) : l.find? q = some x := by
  obtain ⟨r, rfl⟩ := h
  rw [List.append_assoc, List.find?_append, List.find?_eq_none.2 hp]
  simp [hx]
theorem at_lt {w : World} {k : Nat} {o : Obj} (e : w.at_ k = some o) : k < w.heap.size := (Array.getElem?_eq_some_iff.1 e).1
def law_user (c s : Int) : Item := { epoch := 1, entry := { kind := 1, client := c, seq := s, text := Entry.zero.text, head := Entry.zero.head, claim := Entry.zero.claim } }
theorem estreatlaw11_user (c s : Int) (w : World) :
    Calls Try.prog 48 #[.int .i64 c, .int .i64 s] w (Res (.agg (encItem (law_user c s)).toArray) w) := by
  go_enter Try.func48, Try.ntmps48
  go_wp2
  refine bodyPost_ret (results_one rfl (.agg 110 (g := w.heap.size) (by rw [at_alloc, if_pos rfl]) rfl (by kernel_rfl) (encItem_length _))) rfl ?_
  exact ⟨rfl, by (repeat' (first | exact Below.refl _ _ | assumption | refine below_drew ?_ | refine below_drewN ?_ _ | refine below_alloc ?_ _ | refine below_call ?_ (by assumption) | refine below_put ?_ _ _ _ (by first | omega | (simp; omega)) | refine below_setCell ?_ _ _ (by first | (simp; omega) | (simp; done) | omega) | refine below_putObj ?_ _ _ (by first | omega | (simp; omega) | (simp; done))))⟩
theorem pos_users (c s : Int) (l : List Item) : ∀ k, posFrom (isSeq c s) k l = ((usersFrom c k l).find? (fun x => decide (x.2.seq = s))).map (·.1) := by
  induction l with
  | nil => intro k; rfl
  | cons x r ih =>
    intro k
    simp only [posFrom, usersFrom, isSeq, isUser]
    by_cases h1 : (decide (x.entry.kind = 1) && decide (x.entry.client = c)) = true
    · by_cases h2 : x.entry.seq = s
      · simp [h1, h2]
      · simp [h1, h2, ih (k + 1)]
    · simp [h1, ih (k + 1)]
theorem enters_users1 : Enters Try.prog 88 := enters_of Try.func88 (by kernel_rfl) rfl
/-- What the rounds of history.Find keep. -/
structure FindI (c s : Int) (w : World) (pre : List (Nat × Entry)) (W : World) : Prop where
  below : Below w.heap.size w W
  none : ∀ x ∈ pre, ¬ x.2.seq = s
  s_ : W.at_ w.heap.size = some (.cells #[.int .i64 s] 3)
  i_ : W.at_ (w.heap.size + 1) = some (.cells #[.int .i64 0] 3)
  k_ : W.at_ (w.heap.size + 1 + 1) = some (.cells #[.bool false] 4)
structure FindX (c s : Int) (w : World) (cd : Code) (pre : List (Nat × Entry)) (W : World) : Prop where
  ret : cd = .ret
  below : Below w.heap.size w W
  got : ∃ p x, pre = p ++ [x] ∧ (∀ x ∈ p, ¬ x.2.seq = s) ∧ x.2.seq = s ∧ W.at_ (w.heap.size + 1) = some (.cells #[.int .i64 x.1] 3)
  k_ : W.at_ (w.heap.size + 1 + 1) = some (.cells #[.bool true] 4)
set_option maxHeartbeats 2000000 in
theorem history_Find (l : List Item) (a : Option Addr) (cap : Nat) (c s : Int) (w : World) (h : SliceAt encItem 110 w a l) (hl : l.length ≤ 1000000000000) :
    Calls Try.prog 15 #[.slice a l.length cap, .int .i64 c, .int .i64 s] w (Res2 (.int .i64 (foundAt (posFrom (isSeq c s) 0 l))) (.bool (posFrom (isSeq c s) 0 l).isSome) w) := by
  refine (callsIn_wide (n := 5)).1 ?_
  refine callsIn_of_wp_marks Try.func15 rfl trivial ?_ rfl
  simp only [Try.ntmps15, List.size_toArray, List.length_cons, List.length_nil, Nat.reduceAdd, Nat.reduceSub, Array.replicate_succ, Array.replicate_zero, List.push_toArray, List.append_toArray, List.nil_append, List.cons_append]
  gi_wp2_with (refine ⟨trivial, ?_⟩; gi_at_call 47; refine (callsIn_wide.2 (history_users _ _ _ _ _)).mono ?_; rintro e w' ⟨rfl, rfl⟩)
  generalize hW0 : World.alloc (World.alloc (World.alloc (World.alloc (World.alloc w _) _) _) _) _ = W0
  have hb0 : Below w.heap.size w W0 := by rw [← hW0]; (repeat' (first | exact Below.refl _ _ | assumption | refine below_drew ?_ | refine below_drewN ?_ _ | refine below_alloc ?_ _ | refine below_call ?_ (by assumption) | refine below_put ?_ _ _ _ (by first | omega | (simp; omega)) | refine below_setCell ?_ _ _ (by first | (simp; omega) | (simp; done) | omega) | refine below_putObj ?_ _ _ (by first | omega | (simp; omega) | (simp; done))))
  have hs0 : w.heap.size + 1 + 1 + 1 + 1 + 1 ≤ W0.heap.size := by rw [← hW0]; simp
  have a0 : W0.at_ w.heap.size = some (.cells #[.int .i64 s] 3) := by rw [← hW0]; simp only [at_alloc, World.size_alloc]; (repeat (first | rw [if_pos trivial] | rw [if_pos rfl] | rw [if_neg (by omega)]))
  have a1 : W0.at_ (w.heap.size + 1) = some (.cells #[.int .i64 0] 3) := by rw [← hW0]; simp only [at_alloc, World.size_alloc]; (repeat (first | rw [if_pos trivial] | rw [if_pos rfl] | rw [if_neg (by omega)]))
  have a2 : W0.at_ (w.heap.size + 1 + 1) = some (.cells #[.bool false] 4) := by rw [← hW0]; simp only [at_alloc, World.size_alloc]; (repeat (first | rw [if_pos trivial] | rw [if_pos rfl] | rw [if_neg (by omega)]))
  have a3 : W0.at_ (w.heap.size + 1 + 1 + 1) = some (.cells #[.slice a l.length cap] 22) := by rw [← hW0]; simp only [at_alloc, World.size_alloc]; (repeat (first | rw [if_pos trivial] | rw [if_pos rfl] | rw [if_neg (by omega)]))
  have a4 : W0.at_ (w.heap.size + 1 + 1 + 1 + 1) = some (.cells #[.int .i64 c] 3) := by rw [← hW0]; simp only [at_alloc, World.size_alloc]; (repeat (first | rw [if_pos trivial] | rw [if_pos rfl] | rw [if_neg (by omega)]))
  clear hW0
  refine wp_range (M := None_) (Kp := Stays W0) (encs := encUser) (xs := usersFrom c 0 l) 88 _ rfl enters_users1 (history_users1 l a cap c W0 _ _ (h.below hb0) hl a3 a4) (fun k hk => hk.elim)
    Moves.trans (fun W o => Moves.putObj (Moves.refl _ W) _ _ (.inl (Nat.le_succ _))) (fun x => rfl) (FindI c s w) (FindX c s w) ?_ ?_ ?_ ?_ ?_ ?_
  · intro pre W W' hi hm
    have hM : ∀ k, (None_ k ∨ k = W0.heap.size ∨ k = W0.heap.size + 1) → w.heap.size + 5 ≤ k := fun k hk => hk.elim (fun hk => False.elim hk) (fun hk => by omega)
    exact ⟨hm.below hi.below (fun k hk => by have := hM k hk; omega), hi.none, hm.at hi.s_ (fun hk => by have := hM _ hk; omega), hm.at hi.i_ (fun hk => by have := hM _ hk; omega), hm.at hi.k_ (fun hk => by have := hM _ hk; omega)⟩
  · intro cd pre W W' hi hm
    have hM : ∀ k, (None_ k ∨ k = W0.heap.size ∨ k = W0.heap.size + 1) → w.heap.size + 5 ≤ k := fun k hk => hk.elim (fun hk => False.elim hk) (fun hk => by omega)
    obtain ⟨p, x, h1, h2, h3, h4⟩ := hi.got
    exact ⟨hi.ret, hm.below hi.below (fun k hk => by have := hM k hk; omega), ⟨p, x, h1, h2, h3, hm.at h4 (fun hk => by have := hM _ hk; omega)⟩, hm.at hi.k_ (fun hk => by have := hM _ hk; omega)⟩
  · exact ⟨hb0, (fun x hx => nomatch hx), a0, a1, a2⟩
  · intro pre x W hi hlt hpre
    obtain ⟨i1, i2, i3, i4, i5⟩ := hi
    simp only [encUser]
    gi_wp2
    unfold Begun
    refine ⟨by rw [at_alloc, if_neg (by omega)], by rw [at_alloc, if_neg (by omega)], by simp; omega, ?_⟩
    intro W₂ hm2 hk2 hs2
    have e0 : W₂.at_ W.heap.size = some (.cells (encEntry x.2).toArray 33) := hm2.at (by rw [at_alloc, if_pos rfl]) (by omega)
    have hm3 : Moves (· = W0.heap.size + 1) W W₂ := ((Moves.refl _ W).alloc _).trans hm2
    have j3 := hm3.at i3 (by omega)
    have j4 := hm3.at i4 (by omega)
    have j5 := hm3.at i5 (by omega)
    have jb : Below w.heap.size w W₂ := hm3.below i1 (fun k hk => by omega)
    have hs2' : W.heap.size < W₂.heap.size := at_lt e0
    clear hs2 i3 i4 i5
    by_cases hx : x.2.seq = s
    · gi_wp2
      refine ⟨?_, ?_, rfl, ?_, ⟨pre, x, rfl, i2, hx, ?_⟩, ?_⟩
      · exact setCell_other (by omega) (setCell_other (by omega) rfl)
      · exact setCell_other (by omega) (setCell_other (by omega) rfl)
      · (repeat' (first | exact Below.refl _ _ | assumption | refine below_drew ?_ | refine below_drewN ?_ _ | refine below_alloc ?_ _ | refine below_call ?_ (by assumption) | refine below_put ?_ _ _ _ (by first | omega | (simp; omega)) | refine below_setCell ?_ _ _ (by first | (simp; omega) | (simp; done) | omega) | refine below_putObj ?_ _ _ (by first | omega | (simp; omega) | (simp; done))))
      · exact setCell_other (by omega) (setCell_same j4)
      · exact setCell_same (setCell_other (by omega) j5)
    · have hx' : (x.2.seq == s) = false := by simp [hx]
      gi_wp2
      exact ⟨rfl, rfl, Moves.trans ((Moves.refl _ W).alloc _) (hk2 (Moves.refl _ _)), jb, (fun y hy => by
        rcases List.mem_append.1 hy with hy | hy
        · exact i2 y hy
        · rw [List.mem_singleton.1 hy]; exact hx), j3, j4, j5⟩
  · intro W hi hlt hD
    obtain ⟨i1, i2, i3, i4, i5⟩ := hi
    simp only [Exit.inBlock, Exit.then]
    gi_wp2
    have hp : posFrom (isSeq c s) 0 l = none := by
      rw [pos_users, List.find?_eq_none.2 (fun y hy => by simp [i2 y hy])]; rfl
    refine leaves_mark (D := W0.heap.size) (v := .tuple #[.int .i64 0, .bool false]) (setCell_other (by omega) (setCell_other (by omega) hD))
      (results_two rfl (.cell (putObj_other (by omega) (setCell_other (by omega) (setCell_same i4))) rfl (by kernel_rfl) (by kernel_rfl)) (.cell (putObj_other (by omega) (setCell_same (setCell_other (by omega) i5))) rfl (by kernel_rfl) (by kernel_rfl))) ?_
    exact ⟨by rw [hp]; rfl, by (repeat' (first | exact Below.refl _ _ | assumption | refine below_drew ?_ | refine below_drewN ?_ _ | refine below_alloc ?_ _ | refine below_call ?_ (by assumption) | refine below_put ?_ _ _ _ (by first | omega | (simp; omega)) | refine below_setCell ?_ _ _ (by first | (simp; omega) | (simp; done) | omega) | refine below_putObj ?_ _ _ (by first | omega | (simp; omega) | (simp; done))))⟩
  · intro cd pre W hpre hi hlt hD
    obtain ⟨rfl, i1, ⟨p, x, rfl, i3, i4, i5⟩, i6⟩ := hi
    gi_wp2
    have hp : posFrom (isSeq c s) 0 l = some x.1 := by
      rw [pos_users, find_first _ p x _ (fun y hy => by simpa using i3 y hy) (by simpa using i4) hpre]; rfl
    refine leaves_mark (D := W0.heap.size) (v := .tuple #[.int .i64 x.1, .bool true]) hD
      (results_two rfl (.cell (putObj_other (by omega) i5) rfl (by kernel_rfl) (by kernel_rfl)) (.cell (putObj_other (by omega) i6) rfl (by kernel_rfl) (by kernel_rfl))) ?_
    exact ⟨by rw [hp]; rfl, by (repeat' (first | exact Below.refl _ _ | assumption | refine below_drew ?_ | refine below_drewN ?_ _ | refine below_alloc ?_ _ | refine below_call ?_ (by assumption) | refine below_put ?_ _ _ _ (by first | omega | (simp; omega)) | refine below_setCell ?_ _ _ (by first | (simp; omega) | (simp; done) | omega) | refine below_putObj ?_ _ _ (by first | omega | (simp; omega) | (simp; done))))⟩
end Go.Proofs.Ytgnebofjfmbccaa
