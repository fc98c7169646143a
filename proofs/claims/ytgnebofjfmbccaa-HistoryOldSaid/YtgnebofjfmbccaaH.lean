/-
  What may come behind a log: history.May.
-/
import Derived.Test.YtgnebofjfmbccaaG
import Derived.Test.YtgnebofjfmbccaaV
set_option linter.all false
namespace Go.Proofs.Ytgnebofjfmbccaa
open Go.RowKit
attribute [local go_sem] Oper.semAt_some
theorem any_users (c s : Int) (l : List Item) : ∀ k, l.any (isOld c s) = (usersFrom c k l).any (fun x => decide (s ≤ x.2.seq)) := by
  induction l with
  | nil => intro k; rfl
  | cons x r ih =>
    intro k
    simp only [List.any_cons, usersFrom, isOld, isUser]
    by_cases h1 : (decide (x.entry.kind = 1) && decide (x.entry.client = c)) = true
    · simp [h1, ih (k + 1)]
    · simp [h1, ih (k + 1)]
structure MayI (x : Item) (w : World) (pre : List (Nat × Entry)) (W : World) : Prop where
  below : Below w.heap.size w W
  none : ∀ y ∈ pre, ¬ x.entry.seq ≤ y.2.seq
  x_ : W.at_ w.heap.size = some (.cells (encItem x).toArray 35)
  r_ : ∃ v, W.at_ (w.heap.size + 1) = some (.cells #[v] 38)
structure MayX (x : Item) (w : World) (cd : Code) (pre : List (Nat × Entry)) (W : World) : Prop where
  ret : cd = .ret
  below : Below w.heap.size w W
  got : ∃ p y, pre = p ++ [y] ∧ x.entry.seq ≤ y.2.seq
  r_ : W.at_ (w.heap.size + 1) = some (.cells #[.int .i64 101] 38)
theorem find_any {α : Type} (q : α → Bool) (p : List α) (x : α) (l : List α) (hx : q x = true) (h : p ++ [x] <+: l) : l.any q = true := by
  obtain ⟨r, rfl⟩ := h
  simp [hx]
set_option maxHeartbeats 4000000 in
theorem history_May (l : List Item) (a : Option Addr) (cap : Nat) (x : Item) (w : World) (h : SliceAt encItem 110 w a l) (hl : l.length ≤ 1000000) :
    Calls Try.prog 19 #[.slice a l.length cap, .agg (encItem x).toArray] w (Res (.int .i64 (mayErr l x)) w) := by
  have hS : ∀ w', Below w.heap.size w w' → SliceAt encItem 110 w' a l := fun w' hb => h.below hb
  by_cases hf : (logOk l && x.ok) = true
  case neg =>
    have hf' : (logOk l && x.ok) = false := by simpa using hf
    rw [mayErr_form hf']
    clear hf
    cases hq : logOk l
    · have he : logErr l = 100 := by unfold logErr; rw [hq]; rfl
      refine (callsIn_wide (n := 5)).1 ?_; refine callsIn_of_wp_marks Try.func19 rfl trivial ?_ rfl; simp only [Try.ntmps19, List.size_toArray, List.length_cons, List.length_nil, Nat.reduceAdd, Nat.reduceSub, Array.replicate_succ, Array.replicate_zero, List.push_toArray, List.append_toArray, List.nil_append, List.cons_append]
      gi_wp2_with (first | (refine ⟨trivial, ?_⟩; gi_at_call 14; refine (callsIn_wide.2 (history_Check l _ cap _ (hS _ (by (repeat' (first | exact Below.refl _ _ | assumption | refine below_drew ?_ | refine below_drewN ?_ _ | refine below_alloc ?_ _ | refine below_call ?_ (by assumption) | refine below_put ?_ _ _ _ (by first | omega | (simp; omega)) | refine below_setCell ?_ _ _ (by first | (simp; omega) | (simp; done) | omega) | refine below_putObj ?_ _ _ (by first | omega | (simp; omega) | (simp; done)))))) hl)).mono ?_; rintro e w1 ⟨rfl, hb⟩; have ha := below_rule hb; have hs := hb.size; (try simp only [World.size_alloc, World.size_setCell, size_put, World.size_drew] at hs)) | (refine ⟨trivial, ?_⟩; gi_at_call 46; refine (callsIn_wide.2 (history_right _ _)).mono ?_; rintro e w1 ⟨rfl, hb⟩; have ha := below_rule hb; have hs := hb.size; (try simp only [World.size_alloc, World.size_setCell, size_put, World.size_drew] at hs)))
      refine ⟨trivial, ?_⟩
      gi_wp2
      refine leaves_none (v := .int .i64 100) (results_one rfl (.cell (g := w.heap.size + 1) (t := 38) (fr := (0, 0)) (setCell_same (u := .int .i64 0) (by (repeat' (first | assumption | exact at_alloc_new (by simp; done) | refine at_alloc_old ?_ _ | refine setCell_other (by omega) ?_ | rw [at_drew] | refine at_below (by assumption) ?_)))) rfl (by kernel_rfl) (by kernel_rfl))) ⟨rfl, by (repeat' (first | exact Below.refl _ _ | assumption | refine below_drew ?_ | refine below_drewN ?_ _ | refine below_alloc ?_ _ | refine below_call ?_ (by assumption) | refine below_put ?_ _ _ _ (by first | omega | (simp; omega)) | refine below_setCell ?_ _ _ (by first | (simp; omega) | (simp; done) | omega) | refine below_putObj ?_ _ _ (by first | omega | (simp; omega) | (simp; done))))⟩
    · have he : logErr l = 0 := by unfold logErr; rw [hq]; rfl
      have hx : x.ok = false := by simpa [hq] using hf'
      clear hf'
      refine (callsIn_wide (n := 5)).1 ?_; refine callsIn_of_wp_marks Try.func19 rfl trivial ?_ rfl; simp only [Try.ntmps19, List.size_toArray, List.length_cons, List.length_nil, Nat.reduceAdd, Nat.reduceSub, Array.replicate_succ, Array.replicate_zero, List.push_toArray, List.append_toArray, List.nil_append, List.cons_append]
      gi_wp2_with (first | (refine ⟨trivial, ?_⟩; gi_at_call 14; refine (callsIn_wide.2 (history_Check l _ cap _ (hS _ (by (repeat' (first | exact Below.refl _ _ | assumption | refine below_drew ?_ | refine below_drewN ?_ _ | refine below_alloc ?_ _ | refine below_call ?_ (by assumption) | refine below_put ?_ _ _ _ (by first | omega | (simp; omega)) | refine below_setCell ?_ _ _ (by first | (simp; omega) | (simp; done) | omega) | refine below_putObj ?_ _ _ (by first | omega | (simp; omega) | (simp; done)))))) hl)).mono ?_; rintro e w1 ⟨rfl, hb⟩; have ha := below_rule hb; have hs := hb.size; (try simp only [World.size_alloc, World.size_setCell, size_put, World.size_drew] at hs)) | (refine ⟨trivial, ?_⟩; gi_at_call 46; refine (callsIn_wide.2 (history_right _ _)).mono ?_; rintro e w1 ⟨rfl, hb⟩; have ha := below_rule hb; have hs := hb.size; (try simp only [World.size_alloc, World.size_setCell, size_put, World.size_drew] at hs)))
      refine leaves_none (v := .int .i64 100) (results_one rfl (.cell (g := w.heap.size + 1) (t := 38) (fr := (0, 0)) (setCell_same (u := .int .i64 0) (by (repeat' (first | assumption | exact at_alloc_new (by simp; done) | refine at_alloc_old ?_ _ | refine setCell_other (by omega) ?_ | rw [at_drew] | refine at_below (by assumption) ?_)))) rfl (by kernel_rfl) (by kernel_rfl))) ⟨rfl, by (repeat' (first | exact Below.refl _ _ | assumption | refine below_drew ?_ | refine below_drewN ?_ _ | refine below_alloc ?_ _ | refine below_call ?_ (by assumption) | refine below_put ?_ _ _ _ (by first | omega | (simp; omega)) | refine below_setCell ?_ _ _ (by first | (simp; omega) | (simp; done) | omega) | refine below_putObj ?_ _ _ (by first | omega | (simp; omega) | (simp; done))))⟩
  case pos =>
    have hf0 := hf
    simp only [Bool.and_eq_true] at hf0
    obtain ⟨hq, hx⟩ := hf0
    have he0 : logErr l = 0 := by unfold logErr; rw [hq]; rfl
    have h2000 := logOk_len hq
    have hx1 := Item.ok_epoch hx
    by_cases he : x.epoch < lastEpoch l
    · rw [mayErr_epoch hf he]
      have hlen : 0 < l.length := by
        by_cases hlen : 0 < l.length
        · exact hlen
        · rw [lastEpoch_nil hlen] at he; omega
      rw [lastEpoch_of hlen] at he
      clear hf
      refine (callsIn_wide (n := 5)).1 ?_; refine callsIn_of_wp_marks Try.func19 rfl trivial ?_ rfl; simp only [Try.ntmps19, List.size_toArray, List.length_cons, List.length_nil, Nat.reduceAdd, Nat.reduceSub, Array.replicate_succ, Array.replicate_zero, List.push_toArray, List.append_toArray, List.nil_append, List.cons_append]
      gi_wp2_with (first | (refine ⟨trivial, ?_⟩; gi_at_call 14; refine (callsIn_wide.2 (history_Check l _ cap _ (hS _ (by (repeat' (first | exact Below.refl _ _ | assumption | refine below_drew ?_ | refine below_drewN ?_ _ | refine below_alloc ?_ _ | refine below_call ?_ (by assumption) | refine below_put ?_ _ _ _ (by first | omega | (simp; omega)) | refine below_setCell ?_ _ _ (by first | (simp; omega) | (simp; done) | omega) | refine below_putObj ?_ _ _ (by first | omega | (simp; omega) | (simp; done)))))) hl)).mono ?_; rintro e w1 ⟨rfl, hb⟩; have ha := below_rule hb; have hs := hb.size; (try simp only [World.size_alloc, World.size_setCell, size_put, World.size_drew] at hs)) | (refine ⟨trivial, ?_⟩; gi_at_call 46; refine (callsIn_wide.2 (history_right _ _)).mono ?_; rintro e w1 ⟨rfl, hb⟩; have ha := below_rule hb; have hs := hb.size; (try simp only [World.size_alloc, World.size_setCell, size_put, World.size_drew] at hs)))
      obtain ⟨b, off, ha', hbl, hrow⟩ := h.last hlen
      obtain ⟨c0, -⟩ := item_cells hrow
      subst ha'
      (refine wpIn_region_ext rfl (by kernel_rfl) (by kernel_rfl) ?_; (repeat (gi_big_quiet_step (fail))); refine wpQuietIn_nil ?_; intro w1 hw'; have hb := ext_below hw'; clear hw'; have ha := below_rule hb; have hs := hb.size; (try simp only [World.size_alloc, World.size_setCell, size_put, World.size_drew] at hs))
      gi_wp2
      refine leaves_none (v := .int .i64 102) (results_one rfl (.cell (g := w.heap.size + 1) (t := 38) (fr := (0, 0)) (setCell_same (u := .int .i64 0) (by (repeat' (first | assumption | exact at_alloc_new (by simp; done) | refine at_alloc_old ?_ _ | refine setCell_other (by omega) ?_ | rw [at_drew] | refine at_below (by assumption) ?_)))) rfl (by kernel_rfl) (by kernel_rfl))) ⟨rfl, by (repeat' (first | exact Below.refl _ _ | assumption | refine below_drew ?_ | refine below_drewN ?_ _ | refine below_alloc ?_ _ | refine below_call ?_ (by assumption) | refine below_put ?_ _ _ _ (by first | omega | (simp; omega)) | refine below_setCell ?_ _ _ (by first | (simp; omega) | (simp; done) | omega) | refine below_putObj ?_ _ _ (by first | omega | (simp; omega) | (simp; done))))⟩
    rw [mayErr_rest hf he]
    clear hf
    have hr : mayRest l x = if decide (2000 ≤ l.length) then 2 else if decide (x.entry.kind = 1) && l.any (isOld x.entry.client x.entry.seq) then 101 else 0 := rfl
    have H := Lib.hid hr; clear hr
    refine (callsIn_wide (n := 5)).1 ?_; refine callsIn_of_wp_marks Try.func19 rfl trivial ?_ rfl; simp only [Try.ntmps19, List.size_toArray, List.length_cons, List.length_nil, Nat.reduceAdd, Nat.reduceSub, Array.replicate_succ, Array.replicate_zero, List.push_toArray, List.append_toArray, List.nil_append, List.cons_append]
    gi_wp2_with (first | (refine ⟨trivial, ?_⟩; gi_at_call 14; refine (callsIn_wide.2 (history_Check l _ cap _ (hS _ (by (repeat' (first | exact Below.refl _ _ | assumption | refine below_drew ?_ | refine below_drewN ?_ _ | refine below_alloc ?_ _ | refine below_call ?_ (by assumption) | refine below_put ?_ _ _ _ (by first | omega | (simp; omega)) | refine below_setCell ?_ _ _ (by first | (simp; omega) | (simp; done) | omega) | refine below_putObj ?_ _ _ (by first | omega | (simp; omega) | (simp; done)))))) hl)).mono ?_; rintro e w1 ⟨rfl, hb⟩; have ha := below_rule hb; have hs := hb.size; (try simp only [World.size_alloc, World.size_setCell, size_put, World.size_drew] at hs)) | (refine ⟨trivial, ?_⟩; gi_at_call 46; refine (callsIn_wide.2 (history_right _ _)).mono ?_; rintro e w1 ⟨rfl, hb⟩; have ha := below_rule hb; have hs := hb.size; (try simp only [World.size_alloc, World.size_setCell, size_put, World.size_drew] at hs)))
    by_cases hlen : 0 < l.length
    · rw [lastEpoch_of hlen] at he
      obtain ⟨b, off, ha', hbl, hrow⟩ := h.last hlen
      obtain ⟨c0, -⟩ := item_cells hrow
      subst ha'
      (refine wpIn_region_ext rfl (by kernel_rfl) (by kernel_rfl) ?_; (repeat (gi_big_quiet_step (fail))); refine wpQuietIn_nil ?_; intro w1 hw'; have hb := ext_below hw'; clear hw'; have ha := below_rule hb; have hs := hb.size; (try simp only [World.size_alloc, World.size_setCell, size_put, World.size_drew] at hs))
      by_cases h20 : 2000 ≤ l.length
      · have hz : (2000 : Int) ≤ (l.length : Int) := by omega
        have H2 := Lib.hid h20; clear h20
        gi_wp2
        refine leaves_none (v := .int .i64 2) (results_one rfl (.cell (g := w.heap.size + 1) (t := 38) (fr := (0, 0)) (setCell_same (u := .int .i64 0) (by (repeat' (first | assumption | exact at_alloc_new (by simp; done) | refine at_alloc_old ?_ _ | refine setCell_other (by omega) ?_ | rw [at_drew] | refine at_below (by assumption) ?_)))) rfl (by kernel_rfl) (by kernel_rfl))) ⟨ret_int (by rw [H.out]; simp [H2.out]), by (repeat' (first | exact Below.refl _ _ | assumption | refine below_drew ?_ | refine below_drewN ?_ _ | refine below_alloc ?_ _ | refine below_call ?_ (by assumption) | refine below_put ?_ _ _ _ (by first | omega | (simp; omega)) | refine below_setCell ?_ _ _ (by first | (simp; omega) | (simp; done) | omega) | refine below_putObj ?_ _ _ (by first | omega | (simp; omega) | (simp; done))))⟩
      have hz : ¬ (2000 : Int) ≤ (l.length : Int) := by omega
      have H2 := Lib.hid h20; clear h20
      cases hk : (x.entry.kind != 1)
      case true =>
        gi_wp2
        have hk' : ¬ x.entry.kind = 1 := by simpa using hk
        refine leaves_none (v := .int .i64 0) (results_one rfl (.cell (g := w.heap.size + 1) (t := 38) (fr := (0, 0)) (setCell_same (u := .int .i64 0) (by (repeat' (first | assumption | exact at_alloc_new (by simp; done) | refine at_alloc_old ?_ _ | refine setCell_other (by omega) ?_ | rw [at_drew] | refine at_below (by assumption) ?_)))) rfl (by kernel_rfl) (by kernel_rfl))) ⟨ret_int (by rw [H.out]; simp [H2.out, hk']), by (repeat' (first | exact Below.refl _ _ | assumption | refine below_drew ?_ | refine below_drewN ?_ _ | refine below_alloc ?_ _ | refine below_call ?_ (by assumption) | refine below_put ?_ _ _ _ (by first | omega | (simp; omega)) | refine below_setCell ?_ _ _ (by first | (simp; omega) | (simp; done) | omega) | refine below_putObj ?_ _ _ (by first | omega | (simp; omega) | (simp; done))))⟩
      case false =>
        have hk' : x.entry.kind = 1 := by simpa using hk
        have HK := Lib.hid hk'; clear hk'
        gi_wp2_with ((refine ⟨trivial, ?_⟩; gi_at_call 47; refine (callsIn_wide.2 (history_users l _ cap _ _)).mono ?_; rintro e w' ⟨rfl, rfl⟩))
        have hs1 : w.heap.size + 1 + 1 ≤ w1.heap.size := by omega
        have r0 : w1.at_ w.heap.size = some (.cells (encItem x).toArray 35) := by (repeat' (first | assumption | exact at_alloc_new (by simp; done) | refine at_alloc_old ?_ _ | refine setCell_other (by omega) ?_ | rw [at_drew] | refine at_below (by assumption) ?_))
        have r1 : w1.at_ (w.heap.size + 1) = some (.cells #[.int .i64 0] 38) := by (repeat' (first | assumption | exact at_alloc_new (by simp; done) | refine at_alloc_old ?_ _ | refine setCell_other (by omega) ?_ | rw [at_drew] | refine at_below (by assumption) ?_))
        generalize hW0 : World.alloc (World.alloc w1 _) _ = W0
        have hb0 : Below w.heap.size w W0 := by rw [← hW0]; (repeat' (first | exact Below.refl _ _ | assumption | refine below_drew ?_ | refine below_drewN ?_ _ | refine below_alloc ?_ _ | refine below_call ?_ (by assumption) | refine below_put ?_ _ _ _ (by first | omega | (simp; omega)) | refine below_setCell ?_ _ _ (by first | (simp; omega) | (simp; done) | omega) | refine below_putObj ?_ _ _ (by first | omega | (simp; omega) | (simp; done))))
        have hs0 : w.heap.size + 1 + 1 ≤ W0.heap.size := by rw [← hW0]; simp; omega
        have a0 : W0.at_ w.heap.size = some (.cells (encItem x).toArray 35) := by rw [← hW0]; (repeat' (first | assumption | exact at_alloc_new (by simp; done) | refine at_alloc_old ?_ _ | refine setCell_other (by omega) ?_ | rw [at_drew] | refine at_below (by assumption) ?_))
        have a1 : W0.at_ (w.heap.size + 1) = some (.cells #[.int .i64 0] 38) := by rw [← hW0]; (repeat' (first | assumption | exact at_alloc_new (by simp; done) | refine at_alloc_old ?_ _ | refine setCell_other (by omega) ?_ | rw [at_drew] | refine at_below (by assumption) ?_))
        have a3 : W0.at_ w1.heap.size = some (.cells #[.slice (some ⟨b, off, none⟩) l.length cap] 22) := by rw [← hW0]; (repeat' (first | assumption | exact at_alloc_new (by simp; done) | refine at_alloc_old ?_ _ | refine setCell_other (by omega) ?_ | rw [at_drew] | refine at_below (by assumption) ?_))
        have a4 : W0.at_ (w1.heap.size + 1) = some (.cells #[.int .i64 x.entry.client] 3) := by rw [← hW0]; (repeat' (first | assumption | exact at_alloc_new (by simp; done) | refine at_alloc_old ?_ _ | refine setCell_other (by omega) ?_ | rw [at_drew] | refine at_below (by assumption) ?_))
        have hS0 := hS W0 hb0
        clear hW0
        refine wp_range (M := None_) (Kp := Stays W0) (encs := encUser) (xs := usersFrom x.entry.client 0 l) 88 _ rfl enters_users1 (history_users1 l _ cap x.entry.client W0 _ _ hS0 (by omega) a3 a4) (fun k hk => hk.elim)
          Moves.trans (fun W o => Moves.putObj (Moves.refl _ W) _ _ (.inl (Nat.le_succ _))) (fun x => rfl) (MayI x w) (MayX x w) ?_ ?_ ?_ ?_ ?_ ?_
        · intro pre W W' hi hm
          have hM : ∀ k, (None_ k ∨ k = W0.heap.size ∨ k = W0.heap.size + 1) → w.heap.size + 2 ≤ k := fun k hk => hk.elim (fun hk => False.elim hk) (fun hk => by omega)
          obtain ⟨v, hv⟩ := hi.r_
          exact ⟨hm.below hi.below (fun k hk => by have := hM k hk; omega), hi.none, hm.at hi.x_ (fun hk => by have := hM _ hk; omega), ⟨v, hm.at hv (fun hk => by have := hM _ hk; omega)⟩⟩
        · intro cd pre W W' hi hm
          have hM : ∀ k, (None_ k ∨ k = W0.heap.size ∨ k = W0.heap.size + 1) → w.heap.size + 2 ≤ k := fun k hk => hk.elim (fun hk => False.elim hk) (fun hk => by omega)
          exact ⟨hi.ret, hm.below hi.below (fun k hk => by have := hM k hk; omega), hi.got, hm.at hi.r_ (fun hk => by have := hM _ hk; omega)⟩
        · exact ⟨hb0, (fun x hx => nomatch hx), a0, ⟨_, a1⟩⟩
        · intro pre y W hi hlt hpre
          obtain ⟨i1, i2, i3, ⟨v, i4⟩⟩ := hi
          simp only [encUser]
          gi_wp2
          unfold Begun
          refine ⟨by rw [at_alloc, if_neg (by omega)], by rw [at_alloc, if_neg (by omega)], by simp; omega, ?_⟩
          intro W₂ hm2 hk2 hs2
          have e0 : W₂.at_ W.heap.size = some (.cells (encEntry y.2).toArray 33) := hm2.at (by rw [at_alloc, if_pos rfl]) (by omega)
          have hm3 : Moves (· = W0.heap.size + 1) W W₂ := ((Moves.refl _ W).alloc _).trans hm2
          have j3 := hm3.at i3 (by omega)
          have j4 := hm3.at i4 (by omega)
          have jb : Below w.heap.size w W₂ := hm3.below i1 (fun k hk => by omega)
          have hs2' : W.heap.size < W₂.heap.size := at_lt e0
          clear hs2 i3 i4
          by_cases hx : x.entry.seq ≤ y.2.seq
          · gi_wp2
            refine ⟨?_, ?_, rfl, ?_, ⟨pre, y, rfl, hx⟩, ?_⟩
            · exact setCell_other (by omega) rfl
            · exact setCell_other (by omega) rfl
            · (repeat' (first | exact Below.refl _ _ | assumption | refine below_drew ?_ | refine below_drewN ?_ _ | refine below_alloc ?_ _ | refine below_call ?_ (by assumption) | refine below_put ?_ _ _ _ (by first | omega | (simp; omega)) | refine below_setCell ?_ _ _ (by first | (simp; omega) | (simp; done) | omega) | refine below_putObj ?_ _ _ (by first | omega | (simp; omega) | (simp; done))))
            · exact setCell_same j4
          · gi_wp2
            exact ⟨rfl, rfl, Moves.trans ((Moves.refl _ W).alloc _) (hk2 (Moves.refl _ _)), jb, (fun z hz => by
              rcases List.mem_append.1 hz with hz | hz
              · have := i2 z hz; omega
              · rw [List.mem_singleton.1 hz]; omega), j3, ⟨v, j4⟩⟩
        · intro W hi hlt hD
          obtain ⟨i1, i2, i3, ⟨v, i4⟩⟩ := hi
          simp only [Exit.inBlock, Exit.then]
          gi_wp2
          have hp : l.any (isOld x.entry.client x.entry.seq) = false := by
            rw [any_users _ _ _ 0, List.any_eq_false]; intro y hy; simpa using i2 y hy
          refine leaves_mark (D := W0.heap.size) (v := .int .i64 0) (setCell_other (by omega) hD)
            (results_one rfl (.cell (putObj_other (by omega) (setCell_same i4)) rfl (by kernel_rfl) (by kernel_rfl))) ?_
          exact ⟨ret_int (by rw [H.out]; simp [H2.out, HK.out, hp]), by (repeat' (first | exact Below.refl _ _ | assumption | refine below_drew ?_ | refine below_drewN ?_ _ | refine below_alloc ?_ _ | refine below_call ?_ (by assumption) | refine below_put ?_ _ _ _ (by first | omega | (simp; omega)) | refine below_setCell ?_ _ _ (by first | (simp; omega) | (simp; done) | omega) | refine below_putObj ?_ _ _ (by first | omega | (simp; omega) | (simp; done))))⟩
        · intro cd pre W hpre hi hlt hD
          obtain ⟨rfl, i1, ⟨p, y, rfl, i2⟩, i3⟩ := hi
          gi_wp2
          have hp : l.any (isOld x.entry.client x.entry.seq) = true := by
            rw [any_users _ _ _ 0, find_any _ p y _ (by simpa using i2) hpre]
          refine leaves_mark (D := W0.heap.size) (v := .int .i64 101) hD
            (results_one rfl (.cell (putObj_other (by omega) i3) rfl (by kernel_rfl) (by kernel_rfl))) ?_
          exact ⟨ret_int (by rw [H.out]; simp [H2.out, HK.out, hp]), by (repeat' (first | exact Below.refl _ _ | assumption | refine below_drew ?_ | refine below_drewN ?_ _ | refine below_alloc ?_ _ | refine below_call ?_ (by assumption) | refine below_put ?_ _ _ _ (by first | omega | (simp; omega)) | refine below_setCell ?_ _ _ (by first | (simp; omega) | (simp; done) | omega) | refine below_putObj ?_ _ _ (by first | omega | (simp; omega) | (simp; done))))⟩
    · (refine wpIn_region_ext rfl (by kernel_rfl) (by kernel_rfl) ?_; (repeat (gi_big_quiet_step (fail))); refine wpQuietIn_nil ?_; intro w1 hw'; have hb := ext_below hw'; clear hw'; have ha := below_rule hb; have hs := hb.size; (try simp only [World.size_alloc, World.size_setCell, size_put, World.size_drew] at hs))
      have hz : ¬ (2000 : Int) ≤ (l.length : Int) := by omega
      have h20 : ¬ 2000 ≤ l.length := by omega
      have H2 := Lib.hid h20; clear h20
      cases hk : (x.entry.kind != 1)
      case true =>
        gi_wp2
        have hk' : ¬ x.entry.kind = 1 := by simpa using hk
        refine leaves_none (v := .int .i64 0) (results_one rfl (.cell (g := w.heap.size + 1) (t := 38) (fr := (0, 0)) (setCell_same (u := .int .i64 0) (by (repeat' (first | assumption | exact at_alloc_new (by simp; done) | refine at_alloc_old ?_ _ | refine setCell_other (by omega) ?_ | rw [at_drew] | refine at_below (by assumption) ?_)))) rfl (by kernel_rfl) (by kernel_rfl))) ⟨ret_int (by rw [H.out]; simp [H2.out, hk']), by (repeat' (first | exact Below.refl _ _ | assumption | refine below_drew ?_ | refine below_drewN ?_ _ | refine below_alloc ?_ _ | refine below_call ?_ (by assumption) | refine below_put ?_ _ _ _ (by first | omega | (simp; omega)) | refine below_setCell ?_ _ _ (by first | (simp; omega) | (simp; done) | omega) | refine below_putObj ?_ _ _ (by first | omega | (simp; omega) | (simp; done))))⟩
      case false =>
        have hk' : x.entry.kind = 1 := by simpa using hk
        have HK := Lib.hid hk'; clear hk'
        gi_wp2_with ((refine ⟨trivial, ?_⟩; gi_at_call 47; refine (callsIn_wide.2 (history_users l _ cap _ _)).mono ?_; rintro e w' ⟨rfl, rfl⟩))
        have hs1 : w.heap.size + 1 + 1 ≤ w1.heap.size := by omega
        have r0 : w1.at_ w.heap.size = some (.cells (encItem x).toArray 35) := by (repeat' (first | assumption | exact at_alloc_new (by simp; done) | refine at_alloc_old ?_ _ | refine setCell_other (by omega) ?_ | rw [at_drew] | refine at_below (by assumption) ?_))
        have r1 : w1.at_ (w.heap.size + 1) = some (.cells #[.int .i64 0] 38) := by (repeat' (first | assumption | exact at_alloc_new (by simp; done) | refine at_alloc_old ?_ _ | refine setCell_other (by omega) ?_ | rw [at_drew] | refine at_below (by assumption) ?_))
        generalize hW0 : World.alloc (World.alloc w1 _) _ = W0
        have hb0 : Below w.heap.size w W0 := by rw [← hW0]; (repeat' (first | exact Below.refl _ _ | assumption | refine below_drew ?_ | refine below_drewN ?_ _ | refine below_alloc ?_ _ | refine below_call ?_ (by assumption) | refine below_put ?_ _ _ _ (by first | omega | (simp; omega)) | refine below_setCell ?_ _ _ (by first | (simp; omega) | (simp; done) | omega) | refine below_putObj ?_ _ _ (by first | omega | (simp; omega) | (simp; done))))
        have hs0 : w.heap.size + 1 + 1 ≤ W0.heap.size := by rw [← hW0]; simp; omega
        have a0 : W0.at_ w.heap.size = some (.cells (encItem x).toArray 35) := by rw [← hW0]; (repeat' (first | assumption | exact at_alloc_new (by simp; done) | refine at_alloc_old ?_ _ | refine setCell_other (by omega) ?_ | rw [at_drew] | refine at_below (by assumption) ?_))
        have a1 : W0.at_ (w.heap.size + 1) = some (.cells #[.int .i64 0] 38) := by rw [← hW0]; (repeat' (first | assumption | exact at_alloc_new (by simp; done) | refine at_alloc_old ?_ _ | refine setCell_other (by omega) ?_ | rw [at_drew] | refine at_below (by assumption) ?_))
        have a3 : W0.at_ w1.heap.size = some (.cells #[.slice a l.length cap] 22) := by rw [← hW0]; (repeat' (first | assumption | exact at_alloc_new (by simp; done) | refine at_alloc_old ?_ _ | refine setCell_other (by omega) ?_ | rw [at_drew] | refine at_below (by assumption) ?_))
        have a4 : W0.at_ (w1.heap.size + 1) = some (.cells #[.int .i64 x.entry.client] 3) := by rw [← hW0]; (repeat' (first | assumption | exact at_alloc_new (by simp; done) | refine at_alloc_old ?_ _ | refine setCell_other (by omega) ?_ | rw [at_drew] | refine at_below (by assumption) ?_))
        have hS0 := hS W0 hb0
        clear hW0
        refine wp_range (M := None_) (Kp := Stays W0) (encs := encUser) (xs := usersFrom x.entry.client 0 l) 88 _ rfl enters_users1 (history_users1 l _ cap x.entry.client W0 _ _ hS0 (by omega) a3 a4) (fun k hk => hk.elim)
          Moves.trans (fun W o => Moves.putObj (Moves.refl _ W) _ _ (.inl (Nat.le_succ _))) (fun x => rfl) (MayI x w) (MayX x w) ?_ ?_ ?_ ?_ ?_ ?_
        · intro pre W W' hi hm
          have hM : ∀ k, (None_ k ∨ k = W0.heap.size ∨ k = W0.heap.size + 1) → w.heap.size + 2 ≤ k := fun k hk => hk.elim (fun hk => False.elim hk) (fun hk => by omega)
          obtain ⟨v, hv⟩ := hi.r_
          exact ⟨hm.below hi.below (fun k hk => by have := hM k hk; omega), hi.none, hm.at hi.x_ (fun hk => by have := hM _ hk; omega), ⟨v, hm.at hv (fun hk => by have := hM _ hk; omega)⟩⟩
        · intro cd pre W W' hi hm
          have hM : ∀ k, (None_ k ∨ k = W0.heap.size ∨ k = W0.heap.size + 1) → w.heap.size + 2 ≤ k := fun k hk => hk.elim (fun hk => False.elim hk) (fun hk => by omega)
          exact ⟨hi.ret, hm.below hi.below (fun k hk => by have := hM k hk; omega), hi.got, hm.at hi.r_ (fun hk => by have := hM _ hk; omega)⟩
        · exact ⟨hb0, (fun x hx => nomatch hx), a0, ⟨_, a1⟩⟩
        · intro pre y W hi hlt hpre
          obtain ⟨i1, i2, i3, ⟨v, i4⟩⟩ := hi
          simp only [encUser]
          gi_wp2
          unfold Begun
          refine ⟨by rw [at_alloc, if_neg (by omega)], by rw [at_alloc, if_neg (by omega)], by simp; omega, ?_⟩
          intro W₂ hm2 hk2 hs2
          have e0 : W₂.at_ W.heap.size = some (.cells (encEntry y.2).toArray 33) := hm2.at (by rw [at_alloc, if_pos rfl]) (by omega)
          have hm3 : Moves (· = W0.heap.size + 1) W W₂ := ((Moves.refl _ W).alloc _).trans hm2
          have j3 := hm3.at i3 (by omega)
          have j4 := hm3.at i4 (by omega)
          have jb : Below w.heap.size w W₂ := hm3.below i1 (fun k hk => by omega)
          have hs2' : W.heap.size < W₂.heap.size := at_lt e0
          clear hs2 i3 i4
          by_cases hx : x.entry.seq ≤ y.2.seq
          · gi_wp2
            refine ⟨?_, ?_, rfl, ?_, ⟨pre, y, rfl, hx⟩, ?_⟩
            · exact setCell_other (by omega) rfl
            · exact setCell_other (by omega) rfl
            · (repeat' (first | exact Below.refl _ _ | assumption | refine below_drew ?_ | refine below_drewN ?_ _ | refine below_alloc ?_ _ | refine below_call ?_ (by assumption) | refine below_put ?_ _ _ _ (by first | omega | (simp; omega)) | refine below_setCell ?_ _ _ (by first | (simp; omega) | (simp; done) | omega) | refine below_putObj ?_ _ _ (by first | omega | (simp; omega) | (simp; done))))
            · exact setCell_same j4
          · gi_wp2
            exact ⟨rfl, rfl, Moves.trans ((Moves.refl _ W).alloc _) (hk2 (Moves.refl _ _)), jb, (fun z hz => by
              rcases List.mem_append.1 hz with hz | hz
              · have := i2 z hz; omega
              · rw [List.mem_singleton.1 hz]; omega), j3, ⟨v, j4⟩⟩
        · intro W hi hlt hD
          obtain ⟨i1, i2, i3, ⟨v, i4⟩⟩ := hi
          simp only [Exit.inBlock, Exit.then]
          gi_wp2
          have hp : l.any (isOld x.entry.client x.entry.seq) = false := by
            rw [any_users _ _ _ 0, List.any_eq_false]; intro y hy; simpa using i2 y hy
          refine leaves_mark (D := W0.heap.size) (v := .int .i64 0) (setCell_other (by omega) hD)
            (results_one rfl (.cell (putObj_other (by omega) (setCell_same i4)) rfl (by kernel_rfl) (by kernel_rfl))) ?_
          exact ⟨ret_int (by rw [H.out]; simp [H2.out, HK.out, hp]), by (repeat' (first | exact Below.refl _ _ | assumption | refine below_drew ?_ | refine below_drewN ?_ _ | refine below_alloc ?_ _ | refine below_call ?_ (by assumption) | refine below_put ?_ _ _ _ (by first | omega | (simp; omega)) | refine below_setCell ?_ _ _ (by first | (simp; omega) | (simp; done) | omega) | refine below_putObj ?_ _ _ (by first | omega | (simp; omega) | (simp; done))))⟩
        · intro cd pre W hpre hi hlt hD
          obtain ⟨rfl, i1, ⟨p, y, rfl, i2⟩, i3⟩ := hi
          gi_wp2
          have hp : l.any (isOld x.entry.client x.entry.seq) = true := by
            rw [any_users _ _ _ 0, find_any _ p y _ (by simpa using i2) hpre]
          refine leaves_mark (D := W0.heap.size) (v := .int .i64 101) hD
            (results_one rfl (.cell (putObj_other (by omega) i3) rfl (by kernel_rfl) (by kernel_rfl))) ?_
          exact ⟨ret_int (by rw [H.out]; simp [H2.out, HK.out, hp]), by (repeat' (first | exact Below.refl _ _ | assumption | refine below_drew ?_ | refine below_drewN ?_ _ | refine below_alloc ?_ _ | refine below_call ?_ (by assumption) | refine below_put ?_ _ _ _ (by first | omega | (simp; omega)) | refine below_setCell ?_ _ _ (by first | (simp; omega) | (simp; done) | omega) | refine below_putObj ?_ _ _ (by first | omega | (simp; omega) | (simp; done))))⟩
end Go.Proofs.Ytgnebofjfmbccaa
