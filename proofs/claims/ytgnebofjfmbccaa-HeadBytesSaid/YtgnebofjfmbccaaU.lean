/-
  A client's entries in a log, handed out one by one.
-/
import Derived.Test.YtgnebofjfmbccaaE
import Derived.Test.YtgnebofjfmbccaaR
set_option linter.all false
namespace Go.Proofs.Ytgnebofjfmbccaa
open Go.RowKit
attribute [local go_sem] Oper.semAt_some
def isUser (c : Int) (x : Item) : Bool := decide (x.entry.kind = 1) && decide (x.entry.client = c)
def usersFrom (c : Int) : Nat → List Item → List (Nat × Entry)
  | _, [] => []
  | k, x :: r => if isUser c x then (k, x.entry) :: usersFrom c (k + 1) r else usersFrom c (k + 1) r
theorem usersFrom_drop (c : Int) (l : List Item) (k j : Nat) (hk : k < l.length) : usersFrom c j (l.drop k) = if isUser c l[k] then (j, l[k].entry) :: usersFrom c (j + 1) (l.drop (k + 1)) else usersFrom c (j + 1) (l.drop (k + 1)) := by
  rw [List.drop_eq_getElem_cons hk]; rfl
def encUser (x : Nat × Entry) : Array Value := #[.int .i64 x.1, .agg (encEntry x.2).toArray]
theorem history_users (l : List Item) (a : Option Addr) (cap : Nat) (c : Int) (w : World) :
    Calls Try.prog 47 #[.slice a l.length cap, .int .i64 c] w fun e w' =>
      e = .returned (.func (.func 88) #[] #[.pointer (some ⟨w.heap.size, 0, none⟩), .pointer (some ⟨w.heap.size + 1, 0, none⟩)]) ∧
      w' = (w.alloc (.cells #[.slice a l.length cap] 22)).alloc (.cells #[.int .i64 c] 3) := by
  go_enter Try.func47, Try.ntmps47
  go_wp2
  go_ret
  exact ⟨rfl, rfl⟩
/-- What an iterator that keeps no cell of its own asks of the loop's body: what lay there before, lies there as it lay. -/
def Stays (w : World) (A B : World) : Prop := Moves (fun k => w.heap.size ≤ k) A B
def None_ (_ : Nat) : Prop := False
theorem history_users1 (l : List Item) (a : Option Addr) (cap : Nat) (c : Int) (w : World) (b1 b2 : Nat) (h : SliceAt encItem 110 w a l) (hl : l.length ≤ 1000000000000)
    (h1 : w.at_ b1 = some (.cells #[.slice a l.length cap] 22)) (h2 : w.at_ b2 = some (.cells #[.int .i64 c] 3)) :
    SeqM Try.prog 88 #[.pointer (some ⟨b1, 0, none⟩), .pointer (some ⟨b2, 0, none⟩)] encUser None_ (Stays w) (usersFrom c 0 l) w := by
  intro lp J Jx W hbW hJ hJx hY hJ0
  have hs0 := hbW.size
  have hlt1 : b1 < w.heap.size := (Array.getElem?_eq_some_iff.1 h1).1
  have hlt2 : b2 < w.heap.size := (Array.getElem?_eq_some_iff.1 h2).1
  have h1' : W.at_ b1 = _ := (hbW.block b1 hlt1).trans h1
  refine callsIn_of_wp Try.func88 rfl trivial ?_ rfl; simp only [Try.ntmps88, List.size_toArray, List.length_cons, List.length_nil, Nat.reduceAdd, Nat.reduceSub, Array.replicate_succ, Array.replicate_zero, List.push_toArray, List.append_toArray, List.nil_append, List.cons_append]
  gi_wp2
  gi_loopw [8] (fun i wr => ∃ (k : Nat) (pre : List (Nat × Entry)), k ≤ l.length ∧ i = .int .i64 k ∧ usersFrom c 0 l = pre ++ usersFrom c k (l.drop k) ∧ J pre wr ∧ Below w.heap.size w wr) (fun i _ => l.length - (intOf i).toNat)
  case atStart => exact ⟨0, [], Nat.zero_le _, rfl, rfl, hJ0, hbW⟩
  case round =>
    obtain ⟨k, pre, hk, rfl, hd, hJr, hb0⟩ := hrel
    have hlt2' : wr.at_ b2 = _ := (hb0.block b2 hlt2).trans h2
    have hlt3 : b2 < wr.heap.size := Nat.lt_of_lt_of_le hlt2 hb0.size
    by_cases hlt : k < l.length
    · obtain ⟨b, off, ha, hbl, hrow⟩ := (h.below hb0).get hlt
      subst ha
      obtain ⟨c0, c1, c2, c3, c4, c5, c6⟩ := item_cells hrow
      rw [usersFrom_drop c l k k hlt] at hd
      by_cases hu : isUser c l[k] = true
      · rw [if_pos hu] at hd
        obtain ⟨fn, tmps, assign, body, hy, hR⟩ := hY pre (k, l[k].entry) (wr.alloc (.cells (encItem l[k]).toArray 35)) (hJ _ _ _ hJr ((Moves.refl _ wr).alloc _)) ⟨usersFrom c (k + 1) (l.drop (k + 1)), by rw [hd]; simp⟩
        simp only [encUser] at hy
        have H := Lib.hid hd; clear hd
        simp only [isUser, Bool.and_eq_true, decide_eq_true_eq] at hu
        obtain ⟨hu1, hu2⟩ := hu
        gi_wp2
        refine hR.mono ?_
        rintro e W3 (⟨rfl, hJ3, hk3⟩ | ⟨rfl, hJx3⟩)
        · gi_wp2
          go_roundw
          case rel => exact ⟨k + 1, pre ++ [(k, l[k].entry)], by omega, by go_num, by rw [H.out]; simp, hJ3, hk3.below (below_alloc hb0 _) (fun _ h => h)⟩
          case measure => simp [intOf]; omega
        · gi_wp2
          refine bodyPost_ret (results_none rfl _ _ _) rfl ?_
          exact ⟨⟨_, rfl⟩, .inr ⟨_, ⟨usersFrom c (k + 1) (l.drop (k + 1)), by rw [H.out]; simp⟩, hJx3⟩⟩
      · rw [if_neg hu] at hd
        have H := Lib.hid hd; clear hd
        have hJ' : J pre (wr.alloc (.cells (encItem l[k]).toArray 35)) := hJ _ _ _ hJr ((Moves.refl _ wr).alloc _)
        by_cases hu1 : l[k].entry.kind = 1
        · have hu2 : (l[k].entry.client == c) = false := by simp [isUser, hu1] at hu; simp [hu]
          gi_wp2
          refine ⟨(fun f hf => nomatch hf), ?_⟩
          gi_wp2
          go_roundw
          case rel => exact ⟨k + 1, pre, by omega, by go_num, H.out, hJ', by (repeat' (first | exact Below.refl _ _ | assumption | refine below_drew ?_ | refine below_drewN ?_ _ | refine below_alloc ?_ _ | refine below_call ?_ (by assumption) | refine below_put ?_ _ _ _ (by first | omega | (simp; omega)) | refine below_setCell ?_ _ _ (by first | (simp; omega) | (simp; done) | omega) | refine below_putObj ?_ _ _ (by first | omega | (simp; omega) | (simp; done))))⟩
          case measure => simp [intOf]; omega
        · have hu2 : (l[k].entry.kind == 1) = false := by simp [hu1]
          gi_wp2
          refine ⟨(fun f hf => nomatch hf), ?_⟩
          gi_wp2
          go_roundw
          case rel => exact ⟨k + 1, pre, by omega, by go_num, H.out, hJ', by (repeat' (first | exact Below.refl _ _ | assumption | refine below_drew ?_ | refine below_drewN ?_ _ | refine below_alloc ?_ _ | refine below_call ?_ (by assumption) | refine below_put ?_ _ _ _ (by first | omega | (simp; omega)) | refine below_setCell ?_ _ _ (by first | (simp; omega) | (simp; done) | omega) | refine below_putObj ?_ _ _ (by first | omega | (simp; omega) | (simp; done))))⟩
          case measure => simp [intOf]; omega
    · have hkl : k = l.length := by omega
      subst hkl
      simp only [List.drop_length, usersFrom, List.append_nil] at hd
      have H := Lib.hid hd; clear hd
      gi_wp2
      go_end0
      exact ⟨⟨_, rfl⟩, .inl (H.out ▸ hJr)⟩
end Go.Proofs.Ytgnebofjfmbccaa
