/-
  entry.PutClaim: a claim's bytes, or why it has none.
-/
import Derived.Test.YtgnebofjfmbccaaPm
import Derived.Test.YtgnebofjfmbccaaPl
set_option linter.all false
namespace Go.Proofs.Ytgnebofjfmbccaa
open Go.RowKit
set_option maxRecDepth 20000 in
theorem entry_bytes (l : List Fld) (a : Option Addr) (cap : Nat) (w : World) (h : SliceAt encFld 2 w a l) (hl : l.length ≤ 1000) :
    Calls Try.prog 53 #[.slice a l.length cap] w (ResBE (layA [] 0 l).1 (layA [] 0 l).2 w) := by
  go_enter Try.func53, Try.ntmps53
  go_wp2_with (go_at_call 92; refine (pack_Lay l _ _ _ h hl).mono ?_; rintro e w1 ⟨v1, rfl, hown, hb⟩; have ha := below_rule hb; have hs := hb.size; (try simp only [World.size_alloc, World.size_setCell, size_put, World.size_drew] at hs))
  go_ret2
  exact ⟨_, rfl, hown, by (repeat' (first | exact Below.refl _ _ | assumption | refine below_drew ?_ | refine below_drewN ?_ _ | refine below_alloc ?_ _ | refine below_call ?_ (by assumption) | refine below_put ?_ _ _ _ (by first | omega | (simp; omega)) | refine below_setCell ?_ _ _ (by first | (simp; omega) | (simp; done) | omega) | refine below_putObj ?_ _ _ (by first | omega | (simp; omega) | (simp; done))))⟩
theorem lay_claim (c : Claim) : layA [] 0 (fldsFrom 0 (claimParts c)) = (claimB c, 0) := by
  have := layA_row (claimParts c) 0 [] (by simp [claimParts]) (claimParts_len c)
  simpa [claimB] using this
theorem tell_cases (b : Bool) : tell b = 0 ∧ b = true ∨ tell b = 60 ∧ b = false := by cases b <;> simp [tell]
theorem checkClaim_ok {c : Claim} (h : c.ok = true) (w : World) : Calls Try.prog 24 #[.agg (encClaim c).toArray] w (Res (.int .i64 0) w) := by
  have := entry_CheckClaim c w
  rw [h] at this; exact this
set_option maxRecDepth 20000 in
set_option maxHeartbeats 2000000 in
theorem entry_PutClaim (c : Claim) (w : World) : Calls Try.prog 22 #[.agg (encClaim c).toArray] w (ResBE (claimOut c) (claimErr c) w) := by
  cases hok : c.ok
  · rw [show claimOut c = [] by simp [claimOut, hok], show claimErr c = 60 by simp [claimErr, hok]]
    have hq : tell c.ok = 60 := by rw [hok]; rfl
    go_enter Try.func22, Try.ntmps22
    go_wp2_with ((go_at_call 24; refine (entry_CheckClaim _ _).mono ?_; rintro e w1 ⟨rfl, hb⟩; have ha := below_rule hb; have hs := hb.size; (try simp only [World.size_alloc, World.size_setCell, size_put, World.size_drew] at hs)))
    go_ret2
    exact ⟨_, rfl, ownB_nil _ _, by (repeat' (first | exact Below.refl _ _ | assumption | refine below_drew ?_ | refine below_drewN ?_ _ | refine below_alloc ?_ _ | refine below_call ?_ (by assumption) | refine below_put ?_ _ _ _ (by first | omega | (simp; omega)) | refine below_setCell ?_ _ _ (by first | (simp; omega) | (simp; done) | omega) | refine below_putObj ?_ _ _ (by first | omega | (simp; omega) | (simp; done))))⟩
  · rw [show claimOut c = claimB c by simp [claimOut, hok], show claimErr c = 0 by simp [claimErr, hok]]
    go_enter Try.func22, Try.ntmps22
    go_wp2_with ((go_at_call 24; refine (checkClaim_ok hok _).mono ?_; rintro e w1 ⟨rfl, hb⟩; have ha := below_rule hb; have hs := hb.size; (try simp only [World.size_alloc, World.size_setCell, size_put, World.size_drew] at hs)))
    generalize hW : World.alloc (World.alloc w1 _) _ = W
    have hbW : Below w.heap.size w W := by rw [← hW]; (repeat' (first | exact Below.refl _ _ | assumption | refine below_drew ?_ | refine below_drewN ?_ _ | refine below_alloc ?_ _ | refine below_call ?_ (by assumption) | refine below_put ?_ _ _ _ (by first | omega | (simp; omega)) | refine below_setCell ?_ _ _ (by first | (simp; omega) | (simp; done) | omega) | refine below_putObj ?_ _ _ (by first | omega | (simp; omega) | (simp; done))))
    have rC : W.at_ w.heap.size = some (.cells (encClaim c).toArray 31) := by rw [← hW]; (repeat' (first | assumption | exact at_alloc_new (by simp; done) | refine at_alloc_old ?_ _ | refine setCell_other (by omega) ?_ | rw [at_drew] | refine at_below (by assumption) ?_))
    have rP : W.at_ w1.heap.size = some (.cells #[.slice none 0 0] 85) := by rw [← hW]; (repeat' (first | assumption | exact at_alloc_new (by simp; done) | refine at_alloc_old ?_ _ | refine setCell_other (by omega) ?_ | rw [at_drew] | refine at_below (by assumption) ?_))
    have rI : W.at_ (w1.heap.size + 1) = some (.cells #[.int .i64 c.region, .int .i64 c.epoch, .int .i64 c.node, .int .i64 c.size] 3) := by rw [← hW]; (repeat' (first | assumption | exact at_alloc_new (by simp; done) | refine at_alloc_old ?_ _ | refine setCell_other (by omega) ?_ | rw [at_drew] | refine at_below (by assumption) ?_))
    have hlt := at_lt rI
    clear hW ha hb
    generalize w1.heap.size = p at *
    go_loopw [23] (fun i wr => ∃ (k : Nat) (v : Value), k ≤ 4 ∧ i = .int .i64 k ∧ wr.at_ p = some (.cells #[v] 85) ∧ OwnSl encFld 2 96 wr (p + 2) v ((fldsFrom 0 (claimParts c)).take k) ∧ Moves (fun k => k = p ∨ p + 2 ≤ k) W wr) (fun i _ => 4 - (intOf i).toNat)
    case atStart => exact ⟨0, _, by omega, rfl, rP, OwnSl.nil _ _ _ _ _, Moves.refl _ _⟩
    case round =>
      obtain ⟨k, v, hk, rfl, hP, hown, hm⟩ := hrel
      have hI := hm.at rI (by omega)
      have hsz := at_lt hI
      have hlen : ((fldsFrom 0 (claimParts c)).take k).length ≤ 1000 := by simp; omega
      by_cases hlt4 : k < 4
      · obtain ⟨n, hn1, hn2⟩ : ∃ n, cellOf (wr.at_ (p + 1)) k = some (.int .i64 n) ∧ (fldsFrom 0 (claimParts c)).take (k + 1) = (fldsFrom 0 (claimParts c)).take k ++ [⟨(k : Int) + 1, strOf (numB n)⟩] := by
          rw [hI]
          rcases (show k = 0 ∨ k = 1 ∨ k = 2 ∨ k = 3 by omega) with rfl | rfl | rfl | rfl
          all_goals exact ⟨_, rfl, rfl⟩
        clear hI
        go_wp2_with (go_at_call 51; refine (entry_n p (p + 2) _ _ v _ _ hP hown (by omega) (by omega) hlen).mono ?_; rintro e w2 ⟨⟨u, rfl⟩, v', h1, h2, h3⟩)
        go_roundw
        case rel => exact ⟨k + 1, v', by omega, by go_num, h1, by rw [hn2]; exact h2, hm.trans (h3.mono (fun k hk => by omega))⟩
        case measure => simp [intOf]; omega
      · have hk4 : k = 4 := by omega
        subst hk4
        have rC' := hm.at rC (by omega)
        go_wp2_with (first | (go_at_call 52; refine (entry_s p (p + 2) _ _ v _ _ hP hown (by omega) (by omega) hlen).mono ?_; rintro e w2 ⟨⟨u, rfl⟩, v', h1, h2, h3⟩; obtain ⟨a', cap', rfl, hsl', hcap', hblk'⟩ := h2.slice encFld_length) | (go_at_call 53; refine (entry_bytes _ _ _ _ hsl' (by simp; omega)).mono ?_; rintro e w3 ⟨v3, rfl, hown3, hb3⟩))
        have hl : layA [] 0 (List.take 4 (fldsFrom 0 (claimParts c)) ++ [{ tag := 5, data := strOf c.root.l }]) = (claimB c, 0) := lay_claim c
        rw [hl] at hown3
        rw [hl]
        go_ret2
        have hm2 : Moves (fun k => k = p ∨ p + 2 ≤ k) W w3 := (hm.trans (h3.mono (fun k hk => by omega))).call hb3
        exact ⟨_, rfl, (OwnSl.base (OwnB.sl hown3) (by have := h3.size; have := hm.size; have := hbW.size; omega)).b, hm2.below hbW (fun k hk => by omega)⟩
end Go.Proofs.Ytgnebofjfmbccaa
