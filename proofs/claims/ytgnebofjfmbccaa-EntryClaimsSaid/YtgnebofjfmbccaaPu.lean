/-
  entry.GetClaim: the claim that bytes are.
-/
import Derived.Test.YtgnebofjfmbccaaPr
import Derived.Test.YtgnebofjfmbccaaPt
import Derived.Test.YtgnebofjfmbccaaPn
set_option linter.all false
namespace Go.Proofs.Ytgnebofjfmbccaa
open Go.RowKit
theorem run_strAt (w : World) (a : Option Addr) (cap : Nat) (l : List UInt8) (h : BytesAt w a l) : (strConv (.slice a l.length cap)).run Try.prog w = .ok (.string (strOf l)) w :=
  run_str Try.underlying47 Try.underlying5 Try.underlying9 w a cap l h
set_option maxRecDepth 20000 in
theorem bytes_Equal (l m : List UInt8) (a b : Option Addr) (ca cb : Nat) (w : World) (h : BytesAt w a l) (h' : BytesAt w b m) :
    Calls Try.prog 97 #[.slice a l.length ca, .slice b m.length cb] w (Res (.bool (l == m)) w) := by
  have h1 := run_strAt w a ca l h
  have h2 := run_strAt w b cb m h'
  go_enter Try.func97, Try.ntmps97
  go_wp2
  go_ret
  exact ⟨rfl, by (repeat' (first | exact Below.refl _ _ | assumption | refine below_drew ?_ | refine below_drewN ?_ _ | refine below_alloc ?_ _ | refine below_call ?_ (by assumption) | refine below_put ?_ _ _ _ (by first | omega | (simp; omega)) | refine below_setCell ?_ _ _ (by first | (simp; omega) | (simp; done) | omega) | refine below_putObj ?_ _ _ (by first | omega | (simp; omega) | (simp; done))))⟩
theorem getF_size (l : List UInt8) (h : (getF l).2.2 = 0) : (getF l).1.data.size ≤ 65536 := by
  match l, h with
  | [], h => simp [getF] at h
  | [_], h => simp [getF] at h
  | [_, _], h => simp [getF] at h
  | [_, _, _], h => simp [getF] at h
  | t :: a :: b :: c :: r, h =>
    by_cases h1 : t = 0 ∨ 65536 < lenOf a b c
    · rw [getF, if_pos h1] at h; simp at h
    · by_cases h2 : r.length < lenOf a b c
      · rw [getF, if_neg h1, if_pos h2] at h; simp at h
      · rw [getF, if_neg h1, if_neg h2]
        simp only [strOf_size, List.length_take]
        have h3 : ¬ 65536 < lenOf a b c := fun h => h1 (.inr h)
        omega
theorem yields_size (l : List UInt8) : ∀ x ∈ yields l, x.2 = 0 → x.1.data.size ≤ 65536 := by
  induction hn : l.length using Nat.strongRecOn generalizing l with
  | _ n ih =>
    intro x hx h0
    by_cases h : l = []
    · subst h; rw [yields_nil] at hx; cases hx
    · by_cases h2 : (getF l).2.2 = 0
      · rw [yields_ok h h2] at hx
        have h3 := getF_len l h h2
        rcases List.mem_cons.1 hx with rfl | hx
        · exact getF_size l h2
        · exact ih _ (by omega) (l.drop (getF l).2.1) rfl x hx h0
      · rw [yields_bad h h2] at hx
        rw [List.mem_singleton.1 hx] at h0
        exact absurd h0 h2
theorem rdA_mem (ys : List (Fld × Int)) : ∀ (acc : List Fld) (last : Int) (f : Fld), f ∈ (rdA acc last ys).1 → f ∈ acc ∨ (f, 0) ∈ ys := by
  induction ys with
  | nil => intro acc last f hf; exact .inl hf
  | cons y r ih =>
    intro acc last f hf
    unfold rdA at hf
    split at hf
    · split at hf
      · cases hf
      · rename_i h0 _
        rcases ih _ _ _ hf with h | h
        · rcases List.mem_append.1 h with h | h
          · exact .inl h
          · right
            rw [List.mem_singleton.1 h]
            rw [show (y.1, (0 : Int)) = y by rw [← h0]]
            exact List.mem_cons_self
        · exact .inr (List.mem_cons_of_mem _ h)
    · cases hf
theorem readF_size (l : List UInt8) : ∀ f ∈ (readF l).1, f.data.size ≤ 65536 := by
  intro f hf
  rcases rdA_mem _ _ _ _ hf with h | h
  · cases h
  · exact yields_size l _ h rfl
theorem readF_len (l : List UInt8) : (readF l).1.length ≤ l.length := by
  have key : ∀ (ys : List (Fld × Int)) (acc : List Fld) (last : Int), (rdA acc last ys).1.length ≤ acc.length + ys.length := by
    intro ys
    induction ys with
    | nil => intro acc last; simp [rdA]
    | cons y r ih =>
      intro acc last
      unfold rdA
      split
      · split
        · simp
        · have := ih (acc ++ [y.1]) y.1.tag
          simp at this ⊢; omega
      · simp
  have := key (yields l) [] 0
  have h2 := yields_len l
  unfold readF
  simp at this; omega
theorem claimOut_len (c : Claim) : (claimOut c).length ≤ 1000 := by
  unfold claimOut; split
  · exact claimB_len c
  · simp
set_option maxRecDepth 20000 in
set_option maxHeartbeats 2000000 in
theorem entry_got_Claim (l : List UInt8) (a : Option Addr) (cap : Nat) (w : World) (h : BytesAt w a l) (hl : l.length ≤ 1000000000) (hcap : l.length ≤ cap) :
    Calls Try.prog 58 #[.slice a l.length cap, .func (.func 59) #[] #[], .func (.func 22) #[] #[]] w
      (Res2 (.agg (encClaim (getClaim l)).toArray) (.int .i64 (getClaimErr l)) w) := by
  go_enter Try.func58, Try.ntmps58
  go_wp2_with (go_at_call 96; refine (pack_Read l _ _ _ (SliceAt.below h (by (repeat' (first | exact Below.refl _ _ | assumption | refine below_drew ?_ | refine below_drewN ?_ _ | refine below_alloc ?_ _ | refine below_call ?_ (by assumption) | refine below_put ?_ _ _ _ (by first | omega | (simp; omega)) | refine below_setCell ?_ _ _ (by first | (simp; omega) | (simp; done) | omega) | refine below_putObj ?_ _ _ (by first | omega | (simp; omega) | (simp; done)))))) hl hcap).mono ?_; rintro e w1 ⟨v1, rfl, hown, hb⟩; obtain ⟨a1, cap1, rfl, hsl1, hcap1, hblk1⟩ := hown.slice encFld_length; have ha := below_rule hb; have hs := hb.size; (try simp only [World.size_alloc, World.size_setCell, size_put, World.size_drew] at hs))
  have r0 : w1.at_ w.heap.size = some (.cells (encClaim Claim.zero).toArray 31) := by refine at_below hb ?_; simp only [at_alloc, World.size_alloc]; (repeat (first | rw [if_pos trivial] | rw [if_pos rfl] | rw [if_neg (by omega)]))
  have rX : w1.at_ (w.heap.size + 1) = some (.cells (encClaim Claim.zero).toArray 31) := by refine at_below hb ?_; simp only [at_alloc, World.size_alloc]; (repeat (first | rw [if_pos trivial] | rw [if_pos rfl] | rw [if_neg (by omega)]))
  have rN : w1.at_ (w.heap.size + 1 + 1) = some (.cells (encClaim Claim.zero).toArray 31) := by refine at_below hb ?_; simp only [at_alloc, World.size_alloc]; (repeat (first | rw [if_pos trivial] | rw [if_pos rfl] | rw [if_neg (by omega)]))
  have hbw : Below w.heap.size w w1 := by (repeat' (first | exact Below.refl _ _ | assumption | refine below_drew ?_ | refine below_drewN ?_ _ | refine below_alloc ?_ _ | refine below_call ?_ (by assumption) | refine below_put ?_ _ _ _ (by first | omega | (simp; omega)) | refine below_setCell ?_ _ _ (by first | (simp; omega) | (simp; done) | omega) | refine below_putObj ?_ _ _ (by first | omega | (simp; omega) | (simp; done))))
  have hblk : ∀ b, a1 = some b → w.heap.size + 1 + 1 + 1 ≤ b.block := fun b e => by have := (hblk1 b e).1; simp only [World.size_alloc] at this; exact this
  clear ha hb hown hblk1
  have hfs := readF_size l
  have hfl := readF_len l
  have hfold : (readF l).1.foldl takeC Claim.zero = claimOf l := rfl
  have hgot : claimGot l = (decide ((readF l).2 = 0) && (claimOf l).ok && decide (claimB (claimOf l) = l)) := rfl
  generalize (readF l).2 = er at *
  generalize (readF l).1 = fl at *
  go_loopw [23] (fun i wr => ∃ (k : Nat), k ≤ fl.length ∧ i = .int .i64 k ∧ wr.at_ (w.heap.size + 1) = some (.cells (encClaim ((fl.take k).foldl takeC Claim.zero)).toArray 31) ∧ Moves (· = w.heap.size + 1) w1 wr) (fun i _ => fl.length - (intOf i).toNat)
  case atStart => exact ⟨0, Nat.zero_le _, rfl, rX, Moves.refl _ _⟩
  case round =>
    obtain ⟨k, hk, rfl, hX, hm⟩ := hrel
    have hslr : SliceAt encFld 2 wr a1 fl := by
      rcases hsl1 with h0 | ⟨b, off, rfl, hlt, hs1⟩
      · exact .inl h0
      · have := hblk _ rfl
        refine .inr ⟨b, off, rfl, Nat.lt_of_lt_of_le hlt hm.size, fun i x hx => ?_⟩
        have e : wr.at_ b = w1.at_ b := hm.block b hlt (fun e => by simp only [] at this; omega)
        rw [e]; exact hs1 i x hx
    have hlX := at_lt hX
    by_cases hlt : k < fl.length
    · obtain ⟨b, off, ha, hbl, hrow⟩ := hslr.get hlt
      subst ha
      have hmem := hfs _ (List.getElem_mem hlt)
      go_wp2_with (go_at_call 59; refine (entry_GetClaim1 (w.heap.size + 1) _ _ _ (at_alloc_old hX _) (by omega)).mono ?_; rintro e w2 ⟨⟨u, rfl⟩, hX2, hm2⟩)
      go_roundw
      case rel => exact ⟨k + 1, by omega, by go_num, by rw [hX2, List.take_succ_eq_append_getElem hlt, List.foldl_append]; rfl, (hm.alloc _).trans hm2⟩
      case measure => simp [intOf]; omega
    · have hkl : k = fl.length := by omega
      subst hkl
      rw [List.take_length, hfold] at hX
      have r0' := hm.at r0 (by omega)
      have rN' := hm.at rN (by omega)
      have hbr : Below w.heap.size w wr := hm.below hbw (fun k hk => by omega)
      have hout := claimOut_len (claimOf l)
      have hPut := entry_PutClaim (claimOf l)
      by_cases he : er = 0
      · have hq : (er == 0) = true := by simp [he]
        by_cases hok : (claimOf l).ok = true
        · rw [show claimOut (claimOf l) = claimB (claimOf l) by simp [claimOut, hok], show claimErr (claimOf l) = 0 by simp [claimErr, hok]] at hPut
          by_cases heq : claimB (claimOf l) = l
          · have hg : getClaim l = claimOf l ∧ getClaimErr l = 0 := by simp [getClaim, getClaimErr, hgot, he, hok, heq]
            have hq2 : (claimB (claimOf l) == l) = true := by simp [heq]
            generalize claimB (claimOf l) = out at *
            clear heq hgot
            go_wp2_with (first | (go_at_call 22; refine (hPut _).mono ?_; rintro e w2 ⟨v2, rfl, hown2, hb2⟩; obtain ⟨a2, cap2, rfl, hsl2, hcap2, hblk2⟩ := hown2.sl.slice encB_length; have hs2 := hb2.size; have hX2 := at_below hb2 hX; have r02 := at_below hb2 r0'; have rN2 := at_below hb2 rN'; have hbr2 := hbr.trans (hb2.mono hbr.size)) | (go_at_call 97; refine (bytes_Equal _ _ _ _ _ _ _ hsl2 (SliceAt.below h hbr2)).mono ?_; rintro e w3 ⟨rfl, hb3⟩; have hs3 := hb3.size; have hX3 := at_below hb3 hX2; have r03 := at_below hb3 r02; have rN3 := at_below hb3 rN2; have hbr3 := hbr2.trans (hb3.mono hbr2.size)))
            have rF := put_list (l := encClaim Claim.zero) (k := 0) (m := encClaim (claimOf l)) r03
            rw [splice_all _ _ (by simp only [ln_encClaim])] at rF
            refine bodyPost_ret (results_two rfl (.agg 36 (g := w.heap.size) rF rfl (by kernel_rfl) (encClaim_length _)) .tmp) rfl ?_
            exact ⟨by rw [hg.1, hg.2]; rfl, by (repeat' (first | exact Below.refl _ _ | assumption | refine below_drew ?_ | refine below_drewN ?_ _ | refine below_alloc ?_ _ | refine below_call ?_ (by assumption) | refine below_put ?_ _ _ _ (by first | omega | (simp; omega)) | refine below_setCell ?_ _ _ (by first | (simp; omega) | (simp; done) | omega) | refine below_putObj ?_ _ _ (by first | omega | (simp; omega) | (simp; done))))⟩
          · have hg : getClaim l = Claim.zero ∧ getClaimErr l = 60 := by simp [getClaim, getClaimErr, hgot, heq]
            have hq2 : (claimB (claimOf l) == l) = false := by simp [heq]
            generalize claimB (claimOf l) = out at *
            clear heq hgot
            go_wp2_with (first | (go_at_call 22; refine (hPut _).mono ?_; rintro e w2 ⟨v2, rfl, hown2, hb2⟩; obtain ⟨a2, cap2, rfl, hsl2, hcap2, hblk2⟩ := hown2.sl.slice encB_length; have hs2 := hb2.size; have hX2 := at_below hb2 hX; have r02 := at_below hb2 r0'; have rN2 := at_below hb2 rN'; have hbr2 := hbr.trans (hb2.mono hbr.size)) | (go_at_call 97; refine (bytes_Equal _ _ _ _ _ _ _ hsl2 (SliceAt.below h hbr2)).mono ?_; rintro e w3 ⟨rfl, hb3⟩; have hs3 := hb3.size; have hX3 := at_below hb3 hX2; have r03 := at_below hb3 r02; have rN3 := at_below hb3 rN2; have hbr3 := hbr2.trans (hb3.mono hbr2.size)))
            have rF := put_list (l := encClaim Claim.zero) (k := 0) (m := encClaim Claim.zero) r03
            rw [splice_all _ _ (by simp only [ln_encClaim])] at rF
            refine bodyPost_ret (results_two rfl (.agg 36 (g := w.heap.size) rF rfl (by kernel_rfl) (encClaim_length _)) .tmp) rfl ?_
            exact ⟨by rw [hg.1, hg.2]; rfl, by (repeat' (first | exact Below.refl _ _ | assumption | refine below_drew ?_ | refine below_drewN ?_ _ | refine below_alloc ?_ _ | refine below_call ?_ (by assumption) | refine below_put ?_ _ _ _ (by first | omega | (simp; omega)) | refine below_setCell ?_ _ _ (by first | (simp; omega) | (simp; done) | omega) | refine below_putObj ?_ _ _ (by first | omega | (simp; omega) | (simp; done))))⟩
        · rw [show claimOut (claimOf l) = [] by simp [claimOut, hok], show claimErr (claimOf l) = 60 by simp [claimErr, hok]] at hPut
          have hg : getClaim l = Claim.zero ∧ getClaimErr l = 60 := by simp [getClaim, getClaimErr, hgot, hok]
          clear hgot
          go_wp2_with ((go_at_call 22; refine (hPut _).mono ?_; rintro e w2 ⟨v2, rfl, hown2, hb2⟩; obtain ⟨a2, cap2, rfl, hsl2, hcap2, hblk2⟩ := hown2.sl.slice encB_length; have hs2 := hb2.size; have hX2 := at_below hb2 hX; have r02 := at_below hb2 r0'; have rN2 := at_below hb2 rN'; have hbr2 := hbr.trans (hb2.mono hbr.size)))
          have rF := put_list (l := encClaim Claim.zero) (k := 0) (m := encClaim Claim.zero) r02
          rw [splice_all _ _ (by simp only [ln_encClaim])] at rF
          refine bodyPost_ret (results_two rfl (.agg 36 (g := w.heap.size) rF rfl (by kernel_rfl) (encClaim_length _)) .tmp) rfl ?_
          exact ⟨by rw [hg.1, hg.2]; rfl, by (repeat' (first | exact Below.refl _ _ | assumption | refine below_drew ?_ | refine below_drewN ?_ _ | refine below_alloc ?_ _ | refine below_call ?_ (by assumption) | refine below_put ?_ _ _ _ (by first | omega | (simp; omega)) | refine below_setCell ?_ _ _ (by first | (simp; omega) | (simp; done) | omega) | refine below_putObj ?_ _ _ (by first | omega | (simp; omega) | (simp; done))))⟩
      · have hq : (er == 0) = false := by simp [he]
        have hg : getClaim l = Claim.zero ∧ getClaimErr l = 60 := by simp [getClaim, getClaimErr, hgot, he]
        generalize claimOut (claimOf l) = out at *
        generalize claimErr (claimOf l) = ce at *
        clear hgot
        go_wp2_with ((go_at_call 22; refine (hPut _).mono ?_; rintro e w2 ⟨v2, rfl, hown2, hb2⟩; obtain ⟨a2, cap2, rfl, hsl2, hcap2, hblk2⟩ := hown2.sl.slice encB_length; have hs2 := hb2.size; have hX2 := at_below hb2 hX; have r02 := at_below hb2 r0'; have rN2 := at_below hb2 rN'; have hbr2 := hbr.trans (hb2.mono hbr.size)))
        have rF := put_list (l := encClaim Claim.zero) (k := 0) (m := encClaim Claim.zero) r02
        rw [splice_all _ _ (by simp only [ln_encClaim])] at rF
        refine bodyPost_ret (results_two rfl (.agg 36 (g := w.heap.size) rF rfl (by kernel_rfl) (encClaim_length _)) .tmp) rfl ?_
        exact ⟨by rw [hg.1, hg.2]; rfl, by (repeat' (first | exact Below.refl _ _ | assumption | refine below_drew ?_ | refine below_drewN ?_ _ | refine below_alloc ?_ _ | refine below_call ?_ (by assumption) | refine below_put ?_ _ _ _ (by first | omega | (simp; omega)) | refine below_setCell ?_ _ _ (by first | (simp; omega) | (simp; done) | omega) | refine below_putObj ?_ _ _ (by first | omega | (simp; omega) | (simp; done))))⟩
set_option maxRecDepth 20000 in
theorem entry_GetClaim (l : List UInt8) (a : Option Addr) (cap : Nat) (w : World) (h : BytesAt w a l) (hl : l.length ≤ 1000000000) (hcap : l.length ≤ cap) :
    Calls Try.prog 26 #[.slice a l.length cap] w (Res2 (.agg (encClaim (getClaim l)).toArray) (.int .i64 (getClaimErr l)) w) := by
  go_enter Try.func26, Try.ntmps26
  go_wp2_with ((go_at_call 58; refine (entry_got_Claim l _ _ _ (SliceAt.below h (by (repeat' (first | exact Below.refl _ _ | assumption | refine below_drew ?_ | refine below_drewN ?_ _ | refine below_alloc ?_ _ | refine below_call ?_ (by assumption) | refine below_put ?_ _ _ _ (by first | omega | (simp; omega)) | refine below_setCell ?_ _ _ (by first | (simp; omega) | (simp; done) | omega) | refine below_putObj ?_ _ _ (by first | omega | (simp; omega) | (simp; done)))))) hl hcap).mono ?_; rintro e w1 ⟨rfl, hb⟩; have ha := below_rule hb; have hs := hb.size; (try simp only [World.size_alloc, World.size_setCell, size_put, World.size_drew] at hs)))
  have hr : w1.at_ w.heap.size = some (.cells (encClaim Claim.zero).toArray 31) := at_below hb (at_alloc_new rfl)
  have rF := put_list (l := encClaim Claim.zero) (k := 0) (m := encClaim (getClaim l)) hr
  rw [splice_all _ _ (by simp only [ln_encClaim])] at rF
  refine bodyPost_ret (results_two rfl (.agg 36 (g := w.heap.size) rF rfl (by kernel_rfl) (encClaim_length _)) .tmp) rfl ?_
  exact ⟨rfl, by (repeat' (first | exact Below.refl _ _ | assumption | refine below_drew ?_ | refine below_drewN ?_ _ | refine below_alloc ?_ _ | refine below_call ?_ (by assumption) | refine below_put ?_ _ _ _ (by first | omega | (simp; omega)) | refine below_setCell ?_ _ _ (by first | (simp; omega) | (simp; done) | omega) | refine below_putObj ?_ _ _ (by first | omega | (simp; omega) | (simp; done))))⟩
end Go.Proofs.Ytgnebofjfmbccaa
