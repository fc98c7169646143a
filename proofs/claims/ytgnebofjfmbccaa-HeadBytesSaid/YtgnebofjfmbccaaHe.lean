/-
  head.Get: the head that bytes are.
-/
import Derived.Test.YtgnebofjfmbccaaHd
import Derived.Test.YtgnebofjfmbccaaO
set_option linter.all false
namespace Go.Proofs.Ytgnebofjfmbccaa
open Go.RowKit
def hr1 (l : List UInt8) := nxtNum (rowOfB l) (okOf l)
def hr2 (l : List UInt8) := nxtNum (hr1 l).2.1 (hr1 l).2.2
def hr3 (l : List UInt8) := nxtNum (hr2 l).2.1 (hr2 l).2.2
def hr4 (l : List UInt8) := nxtDig (hr3 l).2.1 (hr3 l).2.2
def hr5 (l : List UInt8) := nxtNum (hr4 l).2.1 (hr4 l).2.2
def headOf (l : List UInt8) : Head := { region := (hr1 l).1, epoch := (hr2 l).1, size := (hr3 l).1, root := (hr4 l).1, tick := (hr5 l).1 }
def headGot (l : List UInt8) : Bool := (hr5 l).2.2 && (hr5 l).2.1.isEmpty && (headOf l).ok
def getHead (l : List UInt8) : Head := if headGot l then headOf l else Head.zero
def getHeadErr (l : List UInt8) : Int := if headGot l then 0 else 70
theorem setCell_off {w : World} {b k i : Nat} {v : Value} {o : Option Obj} (hk : k ≠ b) (h : w.at_ k = o) : (w.setCell ⟨b, i, none⟩ v).at_ k = o := by
  rw [at_setCell, if_neg hk, h]
def Short (ds : List (List UInt8)) : Prop := ∀ d ∈ ds, d.length ≤ 1000000000
theorem short_nxt {ds : List (List UInt8)} {ok : Bool} (h : Short ds) : Short (nxt ds ok).2.1 := by
  cases ds with
  | nil => exact h
  | cons d r => exact fun x hx => h x (by simp [nxt] at hx; simp [hx])
theorem short_row (l : List UInt8) (h : ∀ f ∈ (readF l).1, f.data.size ≤ 65536) : Short (rowOfB l) := by
  intro d hd
  obtain ⟨f, hf, rfl⟩ := List.mem_map.1 hd
  have := h f hf
  show f.data.data.toList.length ≤ _
  rw [Array.length_toList]
  exact Nat.le_trans this (by omega)
theorem getF_size' (l : List UInt8) (h : (getF l).2.2 = 0) : (getF l).1.data.size ≤ 65536 := by
  match l, h with
  | [], h => simp [getF] at h
  | [_], h => simp [getF] at h
  | [_, _], h => simp [getF] at h
  | [_, _, _], h => simp [getF] at h
  | t :: a :: b :: c :: r, h =>
    by_cases h1 : t = 0 ∨ 65536 < lenOf a b c
    · rw [getF, if_pos h1] at h; simp at h
    · by_cases h2 : r.length < lenOf a b c
      · rw [getF, if_neg h1, if_pos h2] at h; simp at h
      · rw [getF, if_neg h1, if_neg h2]
        simp only [strOf_size, List.length_take]
        have h3 : ¬ 65536 < lenOf a b c := fun h => h1 (.inr h)
        omega
theorem yields_size' (l : List UInt8) : ∀ x ∈ yields l, x.2 = 0 → x.1.data.size ≤ 65536 := by
  induction hn : l.length using Nat.strongRecOn generalizing l with
  | _ n ih =>
    intro x hx h0
    by_cases h : l = []
    · subst h; rw [yields_nil] at hx; cases hx
    · by_cases h2 : (getF l).2.2 = 0
      · rw [yields_ok h h2] at hx
        have h3 := getF_len l h h2
        rcases List.mem_cons.1 hx with rfl | hx
        · exact getF_size' l h2
        · exact ih _ (by omega) (l.drop (getF l).2.1) rfl x hx h0
      · rw [yields_bad h h2] at hx
        rw [List.mem_singleton.1 hx] at h0
        exact absurd h0 h2
theorem rdA_mem' (ys : List (Fld × Int)) : ∀ (acc : List Fld) (last : Int) (f : Fld), f ∈ (rdA acc last ys).1 → f ∈ acc ∨ (f, 0) ∈ ys := by
  induction ys with
  | nil => intro acc last f hf; exact .inl hf
  | cons y r ih =>
    intro acc last f hf
    unfold rdA at hf
    split at hf
    · split at hf
      · cases hf
      · rename_i h0 _
        rcases ih _ _ _ hf with h | h
        · rcases List.mem_append.1 h with h | h
          · exact .inl h
          · right
            rw [List.mem_singleton.1 h]
            rw [show (y.1, (0 : Int)) = y by rw [← h0]]
            exact List.mem_cons_self
        · exact .inr (List.mem_cons_of_mem _ h)
    · cases hf
theorem readF_size' (l : List UInt8) : ∀ f ∈ (readF l).1, f.data.size ≤ 65536 := by
  intro f hf
  rcases rdA_mem' _ _ _ _ hf with h | h
  · cases h
  · exact yields_size' l _ h rfl
set_option maxRecDepth 20000 in
set_option maxHeartbeats 4000000 in
theorem head_Get (l : List UInt8) (a : Option Addr) (cap : Nat) (w : World) (h : BytesAt w a l) (hl : l.length ≤ 1000000000) (hcap : l.length ≤ cap) :
    Calls Try.prog 31 #[.slice a l.length cap] w (Res2 (.agg (encHead (getHead l)).toArray) (.int .i64 (getHeadErr l)) w) := by
  have s0 := short_row l (readF_size' l)
  have s1 : Short (hr1 l).2.1 := short_nxt s0
  have s2 : Short (hr2 l).2.1 := short_nxt s1
  have s3 : Short (hr3 l).2.1 := short_nxt s2
  have s4 : Short (hr4 l).2.1 := short_nxt s3
  go_enter Try.func31, Try.ntmps31
  go_wp2_with fail
  generalize hW : World.alloc (World.alloc (World.alloc w _) _) _ = W
  have hbW : Below w.heap.size w W := by rw [← hW]; (repeat' (first | exact Below.refl _ _ | assumption | refine below_drew ?_ | refine below_drewN ?_ _ | refine below_alloc ?_ _ | refine below_call ?_ (by assumption) | refine below_put ?_ _ _ _ (by first | omega | (simp; omega)) | refine below_setCell ?_ _ _ (by first | (simp; omega) | (simp; done) | omega) | refine below_putObj ?_ _ _ (by first | omega | (simp; omega) | (simp; done))))
  have hsW : W.heap.size = w.heap.size + 1 + 1 + 1 := by rw [← hW]; simp only [World.size_alloc]
  have rD : W.at_ w.heap.size = some (.cells (encHead Head.zero).toArray 27) := by rw [← hW]; simp only [at_alloc, World.size_alloc]; (repeat (first | rw [if_pos trivial] | rw [if_pos rfl] | rw [if_neg (by omega)]))
  have rK : W.at_ (w.heap.size + 1) = some (.cells #[.bool false] 4) := by rw [← hW]; simp only [at_alloc, World.size_alloc]; (repeat (first | rw [if_pos trivial] | rw [if_pos rfl] | rw [if_neg (by omega)]))
  have hH : W.at_ (w.heap.size + 1 + 1) = some (.cells (encHead Head.zero).toArray 27) := by rw [← hW]; simp only [at_alloc, World.size_alloc]; (repeat (first | rw [if_pos trivial] | rw [if_pos rfl] | rw [if_neg (by omega)]))
  clear hW
  (go_at_call 68; refine (head_of l _ _ _ _ _ (SliceAt.below h hbW) hl hcap rK).mono ?_; rintro e w1 ⟨R, rfl, hst, hm⟩)
  have hH := hm.at hH (by omega)
  have rD := hm.at rD (by omega)
  have hM : Moves (fun k => w.heap.size ≤ k) W w1 := hm.mono (fun k hk => by omega)
  have hC := Nat.le_refl w1.heap.size
  have hRl : W.heap.size ≤ R := hst.ge
  clear hm rK
  go_wp2_with fail
  have c1 : Calls Try.prog 69 #[.pointer (some ⟨R, 0, none⟩), .pointer (some ⟨w.heap.size + 1, 0, none⟩)] _ (ResRow (.int .i64 (hr1 l).1) R (w.heap.size + 1) W.heap.size _ (hr1 l).2.1 (hr1 l).2.2 _) := head_number R _ _ _ _ _ _ hst s0
  (go_at_call 69; refine c1.mono ?_; rintro e w2 ⟨rfl, hst2, hm⟩)
  have hH2 := hm.at hH (by omega)
  have rD2 := hm.at rD (by omega)
  have hM2 : Moves (fun k => w.heap.size ≤ k) W w2 := hM.trans (hm.mono (fun k hk => by omega))
  have hC2 := Nat.le_trans hC hm.size
  have hHl := at_lt hH2
  clear hst hm hH rD hM hC c1
  go_wp2_with fail
  generalize hV : World.setCell w2 _ _ = V
  have hst := hst2.moves (M := (· = w.heap.size + 1 + 1)) (w' := V) (by rw [← hV]; exact Moves.setCell (Moves.refl _ _) _ _ (.inl rfl)) (fun k hk => by omega)
  have hH := setCell_list (v := .int .i64 (hr1 l).1) (i := 0) hH2
  rw [encHead_set_region, hV] at hH
  have rD : V.at_ w.heap.size = some (.cells (encHead Head.zero).toArray 27) := by rw [← hV]; exact setCell_off (by omega) rD2
  have hM : Moves (fun k => w.heap.size ≤ k) W V := by rw [← hV]; exact Moves.setCell hM2 _ _ (.inl (by show _ ≤ w.heap.size + 1 + 1; omega))
  have hC : w1.heap.size ≤ V.heap.size := by rw [← hV, World.size_setCell]; exact hC2
  clear hV hst2 hH2 rD2 hM2 hC2 hHl w2
  have c2 : Calls Try.prog 69 #[.pointer (some ⟨R, 0, none⟩), .pointer (some ⟨w.heap.size + 1, 0, none⟩)] _ (ResRow (.int .i64 (hr2 l).1) R (w.heap.size + 1) W.heap.size _ (hr2 l).2.1 (hr2 l).2.2 _) := head_number R _ _ _ _ _ _ hst s1
  (go_at_call 69; refine c2.mono ?_; rintro e w2 ⟨rfl, hst2, hm⟩)
  have hH2 := hm.at hH (by omega)
  have rD2 := hm.at rD (by omega)
  have hM2 : Moves (fun k => w.heap.size ≤ k) W w2 := hM.trans (hm.mono (fun k hk => by omega))
  have hC2 := Nat.le_trans hC hm.size
  have hHl := at_lt hH2
  clear hst hm hH rD hM hC c2
  go_wp2_with fail
  generalize hV : World.setCell w2 _ _ = V
  have hst := hst2.moves (M := (· = w.heap.size + 1 + 1)) (w' := V) (by rw [← hV]; exact Moves.setCell (Moves.refl _ _) _ _ (.inl rfl)) (fun k hk => by omega)
  have hH := setCell_list (v := .int .i64 (hr2 l).1) (i := 1) hH2
  rw [encHead_set_epoch, hV] at hH
  have rD : V.at_ w.heap.size = some (.cells (encHead Head.zero).toArray 27) := by rw [← hV]; exact setCell_off (by omega) rD2
  have hM : Moves (fun k => w.heap.size ≤ k) W V := by rw [← hV]; exact Moves.setCell hM2 _ _ (.inl (by show _ ≤ w.heap.size + 1 + 1; omega))
  have hC : w1.heap.size ≤ V.heap.size := by rw [← hV, World.size_setCell]; exact hC2
  clear hV hst2 hH2 rD2 hM2 hC2 hHl w2
  have c3 : Calls Try.prog 69 #[.pointer (some ⟨R, 0, none⟩), .pointer (some ⟨w.heap.size + 1, 0, none⟩)] _ (ResRow (.int .i64 (hr3 l).1) R (w.heap.size + 1) W.heap.size _ (hr3 l).2.1 (hr3 l).2.2 _) := head_number R _ _ _ _ _ _ hst s2
  (go_at_call 69; refine c3.mono ?_; rintro e w2 ⟨rfl, hst2, hm⟩)
  have hH2 := hm.at hH (by omega)
  have rD2 := hm.at rD (by omega)
  have hM2 : Moves (fun k => w.heap.size ≤ k) W w2 := hM.trans (hm.mono (fun k hk => by omega))
  have hC2 := Nat.le_trans hC hm.size
  have hHl := at_lt hH2
  clear hst hm hH rD hM hC c3
  go_wp2_with fail
  generalize hV : World.setCell w2 _ _ = V
  have hst := hst2.moves (M := (· = w.heap.size + 1 + 1)) (w' := V) (by rw [← hV]; exact Moves.setCell (Moves.refl _ _) _ _ (.inl rfl)) (fun k hk => by omega)
  have hH := setCell_list (v := .int .i64 (hr3 l).1) (i := 2) hH2
  rw [encHead_set_size, hV] at hH
  have rD : V.at_ w.heap.size = some (.cells (encHead Head.zero).toArray 27) := by rw [← hV]; exact setCell_off (by omega) rD2
  have hM : Moves (fun k => w.heap.size ≤ k) W V := by rw [← hV]; exact Moves.setCell hM2 _ _ (.inl (by show _ ≤ w.heap.size + 1 + 1; omega))
  have hC : w1.heap.size ≤ V.heap.size := by rw [← hV, World.size_setCell]; exact hC2
  clear hV hst2 hH2 rD2 hM2 hC2 hHl w2
  have c4 : Calls Try.prog 70 #[.pointer (some ⟨R, 0, none⟩), .pointer (some ⟨w.heap.size + 1, 0, none⟩)] _ (ResRow (.agg (encDig (hr4 l).1).toArray) R (w.heap.size + 1) W.heap.size _ (hr4 l).2.1 (hr4 l).2.2 _) := head_digest R _ _ _ _ _ _ hst hC
  (go_at_call 70; refine c4.mono ?_; rintro e w2 ⟨rfl, hst2, hm⟩)
  have hH2 := hm.at hH (by omega)
  have rD2 := hm.at rD (by omega)
  have hM2 : Moves (fun k => w.heap.size ≤ k) W w2 := hM.trans (hm.mono (fun k hk => by omega))
  have hC2 := Nat.le_trans hC hm.size
  have hHl := at_lt hH2
  clear hst hm hH rD hM hC c4
  go_wp2_with fail
  generalize hV : World.put_ w2 _ _ _ = V
  have hst := hst2.moves (M := (· = w.heap.size + 1 + 1)) (w' := V) (by rw [← hV]; exact Moves.put_ (Moves.refl _ _) _ _ _ (.inl rfl)) (fun k hk => by omega)
  have hH := put_list (m := encDig (hr4 l).1) (k := 3) hH2
  rw [encHead_put_root, hV] at hH
  have rD : V.at_ w.heap.size = some (.cells (encHead Head.zero).toArray 27) := by rw [← hV]; exact put_other (by omega) rD2
  have hM : Moves (fun k => w.heap.size ≤ k) W V := by rw [← hV]; exact Moves.put_ hM2 _ _ _ (.inl (by omega))
  have hC : w1.heap.size ≤ V.heap.size := by rw [← hV, size_put]; exact hC2
  clear hV hst2 hH2 rD2 hM2 hC2 hHl w2
  have c5 : Calls Try.prog 69 #[.pointer (some ⟨R, 0, none⟩), .pointer (some ⟨w.heap.size + 1, 0, none⟩)] _ (ResRow (.int .i64 (hr5 l).1) R (w.heap.size + 1) W.heap.size _ (hr5 l).2.1 (hr5 l).2.2 _) := head_number R _ _ _ _ _ _ hst s4
  (go_at_call 69; refine c5.mono ?_; rintro e w2 ⟨rfl, hst2, hm⟩)
  have hH2 := hm.at hH (by omega)
  have rD2 := hm.at rD (by omega)
  have hM2 : Moves (fun k => w.heap.size ≤ k) W w2 := hM.trans (hm.mono (fun k hk => by omega))
  have hC2 := Nat.le_trans hC hm.size
  have hHl := at_lt hH2
  clear hst hm hH rD hM hC c5
  simp only [] at hH2
  have hgot : headGot l = ((hr5 l).2.2 && (hr5 l).2.1.isEmpty && (headOf l).ok) := rfl
  have hof : headOf l = { region := (hr1 l).1, epoch := (hr2 l).1, size := (hr3 l).1, root := (hr4 l).1, tick := (hr5 l).1 } := rfl
  generalize (hr1 l).1 = n1 at *
  generalize (hr2 l).1 = n2 at *
  generalize (hr3 l).1 = n3 at *
  generalize (hr4 l).1 = n4 at *
  generalize (hr5 l).1 = n5 at *
  generalize (hr5 l).2.1 = ds at *
  generalize (hr5 l).2.2 = ok at *
  have hH2' : w2.at_ (w.heap.size + 1 + 1) = some (.cells (encHead { region := n1, epoch := n2, size := n3, root := n4, tick := Head.zero.tick }).toArray 27) := hH2
  clear hH2
  have hset := encHead_set_tick { region := n1, epoch := n2, size := n3, root := n4, tick := Head.zero.tick } n5
  rw [show ({ ({ region := n1, epoch := n2, size := n3, root := n4, tick := Head.zero.tick } : Head) with tick := n5 } : Head) = headOf l from hof.symm] at hset
  have hK5 := hst2.k
  obtain ⟨a5, cap5, hR5, hsl5, hcap5, hblk5⟩ := hst2.r
  have hRl5 := at_lt hR5
  have hKl5 := at_lt hK5
  have hbW2 : Below w.heap.size w w2 := hM2.below hbW (fun k hk => hk)
  clear hof
  generalize hof : headOf l = hd at *
  cases ok
  · have hg : getHead l = Head.zero ∧ getHeadErr l = 70 := by simp [getHead, getHeadErr, hgot]
    go_wp2
    have rF := put_list (k := 0) (m := encHead Head.zero) (setCell_off (b := w.heap.size + 1 + 1) (i := 35) (v := .int .i64 n5) (by omega) rD2)
    rw [splice_all _ _ (by simp only [ln_encHead])] at rF
    refine bodyPost_ret (results_two rfl (.agg 36 (g := w.heap.size) rF rfl (by kernel_rfl) (encHead_length _)) .tmp) rfl ?_
    exact ⟨by rw [hg.1, hg.2]; rfl, by (repeat' (first | exact Below.refl _ _ | assumption | refine below_drew ?_ | refine below_drewN ?_ _ | refine below_alloc ?_ _ | refine below_call ?_ (by assumption) | refine below_put ?_ _ _ _ (by first | omega | (simp; omega)) | refine below_setCell ?_ _ _ (by first | (simp; omega) | (simp; done) | omega) | refine below_putObj ?_ _ _ (by first | omega | (simp; omega) | (simp; done))))⟩
  · cases ds with
    | cons d r =>
      have hg : getHead l = Head.zero ∧ getHeadErr l = 70 := by simp [getHead, getHeadErr, hgot]
      go_wp2
      have rF := put_list (k := 0) (m := encHead Head.zero) (setCell_off (b := w.heap.size + 1 + 1) (i := 35) (v := .int .i64 n5) (by omega) rD2)
      rw [splice_all _ _ (by simp only [ln_encHead])] at rF
      refine bodyPost_ret (results_two rfl (.agg 36 (g := w.heap.size) rF rfl (by kernel_rfl) (encHead_length _)) .tmp) rfl ?_
      exact ⟨by rw [hg.1, hg.2]; rfl, by (repeat' (first | exact Below.refl _ _ | assumption | refine below_drew ?_ | refine below_drewN ?_ _ | refine below_alloc ?_ _ | refine below_call ?_ (by assumption) | refine below_put ?_ _ _ _ (by first | omega | (simp; omega)) | refine below_setCell ?_ _ _ (by first | (simp; omega) | (simp; done) | omega) | refine below_putObj ?_ _ _ (by first | omega | (simp; omega) | (simp; done))))⟩
    | nil =>
      cases hok : hd.ok
      · have hg : getHead l = Head.zero ∧ getHeadErr l = 70 := by simp [getHead, getHeadErr, hgot, hok]
        go_wp2_with ((go_at_call 29; refine (headCheck_no hok _).mono ?_; rintro e w1 ⟨rfl, hb⟩; have ha := below_rule hb; have hs := hb.size; (try simp only [World.size_alloc, World.size_setCell, size_put, World.size_drew] at hs)))
        have rF := put_list (k := 0) (m := encHead Head.zero) (at_below hb (setCell_off (b := w.heap.size + 1 + 1) (i := 35) (v := .int .i64 n5) (by omega) rD2))
        rw [splice_all _ _ (by simp only [ln_encHead])] at rF
        refine bodyPost_ret (results_two rfl (.agg 36 (g := w.heap.size) rF rfl (by kernel_rfl) (encHead_length _)) .tmp) rfl ?_
        exact ⟨by rw [hg.1, hg.2]; rfl, by (repeat' (first | exact Below.refl _ _ | assumption | refine below_drew ?_ | refine below_drewN ?_ _ | refine below_alloc ?_ _ | refine below_call ?_ (by assumption) | refine below_put ?_ _ _ _ (by first | omega | (simp; omega)) | refine below_setCell ?_ _ _ (by first | (simp; omega) | (simp; done) | omega) | refine below_putObj ?_ _ _ (by first | omega | (simp; omega) | (simp; done))))⟩
      · have hg : getHead l = hd ∧ getHeadErr l = 0 := by rw [hok] at hgot; exact ⟨by unfold getHead; rw [if_pos (by rw [hgot]; rfl)]; exact hof, by unfold getHeadErr; rw [if_pos (by rw [hgot]; rfl)]⟩
        go_wp2_with ((go_at_call 29; refine (headCheck_ok hok _).mono ?_; rintro e w1 ⟨rfl, hb⟩; have ha := below_rule hb; have hs := hb.size; (try simp only [World.size_alloc, World.size_setCell, size_put, World.size_drew] at hs)))
        have rF := put_list (k := 0) (m := encHead hd) (at_below hb (setCell_off (b := w.heap.size + 1 + 1) (i := 35) (v := .int .i64 n5) (by omega) rD2))
        rw [splice_all _ _ (by simp only [ln_encHead])] at rF
        refine bodyPost_ret (results_two rfl (.agg 36 (g := w.heap.size) rF rfl (by kernel_rfl) (encHead_length _)) .tmp) rfl ?_
        exact ⟨by rw [hg.1, hg.2]; rfl, by (repeat' (first | exact Below.refl _ _ | assumption | refine below_drew ?_ | refine below_drewN ?_ _ | refine below_alloc ?_ _ | refine below_call ?_ (by assumption) | refine below_put ?_ _ _ _ (by first | omega | (simp; omega)) | refine below_setCell ?_ _ _ (by first | (simp; omega) | (simp; done) | omega) | refine below_putObj ?_ _ _ (by first | omega | (simp; omega) | (simp; done))))⟩
end Go.Proofs.Ytgnebofjfmbccaa
