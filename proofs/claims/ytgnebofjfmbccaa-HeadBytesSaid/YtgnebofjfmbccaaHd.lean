/-
  head.Get: the head that bytes are.
-/
import Derived.Test.YtgnebofjfmbccaaHc
import Derived.Test.YtgnebofjfmbccaaHb
set_option linter.all false
namespace Go.Proofs.Ytgnebofjfmbccaa
open Go.RowKit
def tagsOk : Nat → List Fld → Bool
  | _, [] => true
  | k, f :: r => decide (f.tag = (k : Int) + 1) && tagsOk (k + 1) r
theorem tagsOk_drop (l : List Fld) (k : Nat) (hk : k < l.length) : tagsOk k (l.drop k) = (decide (l[k].tag = (k : Int) + 1) && tagsOk (k + 1) (l.drop (k + 1))) := by
  rw [List.drop_eq_getElem_cons hk]; rfl
def fdata (f : Fld) : List UInt8 := f.data.data.toList
def rowOfB (l : List UInt8) : List (List UInt8) := (readF l).1.map fdata
def okOf (l : List UInt8) : Bool := decide ((readF l).2 = 0) && tagsOk 0 (readF l).1
theorem readF_len' (l : List UInt8) : (readF l).1.length ≤ l.length := by
  have key : ∀ (ys : List (Fld × Int)) (acc : List Fld) (last : Int), (rdA acc last ys).1.length ≤ acc.length + ys.length := by
    intro ys
    induction ys with
    | nil => intro acc last; simp [rdA]
    | cons y r ih =>
      intro acc last
      unfold rdA
      split
      · split
        · simp
        · have := ih (acc ++ [y.1]) y.1.tag
          simp at this ⊢; omega
      · simp
  have := key (yields l) [] 0
  have h2 := yields_len l
  unfold readF
  simp at this; omega
def ResOf (K : Nat) (ds : List (List UInt8)) (ok : Bool) (w : World) (e : Ending) (w' : World) : Prop :=
  ∃ R, e = .returned (.pointer (some ⟨R, 0, none⟩)) ∧ RowSt w' R K w.heap.size w'.heap.size ds ok ∧ Moves (· = K) w w'
set_option maxRecDepth 20000 in
set_option maxHeartbeats 2000000 in
theorem head_of (l : List UInt8) (a : Option Addr) (cap K : Nat) (b0 : Bool) (w : World) (h : BytesAt w a l) (hl : l.length ≤ 1000000000) (hcap : l.length ≤ cap) (hK : w.at_ K = some (.cells #[.bool b0] 4)) :
    Calls Try.prog 68 #[.slice a l.length cap, .pointer (some ⟨K, 0, none⟩)] w (ResOf K (rowOfB l) (okOf l) w) := by
  have hKl := at_lt hK
  have hfl := readF_len' l
  unfold rowOfB okOf
  have hRd := fun w h => pack_Read l a cap w h hl hcap
  generalize (readF l).1 = fl at *
  generalize (readF l).2 = er at *
  go_enter Try.func68, Try.ntmps68
  go_wp2_with (go_at_call 96; refine (hRd _ h).mono ?_; rintro e w1 ⟨v1, rfl, hown, hb⟩; have hK1 := at_below hb hK; have hKl1 := at_lt hK1; obtain ⟨a1, cap1, rfl, hsl1, hcap1, hblk1⟩ := hown.slice encFld_length; have hs1 := hb.size)
  rw [show (er == 0) = decide (er = 0) from rfl]
  generalize decide (er = 0) = e0 at *
  generalize hW : World.alloc (World.setCell w1 _ _) _ = W
  have rR : W.at_ w1.heap.size = some (.cells #[.slice none 0 0] 100) := by rw [← hW]; exact at_alloc_new (by rw [World.size_setCell])
  have rK : W.at_ K = some (.cells #[.bool e0] 4) := by rw [← hW]; exact at_alloc_old (setCell_same hK1) _
  have hmW : Moves (· = K) w W := by rw [← hW]; exact (Moves.setCell (M := (· = K)) (Moves.of_below hb) _ _ (.inl rfl)).alloc _
  have hslW : SliceAt encFld 2 W a1 fl := by
    rw [← hW]
    exact SliceAt.moves (M := (· = K)) hsl1 ((Moves.setCell (M := (· = K)) (Moves.refl _ w1) _ _ (.inl rfl)).alloc _) (fun b e => by have := hblk1 b e; omega)
  have hRW := at_lt rR
  clear hW hsl1 hown hK1 hb hRd
  generalize w1.heap.size = R at *
  go_loopw [21] (fun i wr => ∃ (k : Nat) (v : Value) (okk : Bool), k ≤ fl.length ∧ i = .int .i64 k ∧ wr.at_ R = some (.cells #[v] 100) ∧ OwnSl encS 1 9 wr (R + 1) v ((fl.take k).map fdata) ∧ wr.at_ K = some (.cells #[.bool okk] 4) ∧ (e0 && tagsOk 0 fl) = (okk && tagsOk k (fl.drop k)) ∧ Moves (fun k => k = K ∨ R ≤ k) W wr) (fun i _ => fl.length - (intOf i).toNat)
  case atStart => exact ⟨0, _, e0, Nat.zero_le _, rfl, rR, OwnSl.nil _ _ _ _ _, rK, rfl, Moves.refl _ _⟩
  case round =>
    obtain ⟨k, v, okk, hk, rfl, hRr, hown, hKr, hd, hm⟩ := hrel
    have hslr : SliceAt encFld 2 wr a1 fl := hslW.moves hm (fun b e => by have := hblk1 b e; omega)
    have hlR := at_lt hRr
    have hlK := at_lt hKr
    have hlen : ((fl.take k).map fdata).length = k := by rw [List.length_map, List.length_take]; omega
    by_cases hlt : k < fl.length
    · obtain ⟨b, off, ha, hbl, hrow⟩ := hslr.get hlt
      subst ha
      have hbR := hblk1 _ rfl
      rw [tagsOk_drop fl k hlt] at hd
      rcases (show fl[k].tag = (k : Int) + 1 ∧ decide (fl[k].tag = (k : Int) + 1) = true ∨ (fl[k].tag == (k : Int) + 1) = false ∧ decide (fl[k].tag = (k : Int) + 1) = false by by_cases ht : fl[k].tag = (k : Int) + 1 <;> simp [ht]) with ⟨ht, ht'⟩ | ⟨ht, ht'⟩
      all_goals
        rw [ht'] at hd
        cases okk
        all_goals
          have H := Lib.hid hd; clear hd
          go_wp2_with (at_builtin; refine wpList_app (enc := encS) rfl _ _ 100 rfl (R + 1) 9 _ 1 16 Try.underlying100 info_str rfl (by omega) encS_length encS_one _ _ rfl (OwnSl.alloc (OwnSl.alloc (OwnSl.setCell hown _ _ (by show K < R + 1; omega)) _) _) _ 1 [fdata fl[k]] rfl (sliceAt_rows (xs := [fdata fl[k]]) encS_length (t := 9) (fr := (0, 0)) (at_alloc_new (by simp))) (by rw [hlen]; simp; omega) (by rw [hlen]; simp; omega) (by simp; omega) ?_; intro v' w' hown' hg' hk'; have hpw : w'.at_ R = some (.cells #[v] 100) := (hg'.block R (by simp; omega) (fun e => by have := (hown.block R e.symm).1; omega)).trans (at_alloc_old (at_alloc_old (setCell_other (by omega) hRr) _) _); obtain ⟨a', cap', rfl, hsl', hcap', hblk'⟩ := hown'.slice encS_length; have hpl := at_lt hpw)
          go_roundw
          case rel =>
            refine ⟨k + 1, _, _, by omega, by go_num, setCell_same hpw, ?_, ?_, (H.out.trans (Bool.and_assoc _ _ _).symm), ?_⟩
            · rw [List.take_succ_eq_append_getElem hlt, List.map_append]
              exact OwnSl.setCell (by simpa [Nat.min_eq_left hk] using hown') _ _ (by show R < R + 1; omega)
            · refine setCell_other (by omega) ((hg'.block K (by simp; omega) (fun e => by have := (hown.block K e.symm).1; omega)).trans (at_alloc_old (at_alloc_old (setCell_same hKr) _) _))
            · refine Moves.setCell (Moves.grown (((Moves.setCell (M := fun k => k = K ∨ R ≤ k) hm _ _ (.inl (.inl rfl))).alloc _).alloc _) hg' (fun j hj => .inl (.inr ?_))) _ _ (.inl (.inr (Nat.le_refl _)))
              have := (hown.block j hj).1
              omega
          case measure => simp [intOf]; omega
    · have hkl : k = fl.length := by omega
      subst hkl
      simp only [List.drop_length, tagsOk, Bool.and_true] at hd
      rw [List.take_length] at hown hlen
      obtain ⟨av, capv, rfl, hslv, hcv, hbv⟩ := hown.slice encS_length
      have H := Lib.hid hd; clear hd
      go_wp2
      go_ret
      rw [H.out]
      refine ⟨R, rfl, ⟨⟨av, capv, hRr, hslv, hcv, fun b e => by have := hbv b e; omega⟩, hKr, hKl, hs1, hlR⟩, ?_⟩
      exact ⟨hm.os.trans hmW.os, hm.tape.trans hmW.tape, hm.output.trans hmW.output, Nat.le_trans hmW.size hm.size, fun j hj hjm => (hm.block j (Nat.lt_of_lt_of_le hj hmW.size) (by omega)).trans (hmW.block j hj hjm)⟩
end Go.Proofs.Ytgnebofjfmbccaa
