/-
  pack.Read: a row of fields, read.
-/
import Derived.Test.YtgnebofjfmbccaaPp
set_option linter.all false
namespace Go.Proofs.Ytgnebofjfmbccaa
open Go.RowKit
attribute [local go_sem] Oper.semAt_some
theorem wpListIn_app {α : Type} {enc : α → List Value} {F : Fence} {nf : Nat} {P : Program} {w : World} {ops : Array Oper} {rest : List Oper} {o : Oper} {A : Act} {Q : Exit → Act → World → Prop} (hgd : o.guard = none) (s x : Operand) (t : Nat)
    (ho : o.op = .call { callee := .builtin .append, args := #[s, x], argTypes := #[t, t] })
    (B E : Nat) (z : Value) (n bytes : Nat) (ht : P.underlying t = some (.slice E)) (hi : (P.info? E).map (fun i => (i.zero, i.size, i.bytes)) = some (some z, n, bytes))
    (hzs : z.cells.size = n) (hsz : 0 < n) (hn : ∀ x, (enc x).length = n) (h1 : ∀ x, ∀ u ∈ enc x, u.oneCell' = true)
    (v : Value) (l : List α) (hs : A.eval s = v) (hown : OwnSl enc n E w B v l) (a : Option Addr) (c : Nat) (m : List α) (hx : A.eval x = .slice a m.length c) (hsrc : SliceAt enc n w a m)
    (h63 : l.length + m.length ≤ 9223372036854775807) (hbytes : (l.length + m.length) * bytes ≤ 140737488355328) (hbase : B ≤ w.heap.size)
    (h : ∀ v' w', OwnSl enc n E w' B v' (l ++ m) → w.grownBy w' v.ownBlock → (v'.ownBlock = v.ownBlock ∨ v'.ownBlock = some w.heap.size) → wpListIn F nf P ops Q rest (A.put o.dst v') w') : wpListIn F nf P ops Q (o :: rest) A w :=
  wpListIn_plain hgd fun K hK => by
    obtain ⟨i, hi, hz, hsize, hby⟩ := info_parts hi
    obtain ⟨v', w', hr, h2, h3, h4⟩ := run_app (P := P) (w := w) B t o.type E i z n bytes ht hi hz hsize hby hzs hsz hn h1 v l hown a c m hsrc (by unfold maxLen; omega) hbytes hbase
    unfold Oper.wpIn
    refine ⟨?_, ?_⟩
    · simp [Oper.about, ho, resolve, Target.leads, Sem.run_pure]
    · rw [Oper.semAt_plain F _ _ (by rw [ho]; intro c hc'; cases hc')]
      simp only [execOp, ho, resolve, invoke, builtin, Sem.run_bind, Sem.run_pure, Result.andThen_ok, List.map_toArray, List.map_cons, List.map_nil, hs, hx, hr]
      exact hK _ _ (h v' w' h2 h3 h4)
theorem OwnSl.moves {α : Type} {enc : α → List Value} {n E : Nat} {M : Nat → Prop} {w w' : World} {B : Nat} {v : Value} {l : List α} (h : OwnSl enc n E w B v l) (hm : Moves M w w') (hM : ∀ k, M k → k < B) : OwnSl enc n E w' B v l := by
  rcases h with ⟨h1, h2 | ⟨g, c, cur, e1, hg, hh, rest⟩⟩
  · exact ⟨h1, .inl h2⟩
  · exact ⟨h1, .inr ⟨g, c, cur, e1, hg, (hm.at (k := g) hh (fun e => by have := hM g e; omega)), rest⟩⟩
theorem getF_len (l : List UInt8) : l ≠ [] → (getF l).2.2 = 0 → (l.drop (getF l).2.1).length + 4 ≤ l.length := by
  intro h h2
  have := getF_ok h2
  rw [List.length_drop]; omega
theorem yields_len (l : List UInt8) : (yields l).length ≤ l.length := by
  induction hn : l.length using Nat.strongRecOn generalizing l with
  | _ n ih =>
    by_cases h : l = []
    · subst h; rw [yields_nil]; simp
    · have hp : 0 < l.length := by cases l with | nil => exact absurd rfl h | cons _ _ => simp
      by_cases h2 : (getF l).2.2 = 0
      · rw [yields_ok h h2]
        have h3 := getF_len l h h2
        have := ih _ (by omega) (l.drop (getF l).2.1) rfl
        simp only [List.length_cons]; omega
      · rw [yields_bad h h2]; simp; omega
/-- What the rounds of pack.Read keep. -/
structure ReadI (w : World) (pre : List (Fld × Int)) (W : World) : Prop where
  below : Below w.heap.size w W
  r_ : W.at_ w.heap.size = some (.cells #[.slice none 0 0] 84)
  e_ : W.at_ (w.heap.size + 1) = some (.cells #[.int .i64 0] 38)
  l_ : ∃ v acc last, W.at_ (w.heap.size + 1 + 1) = some (.cells #[v] 84) ∧ W.at_ (w.heap.size + 1 + 1 + 1) = some (.cells #[.int .i64 last] 3) ∧ OwnSl encFld 2 96 W (w.heap.size + 7) v acc ∧ acc.length ≤ pre.length ∧ ∀ rest, rdA [] 0 (pre ++ rest) = rdA acc last rest
structure ReadX (w : World) (cd : Code) (pre : List (Fld × Int)) (W : World) : Prop where
  ret : cd = .ret
  below : Below w.heap.size w W
  r_ : W.at_ w.heap.size = some (.cells #[.slice none 0 0] 84)
  e_ : ∃ er, W.at_ (w.heap.size + 1) = some (.cells #[.int .i64 er] 38) ∧ ∀ rest, rdA [] 0 (pre ++ rest) = ([], er)
/-- A slice of rows of the call's own, and an error. -/
def ResSlE {α : Type} (enc : α → List Value) (n E : Nat) (l : List α) (er : Int) (w : World) (e : Ending) (w' : World) : Prop := ∃ v, e = .returned (.tuple #[v, .int .i64 er]) ∧ OwnSl enc n E w' w.heap.size v l ∧ Below w.heap.size w w'
theorem enters_fields1 : Enters Try.prog 118 := enters_of Try.func118 (by kernel_rfl) rfl
@[go_sem ↓] theorem buildSlice_fld (n : Nat) (ps : Array (Nat × Value)) : Instr.buildSlice 84 n ps = buildSl 84 n ps := rfl
@[go_sem] theorem run_buildSl1_fld (w : World) (x : Fld) : (buildSl 84 1 #[(0, .agg (encFld x).toArray)]).run Try.prog w = .ok (.slice (some ⟨w.heap.size, 0, none⟩) 1 1) (w.alloc (.cells (rowsOf encFld [x]).toArray 96)) :=
  run_buildRows encFld_length w [x] 1 rfl _ rfl Try.underlying84 sizeOnly_Fld zeroIs_Fld (by omega) (by omega)
set_option maxRecDepth 20000 in
set_option maxHeartbeats 2000000 in
theorem pack_Read (l : List UInt8) (a : Option Addr) (cap : Nat) (w : World) (h : BytesAt w a l) (hl : l.length ≤ 1000000000) (hcap : l.length ≤ cap) :
    Calls Try.prog 96 #[.slice a l.length cap] w (ResSlE encFld 2 96 (readF l).1 (readF l).2 w) := by
  refine (callsIn_wide (n := 5)).1 ?_; refine callsIn_of_wp_marks Try.func96 rfl trivial ?_ rfl; simp only [Try.ntmps96, List.size_toArray, List.length_cons, List.length_nil, Nat.reduceAdd, Nat.reduceSub, Array.replicate_succ, Array.replicate_zero, List.push_toArray, List.append_toArray, List.nil_append, List.cons_append]
  gi_wp2_with (refine ⟨trivial, ?_⟩; gi_at_call 113; refine (callsIn_wide.2 (pack_fields _ _ _ _)).mono ?_; rintro e w' ⟨rfl, rfl⟩)
  generalize hW0 : World.alloc (World.alloc (World.alloc (World.alloc (World.alloc w _) _) _) _) _ = W0
  have hb0 : Below w.heap.size w W0 := by rw [← hW0]; (repeat' (first | exact Below.refl _ _ | assumption | refine below_drew ?_ | refine below_drewN ?_ _ | refine below_alloc ?_ _ | refine below_call ?_ (by assumption) | refine below_put ?_ _ _ _ (by first | omega | (simp; omega)) | refine below_setCell ?_ _ _ (by first | (simp; omega) | (simp; done) | omega) | refine below_putObj ?_ _ _ (by first | omega | (simp; omega) | (simp; done))))
  have hs0 : W0.heap.size = w.heap.size + 1 + 1 + 1 + 1 + 1 := by rw [← hW0]; simp only [World.size_alloc]
  have a0 : W0.at_ w.heap.size = some (.cells #[.slice none 0 0] 84) := by rw [← hW0]; simp only [at_alloc, World.size_alloc]; (repeat (first | rw [if_pos trivial] | rw [if_pos rfl] | rw [if_neg (by omega)]))
  have a1 : W0.at_ (w.heap.size + 1) = some (.cells #[.int .i64 0] 38) := by rw [← hW0]; simp only [at_alloc, World.size_alloc]; (repeat (first | rw [if_pos trivial] | rw [if_pos rfl] | rw [if_neg (by omega)]))
  have a2 : W0.at_ (w.heap.size + 1 + 1) = some (.cells #[.slice none 0 0] 84) := by rw [← hW0]; simp only [at_alloc, World.size_alloc]; (repeat (first | rw [if_pos trivial] | rw [if_pos rfl] | rw [if_neg (by omega)]))
  have a3 : W0.at_ (w.heap.size + 1 + 1 + 1) = some (.cells #[.int .i64 0] 3) := by rw [← hW0]; simp only [at_alloc, World.size_alloc]; (repeat (first | rw [if_pos trivial] | rw [if_pos rfl] | rw [if_neg (by omega)]))
  have a4 : W0.at_ (w.heap.size + 1 + 1 + 1 + 1) = some (.cells #[.slice a l.length cap] 47) := by rw [← hW0]; simp only [at_alloc, World.size_alloc]; (repeat (first | rw [if_pos trivial] | rw [if_pos rfl] | rw [if_neg (by omega)]))
  clear hW0
  refine wp_range (M := (· = w.heap.size + 1 + 1 + 1 + 1)) (Kp := StaysP w.heap.size (w.heap.size + 1 + 1 + 1 + 1)) (encs := encY) (xs := yields l) 118 _ rfl enters_fields1 (pack_fields1 l a cap w W0 _ h hl hcap hb0 (by omega) a4) (fun k hk => by omega)
    Moves.trans (fun W o => Moves.putObj (Moves.refl _ W) _ _ (.inl (by simp; omega))) (fun x => rfl) (ReadI w) (ReadX w) ?_ ?_ ?_ ?_ ?_ ?_
  · intro pre W W' hi hm
    obtain ⟨v, acc, last, i1, i2, i3, i4, i5⟩ := hi.l_
    exact ⟨hm.below hi.below (fun k hk => by omega), hm.at hi.r_ (by omega), hm.at hi.e_ (by omega), v, acc, last, hm.at i1 (by omega), hm.at i2 (by omega), i3.moves hm (fun k hk => by omega), i4, i5⟩
  · intro cd pre W W' hi hm
    obtain ⟨er, i1, i2⟩ := hi.e_
    exact ⟨hi.ret, hm.below hi.below (fun k hk => by omega), hm.at hi.r_ (by omega), er, hm.at i1 (by omega), i2⟩
  · exact ⟨hb0, a0, a1, _, [], 0, a2, a3, OwnSl.nil _ _ _ _ _, by simp, fun rest => rfl⟩
  · intro pre x W hi hlt hpre
    obtain ⟨i1, i2, i3, v, acc, last, i4, i5, i6, i7, i8⟩ := hi
    simp only [encY]
    gi_wp2
    unfold Begun
    refine ⟨by rw [at_alloc, if_neg (by omega)], by rw [at_alloc, if_neg (by omega)], by simp; omega, ?_⟩
    intro W₂ hm2 hk2 hs2
    have e0 : W₂.at_ W.heap.size = some (.cells (encFld x.1).toArray 96) := hm2.at (by rw [at_alloc, if_pos rfl]) (by omega)
    have hm3 : Moves (· = W0.heap.size + 1) W W₂ := ((Moves.refl _ W).alloc _).trans hm2
    have j2 := hm3.at i2 (by omega)
    have j3 := hm3.at i3 (by omega)
    have j4 := hm3.at i4 (by omega)
    have j5 := hm3.at i5 (by omega)
    have j6 := i6.moves hm3 (fun k hk => by omega)
    have jb : Below w.heap.size w W₂ := hm3.below i1 (fun k hk => by omega)
    have hs2' : W.heap.size < W₂.heap.size := at_lt e0
    clear hs2 i2 i3 i4 i5
    obtain ⟨av, capv, rfl, hslv, hcv, hbv⟩ := j6.slice encFld_length
    have hob := i6.block
    by_cases hx : x.2 = 0
    · by_cases ht : x.1.tag ≤ last
      · have hx1 : (x.2 == 0) = true := by simp [hx]
        gi_wp2
        refine ⟨?_, ?_, rfl, ?_, ?_, 11, ?_, ?_⟩
        · exact setCell_other (by omega) (setCell_other (by omega) rfl)
        · exact setCell_other (by omega) (setCell_other (by omega) rfl)
        · (repeat' (first | exact Below.refl _ _ | assumption | refine below_drew ?_ | refine below_drewN ?_ _ | refine below_alloc ?_ _ | refine below_call ?_ (by assumption) | refine below_put ?_ _ _ _ (by first | omega | (simp; omega)) | refine below_setCell ?_ _ _ (by first | (simp; omega) | (simp; done) | omega) | refine below_putObj ?_ _ _ (by first | omega | (simp; omega) | (simp; done))))
        · exact setCell_other (by omega) (setCell_same j2)
        · exact setCell_same (setCell_other (by omega) j3)
        · intro rest
          rw [List.append_assoc, i8]
          simp [rdA, hx, ht]
      · have hx1 : (x.2 == 0) = true := by simp [hx]
        have hb63 : acc.length + 1 ≤ 1000000001 := by have := yields_len l; have := hpre.length_le; simp at this; omega
        gi_wp2_with (gi_at_builtin; refine wpListIn_app (enc := encFld) rfl _ _ 84 rfl (w.heap.size + 7) 96 _ 2 24 Try.underlying84 info_Fld rfl (by omega) encFld_length encFld_one _ acc rfl (j6.alloc _) _ 1 [x.1] rfl (sliceAt_rows encFld_length (at_alloc_new rfl)) (by simp; omega) (by simp; omega) (by simp; omega) ?_; intro v' w' hown' hg' hk'; have mg : Moves (fun k => (Value.slice av acc.length capv).ownBlock = some k) W₂ w' := Moves.grown ((Moves.refl _ _).alloc _) hg' (fun k hk => .inl hk); have q4 := mg.at j4 (fun e => by have := hob _ e; omega); have q5 := mg.at j5 (fun e => by have := hob _ e; omega); have q0 := mg.at e0 (fun e => by have := hob _ e; omega); obtain ⟨a', cap', rfl, hsl', hcap', hblk'⟩ := hown'.slice encFld_length; have hpl := at_lt q4; have hpl5 := at_lt q5)
        have mgs : Moves (fun k => w.heap.size + 7 ≤ k) W₂ w' := mg.mono (fun k hk => (hob k hk).1)
        have q2 := mgs.at j2 (by omega)
        have q3 := mgs.at j3 (by omega)
        have hsD : w.heap.size + 7 ≤ W₂.heap.size := by omega
        refine ⟨?_, ?_, ?_, ?_, ?_, ?_, ?_⟩
        · exact setCell_other (by omega) (setCell_other (by omega) (mgs.block _ (by omega) (by omega)))
        · exact setCell_other (by omega) (setCell_other (by omega) (mgs.block _ (by omega) (by omega)))
        · exact Moves.trans ((Moves.refl _ W).alloc _) (hk2 (Moves.setCell (Moves.setCell (mgs.mono (fun k hk => by omega)) _ _ (.inl (by refine ⟨?_, ?_⟩ <;> simp <;> omega))) _ _ (.inl (by refine ⟨?_, ?_⟩ <;> simp <;> omega))))
        · exact Moves.below (M := fun k => w.heap.size ≤ k) (Moves.setCell (Moves.setCell (mgs.mono (fun k hk => by omega)) _ _ (.inl (by simp; omega))) _ _ (.inl (by simp; omega))) jb (fun k hk => hk)
        · exact setCell_other (by omega) (setCell_other (by omega) q2)
        · exact setCell_other (by omega) (setCell_other (by omega) q3)
        · refine ⟨_, acc ++ [x.1], x.1.tag, setCell_other (by omega) (setCell_same q4), setCell_same (setCell_other (by omega) q5), OwnSl.setCell (OwnSl.setCell (by simpa using hown') _ _ (show w.heap.size + 1 + 1 < w.heap.size + 7 by omega)) _ _ (show w.heap.size + 1 + 1 + 1 < w.heap.size + 7 by omega), by simp; omega, fun rest => ?_⟩
          rw [List.append_assoc, i8, List.singleton_append, rdA, if_pos hx, if_neg (Int.not_le.2 ht)]
    · have hx1 : (x.2 == 0) = false := by simp [hx]
      have hx2 : (x.2 != 0) = true := by simp [hx]
      gi_wp2
      refine ⟨?_, ?_, rfl, ?_, ?_, x.2, ?_, ?_⟩
      · exact setCell_other (by omega) (setCell_other (by omega) rfl)
      · exact setCell_other (by omega) (setCell_other (by omega) rfl)
      · (repeat' (first | exact Below.refl _ _ | assumption | refine below_drew ?_ | refine below_drewN ?_ _ | refine below_alloc ?_ _ | refine below_call ?_ (by assumption) | refine below_put ?_ _ _ _ (by first | omega | (simp; omega)) | refine below_setCell ?_ _ _ (by first | (simp; omega) | (simp; done) | omega) | refine below_putObj ?_ _ _ (by first | omega | (simp; omega) | (simp; done))))
      · exact setCell_other (by omega) (setCell_same j2)
      · exact setCell_same (setCell_other (by omega) j3)
      · intro rest
        rw [List.append_assoc, i8]
        simp [rdA, hx]
  · intro W hi hlt hD
    obtain ⟨i1, i2, i3, v, acc, last, i4, i5, i6, i7, i8⟩ := hi
    obtain ⟨av, capv, rfl, hslv, hcv, hbv⟩ := i6.slice encFld_length
    have hlt2 := at_lt i2
    have hlt3 := at_lt i3
    have hr := i8 []
    simp only [List.append_nil, rdA] at hr
    have hr' : readF l = (acc, 0) := hr
    rw [hr']
    simp only [Exit.inBlock, Exit.then]
    gi_wp2
    refine leaves_mark (D := W0.heap.size) (v := .tuple #[.slice av acc.length capv, .int .i64 0]) (setCell_other (by omega) (setCell_other (by omega) hD))
      (results_two rfl (.cell (putObj_other (by omega) (setCell_other (by omega) (setCell_same i2))) rfl (by kernel_rfl) (by kernel_rfl)) (.cell (putObj_other (by omega) (setCell_same (setCell_other (by omega) i3))) rfl (by kernel_rfl) (by kernel_rfl))) ?_
    refine ⟨_, by rw [hr'], ?_, by (repeat' (first | exact Below.refl _ _ | assumption | refine below_drew ?_ | refine below_drewN ?_ _ | refine below_alloc ?_ _ | refine below_call ?_ (by assumption) | refine below_put ?_ _ _ _ (by first | omega | (simp; omega)) | refine below_setCell ?_ _ _ (by first | (simp; omega) | (simp; done) | omega) | refine below_putObj ?_ _ _ (by first | omega | (simp; omega) | (simp; done))))⟩
    rw [hr']
    exact OwnSl.base (OwnSl.moves i6 (Moves.putObj (Moves.setCell (Moves.setCell (Moves.refl (fun k => k < w.heap.size + 7) W) _ _ (.inl (by simp))) _ _ (.inl (by simp))) _ _ (.inl (by omega))) (fun k hk => hk)) (by omega)
  · intro cd pre W hpre hi hlt hD
    obtain ⟨rfl, i1, i2, er, i3, i4⟩ := hi
    obtain ⟨rest, hrest⟩ := hpre
    have hr' : readF l = ([], er) := by unfold readF; rw [← hrest]; exact i4 rest
    rw [hr']
    gi_wp2
    refine leaves_mark (D := W0.heap.size) (v := .tuple #[.slice none 0 0, .int .i64 er]) hD
      (results_two rfl (.cell (putObj_other (by omega) i2) rfl (by kernel_rfl) (by kernel_rfl)) (.cell (putObj_other (by omega) i3) rfl (by kernel_rfl) (by kernel_rfl))) ?_
    exact ⟨_, rfl, OwnSl.nil _ _ _ _ _, by (repeat' (first | exact Below.refl _ _ | assumption | refine below_drew ?_ | refine below_drewN ?_ _ | refine below_alloc ?_ _ | refine below_call ?_ (by assumption) | refine below_put ?_ _ _ _ (by first | omega | (simp; omega)) | refine below_setCell ?_ _ _ (by first | (simp; omega) | (simp; done) | omega) | refine below_putObj ?_ _ _ (by first | omega | (simp; omega) | (simp; done))))⟩
end Go.Proofs.Ytgnebofjfmbccaa
