/-
  Laying a field: pack.put.
-/
import Derived.Test.YtgnebofjfmbccaaPh
set_option linter.all false
namespace Go.Proofs.Ytgnebofjfmbccaa
open Go.RowKit
theorem step_app {α : Type} {enc : α → List Value} {P : Program} {w : World} {ops : Array Oper} {o : Oper} {A : Act} {K : Act → World → Prop} {Q : Exit → Act → World → Prop} {F : Prop} (hgd : o.guard = none) (s x : Operand) (t : Nat)
    (ho : o.op = .call { callee := .builtin .append, args := #[s, x], argTypes := #[t, t] })
    (B E : Nat) (z : Value) (n bytes : Nat) (ht : P.underlying t = some (.slice E)) (hi : (P.info? E).map (fun i => (i.zero, i.size, i.bytes)) = some (some z, n, bytes))
    (hzs : z.cells.size = n) (hsz : 0 < n) (hn : ∀ x, (enc x).length = n) (h1 : ∀ x, ∀ u ∈ enc x, u.oneCell' = true)
    (v : Value) (l : List α) (hs : A.eval s = v) (hown : OwnSl enc n E w B v l) (a : Option Addr) (c : Nat) (m : List α) (hx : A.eval x = .slice a m.length c) (hsrc : SliceAt enc n w a m)
    (h63 : l.length + m.length ≤ 9223372036854775807) (hbytes : (l.length + m.length) * bytes ≤ 140737488355328) (hbase : B ≤ w.heap.size)
    (h : ∀ v' w', OwnSl enc n E w' B v' (l ++ m) → w.grownBy w' v.ownBlock → (v'.ownBlock = v.ownBlock ∨ v'.ownBlock = some w.heap.size) → K (A.put o.dst v') w') : if Region.wanted o (yielded ops A.tmps) = true then Oper.wp P o A w K Q else F := by
  rw [if_pos (by simp [Region.wanted, hgd])]
  obtain ⟨i, hi, hz, hsize, hby⟩ := info_parts hi
  obtain ⟨v', w', hr, h2, h3, h4⟩ := run_app (P := P) (w := w) B t o.type E i z n bytes ht hi hz hsize hby hzs hsz hn h1 v l hown a c m hsrc (by unfold maxLen; omega) hbytes hbase
  unfold Oper.wp execOp
  simp only [ho, resolve, invoke, builtin, Sem.run_bind, Sem.run_pure, Result.andThen_ok, List.map_toArray, List.map_cons, List.map_nil, hs, hx, hr]
  exact h v' w' h2 h3 h4
theorem step_appStr {ops : Array Oper} {o : Oper} {A : Act} {w : World} {K : Act → World → Prop} {Q : Exit → Act → World → Prop} {F : Prop} (hgd : o.guard = none) (sl x : Operand)
    (ho : o.op = .call { callee := .builtin .append, args := #[sl, x], argTypes := #[47, 9] })
    (B : Nat) (v : Value) (l : List UInt8) (hs : A.eval sl = v) (hown : OwnB w B v l) (d : List UInt8) (hx : A.eval x = .string (strOf d))
    (hbytes : l.length + d.length ≤ 140737488355328) (hbase : B ≤ w.heap.size)
    (h : ∀ v' w', OwnB w' B v' (l ++ d) → w.grownBy w' v.ownBlock → K (A.put o.dst v') w') : if Region.wanted o (yielded ops A.tmps) = true then Oper.wp Try.prog o A w K Q else F := by
  rw [if_pos (by simp [Region.wanted, hgd])]
  obtain ⟨i, hi, hz, hsize, hby⟩ := info_parts info_u8
  obtain ⟨v', w', hr, h2, h3, h4⟩ := Lib.run_append_own_string (P := Try.prog) w B 47 9 o.type 5 i Try.underlying47 Try.underlying9 hi hz hsize hby v l.length _ hown (strOf d) (by rw [strOf_size]; unfold maxLen; omega) (by rw [strOf_size]; omega) hbase
  unfold Oper.wp execOp
  simp only [ho, resolve, invoke, builtin, Sem.run_bind, Sem.run_pure, Result.andThen_ok, List.map_toArray, List.map_cons, List.map_nil, hs, hx, hr]
  refine h v' w' ?_ h3
  unfold OwnB
  rw [strOf_size, strCells_strOf] at h2
  rw [List.length_append, bcells_append]; exact h2
/-- Bytes have been laid behind a slice v of the caller's own. -/
def ResApp (B : Nat) (v : Value) (l : List UInt8) (w : World) (e : Ending) (w' : World) : Prop := ∃ v', e = .returned v' ∧ OwnB w' B v' l ∧ Moves (fun k => v.ownBlock = some k) w w'
theorem head_rows (tag : Int) (n : Nat) : (#[.int .u8 (tag % 256), .int .u8 ((n : Int) / 65536 % 256), .int .u8 ((n : Int) / 256 % 256), .int .u8 ((n : Int) % 256)] : Array Value) = (rowsOf encB (headB tag n)).toArray := by
  have e : bcells (headB tag n) = [.int .u8 (tag % 256), .int .u8 ((n : Int) / 65536 % 256), .int .u8 ((n : Int) / 256 % 256), .int .u8 ((n : Int) % 256)] := by
    rw [u8_cell tag, u8_cell ((n : Int) / 65536), u8_cell ((n : Int) / 256), u8_cell (n : Int)]; rfl
  unfold rowsOf
  rw [flatMap_encB, e]
end Go.Proofs.Ytgnebofjfmbccaa
