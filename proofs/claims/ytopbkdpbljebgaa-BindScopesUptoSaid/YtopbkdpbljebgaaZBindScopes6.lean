/- The law BindScopes of annalslaw17 holds: for all arguments of bulk at most 1048576 the call returns true and the arguments read as before. Condition: the bound of the second form. -/
import Derived.Test.YtopbkdpbljebgaaZBindScopes5
import Derived.ChangeMaps5
/- The law BindScopes of annalslaw17 holds: for all arguments of bulk at most 1048576 the call returns true and the arguments read as before. Condition: the bound of the second form. -/
set_option linter.unusedSimpArgs false
set_option linter.unusedVariables false
namespace Go.Proofs.Ytopbkdpbljebgaa.bindScopes
open Go.ChangeShapes Go.WideShapes Go.ChangeAt Go.RowKit
theorem sum_le_succ {α : Type} (f : α → Nat) : ∀ l : List α, (l.map f).sum ≤ (l.map fun x => f x + 1).sum
  | [] => by simp
  | a :: l => by simp only [List.map_cons, List.sum_cons]; have := sum_le_succ f l; omega
set_option maxRecDepth 100000 in
theorem contract (H : Type) (enc : TypeId × Value → H) (W : World) (base : Nat) (args : Array Value) (ds gs : List (DataW H)) (before : List MemPlace)
    (hval : ∀ (j : Nat) t v, Try.f3.params[j]? = some t → args[j]? = some v → Value.okWide Try.prog W .any base t v)
    (hW : DataW.Whole enc Try.prog Try.f3.params.toList Rows.bindScopesSpec.vars false W args.toList ds gs before) (hk : Rows.uptoSmall H (ds ++ gs) = true) :
    Calls Try.prog 3 args W fun e W' => ∃ v, e = .returned v ∧ Rows.bindScopesSpec.post enc Try.prog Try.f3 false true false false W args v W' := by
  have hW0 := hW
  obtain ⟨p, q, hA0, hV, rfl, hfz, hnd⟩ := hW
  have hA : DataW.TrodAll enc Try.prog W 0 (fun _ => true) true Try.f3.params.toList args.toList ds p := hA0
  rw [Try.params3] at hA hval
  obtain ⟨v0, v1, v2, d0, d1, d2, p0, p1, p2, rfl, rfl, rfl, h0, h1, h2⟩ := trodAll_three hA
  obtain ⟨rfl, rfl⟩ := trodVars_none hV
  have hbulk := Try.upto_bound hk
  rw [List.append_nil] at hbulk
  clear hA0 hV hk
  obtain ⟨sa0, sl0, sc0, rfl⟩ := okWide_slice Try.underlying22 (hval 0 22 v0 rfl rfl)
  obtain ⟨fu0, t0⟩ := h0
  obtain ⟨sv0, l0, hc0, hs0, hB0, hL0⟩ := open_slice_R (enc := enc) (P := Try.prog) (W := W) (R := TbR W) (B := fun t => t.cols.length + 1) Try.underlying22 (show Try.prog.cellsOf 48 = 5 by kernel_rfl) (by omega) (fun n cs y => read_tb n cs y) t0
  simp only [Value.cells, List.cons.injEq, and_true] at hc0
  subst hc0
  dsimp only at hB0 hL0
  obtain ⟨st1, rfl, rfl, rfl, hst1⟩ := Go.ChangeMaps.open_string Try.underlying9 (hval 1 9 v1 rfl rfl) h1
  obtain ⟨st2, rfl, rfl, rfl, hst2⟩ := Go.ChangeMaps.open_string Try.underlying9 (hval 2 9 v2 rfl rfl) h2
  rw [bulk_three] at hbulk
  have hlen := len_le_sum (fun t : Tb => t.cols.length) l0
  have hsum := sum_le_succ (fun t : Tb => t.cols.length) l0

  refine (Fn.law (Be.bindScopes _ _ l0 st1.data.toList st2.data.toList hs0.tbV (by omega) (by omega))).mono fun e W' ⟨he, hg⟩ => ?_
  subst he
  exact ⟨_, rfl, post_law Try.laidOut hW0 rfl rfl 4 Try.underlying4 (by kernel_rfl) (by rw [Try.params3]; decide +kernel) hg.toBelow⟩

set_option maxRecDepth 100000 in
theorem lifted (os : Os) (started : os.Started) (H : Type) (enc : TypeId × Value → H) (F : Stop.Interp) :
    ReturnsInHanded {} Try.checked os 3 .any ((Rows.OpenSpec.upto Rows.bindScopesSpec).pre6 enc Try.prog Try.f3 Rows.bindScopesUptoRow.domain false) (((Rows.OpenSpec.upto Rows.bindScopesSpec).at F).post enc Try.prog Try.f3 false true false false) := by
  refine returnsInHanded_of_cond (C := Try.checked) (s := Rows.OpenSpec.upto Rows.bindScopesSpec) (k := Rows.uptoSmall) rfl Try.own started (by kernel_rfl) Try.func3
    (OpenSpec.witness (enc := enc) (C := Try.checked) (s := Rows.OpenSpec.upto Rows.bindScopesSpec) (k := Rows.uptoSmall) rfl false ⟨#[], #[.slice none 0 0, .string .empty, .string .empty], []⟩ 8 (by kernel_rfl) (by kernel_rfl) (by kernel_rfl)
      (x := ([.nil, .lit (.string []), .lit (.string [])], [], [])) (by kernel_rfl) rfl (by kernel_rfl)) ?_
  intro W base args ds gs before hval hW _ hk _
  exact contract H enc W base args ds gs before hval hW hk

theorem over : Rows.bindScopesUptoRow.holds Try.pinned (Rows.OpenSpec.upto Rows.bindScopesSpec) :=
  OpenClaim.holds_of_cond 3 Try.f3 rfl rfl rfl rfl rfl rfl rfl ⟨rfl, rfl, rfl, rfl, rfl⟩ rfl rfl rfl rfl rfl (by kernel_rfl) Try.func3 (by kernel_rfl)
    (of_decide_eq_true (by kernel_rfl)) (by unfold Func.isWrapper; first | (rw [if_pos (by decide +kernel)]; kernel_rfl) | (rw [if_neg (by decide +kernel)]; exact ⟨rfl, rfl⟩))
    (fun os started H enc _ F => lifted os started H enc F)

theorem proved : Rows.BindScopesUptoSaid := over
end Go.Proofs.Ytopbkdpbljebgaa.bindScopes
