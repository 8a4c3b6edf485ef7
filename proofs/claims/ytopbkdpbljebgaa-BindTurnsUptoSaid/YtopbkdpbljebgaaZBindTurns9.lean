/- The law BindTurns of annalslaw17 holds: for all arguments of bulk at most 1048576 the call returns true and the arguments read as before. Condition: the bound of the second form. -/
import Derived.Test.YtopbkdpbljebgaaZBindTurns8
import Derived.ChangeMaps5
/- The law BindTurns of annalslaw17 holds: for all arguments of bulk at most 1048576 the call returns true and the arguments read as before. Condition: the bound of the second form. -/
set_option linter.unusedSimpArgs false
set_option linter.unusedVariables false
namespace Go.Proofs.Ytopbkdpbljebgaa.bindTurns
open Go.ChangeShapes Go.WideShapes Go.ChangeAt Go.RowKit

set_option maxRecDepth 100000 in
theorem contract (H : Type) (enc : TypeId × Value → H) (W : World) (base : Nat) (args : Array Value) (ds gs : List (DataW H)) (before : List MemPlace)
    (hval : ∀ (j : Nat) t v, Try.f4.params[j]? = some t → args[j]? = some v → Value.okWide Try.prog W .any base t v)
    (hW : DataW.Whole enc Try.prog Try.f4.params.toList Rows.bindTurnsSpec.vars false W args.toList ds gs before) (hk : Rows.uptoSmall H (ds ++ gs) = true) :
    Calls Try.prog 4 args W fun e W' => ∃ v, e = .returned v ∧ Rows.bindTurnsSpec.post enc Try.prog Try.f4 false true false false W args v W' := by
  have hW0 := hW
  obtain ⟨p, q, hA0, hV, rfl, hfz, hnd⟩ := hW
  have hA : DataW.TrodAll enc Try.prog W 0 (fun _ => true) true Try.f4.params.toList args.toList ds p := hA0
  rw [Try.params4] at hA hval
  obtain ⟨v0, v1, v2, d0, d1, d2, p0, p1, p2, rfl, rfl, rfl, h0, h1, h2⟩ := trodAll_three hA
  obtain ⟨rfl, rfl⟩ := trodVars_none hV
  have hbulk := Try.upto_bound hk
  rw [List.append_nil] at hbulk
  clear hA0 hV hk
  rw [bulk_three] at hbulk
  obtain ⟨oc0, rfl, _, _⟩ := (show ∃ cs, v0 = .agg cs ∧ cs.size = Try.prog.cellsOf 42 ∧ Row.okWide Try.prog W .any base 42 cs by have := hval 0 42 v0 rfl rfl; simpa only [Value.okWide, Try.underlying42] using this)
  obtain ⟨fu0, t0⟩ := h0
  obtain ⟨⟨e0, c0⟩, ⟨hc0, hV0, hI0⟩, hB0⟩ := read_ex (enc := enc) (W := W) (Rows.uptoBulk d0) _ _ _ t0 (Nat.le_refl _) (by omega)
  simp only [Value.cells] at hc0
  obtain rfl : oc0 = #[c0.op, c0.n, c0.text, c0.of, c0.args] := by apply Array.toList_inj.1; rw [hc0]
  dsimp only at hB0 hV0 hI0
  obtain ⟨oc1, rfl, _, _⟩ := (show ∃ cs, v1 = .agg cs ∧ cs.size = Try.prog.cellsOf 42 ∧ Row.okWide Try.prog W .any base 42 cs by have := hval 1 42 v1 rfl rfl; simpa only [Value.okWide, Try.underlying42] using this)
  obtain ⟨fu1, t1⟩ := h1
  obtain ⟨⟨e1, c1⟩, ⟨hc1, hV1, hI1⟩, hB1⟩ := read_ex (enc := enc) (W := W) (Rows.uptoBulk d1) _ _ _ t1 (Nat.le_refl _) (by omega)
  simp only [Value.cells] at hc1
  obtain rfl : oc1 = #[c1.op, c1.n, c1.text, c1.of, c1.args] := by apply Array.toList_inj.1; rw [hc1]
  dsimp only at hB1 hV1 hI1
  obtain ⟨sa2, sl2, sc2, rfl⟩ := okWide_slice Try.underlying43 (hval 2 43 v2 rfl rfl)
  obtain ⟨fu2, t2⟩ := h2
  obtain ⟨sv2, l2, hc2, hs2, hB2, hL2⟩ := open_slice_R (enc := enc) (P := Try.prog) (W := W) (R := VaR) (B := fun v => v.text.length + 1) Try.underlying43 (show Try.prog.cellsOf 55 = 3 by kernel_rfl) (by omega) (fun n cs y => read_va n cs y) t2
  simp only [Value.cells, List.cons.injEq, and_true] at hc2
  subst hc2
  dsimp only at hB2 hL2
  have hf2 := hs2.flV (g := vaC) (fun cs a h => h.1) (fun _ => rfl)
  have hl2 := hf2.len

  refine (Fn.law (Be.bindTurns _ e0 e1 c0 c1 hV0 hV1 _ _ _ l2 hf2 hl2 (by omega))).mono fun e W' ⟨he, hg⟩ => ?_
  subst he
  exact ⟨_, rfl, post_law Try.laidOut hW0 rfl rfl 4 Try.underlying4 (by kernel_rfl) (by rw [Try.params4]; decide +kernel) hg.toBelow⟩

set_option maxRecDepth 100000 in
theorem lifted (os : Os) (started : os.Started) (H : Type) (enc : TypeId × Value → H) (F : Stop.Interp) :
    ReturnsInHanded {} Try.checked os 4 .any ((Rows.OpenSpec.upto Rows.bindTurnsSpec).pre6 enc Try.prog Try.f4 Rows.bindTurnsUptoRow.domain false) (((Rows.OpenSpec.upto Rows.bindTurnsSpec).at F).post enc Try.prog Try.f4 false true false false) := by
  refine returnsInHanded_of_cond (C := Try.checked) (s := Rows.OpenSpec.upto Rows.bindTurnsSpec) (k := Rows.uptoSmall) rfl Try.own started (by kernel_rfl) Try.func4
    (OpenSpec.witness (enc := enc) (C := Try.checked) (s := Rows.OpenSpec.upto Rows.bindTurnsSpec) (k := Rows.uptoSmall) rfl false ⟨#[], #[.agg #[.string .empty, .int .i64 0, .string .empty, .string .empty, .slice none 0 0], .agg #[.string .empty, .int .i64 0, .string .empty, .string .empty, .slice none 0 0], .slice none 0 0], []⟩ 8 (by kernel_rfl) (by kernel_rfl) (by kernel_rfl)
      (x := ([.agg [.lit (.string []), .lit (.int .i64 0), .lit (.string []), .lit (.string []), .nil], .agg [.lit (.string []), .lit (.int .i64 0), .lit (.string []), .lit (.string []), .nil], .nil], [], [])) (by kernel_rfl) rfl (by kernel_rfl)) ?_
  intro W base args ds gs before hval hW _ hk _
  exact contract H enc W base args ds gs before hval hW hk

theorem over : Rows.bindTurnsUptoRow.holds Try.pinned (Rows.OpenSpec.upto Rows.bindTurnsSpec) :=
  OpenClaim.holds_of_cond 4 Try.f4 rfl rfl rfl rfl rfl rfl rfl ⟨rfl, rfl, rfl, rfl, rfl⟩ rfl rfl rfl rfl rfl (by kernel_rfl) Try.func4 (by kernel_rfl)
    (of_decide_eq_true (by kernel_rfl)) (by unfold Func.isWrapper; first | (rw [if_pos (by decide +kernel)]; kernel_rfl) | (rw [if_neg (by decide +kernel)]; exact ⟨rfl, rfl⟩))
    (fun os started H enc _ F => lifted os started H enc F)

theorem proved : Rows.BindTurnsUptoSaid := over
end Go.Proofs.Ytopbkdpbljebgaa.bindTurns
