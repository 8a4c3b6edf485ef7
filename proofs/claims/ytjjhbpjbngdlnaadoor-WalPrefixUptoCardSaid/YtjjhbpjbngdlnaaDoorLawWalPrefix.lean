/- The law WalPrefix of annalslaw05 holds (its card): for all arguments of bulk at most 1048576 the call returns true and the arguments read as before. Condition: the bound of the second form. -/
import Derived.Test.YtjjhbpjbngdlnaaDoorWlRd
import Derived.Test.YtjjhbpjbngdlnaaDoorRlH
set_option linter.unusedSimpArgs false
set_option linter.unusedVariables false
namespace Go.Proofs.YtjjhbpjbngdlnaaDoor.walPrefix
open Go.ChangeShapes Go.WideShapes Go.ChangeAt Go.RowKit
theorem elem_le : ∀ {l : List (List UInt8)} {x : List UInt8}, x ∈ l → x.length ≤ (l.map fun d => d.length + 1).sum
  | a :: l, x, h => by
    simp only [List.map_cons, List.sum_cons]
    rcases List.mem_cons.1 h with rfl | h
    · omega
    · have := elem_le h; omega
set_option maxRecDepth 100000 in
theorem contract (H : Type) (enc : TypeId × Value → H) (W : World) (base : Nat) (args : Array Value) (ds gs : List (DataW H)) (before : List MemPlace)
    (hval : ∀ (j : Nat) t v, Tryd.f10.params[j]? = some t → args[j]? = some v → Value.okWide Tryd.prog W .any base t v)
    (hW : DataW.Whole enc Tryd.prog Tryd.f10.params.toList Rows.walPrefixSpec.vars false W args.toList ds gs before) (hk : Rows.uptoSmall H (ds ++ gs) = true) :
    Calls Tryd.prog 10 args W fun e W' => ∃ v, e = .returned v ∧ Rows.walPrefixSpec.post enc Tryd.prog Tryd.f10 false true false false W args v W' := by
  have hW0 := hW
  obtain ⟨p, q, hA0, hV, rfl, hfz, hnd⟩ := hW
  have hA : DataW.TrodAll enc Tryd.prog W 0 (fun _ => true) true Tryd.f10.params.toList args.toList ds p := hA0
  rw [Tryd.params10] at hA hval
  obtain ⟨v0, v1, v2, d0, d1, d2, p0, p1, p2, rfl, rfl, rfl, h0, h1, h2⟩ := trodAll_three hA
  obtain ⟨rfl, rfl⟩ := trodVars_none hV
  have hbulk := Tryd.upto_bound hk
  rw [List.append_nil] at hbulk
  clear hA0 hV hk
  obtain ⟨sa0, sl0, sc0, rfl⟩ := okWide_slice Tryd.underlying88 (hval 0 88 v0 rfl rfl)
  obtain ⟨fu0, t0⟩ := h0
  obtain ⟨sv0, l0, hc0, hs0, hB0, hL0⟩ := open_slice_R (enc := enc) (P := Tryd.prog) (W := W) (R := BytesR W) (B := fun d => d.length + 1) Tryd.underlying88 (show Tryd.prog.cellsOf 22 = 1 by kernel_rfl) (by omega) (fun n cs y => read_bytesR n cs y) t0
  simp only [Value.cells, List.cons.injEq, and_true] at hc0
  subst hc0
  dsimp only at hB0 hL0
  obtain ⟨oc1, rfl, _, _⟩ := (show ∃ cs, v1 = .agg cs ∧ cs.size = Tryd.prog.cellsOf 76 ∧ Row.okWide Tryd.prog W .any base 76 cs by have := hval 1 76 v1 rfl rfl; simpa only [Value.okWide, Tryd.underlying76] using this)
  obtain ⟨fu1, t1⟩ := h1
  obtain ⟨o1, ⟨dv1, kv1, fd1, fk1, ho1, hRd1, hRk1⟩, hL1⟩ := read_opL _ _ _ t1
  simp only [Value.cells] at ho1
  obtain rfl : oc1 = #[.int .i64 o1.kind, dv1, .int .i64 o1.mark, kv1, .int .i64 o1.t0, .int .i64 o1.t1] := by apply Array.toList_inj.1; rw [ho1]
  dsimp only at hL1
  obtain ⟨a2, rfl, rfl, rfl, wf2⟩ := open_int Tryd.underlying3 (hval 2 3 v2 rfl rfl) h2
  rw [bulk_three] at hbulk

  refine (Fn.law (Rl.prefixes _ _ l0 hs0.roLB (by omega) (fun x hx => by have := elem_le hx; omega) o1.kind o1.mark o1.t0 o1.t1 _ _ _ o1.keep (RoS.ofReads hRk1))).mono fun e W' ⟨he, hg⟩ => ?_
  subst he
  exact ⟨_, rfl, post_law Tryd.laidOut hW0 rfl rfl 4 Tryd.underlying4 (by kernel_rfl) (by rw [Tryd.params10]; decide +kernel) hg.toBelow⟩

theorem reads (os : Os) {H : Type} (enc : TypeId × Value → H) : ∃ places, DataW.whole enc Tryd.prog ((laidWorld os).forCall (fun _ _ => 0) ⟨#[], #[.slice none 0 0, .agg #[.int .i64 0, .slice none 0 0, .int .i64 0, .slice none 0 0, .int .i64 0, .int .i64 0], .int .i64 0], []⟩).memory Tryd.f10.params.toList Rows.walPrefixSpec.vars false (#[.slice none 0 0, .agg #[.int .i64 0, .slice none 0 0, .int .i64 0, .slice none 0 0, .int .i64 0, .int .i64 0], .int .i64 0] : Array Value).toList 8 = some ([.nil, .agg [.lit (.int .i64 0), .nil, .lit (.int .i64 0), .nil, .agg [.lit (.int .i64 0), .lit (.int .i64 0)]], .lit (.int .i64 0)], [], places) :=
  ⟨[], by kernel_rfl⟩

set_option maxRecDepth 100000 in
theorem lifted (os : Os) (started : os.Started) (H : Type) (enc : TypeId × Value → H) (F : Stop.Interp) :
    ReturnsInHanded {} Tryd.checked os 10 .any ((Rows.OpenSpec.upto Rows.walPrefixSpec).preRow enc Tryd.prog Tryd.f10 Rows.walPrefixUptoRow.domain false Rows.walPrefixUptoRow.laid) (((Rows.OpenSpec.upto Rows.walPrefixSpec).at F).post enc Tryd.prog Tryd.f10 false true false false) := by
  obtain ⟨places, hx⟩ := reads os enc
  refine returnsInHanded_of_row (C := Tryd.checked) (s := Rows.OpenSpec.upto Rows.walPrefixSpec) Tryd.own started (by kernel_rfl) Tryd.func10
    (witness_row_at (enc := enc) (C := Tryd.checked) false (laidWorld os) #[.slice none 0 0, .agg #[.int .i64 0, .slice none 0 0, .int .i64 0, .slice none 0 0, .int .i64 0, .int .i64 0], .int .i64 0] rfl (by kernel_rfl) (by kernel_rfl) (by kernel_rfl)
      (OpenSpec.preRow_of_cond 8 hx (by kernel_rfl) (fun k hk => by cases hk; kernel_rfl) (by kernel_rfl) (laid_met os _))) ?_
  intro W base args ds gs before hval hW _ hcond _ _ _ _
  exact contract H enc W base args ds gs before hval hW (hcond _ rfl)

theorem over : Rows.walPrefixUptoRow.holds Tryd.pinned (Rows.OpenSpec.upto Rows.walPrefixSpec) :=
  OpenClaim.holds_of_cond 10 Tryd.f10 rfl rfl rfl rfl rfl rfl rfl ⟨rfl, rfl, rfl, rfl, rfl⟩ rfl rfl rfl rfl rfl (by kernel_rfl) Tryd.func10 (by kernel_rfl)
    (of_decide_eq_true (by kernel_rfl)) (by unfold Func.isWrapper; first | (rw [if_pos (by decide +kernel)]; kernel_rfl) | (rw [if_neg (by decide +kernel)]; exact ⟨rfl, rfl⟩))
    (fun os started H enc _ F => by rw [OpenClaim.pre_eq_preRow]; exact lifted os started H enc F)

theorem plain (f : FuncId) (fn : Func) (hf : Tryd.pinned.checked.prog.funcNamed "annals/annalslaw05.WalPrefix" = some f) (hfn : Tryd.pinned.checked.prog.funcs[f]? = some fn) :
    false = Tryd.pinned.checked.prog.looks [] ∧ ∀ (j : Nat) t, fn.params[j]? = some t → Tryd.pinned.checked.prog.wantsStandIn t = false := by
  obtain rfl : f = 10 := Option.some.inj ((show Tryd.prog.funcNamed "annals/annalslaw05.WalPrefix" = some 10 by kernel_rfl).symm.trans hf) |>.symm
  obtain rfl : fn = Tryd.f10 := (Option.some.inj (Tryd.func10.symm.trans hfn)).symm
  refine ⟨by kernel_rfl, fun j t ht => ?_⟩
  rw [Tryd.params10] at ht
  have hall : ([88, 76, 3] : List TypeId).all (fun t => !Tryd.prog.wantsStandIn t) = true := by kernel_rfl
  have := List.all_eq_true.1 hall t (by simpa using Array.mem_of_getElem? ht)
  exact (show Tryd.prog.wantsStandIn t = false by simpa using this)

theorem proved : Rows.WalPrefixUptoCardSaid :=
  Claim7.holds_tied_plain_at .later [] _ _ _ _ over (fun _ h => by cases h) (by kernel_rfl) (fun _ h => by cases h) walPrefixUpto_row_tie rfl ⟨rfl, rfl⟩ (by kernel_rfl) rfl plain (by kernel_rfl)
end Go.Proofs.YtjjhbpjbngdlnaaDoor.walPrefix
