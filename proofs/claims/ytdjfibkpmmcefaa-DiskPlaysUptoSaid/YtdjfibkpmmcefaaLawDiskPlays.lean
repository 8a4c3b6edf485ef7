/- The law DiskPlays of annalslaw01 holds: for all arguments of bulk at most 1048576 the call returns true and the arguments read as before. Condition: the bound of the second form. -/
import Derived.Test.YtdjfibkpmmcefaaRfG
import Derived.Test.YtdjfibkpmmcefaaLaw2
namespace Go.Proofs.Ytdjfibkpmmcefaa.diskPlays
open Go.ChangeShapes Go.WideShapes Go.ChangeAt Go.RowKit

theorem contract (H : Type) (enc : TypeId × Value → H) (W : World) (base : Nat) (args : Array Value) (ds gs : List (DataW H)) (before : List MemPlace)
    (hval : ∀ (j : Nat) t v, Try.f6.params[j]? = some t → args[j]? = some v → Value.okWide Try.prog W .any base t v)
    (hW : DataW.Whole enc Try.prog Try.f6.params.toList Rows.diskPlaysSpec.vars false W args.toList ds gs before) (hk : Rows.uptoSmall H (ds ++ gs) = true) :
    Calls Try.prog 6 args W fun e W' => ∃ v, e = .returned v ∧ Rows.diskPlaysSpec.post enc Try.prog Try.f6 false true false false W args v W' := by
  have hW0 := hW
  obtain ⟨p, q, hA0, hV, rfl, hfz, hnd⟩ := hW
  have hA : DataW.TrodAll enc Try.prog W 0 (fun _ => true) true Try.f6.params.toList args.toList ds p := hA0
  rw [Try.params6] at hA hval
  obtain ⟨v0, v1, d0, d1, p0, p1, rfl, rfl, rfl, h0, h1⟩ := trodAll_two hA
  obtain ⟨rfl, rfl⟩ := trodVars_none hV
  have hbulk := Try.upto_bound hk
  rw [List.append_nil] at hbulk
  clear hA0 hV hk
  obtain ⟨a0, rfl, rfl, rfl, wf0⟩ := open_int Try.underlying3 (hval 0 3 v0 rfl rfl) h0
  obtain ⟨sa1, sl1, sc1, rfl⟩ := okWide_slice Try.underlying37 (hval 1 37 v1 rfl rfl)
  obtain ⟨fu1, t1⟩ := h1
  obtain ⟨sv1, l1, hc1, hs1, hB1, hL1⟩ := open_slice_R (enc := enc) (P := Try.prog) (W := W) (R := OpR W) (B := fun o => o.data.length + o.keep.length + 2) Try.underlying37 (show Try.prog.cellsOf 47 = 6 by kernel_rfl) (by omega) (fun n cs y => read_op n cs y) t1
  simp only [Value.cells, List.cons.injEq, and_true] at hc1
  subst hc1
  dsimp only at hB1 hL1
  rw [bulk_two] at hbulk
  have hro : RoL (baseOf W) (.slice sa1 sl1 sc1) l1 := by
    obtain ⟨sa, sc, e, h⟩ := hs1.ro (by omega)
    refine ⟨sa, sc, e, h.imp id ?_⟩
    rintro ⟨b, o, C, e1, e2, h⟩
    refine ⟨b, o, C, e1, e2, fun i hi => ?_⟩
    obtain ⟨cells, h1, dv, kv, fd, fk, rfl, hd, hk, _, _⟩ := h i hi
    have rd := RoS.ofReads hd
    have rk := RoS.ofReads hk
    obtain ⟨da, dc, rfl⟩ := rd.form (n := l1[i].data.length) (by simp)
    obtain ⟨ka, kc, rfl⟩ := rk.form (n := l1[i].keep.length) (by simp [boolsV])
    exact ⟨da, dc, ka, kc, h1, rd, rk⟩
  have key : Fn Try.prog (baseOf W) 6 #[.int .i64 a0, .slice sa1 sl1 sc1] [] (fun v l => v = .bool true ∧ l = []) := by
    by_cases hn : a0 < 1 ∨ 4096 < a0
    · exact Rf.plays_no _ a0 _ hn
    · obtain ⟨m, rfl⟩ : ∃ m : Nat, a0 = m := ⟨a0.toNat, by omega⟩
      exact Rf.plays _ m _ l1 (by omega) (by omega) hro (by omega)

  refine (Fn.law key).mono fun e W' ⟨he, hg⟩ => ?_
  subst he
  exact ⟨_, rfl, post_law Try.laidOut hW0 rfl rfl 4 Try.underlying4 (by kernel_rfl) (by rw [Try.params6]; decide +kernel) hg.toBelow⟩

set_option maxRecDepth 100000 in
theorem lifted (os : Os) (started : os.Started) (H : Type) (enc : TypeId × Value → H) (F : Stop.Interp) :
    ReturnsInHanded {} Try.checked os 6 .any ((Rows.OpenSpec.upto Rows.diskPlaysSpec).pre6 enc Try.prog Try.f6 Rows.diskPlaysUptoRow.domain false) (((Rows.OpenSpec.upto Rows.diskPlaysSpec).at F).post enc Try.prog Try.f6 false true false false) := by
  refine returnsInHanded_of_cond (C := Try.checked) (s := Rows.OpenSpec.upto Rows.diskPlaysSpec) (k := Rows.uptoSmall) rfl Try.own started (by kernel_rfl) Try.func6
    (OpenSpec.witness (enc := enc) (C := Try.checked) (s := Rows.OpenSpec.upto Rows.diskPlaysSpec) (k := Rows.uptoSmall) rfl false ⟨#[], #[.int .i64 0, .slice none 0 0], []⟩ 8 (by kernel_rfl) (by kernel_rfl) (by kernel_rfl)
      (x := ([.lit (.int .i64 0), .nil], [], [])) (by kernel_rfl) rfl (by kernel_rfl)) ?_
  intro W base args ds gs before hval hW _ hk _
  exact contract H enc W base args ds gs before hval hW hk

theorem over : Rows.diskPlaysUptoRow.holds Try.pinned (Rows.OpenSpec.upto Rows.diskPlaysSpec) :=
  OpenClaim.holds_of_cond 6 Try.f6 rfl rfl rfl rfl rfl rfl rfl ⟨rfl, rfl, rfl, rfl, rfl⟩ rfl rfl rfl rfl rfl (by kernel_rfl) Try.func6 (by kernel_rfl)
    (of_decide_eq_true (by kernel_rfl)) (by unfold Func.isWrapper; first | (rw [if_pos (by decide +kernel)]; kernel_rfl) | (rw [if_neg (by decide +kernel)]; exact ⟨rfl, rfl⟩))
    (fun os started H enc _ F => lifted os started H enc F)

theorem proved : Rows.DiskPlaysUptoSaid := over
end Go.Proofs.Ytdjfibkpmmcefaa.diskPlays
