/- The law DiskKeeps of annalslaw01 holds: for every byte slice and int of bulk at most 1048576 the call returns true and the arguments read as before. Condition: the bound of the second form. -/
import Derived.Test.YtdjfibkpmmcefaaDiskK
import Derived.Test.YtdjfibkpmmcefaaLaw
namespace Go.Proofs.Ytdjfibkpmmcefaa.diskKeeps
open Go.ChangeShapes Go.WideShapes Go.ChangeAt Go.RowKit

theorem contract (H : Type) (enc : TypeId × Value → H) (W : World) (base : Nat) (args : Array Value) (ds gs : List (DataW H)) (before : List MemPlace)
    (hval : ∀ (j : Nat) t v, Try.f4.params[j]? = some t → args[j]? = some v → Value.okWide Try.prog W .any base t v)
    (hW : DataW.Whole enc Try.prog Try.f4.params.toList Rows.diskKeepsSpec.vars false W args.toList ds gs before) (hk : Rows.uptoSmall H (ds ++ gs) = true) :
    Calls Try.prog 4 args W fun e W' => ∃ v, e = .returned v ∧ Rows.diskKeepsSpec.post enc Try.prog Try.f4 false true false false W args v W' := by
  have hW0 := hW
  obtain ⟨p, q, hA0, hV, rfl, hfz, hnd⟩ := hW
  have hA : DataW.TrodAll enc Try.prog W 0 (fun _ => true) true Try.f4.params.toList args.toList ds p := hA0
  rw [Try.params4] at hA hval
  obtain ⟨v0, v1, d0, d1, p0, p1, rfl, rfl, rfl, h0, h1⟩ := trodAll_two hA
  obtain ⟨rfl, rfl⟩ := trodVars_none hV
  have hbulk := Try.upto_bound hk
  rw [List.append_nil] at hbulk
  clear hA0 hV hk
  obtain ⟨sa0, sl0, sc0, rfl⟩ := okWide_slice Try.underlying23 (hval 0 23 v0 rfl rfl)
  obtain ⟨fu0, t0⟩ := h0
  obtain ⟨sv0, l0, hc0, hs0, hB0, hL0⟩ := open_slice_R (enc := enc) (P := Try.prog) (W := W) (R := fun cs (a : UInt8) => cs = [.int .u8 a.toNat]) (B := fun _ => 1) Try.underlying23 (show Try.prog.cellsOf 5 = 1 by kernel_rfl) (by omega) (fun n cs y => read_u8 Try.underlying5 n cs y) t0
  simp only [Value.cells, List.cons.injEq, and_true] at hc0
  subst hc0
  dsimp only at hB0 hL0
  obtain ⟨fp0, hR0, hfp0⟩ := hs0.reads (fun a : UInt8 => Value.int .u8 a.toNat) (fun cs a h => h)
  obtain ⟨a1, rfl, rfl, rfl, wf1⟩ := open_int Try.underlying3 (hval 1 3 v1 rfl rfl) h1
  rw [bulk_two] at hbulk

  refine (Dk.keeps l0 _ fp0 a1 W hR0 hfp0 (by omega)).mono fun e W' ⟨he, hg⟩ => ?_
  subst he
  exact ⟨_, rfl, post_law Try.laidOut hW0 rfl rfl 4 Try.underlying4 (by kernel_rfl) (by rw [Try.params4]; decide +kernel) hg.toBelow⟩

set_option maxRecDepth 100000 in
theorem lifted (os : Os) (started : os.Started) (H : Type) (enc : TypeId × Value → H) (F : Stop.Interp) :
    ReturnsInHanded {} Try.checked os 4 .any ((Rows.OpenSpec.upto Rows.diskKeepsSpec).pre6 enc Try.prog Try.f4 Rows.diskKeepsUptoRow.domain false) (((Rows.OpenSpec.upto Rows.diskKeepsSpec).at F).post enc Try.prog Try.f4 false true false false) := by
  refine returnsInHanded_of_cond (C := Try.checked) (s := Rows.OpenSpec.upto Rows.diskKeepsSpec) (k := Rows.uptoSmall) rfl Try.own started (by kernel_rfl) Try.func4
    (OpenSpec.witness (enc := enc) (C := Try.checked) (s := Rows.OpenSpec.upto Rows.diskKeepsSpec) (k := Rows.uptoSmall) rfl false ⟨#[], #[.slice none 0 0, .int .i64 0], []⟩ 8 (by kernel_rfl) (by kernel_rfl) (by kernel_rfl)
      (x := ([.nil, .lit (.int .i64 0)], [], [])) (by kernel_rfl) rfl (by kernel_rfl)) ?_
  intro W base args ds gs before hval hW _ hk _
  exact contract H enc W base args ds gs before hval hW hk

theorem over : Rows.diskKeepsUptoRow.holds Try.pinned (Rows.OpenSpec.upto Rows.diskKeepsSpec) :=
  OpenClaim.holds_of_cond 4 Try.f4 rfl rfl rfl rfl rfl rfl rfl ⟨rfl, rfl, rfl, rfl, rfl⟩ rfl rfl rfl rfl rfl (by kernel_rfl) Try.func4 (by kernel_rfl)
    (of_decide_eq_true (by kernel_rfl)) (by unfold Func.isWrapper; first | (rw [if_pos (by decide +kernel)]; kernel_rfl) | (rw [if_neg (by decide +kernel)]; exact ⟨rfl, rfl⟩))
    (fun os started H enc _ F => lifted os started H enc F)

theorem proved : Rows.DiskKeepsUptoSaid := over
end Go.Proofs.Ytdjfibkpmmcefaa.diskKeeps
