/- The law DiskDurable of annalslaw01 holds: for all arguments of bulk at most 1048576 the call returns true and the arguments read as before. Condition: the bound of the second form. -/
import Derived.Test.YtdjfibkpmmcefaaDiskN
import Derived.Test.YtdjfibkpmmcefaaOpRd
import Derived.Test.YtdjfibkpmmcefaaLaw
namespace Go.Proofs.Ytdjfibkpmmcefaa.diskDurable
open Go.ChangeShapes Go.WideShapes Go.ChangeAt Go.RowKit

theorem contract (H : Type) (enc : TypeId × Value → H) (W : World) (base : Nat) (args : Array Value) (ds gs : List (DataW H)) (before : List MemPlace)
    (hval : ∀ (j : Nat) t v, Try.f7.params[j]? = some t → args[j]? = some v → Value.okWide Try.prog W .any base t v)
    (hW : DataW.Whole enc Try.prog Try.f7.params.toList Rows.diskDurableSpec.vars false W args.toList ds gs before) (hk : Rows.uptoSmall H (ds ++ gs) = true) :
    Calls Try.prog 7 args W fun e W' => ∃ v, e = .returned v ∧ Rows.diskDurableSpec.post enc Try.prog Try.f7 false true false false W args v W' := by
  have hW0 := hW
  obtain ⟨p, q, hA0, hV, rfl, hfz, hnd⟩ := hW
  have hA : DataW.TrodAll enc Try.prog W 0 (fun _ => true) true Try.f7.params.toList args.toList ds p := hA0
  rw [Try.params7] at hA hval
  obtain ⟨v0, v1, d0, d1, p0, p1, rfl, rfl, rfl, h0, h1⟩ := trodAll_two hA
  obtain ⟨rfl, rfl⟩ := trodVars_none hV
  have hbulk := Try.upto_bound hk
  rw [List.append_nil] at hbulk
  clear hA0 hV hk
  obtain ⟨sa0, sl0, sc0, rfl⟩ := okWide_slice Try.underlying23 (hval 0 23 v0 rfl rfl)
  obtain ⟨fu0, t0⟩ := h0
  obtain ⟨sv0, l0, hc0, hs0, hB0, hL0⟩ := open_slice_R (enc := enc) (P := Try.prog) (W := W) (R := fun cs (a : UInt8) => cs = [.int .u8 a.toNat]) (B := fun _ => 1) Try.underlying23 (show Try.prog.cellsOf 5 = 1 by kernel_rfl) (by omega) (fun n cs y => read_u8 Try.underlying5 n cs y) t0
  simp only [Value.cells, List.cons.injEq, and_true] at hc0
  subst hc0
  dsimp only at hB0 hL0
  obtain ⟨fp0, hR0, hfp0⟩ := hs0.reads (fun a : UInt8 => Value.int .u8 a.toNat) (fun cs a h => h)
  obtain ⟨oc1, rfl, _, _⟩ := (show ∃ cs, v1 = .agg cs ∧ cs.size = Try.prog.cellsOf 47 ∧ Row.okWide Try.prog W .any base 47 cs by have := hval 1 47 v1 rfl rfl; simpa only [Value.okWide, Try.underlying47] using this)
  obtain ⟨fu1, t1⟩ := h1
  obtain ⟨o1, ⟨dv1, kv1, fd1, fk1, ho1, hRd1, hRk1, hfd1, hfk1⟩, hL1⟩ := read_op _ _ _ t1
  simp only [Value.cells] at ho1
  obtain rfl : oc1 = #[.int .i64 o1.kind, .int .i64 o1.at_, dv1, kv1, .int .i64 o1.t0, .int .i64 o1.t1] := by apply Array.toList_inj.1; rw [ho1]
  dsimp only at hL1
  rw [bulk_two] at hbulk

  refine (Dk.durable l0 o1.keep _ kv1 dv1 fp0 fk1 o1.kind o1.at_ o1.t0 o1.t1 W hR0 hRk1 hfk1 (by omega)).mono fun e W' ⟨he, hg⟩ => ?_
  subst he
  exact ⟨_, rfl, post_law Try.laidOut hW0 rfl rfl 4 Try.underlying4 (by kernel_rfl) (by rw [Try.params7]; decide +kernel) hg.toBelow⟩

set_option maxRecDepth 100000 in
theorem lifted (os : Os) (started : os.Started) (H : Type) (enc : TypeId × Value → H) (F : Stop.Interp) :
    ReturnsInHanded {} Try.checked os 7 .any ((Rows.OpenSpec.upto Rows.diskDurableSpec).pre6 enc Try.prog Try.f7 Rows.diskDurableUptoRow.domain false) (((Rows.OpenSpec.upto Rows.diskDurableSpec).at F).post enc Try.prog Try.f7 false true false false) := by
  refine returnsInHanded_of_cond (C := Try.checked) (s := Rows.OpenSpec.upto Rows.diskDurableSpec) (k := Rows.uptoSmall) rfl Try.own started (by kernel_rfl) Try.func7
    (OpenSpec.witness (enc := enc) (C := Try.checked) (s := Rows.OpenSpec.upto Rows.diskDurableSpec) (k := Rows.uptoSmall) rfl false ⟨#[], #[.slice none 0 0, .agg #[.int .i64 0, .int .i64 0, .slice none 0 0, .slice none 0 0, .int .i64 0, .int .i64 0]], []⟩ 8 (by kernel_rfl) (by kernel_rfl) (by kernel_rfl)
      (x := ([.nil, .agg [.lit (.int .i64 0), .lit (.int .i64 0), .nil, .nil, .agg [.lit (.int .i64 0), .lit (.int .i64 0)]]], [], [])) (by kernel_rfl) rfl (by kernel_rfl)) ?_
  intro W base args ds gs before hval hW _ hk _
  exact contract H enc W base args ds gs before hval hW hk

theorem over : Rows.diskDurableUptoRow.holds Try.pinned (Rows.OpenSpec.upto Rows.diskDurableSpec) :=
  OpenClaim.holds_of_cond 7 Try.f7 rfl rfl rfl rfl rfl rfl rfl ⟨rfl, rfl, rfl, rfl, rfl⟩ rfl rfl rfl rfl rfl (by kernel_rfl) Try.func7 (by kernel_rfl)
    (of_decide_eq_true (by kernel_rfl)) (by unfold Func.isWrapper; first | (rw [if_pos (by decide +kernel)]; kernel_rfl) | (rw [if_neg (by decide +kernel)]; exact ⟨rfl, rfl⟩))
    (fun os started H enc _ F => lifted os started H enc F)

theorem proved : Rows.DiskDurableUptoSaid := over
end Go.Proofs.Ytdjfibkpmmcefaa.diskDurable
