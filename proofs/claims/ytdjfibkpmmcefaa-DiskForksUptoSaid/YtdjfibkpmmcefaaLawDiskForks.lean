/- The law DiskForks of annalslaw01 holds: for all arguments of bulk at most 1048576 the call returns true and the arguments read as before. Condition: the bound of the second form. -/
import Derived.Test.YtdjfibkpmmcefaaDiskM
import Derived.Test.YtdjfibkpmmcefaaOpRd
import Derived.Test.YtdjfibkpmmcefaaLaw
namespace Go.Proofs.Ytdjfibkpmmcefaa.diskForks
open Go.ChangeShapes Go.WideShapes Go.ChangeAt Go.RowKit

theorem contract (H : Type) (enc : TypeId × Value → H) (W : World) (base : Nat) (args : Array Value) (ds gs : List (DataW H)) (before : List MemPlace)
    (hval : ∀ (j : Nat) t v, Try.f8.params[j]? = some t → args[j]? = some v → Value.okWide Try.prog W .any base t v)
    (hW : DataW.Whole enc Try.prog Try.f8.params.toList Rows.diskForksSpec.vars false W args.toList ds gs before) (hk : Rows.uptoSmall H (ds ++ gs) = true) :
    Calls Try.prog 8 args W fun e W' => ∃ v, e = .returned v ∧ Rows.diskForksSpec.post enc Try.prog Try.f8 false true false false W args v W' := by
  have hW0 := hW
  obtain ⟨p, q, hA0, hV, rfl, hfz, hnd⟩ := hW
  have hA : DataW.TrodAll enc Try.prog W 0 (fun _ => true) true Try.f8.params.toList args.toList ds p := hA0
  rw [Try.params8] at hA hval
  obtain ⟨v0, v1, v2, d0, d1, d2, p0, p1, p2, rfl, rfl, rfl, h0, h1, h2⟩ := trodAll_three hA
  obtain ⟨rfl, rfl⟩ := trodVars_none hV
  have hbulk := Try.upto_bound hk
  rw [List.append_nil] at hbulk
  clear hA0 hV hk
  obtain ⟨sa0, sl0, sc0, rfl⟩ := okWide_slice Try.underlying23 (hval 0 23 v0 rfl rfl)
  obtain ⟨fu0, t0⟩ := h0
  obtain ⟨sv0, l0, hc0, hs0, hB0, hL0⟩ := open_slice_R (enc := enc) (P := Try.prog) (W := W) (R := fun cs (a : UInt8) => cs = [.int .u8 a.toNat]) (B := fun _ => 1) Try.underlying23 (show Try.prog.cellsOf 5 = 1 by kernel_rfl) (by omega) (fun n cs y => read_u8 Try.underlying5 n cs y) t0
  simp only [Value.cells, List.cons.injEq, and_true] at hc0
  subst hc0
  dsimp only at hB0 hL0
  obtain ⟨fp0, hR0, hfp0⟩ := hs0.reads (fun a : UInt8 => Value.int .u8 a.toNat) (fun cs a h => h)
  obtain ⟨sa1, sl1, sc1, rfl⟩ := okWide_slice Try.underlying23 (hval 1 23 v1 rfl rfl)
  obtain ⟨fu1, t1⟩ := h1
  obtain ⟨sv1, l1, hc1, hs1, hB1, hL1⟩ := open_slice_R (enc := enc) (P := Try.prog) (W := W) (R := fun cs (a : UInt8) => cs = [.int .u8 a.toNat]) (B := fun _ => 1) Try.underlying23 (show Try.prog.cellsOf 5 = 1 by kernel_rfl) (by omega) (fun n cs y => read_u8 Try.underlying5 n cs y) t1
  simp only [Value.cells, List.cons.injEq, and_true] at hc1
  subst hc1
  dsimp only at hB1 hL1
  obtain ⟨fp1, hR1, hfp1⟩ := hs1.reads (fun a : UInt8 => Value.int .u8 a.toNat) (fun cs a h => h)
  obtain ⟨oc2, rfl, _, _⟩ := (show ∃ cs, v2 = .agg cs ∧ cs.size = Try.prog.cellsOf 47 ∧ Row.okWide Try.prog W .any base 47 cs by have := hval 2 47 v2 rfl rfl; simpa only [Value.okWide, Try.underlying47] using this)
  obtain ⟨fu2, t2⟩ := h2
  obtain ⟨o2, ⟨dv2, kv2, fd2, fk2, ho2, hRd2, hRk2, hfd2, hfk2⟩, hL2⟩ := read_op _ _ _ t2
  simp only [Value.cells] at ho2
  obtain rfl : oc2 = #[.int .i64 o2.kind, .int .i64 o2.at_, dv2, kv2, .int .i64 o2.t0, .int .i64 o2.t1] := by apply Array.toList_inj.1; rw [ho2]
  dsimp only at hL2
  rw [bulk_three] at hbulk

  refine (Dk.forks l0 l1 o2.keep _ _ kv2 dv2 fp0 fp1 fk2 o2.kind o2.at_ o2.t0 o2.t1 W hR0 hR1 hRk2 hfk2 (by omega) (by omega)).mono fun e W' ⟨he, hg⟩ => ?_
  subst he
  exact ⟨_, rfl, post_law Try.laidOut hW0 rfl rfl 4 Try.underlying4 (by kernel_rfl) (by rw [Try.params8]; decide +kernel) hg.toBelow⟩

set_option maxRecDepth 100000 in
theorem lifted (os : Os) (started : os.Started) (H : Type) (enc : TypeId × Value → H) (F : Stop.Interp) :
    ReturnsInHanded {} Try.checked os 8 .any ((Rows.OpenSpec.upto Rows.diskForksSpec).pre6 enc Try.prog Try.f8 Rows.diskForksUptoRow.domain false) (((Rows.OpenSpec.upto Rows.diskForksSpec).at F).post enc Try.prog Try.f8 false true false false) := by
  refine returnsInHanded_of_cond (C := Try.checked) (s := Rows.OpenSpec.upto Rows.diskForksSpec) (k := Rows.uptoSmall) rfl Try.own started (by kernel_rfl) Try.func8
    (OpenSpec.witness (enc := enc) (C := Try.checked) (s := Rows.OpenSpec.upto Rows.diskForksSpec) (k := Rows.uptoSmall) rfl false ⟨#[], #[.slice none 0 0, .slice none 0 0, .agg #[.int .i64 0, .int .i64 0, .slice none 0 0, .slice none 0 0, .int .i64 0, .int .i64 0]], []⟩ 8 (by kernel_rfl) (by kernel_rfl) (by kernel_rfl)
      (x := ([.nil, .nil, .agg [.lit (.int .i64 0), .lit (.int .i64 0), .nil, .nil, .agg [.lit (.int .i64 0), .lit (.int .i64 0)]]], [], [])) (by kernel_rfl) rfl (by kernel_rfl)) ?_
  intro W base args ds gs before hval hW _ hk _
  exact contract H enc W base args ds gs before hval hW hk

theorem over : Rows.diskForksUptoRow.holds Try.pinned (Rows.OpenSpec.upto Rows.diskForksSpec) :=
  OpenClaim.holds_of_cond 8 Try.f8 rfl rfl rfl rfl rfl rfl rfl ⟨rfl, rfl, rfl, rfl, rfl⟩ rfl rfl rfl rfl rfl (by kernel_rfl) Try.func8 (by kernel_rfl)
    (of_decide_eq_true (by kernel_rfl)) (by unfold Func.isWrapper; first | (rw [if_pos (by decide +kernel)]; kernel_rfl) | (rw [if_neg (by decide +kernel)]; exact ⟨rfl, rfl⟩))
    (fun os started H enc _ F => lifted os started H enc F)

theorem proved : Rows.DiskForksUptoSaid := over
end Go.Proofs.Ytdjfibkpmmcefaa.diskForks
