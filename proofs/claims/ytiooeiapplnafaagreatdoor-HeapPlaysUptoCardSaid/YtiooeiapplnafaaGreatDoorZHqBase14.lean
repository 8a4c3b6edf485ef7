/- The texts SpE HgB HgA HgC HgE HgRo HgRd HkRd, one behind the other: what the law leans on. Conditions: as each theorem says. -/
import Derived.Test.YtiooeiapplnafaaGreatDoorZHqBase13
import Derived.Laws.StructEq
set_option linter.unusedSimpArgs false
set_option linter.unusedVariables false
set_option maxRecDepth 100000
set_option maxHeartbeats 16000000
namespace Go.Proofs.YtiooeiapplnafaaGreatDoor
open Go.RowKit
section
variable {P : Program} {B : Base} {n : Nat} {S : List Assn} {f : Fr} {d : Option Tmp} {ty : TypeId} {pos : String} {af : Array Edge} {gd : Option (Nat × Bool)}
def EqSt (P : Program) (t : TypeId) (xs ys : Array Value) (r : Bool) : Prop := (P.eqGuardType P.depth t = false) ∧ ∀ w, (Op.equalIn 10000 t (.agg xs) (.agg ys)).run P w = .ok r w
theorem YV {t t2 : TypeId} {x y : Operand} {xs ys : Array Value} {r : Bool} (h : EqSt P t xs ys r) (hx : ev n f x = some (.agg xs)) (hy : ev n f y = some (.agg ys)) : Qt P B n S ⟨d, .binOp .neq t x y t2, ty, pos, af, gd⟩ f (.bool (!r)) := ⟨fun w _ => by
 simp [execOp, evu_eq hx, evu_eq hy, run_eqGuard_agg w _ t x y xs ys h.1, run_neq_struct, h.2 w]⟩
theorem part_int {t : TypeId} {k : IntKind} (hu : P.underlying t = some (.int k)) {cs : Array Value} {off : Nat} {v : Value} (h : cs[off]? = some v) (w : World) : (part t cs off).run P w = .ok v w := by
 simp [part, isAgg, run_underlying hu, h]
theorem part_str {t : TypeId} (hu : P.underlying t = some .string) {cs : Array Value} {off : Nat} {v : Value} (h : cs[off]? = some v) (w : World) : (part t cs off).run P w = .ok v w := by
 simp [part, isAgg, run_underlying hu, h]
theorem eqF_int {d : Nat} {g : Field} {fs : List Field} {k : IntKind} {xs ys : Array Value} {a b : Int} (w : World) (hn : (decide (g.name ≠ "_")) = true) (hu : P.underlying g.type = some (.int k)) (hx : xs[g.offset]? = some (.int k a)) (hy : ys[g.offset]? = some (.int k b)) :
  (Op.eqFields (d + 1) xs ys (g :: fs)).run P w = if a = b then (Op.eqFields (d + 1) xs ys fs).run P w else .ok false w := by
 rw [Op.eqFields, if_pos (of_decide_eq_true hn)]
 simp only [Sem.run_bind, part_int hu hx, part_int hu hy, Result.andThen_ok, run_equalIn_int w d _ k k a b hu, Sem.run_ite]
 by_cases e : a = b
 · subst e; simp
 · simp [e]
theorem eqF_str {d : Nat} {g : Field} {fs : List Field} {xs ys : Array Value} {a b : List UInt8} (w : World) (hn : (decide (g.name ≠ "_")) = true) (hu : P.underlying g.type = some .string) (hx : xs[g.offset]? = some (.string (strOf a))) (hy : ys[g.offset]? = some (.string (strOf b))) :
  (Op.eqFields (d + 1) xs ys (g :: fs)).run P w = if a = b then (Op.eqFields (d + 1) xs ys fs).run P w else .ok false w := by
 rw [Op.eqFields, if_pos (of_decide_eq_true hn)]
 have e : ∀ l : List UInt8, (strOf l).toList = l := fun l => ByteArray.toList_mk l
 simp only [Sem.run_bind, part_str hu hx, part_str hu hy, Result.andThen_ok, run_equalIn_string w d _ _ _ hu, Sem.run_ite, e]
 by_cases e2 : a = b
 · subst e2; simp
 · simp [e2]
theorem eqF_nil {d : Nat} {xs ys : Array Value} (w : World) : (Op.eqFields d xs ys []).run P w = .ok true w := by simp [Op.eqFields]
theorem fieldsOf_eq {t : TypeId} {fs : Array Field} (h : P.underlying t = some (.struct fs)) : P.fieldsOf t = fs := by unfold Program.fieldsOf; rw [h]
end
theorem EqSt.mk' {P : Program} {t : TypeId} {fs : List Field} {xs ys : Array Value} {r : Bool} (hg : (P.eqGuardType P.depth t = false)) (hu : P.underlying t = some (.struct fs.toArray)) (hp : P.stoodInHeld t = false) (h : ∀ d w, (Op.eqFields (d + 1) xs ys fs).run P w = .ok r w) : EqSt P t xs ys r := by
 refine ⟨hg, fun w => ?_⟩
 have hf := fieldsOf_eq hu
 obtain ⟨d, hd⟩ : ∃ d : Nat, 10000 = d + 1 + 1 := ⟨9998, rfl⟩
 rw [hd, run_equalIn_struct w (d + 1) t xs ys (by rw [hf]; exact hu) hp, hf]
 exact h d w
theorem eqRid (a b c d : Int) : EqSt Tryz.prog 39 #[.int .i64 a, .int .i64 b] #[.int .i64 c, .int .i64 d] (decide (a = c ∧ b = d)) := by
  refine EqSt.mk' (by kernel_rfl) Tryz.underlying39 (by kernel_rfl) fun d0 w => ?_
  refine Eq.trans (eqF_int w (a := a) (b := c) rfl Tryz.underlying3 rfl rfl) ?_
  by_cases h : a = c
  · rw [if_pos h]
    refine Eq.trans (eqF_int w (a := b) (b := d) rfl Tryz.underlying3 rfl rfl) ?_
    by_cases h2 : b = d
    · rw [if_pos h2, eqF_nil]; simp [h, h2]
    · rw [if_neg h2]; simp [h2]
  · rw [if_neg h]; simp [h]
open Go.RowKit
theorem Own.vm_owns {B : Base} {w : World} {l : List Assn} {L : List VerM} (ho : Own B w (vmsA L :: l)) {j : Nat} {x : VerM} (hx : L[j]? = some x) : w.ownsRow 0 5 1 (.slice x.p (16 + x.v.data.length) x.c) (16 + x.v.data.length) (bytesV x.raw) := by
 obtain ⟨h, _, hl, h1, _, _, a1, _, hA, _⟩ := ho.has
 obtain ⟨k, hk, e⟩ := Has.getL (l := L.map vmA) (j := j) (A := vmA x) (by simp [hx]) hA
 have le : ∀ g o, k g = some o → w.heap[g]? = some o := fun g o e => hl.p _ _ (a1.p _ _ (hk.p _ _ e))
 exact ⟨e.1, e.2.imp id fun ⟨g, cap, cur, e1, e2, e3⟩ => ⟨g, cap, cur, e1, Nat.zero_le _, le _ _ e2, e3⟩⟩
def VmsOk (L : List VerM) : Prop := ∀ (j : Nat) (x : VerM), L[j]? = some x → x.Ok ∧ (∃ g, x.p = some ⟨g, 0, none⟩) ∧ 16 + x.v.data.length ≤ x.c
theorem Own.vmsOk {B : Base} {w : World} {l : List Assn} {L : List VerM} (ho : Own B w (vmsA L :: l)) (hL : ∀ x ∈ L, x.Ok) : VmsOk L := fun j x hx => by
 have h := ho.vm_owns hx
 refine ⟨hL x (List.mem_of_getElem? hx), ?_, owns_cap h⟩
 rcases h.2 with ⟨_, h2⟩ | ⟨g, cap, cur, h2, _⟩
 · omega
 · injection h2 with h2; exact ⟨g, h2⟩
theorem RdV.ver {B : Base} {L : List VerM} (h : VmsOk L) {j : Nat} {x : VerM} (hx : L[j]? = some x) : RdV B [vmsA L] (.slice (offA x.p x.c 16 1) x.v.data.length (x.c - 16)) (bytesV x.v.data) := by
 obtain ⟨h1, h2, h3⟩ := h j x hx
 have h0 : RdV B [vmsA L] (.slice x.p (16 + x.v.data.length) x.c) (bytesV x.raw) := RdV.ofRow (e := 5) (fun w ho => ho.vm_owns hx) (by simp [h1.1]) (fun _ => h2)
 have := h0.dropB 16 (by omega) h1.1 h3
 rw [h1.2, show 16 + x.v.data.length - 16 = x.v.data.length by omega] at this
 exact this
theorem ver_at {L : List VerM} {j : Nat} {x : VerM} (hx : L[j]? = some x) (k : Nat) (hk : k < 5) {v : Value} (hv : (vmC x)[k]? = some v) : (L.flatMap vmC)[0 + j * 5 + k]? = some v := by
 obtain ⟨hj, hc⟩ := List.getElem?_eq_some_iff.1 hx
 exact flat_cell vmC 5 L (fun _ _ => rfl) j k hj (by rw [hc]; exact hv)
open Go.RowKit
theorem histNil (p r : Nat) : HistOk p r [] := fun k e h => by simp at h
theorem Hp.opened (B : Base) (N logs count n : Nat) (i j k : Int) (hi : i = N) (hj : j = logs) (hk : k = n) (h1 : 1 ≤ logs) (hc : 1 ≤ count) (hN : N = logs + count) (hN2 : N ≤ 4096) (hn1 : 1 ≤ n) (hn2 : n ≤ 4096) :
  Fn Tryz.prog B 16 #[.int .i64 i, .int .i64 j, .int .i64 k] [] (fun u l => ∃ b g, u = .tuple #[pV b, pV g, .int .i64 0] ∧ l = [hpA g b logs count n count (newR count (logs * 256))]) := by
 subst hi; subst hj; subst hk
 refine Fn.enter3 32 Tryz.func16 rfl rfl (nB rfl) (fun F => ?_)
 try simp only [cA, nA]
 refine TS (La rfl rfl (La rfl rfl (La rfl rfl (Ld (TS ?_)))))
 refine Lm rfl rfl ?_
 refine Le rfl (Ec (Dk.newF B N N rfl (by omega) (by omega)) Tryz.func57 rfl rfl rfl ?_)
 rintro _ _ ⟨b, rfl, rfl⟩
 try simp only [cA, nA]
 refine Lm rfl rfl (Lq rfl (Qx rfl rfl) (Lq rfl (Qx rfl rfl) (La rfl rfl (La rfl rfl (Ld (Ts (Ts ?_)))))))
 refine TR (Lm rfl rfl (Lq rfl (Y1 (by kernel_rfl) rfl rfl) (Ld (yQ rfl (Tk (TS ?_))))))
 refine Lm rfl rfl (Lm rfl rfl (Lm rfl rfl ?_))
 refine Le rfl (Ec (Hp.open B b ⟨List.replicate N zs, []⟩ logs count n 0 logs n rfl rfl [] h1 hc (by simp; omega) hn1 hn2 (by simp) (histNil _ _) (scan_secs (ds := []) (Secs.new (by omega)) (by simp) (by simp [logB])) (by simp [lastE]) (by simp; omega)) Tryz.func37 rfl rfl rfl ?_)
 rintro _ _ ⟨g, p1, p2, p3, c1, c2, c3, rfl, rfl⟩
 try simp only [cA, nA]
 rw [show (0 : Nat) + count + ([] : List En).length = count by simp, show reopen count (logs * 256) [] = newR count (logs * 256) from rfl]
 refine Lm rfl rfl (Lq rfl (Qx rfl rfl) (Lq rfl (Qx rfl rfl) (Lq rfl (Qx rfl rfl) ?_)))
 refine Le rfl (El [.slice none 0 0, .slice none 0 0, .slice none 0 0, .int .i64 0] (by unfold zeroB; kernel_rfl) ?_)
 intro g12
 refine La rfl rfl ?_
 refine L0 rfl (Es [_, _, _, _] (by kernel_rfl) rfl rfl rfl rfl (by simp) ?_)
 try simp only [splice, lC, lN, dS, cA, tS, tZ, dZ, nA, aN]
 refine La rfl rfl (Ld (TS (Lm rfl rfl (Lm rfl rfl (Lm rfl rfl (La rfl rfl ?_))))))
 refine La rfl rfl (La rfl rfl (Ld (T.ret ?_)))
 exact ⟨.inl rfl, _, _, res [_, _, _] rfl ⟨rvT rfl, rvT rfl, rvT rfl, trivial⟩, ⟨b, g, rfl, rfl⟩, Sa⟩
abbrev awS1 : HR := ⟨4, 1024, 0, [], [1], [], 1, []⟩
abbrev awE1 : En := ⟨1, 1, 0, 0, 0, [97]⟩
abbrev awE2 : En := ⟨3, 1, 0, 0, 5, []⟩
abbrev awE3 : En := ⟨1, 2, 0, 1, 0, [98]⟩
abbrev awS2 : HR := ⟨4, 1024, 21, [⟨0, 0, 1, 0, [97]⟩], [1], [], 1, [awE1]⟩
abbrev awS3 : HR := ⟨4, 1024, 46, [⟨0, 0, 1, 0, [97]⟩], [], [(1, 5)], 1, [awE1, awE2]⟩
abbrev awS4 : HR := ⟨4, 1024, 46, [⟨0, 0, 1, 0, [97]⟩], [2], [(1, 5)], 2, [awE1, awE2]⟩
abbrev awS5 : HR := ⟨4, 1024, 67, [⟨0, 0, 1, 0, [97]⟩, ⟨0, 1, 2, 0, [98]⟩], [2], [(1, 5)], 2, [awE1, awE2, awE3]⟩
theorem aw1 : beginR (newR 4 (4 * 256)) = awS1 := rfl
theorem aw2 : addR' awS1 1 [97] = (awS2, 0, 0, 0) := by kernel_rfl
theorem aw3 : commitR awS2 1 5 = (awS3, 0) := by kernel_rfl
theorem aw4 : beginR awS3 = awS4 := rfl
theorem aw5 : addR' awS4 2 [98] = (awS5, 0, 1, 0) := by kernel_rfl
theorem aw6 : allR awS5 = [⟨0, 0, 1, 0, [97]⟩, ⟨0, 1, 2, 0, [98]⟩] := by kernel_rfl
theorem RdV.one {B : Base} {g : Nat} {t : TypeId} {z : Nat × Nat} (x : UInt8) : RdV B [fblk g [.int .u8 x.toNat] t z] (.slice (some ⟨g, 0, none⟩) 1 1) (bytesV [x]) :=
 ⟨_, 1, rfl, .inr ⟨g, 0, rfl, fun w ho => ho.range (g := g) (C := [.int .u8 x.toNat]) (fun j u hj => by rw [Nat.zero_add]; exact hj)⟩⟩
theorem one_map {L : List VerM} {v : Ver} (h : L.map (·.v) = [v]) : ∃ x, L = [x] ∧ x.v = v := by
 match L, h with
 | [x], h => exact ⟨x, rfl, by simpa using h⟩
theorem Hp.awake (B : Base) : Fn Tryz.prog B 15 #[] [] (fun v l => v = .bool true ∧ l = []) := by
 refine Fn.enter0 109 Tryz.func15 rfl rfl (nB rfl) (fun F => ?_)
 try simp only [cA, nA]
 refine TS (La rfl rfl (Ld (TS ?_)))
 refine Le rfl (Ec (Hp.opened B 8 4 4 2 8 4 2 rfl rfl rfl (by omega) (by omega) rfl (by omega) (by omega) (by omega)) Tryz.func16 rfl rfl rfl ?_)
 rintro _ _ ⟨b, g, rfl, rfl⟩
 try simp only [cA, nA]
 refine Lm rfl rfl (Lq rfl (Qx rfl rfl) (Lq rfl (Qx rfl rfl) (Lq rfl (Qx rfl rfl) (La rfl rfl (La rfl rfl (La rfl rfl (Ld ?_)))))))
 refine Ts (TS (Lm rfl rfl (Lq rfl (Y1 (by kernel_rfl) rfl rfl) (Lm rfl rfl (yT (t := 18) rfl rfl (Lm rfl rfl ?_))))))
 refine Lq rfl (Y1 (by kernel_rfl) rfl rfl) (Lq rfl (Qp rfl rfl) (Lm rfl rfl (yT (t := 22) rfl rfl (Lm rfl rfl (Lq rfl (yW rfl rfl) (Lq rfl (Qp rfl rfl) (Ld ?_)))))))
 refine yQ rfl (Tk (TS (Lm rfl rfl (Lq rfl (Qn rfl) (Lq rfl (Q0 (by kernel_rfl) rfl) ?_)))))
 refine Le rfl (Ec (Hp.begin B g b 4 4 2 4 (newR 4 (4 * 256)) (by omega)) Tryz.func17 rfl rfl rfl ?_)
 rintro _ _ ⟨rfl, rfl⟩
 try simp only [cA, nA]
 rw [aw1, show (newR 4 (4 * 256)).last + 1 = 1 from rfl]
 refine La rfl rfl (Ld (TS (Lm rfl rfl (Lm rfl rfl ?_))))
 refine Le rfl (zK [_] (e := 5) (sz := 1) (by kernel_rfl) ⟨.int .u8 0, by kernel_rfl, rfl⟩ rfl rfl rfl (by omega) (by omega) ?_)
 intro g33
 refine Le rfl (YX (by kernel_rfl) rfl ?_)
 refine Le rfl (Ec (Hp.add B [fblk g33 [.int .u8 97] 5 (1, 2)] g b 4 4 2 5 awS1 (by omega) 1 (some ⟨g33, 0, none⟩) 1 [97] (RdV.one 97) (by simp)) Tryz.func18 rfl rfl rfl ?_)
 rintro _ _ ⟨rfl, rfl⟩
 try simp only [cA, nA]
 rw [aw2]
 refine Lm rfl rfl (Lq rfl (Qx rfl rfl) (Lq rfl (Qx rfl rfl) ?_))
 refine Le rfl (El [.int .i64 0, .int .i64 0] (by unfold zeroB; kernel_rfl) ?_)
 intro g5
 refine L0 rfl (Es [_, _] (by kernel_rfl) rfl rfl rfl rfl (by simp) ?_)
 try simp only [splice, lC, lN, dS, cA, tS, tZ, dZ, nA, aN]
 refine La rfl rfl (Ld (TS (Lm rfl rfl (Lm rfl rfl ?_))))
 refine Le rfl (Ec (Hp.commit B g b 4 4 2 10 awS2 (by omega) 1 5 (by simp)) Tryz.func20 rfl rfl rfl ?_)
 rintro _ _ ⟨rfl, rfl⟩
 try simp only [cA, nA]
 rw [aw3]
 refine La rfl rfl (Ld (TS (Lm rfl rfl (Lq rfl (Qn rfl) (Lq rfl (Q0 (by kernel_rfl) rfl) ?_)))))
 refine Le rfl (Ec (Hp.begin B g b 4 4 2 10 awS3 (by omega)) Tryz.func17 rfl rfl rfl ?_)
 rintro _ _ ⟨rfl, rfl⟩
 try simp only [cA, nA]
 rw [aw4, show awS3.last + 1 = 2 from rfl]
 refine La rfl rfl (Ld (TS (Lm rfl rfl (Lm rfl rfl ?_))))
 refine Le rfl (zK [_] (e := 5) (sz := 1) (by kernel_rfl) ⟨.int .u8 0, by kernel_rfl, rfl⟩ rfl rfl rfl (by omega) (by omega) ?_)
 intro g47
 refine Le rfl (YX (by kernel_rfl) rfl ?_)
 refine Le rfl (Ec (Hp.add B [fblk g47 [.int .u8 98] 5 (1, 2)] g b 4 4 2 11 awS4 (by omega) 2 (some ⟨g47, 0, none⟩) 1 [98] (RdV.one 98) (by simp)) Tryz.func18 rfl rfl rfl ?_)
 rintro _ _ ⟨rfl, rfl⟩
 try simp only [cA, nA]
 rw [aw5]
 refine Ld (Ts (TS (Lm rfl rfl (Lq rfl (yW rfl rfl) (Lm rfl rfl (yT (t := 52) rfl rfl ?_))))))
 refine Lm rfl rfl (Lq rfl (yW rfl rfl) (Lq rfl (Qp rfl rfl) (Lm rfl rfl (yT (t := 56) rfl rfl (Lq rfl (QL [_, _] (by kernel_rfl) rfl ⟨rfl, rfl, trivial⟩) (Lq rfl (z8 [(0, 1), (1, 1)] [.int .i64 0, .int .i64 0] [_, _] [] (by kernel_rfl) (by unfold zeroB; kernel_rfl) rfl rfl) (Lq rfl (YV (eqRid 0 0 0 0) rfl rfl) ?_)))))))
 refine Lq rfl (Qp rfl rfl) (Lm rfl rfl (yT (t := 61) rfl rfl (Lm rfl rfl ?_)))
 refine Le rfl (Ec (Hp.all B g b 4 4 2 16 awS5 (by omega)) Tryz.func19 rfl rfl rfl ?_)
 rintro _ _ ⟨L, p, c, hL1, hL2, rfl, rfl⟩
 try simp only [cA, nA]
 rw [aw6] at hL2
 have hLl : L.length = 2 := by simpa using congrArg List.length hL2
 rw [hLl]
 refine Lq rfl (yI (e := 45) (sz := 5) (by kernel_rfl) rfl) (Lq rfl (yW rfl rfl) (Lq rfl (Qp rfl rfl) (Ld (yQ rfl (Tk (TS ?_))))))
 refine Lm rfl rfl ?_
 refine Le rfl (Ec (Hp.crash B g b 4 4 2 20 awS5 (by omega) (.slice none 0 0) [] (-1) 0 (RoS.nil B)) Tryz.func32 rfl rfl rfl ?_)
 rintro _ _ ⟨D, k, ⟨hh, hk, hc, hs, hd, ho, hp⟩, rfl, rfl⟩
 try simp only [cA, nA]
 refine Ld (TS (Lm rfl rfl ?_))
 have hk2 : k = 2 ∨ k = 3 := by
  have h1 : k ≤ 3 := hk
  have h2 : ¬ k ≤ 1 := fun h => hc 1 awE2 h rfl rfl
  omega
 have hlast : lastE (awS5.es.take k) ≤ 2 := by rcases hk2 with rfl | rfl <;> decide
 have hlen : (awS5.es.take k).length ≤ 3 := by rw [List.length_take]; exact Nat.min_le_right ..
 have hall : allR (reopen 4 (4 * 256) (awS5.es.take k)) = [⟨0, 0, 1, 0, [97]⟩] := by rcases hk2 with rfl | rfl <;> kernel_rfl
 have hcm : (anRun ((awS5.es.take k).zip (mksOf (awS5.es.take k)))).cm = [(1, 5)] := by rw [an_cm hh]; rcases hk2 with rfl | rfl <;> kernel_rfl
 refine Le rfl (Ec (Hp.open B b D 4 4 2 2 4 2 rfl rfl (awS5.es.take k) (by omega) (by omega) hd (by omega) (by omega) (by rw [hp]; simp) hh hs hlast (by omega)) Tryz.func37 rfl rfl rfl ?_)
 rintro _ _ ⟨g2, p1, p2, p3, c1, c2, c3, rfl, rfl⟩
 try simp only [cA, nA]
 rw [hcm]
 refine Lm rfl rfl (Lq rfl (Qx rfl rfl) (Lq rfl (Qx rfl rfl) (Lq rfl (Qx rfl rfl) ?_)))
 refine Le rfl (El [.slice none 0 0, .slice none 0 0, .slice none 0 0, .int .i64 0] (by unfold zeroB; kernel_rfl) ?_)
 intro g9
 refine La rfl rfl ?_
 refine L0 rfl (Es [_, _, _, _] (by kernel_rfl) rfl rfl rfl rfl (by simp) ?_)
 try simp only [splice, lC, lN, dS, cA, tS, tZ, dZ, nA, aN]
 refine La rfl rfl (Ld (Ts (TS (Lm rfl rfl (Lq rfl (Y1 (by kernel_rfl) rfl rfl) (Lm rfl rfl ?_))))))
 refine yT (t := 77) rfl rfl (Lm rfl rfl (Lq rfl (yW rfl rfl) (Lq rfl (Qp rfl rfl) (Lm rfl rfl (yT (t := 81) rfl rfl (Lq rfl (Q0 (by kernel_rfl) rfl) (Lq rfl (Ql (by kernel_rfl) rfl rfl) ?_)))))))
 refine Lq rfl (yI (e := 48) (sz := 2) (by kernel_rfl) rfl) (Lq rfl (yW rfl rfl) (Lq rfl (Qp rfl rfl) (Ld (yQ rfl (Tk (TS ?_))))))
 refine Lm rfl rfl ?_
 refine Le rfl (Ec (Hp.all B g2 b 4 4 2 (2 + 4 + (awS5.es.take k).length) (reopen 4 (4 * 256) (awS5.es.take k)) (by omega)) Tryz.func19 rfl rfl rfl ?_)
 rintro _ _ ⟨L2, p4, c4, hL3, hL4, rfl, rfl⟩
 try simp only [cA, nA]
 rw [hall] at hL4
 obtain ⟨x, rfl, hxv⟩ := one_map hL4
 refine LW.own fun w ho => ?_
 have hvo : VmsOk [x] := (ho.map Sa : Own B w [vmsA [x]]).vmsOk hL3
 obtain ⟨g4, rfl⟩ : ∃ g, p4 = some ⟨g, 0, none⟩ := ((ho.map Sa : Own B w [vmR p4 1 c4 [x]]).slice_at (p := p4) (m := 1) (c := c4)).2.1 (by omega)
 clear ho
 have hrd := RdV.ver (B := B) hvo (j := 0) rfl
 rw [hxv] at hrd
 rw [show [x].length = 1 from rfl]
 refine La rfl rfl (Ld (TS (Lm rfl rfl (Lq rfl (yI (e := 45) (sz := 5) (by kernel_rfl) rfl) (Lq rfl (yU rfl rfl) (Lm rfl rfl ?_))))))
 refine zQ (t := 92) rfl rfl (Lm rfl rfl (Lq rfl (Qi 0 (e := 45) (sz := 5) (by kernel_rfl) rfl rfl rfl (by omega)) (Lq rfl (Qf (off := 4) (by kernel_rfl) rfl) (Lq rfl (Ql (v := .slice (offA x.p x.c 16 1) 1 (x.c - 16)) (by kernel_rfl) rfl (by have := ver_at (L := [x]) (j := 0) rfl 4 (by omega) rfl; rw [hxv] at this; simpa using this)) (Lq rfl (Z2 [97] (by kernel_rfl) (by kernel_rfl) rfl (fun w ho => hrd.reads w (ho.map Sa))) (Lq rfl (Z3 rfl rfl) (Lq rfl (Qp rfl rfl) ?_)))))))
 refine Lm rfl rfl (zQ (t := 100) rfl rfl (Lm rfl rfl (Lq rfl (Qi 0 (e := 45) (sz := 5) (by kernel_rfl) rfl rfl rfl (by omega)) (Lq rfl (Qf (off := 2) (by kernel_rfl) rfl) (Lq rfl (Ql (v := .int .i64 1) (by kernel_rfl) rfl (by have := ver_at (L := [x]) (j := 0) rfl 2 (by omega) rfl; rw [hxv] at this; simpa using this)) (Lq rfl (yU rfl rfl) (Lq rfl (Qp rfl rfl) ?_)))))))
 refine Lm rfl rfl (Lq rfl (Qp rfl rfl) (La rfl rfl (Ld (T.ret ?_))))
 exact ⟨.inl rfl, _, _, res [_] rfl ⟨rvT rfl, trivial⟩, ⟨rfl, rfl⟩, Sa⟩
open Go.RowKit
section
variable (d : List UInt8)
abbrev fE1 : En := ⟨1, 1, 0, 0, 0, d⟩
abbrev fE2 : En := ⟨3, 1, 0, 0, 1, []⟩
abbrev fE3 (t : Int) : En := ⟨2, t, 0, 0, 0, []⟩
abbrev fU : Int := 0 + ((20 + d.length : Nat) : Int)
abbrev fS1 : HR := ⟨7, 2304, 0, [], [1], [], 1, []⟩
abbrev fS2 : HR := ⟨7, 2304, fU d, [⟨0, 0, 1, 0, d⟩], [1], [], 1, [fE1 d]⟩
abbrev fS4 : HR := ⟨7, 2304, fU d, [⟨0, 0, 1, 0, d⟩], [1, 2, 3], [], 3, [fE1 d]⟩
abbrev fS5 : HR := ⟨7, 2304, fU d + 25, [⟨0, 0, 1, 0, d⟩], [2, 3], [(1, 1)], 3, [fE1 d, fE2]⟩
abbrev fS6 : HR := ⟨7, 2304, fU d + 25 + 20, [⟨0, 0, 1, 2, d⟩], [2, 3], [(1, 1)], 3, [fE1 d, fE2, fE3 2]⟩
theorem sz3 (t s : Int) : enSz ⟨3, t, 0, 0, s, []⟩ = 25 := by rw [enSz_eq]; rfl
theorem sz2 (t p s : Int) : enSz ⟨2, t, p, s, 0, []⟩ = 20 := by rw [enSz_eq]; rfl
theorem hAdd_ok {h : HR} {t : Int} {q : Nat} (ha : isAct h t = true) (hl : d.length ≤ 184) (hr : roomyP h d.length = some q) (hu : h.used + 20 + d.length ≤ h.room) : addR' h t d = (writeR h (addE h t d q), (q : Int), ((pageV h.vs q).length : Int), 0) := by
 unfold addR'
 rw [if_pos ha, if_neg (by omega), hr]
 dsimp only
 rw [if_neg (by omega)]
theorem hAdd_long {h : HR} {t : Int} (ha : isAct h t = true) (hl : 184 < d.length) : addR' h t d = (h, 0, 0, 2) := by
 unfold addR'
 rw [if_pos ha, if_pos hl]
theorem hCm_ok {h : HR} {t s : Int} (ha : isAct h t = true) (hb : badStamp h s = false) (hu : h.used + 25 ≤ h.room) : commitR h t s = (writeR (withoutR h t) (cmE t s), 0) := by
 unfold commitR
 rw [if_pos ha, if_neg (by rw [hb]; simp), if_neg (by omega)]
theorem hEnd_ok {h : HR} {t p s : Int} {v : Ver} (ha : isAct h t = true) (hv : (findV h.vs p s).bind (h.vs[·]?) = some v) (h1 : ¬ ((v.beg ≠ t ∧ isCm h v.beg = false) ∨ v.fin = t ∨ isCm h v.fin = true)) (h2 : isAct h v.fin = false) (hu : h.used + 20 ≤ h.room) : endR h t p s = (writeR h (endE t p s), 0) := by
 unfold endR
 rw [if_pos ha, hv]
 dsimp only
 rw [if_neg h1, if_neg (by rw [h2]; simp), if_neg (by omega)]
theorem hEnd_busy {h : HR} {t p s : Int} {v : Ver} (ha : isAct h t = true) (hv : (findV h.vs p s).bind (h.vs[·]?) = some v) (h1 : ¬ ((v.beg ≠ t ∧ isCm h v.beg = false) ∨ v.fin = t ∨ isCm h v.fin = true)) (h2 : isAct h v.fin = true) : endR h t p s = (h, 71) := by
 unfold endR
 rw [if_pos ha, hv]
 dsimp only
 rw [if_neg h1, if_pos h2]
theorem hEnd_no {h : HR} {t p s : Int} {v : Ver} (ha : isAct h t = true) (hv : (findV h.vs p s).bind (h.vs[·]?) = some v) (h1 : ((v.beg ≠ t ∧ isCm h v.beg = false) ∨ v.fin = t ∨ isCm h v.fin = true)) : endR h t p s = (h, 4) := by
 unfold endR
 rw [if_pos ha, hv]
 dsimp only
 rw [if_pos h1]
theorem f1 : beginR (newR 7 (9 * 256)) = fS1 := rfl
theorem f2 (h : d.length ≤ 184) : addR' fS1 1 d = (fS2 d, 0, 0, 0) := by
 have h1 : roomyP fS1 d.length = some 0 := by
  unfold roomyP
  rw [show List.range fS1.pages = [0, 1, 2, 3, 4, 5, 6] from rfl]
  rw [List.find?_cons_of_pos (by have : usedP [] 0 = 13 := rfl; simp only [decide_eq_true_eq]; omega)]
 rw [hAdd_ok d rfl h h1 (by show (0 : Int) + 20 + d.length ≤ (2304 : Nat); omega)]
 simp only [writeR, enSz_eq, addE]
 rfl
theorem f3 : beginR (beginR (fS2 d)) = fS4 d := rfl
theorem f4 : endR (fS4 d) 2 0 0 = (fS4 d, 4) := hEnd_no rfl (v := ⟨0, 0, 1, 0, d⟩) rfl (.inl ⟨(by show (1 : Int) ≠ 2; decide), rfl⟩)
theorem f5 (h : d.length ≤ 184) : commitR (fS4 d) 1 1 = (fS5 d, 0) := by
 rw [hCm_ok rfl rfl (by show fU d + 25 ≤ (2304 : Nat); unfold fU; omega)]
 simp only [writeR, sz3]
 rfl
theorem f6 (h : d.length ≤ 184) : endR (fS5 d) 2 0 0 = (fS6 d, 0) := by
 rw [hEnd_ok rfl (v := ⟨0, 0, 1, 0, d⟩) rfl (fun h => by simp [isCm] at h) rfl (by show fU d + 25 + 20 ≤ (2304 : Nat); unfold fU; omega)]
 simp only [writeR, sz2]
 rfl
theorem f7 : endR (fS6 d) 3 0 0 = (fS6 d, 71) := hEnd_busy rfl (v := ⟨0, 0, 1, 2, d⟩) rfl (fun h => by simp [isCm] at h) rfl
end
open Go.RowKit
theorem add_cases (h : HR) (t : Int) (d : List UInt8) : ((addR' h t d).2.2.2 ≠ 0 ∧ (addR' h t d).1 = h) ∨ ∃ q, isAct h t = true ∧ d.length ≤ 184 ∧ roomyP h d.length = some q ∧ h.used + 20 + d.length ≤ h.room ∧ addR' h t d = (writeR h (addE h t d q), (q : Int), ((pageV h.vs q).length : Int), 0) := by
  by_cases ha : isAct h t = true
  · by_cases hl : 184 < d.length
    · exact .inl (by rw [hAdd_long d ha hl]; simp)
    · cases hr : roomyP h d.length with
      | none => exact .inl (by unfold addR'; rw [if_pos ha, if_neg hl, hr]; simp)
      | some q =>
        by_cases hu : (h.room : Int) < h.used + 20 + d.length
        · exact .inl (by unfold addR'; rw [if_pos ha, if_neg hl, hr]; dsimp only; rw [if_pos hu]; simp)
        · exact .inr ⟨q, ha, by omega, rfl, by omega, hAdd_ok d ha (by omega) hr (by omega)⟩
  · exact .inl (by unfold addR'; rw [if_neg ha]; simp)
theorem end_cases (h : HR) (t p s : Int) : ((endR h t p s).2 ≠ 0 ∧ (endR h t p s).1 = h) ∨ ∃ (i : Nat) (v : Ver), isAct h t = true ∧ findV h.vs p s = some i ∧ h.vs[i]? = some v ∧ isCm h v.fin = false ∧ h.used + 20 ≤ h.room ∧ endR h t p s = (writeR h (endE t p s), 0) := by
  by_cases ha : isAct h t = true
  · cases hv : (findV h.vs p s).bind (h.vs[·]?) with
    | none => exact .inl (by unfold endR; rw [if_pos ha, hv]; simp)
    | some v =>
      by_cases h1 : ((v.beg ≠ t ∧ isCm h v.beg = false) ∨ v.fin = t ∨ isCm h v.fin = true)
      · exact .inl (by rw [hEnd_no ha hv h1]; simp)
      · by_cases h2 : isAct h v.fin = true
        · exact .inl (by rw [hEnd_busy ha hv h1 h2]; simp)
        · by_cases hu : (h.room : Int) < h.used + 20
          · exact .inl (by unfold endR; rw [if_pos ha, hv]; dsimp only; rw [if_neg h1, if_neg h2, if_pos hu]; simp)
          · obtain ⟨i, hi, hiv⟩ := Option.bind_eq_some_iff.1 hv
            refine .inr ⟨i, v, ha, hi, hiv, ?_, by omega, hEnd_ok ha hv h1 (by simpa using h2) (by omega)⟩
            have : ¬ isCm h v.fin = true := fun h => h1 (.inr (.inr h))
            simpa using this
  · exact .inl (by unfold endR; rw [if_neg ha]; simp)
theorem write_add_vs {h : HR} {t : Int} {d : List UInt8} {q : Nat} : (writeR h (addE h t d q)).vs = h.vs ++ [⟨q, (pageV h.vs q).length, t, 0, d⟩] := by simp [writeR, addE]
theorem write_end_vs {h : HR} {t p s : Int} {i : Nat} (hi : findV h.vs p s = some i) : (writeR h (endE t p s)).vs = h.vs.modify i (finV t) := by simp [writeR, endE, hi]
theorem write_add_used {h : HR} {t : Int} {d : List UInt8} {q : Nat} : (writeR h (addE h t d q)).used = h.used + (20 + d.length) := by simp [writeR, enSz_eq]
def AtL (h : HR) (ok : Int → Prop) (L : List (Int × Int)) : Prop := L.Nodup ∧ ∀ p ∈ L, ∃ (i : Nat) (v : Ver), findV h.vs p.1 p.2 = some i ∧ h.vs[i]? = some v ∧ v.beg = 1 ∧ ok v.fin
theorem find_app {vs l : List Ver} {p s : Int} {i : Nat} (h : findV vs p s = some i) : findV (vs ++ l) p s = some i := by
 unfold findV at h ⊢
 rw [List.findIdx?_append, h]; rfl
theorem AtL.app {h g : HR} {ok : Int → Prop} {L : List (Int × Int)} (a : AtL h ok L) {l : List Ver} (e : g.vs = h.vs ++ l) : AtL g ok L := by
 refine ⟨a.1, fun p hp => ?_⟩
 obtain ⟨i, v, h1, h2, h3⟩ := a.2 p hp
 exact ⟨i, v, by rw [e]; exact find_app h1, by rw [e, List.getElem?_append_left (List.getElem?_eq_some_iff.1 h2).1]; exact h2, h3⟩
theorem AtL.same {h g : HR} {ok : Int → Prop} {L : List (Int × Int)} (a : AtL h ok L) (e : g.vs = h.vs) : AtL g ok L := a.app (l := []) (by rw [e, List.append_nil])
theorem AtL.snoc {h : HR} {ok : Int → Prop} {L : List (Int × Int)} (r : RInv h) (a : AtL h ok L) (h0 : ok 0) {t : Int} {d : List UInt8} {q : Nat} (r2 : RInv (writeR h (addE h t d q))) (ht : t = 1) : AtL (writeR h (addE h t d q)) ok (L ++ [((q : Int), ((pageV h.vs q).length : Int))]) := by
  subst ht
  have hvs := write_add_vs (h := h) (t := 1) (d := d) (q := q)
  have ha := a.app hvs
  have hat : (writeR h (addE h 1 d q)).vs[h.vs.length]? = some ⟨q, (pageV h.vs q).length, 1, 0, d⟩ := by rw [hvs]; simp
  have hf := findV_of r2.ok.slots hat
  dsimp only at hf
  refine ⟨?_, fun p hp => ?_⟩
  · rw [List.nodup_append]
    refine ⟨a.1, by simp, fun p hp z hz e => ?_⟩
    simp at hz
    subst hz; subst e
    obtain ⟨i, v, h1, h2, _⟩ := a.2 _ hp
    have := find_app (l := [⟨q, (pageV h.vs q).length, 1, 0, d⟩]) h1
    rw [← hvs] at this
    dsimp only at this
    rw [this] at hf
    injection hf with hf
    have := (List.getElem?_eq_some_iff.1 h2).1
    omega
  · rcases List.mem_append.1 hp with hp | hp
    · exact ha.2 p hp
    · simp at hp
      subst hp
      exact ⟨_, _, hf, hat, rfl, h0⟩
theorem find_mod {vs : List Ver} {i : Nat} {t p s : Int} : findV (vs.modify i (finV t)) p s = findV vs p s := by
 unfold findV
 induction vs generalizing i with
 | nil => simp
 | cons v vs ih =>
  cases i with
  | zero => simp only [List.modify_zero_cons, List.findIdx?_cons]; rfl
  | succ i => simp only [List.modify_succ_cons, List.findIdx?_cons, ih]
theorem AtL.ended {h : HR} {ok : Int → Prop} {x : Int × Int} {L : List (Int × Int)} (a : AtL h ok (x :: L)) {t : Int} : AtL (writeR h (endE t x.1 x.2)) ok L := by
 obtain ⟨i, v, h1, h2, h3, h4⟩ := a.2 x (by simp)
 have hvs := write_end_vs (t := t) h1
 refine ⟨(List.nodup_cons.1 a.1).2, fun p hp => ?_⟩
 obtain ⟨j, u, k1, k2, k3⟩ := a.2 p (List.mem_cons_of_mem _ hp)
 refine ⟨j, u, by rw [hvs, find_mod]; exact k1, ?_, k3⟩
 rw [hvs, List.getElem?_modify]
 have hne : i ≠ j := fun e => by
  subst e
  obtain ⟨v1, e1, e2, e3⟩ := findV_some h1
  obtain ⟨v2, f1, f2, f3⟩ := findV_some k1
  rw [e1] at f1; cases f1
  have : p = x := by obtain ⟨_, _⟩ := p; obtain ⟨_, _⟩ := x; simp_all
  exact (List.nodup_cons.1 a.1).1 (this ▸ hp)
 rw [k2]
 simp [hne]
open Go.RowKit
structure OpH where
 kind : Int
 txn : Int
 page : Int
 slot : Int
 data : List UInt8
 stamp : Int
 keep : List Bool
 t0 : Int
 t1 : Int
def OpH.Ok (o : OpH) : Prop := (-(2 ^ 63) ≤ o.page ∧ o.page < 2 ^ 63) ∧ (-(2 ^ 63) ≤ o.slot ∧ o.slot < 2 ^ 63)
def RoLH (B : Base) (v : Value) (l : List OpH) : Prop := ∃ a cap, v = .slice a l.length cap ∧ (l = [] ∨ ∃ b o C, a = some ⟨b, o, none⟩ ∧ ROc B b C ∧
 ∀ i (hi : i < l.length), ∃ da dc ka kc, rdl C (o + i * 9) [.int .i64 l[i].kind, .int .i64 l[i].txn, .int .i64 l[i].page, .int .i64 l[i].slot, .slice da l[i].data.length dc, .int .i64 l[i].stamp, .slice ka l[i].keep.length kc, .int .i64 l[i].t0, .int .i64 l[i].t1] ∧ RoS B (.slice da l[i].data.length dc) (bytesV l[i].data) ∧ RoS B (.slice ka l[i].keep.length kc) (boolsV l[i].keep))
end Go.Proofs.YtiooeiapplnafaaGreatDoor
namespace Go.Proofs.YtiooeiapplnafaaGreatDoor
open Go.ChangeShapes Go.WideShapes Go.ChangeAt Go.RowKit
def OpHR (W : World) (cs : List Value) (o : OpH) : Prop := ∃ dv kv fd fk, cs = [.int .i64 o.kind, .int .i64 o.txn, .int .i64 o.page, .int .i64 o.slot, dv, .int .i64 o.stamp, kv, .int .i64 o.t0, .int .i64 o.t1] ∧ Reads W dv (bytesV o.data) fd ∧ Reads W kv (boolsV o.keep) fk ∧ o.Ok
section
variable {H : Type} {enc : TypeId × Value → H} {W : World}
theorem read_boolsH (n : Nat) (c : Value) (y : DataW H × List MemPlace) (h : Tr enc Tryz.prog W n 57 [c] = some y) : ∃ (l : List Bool) (fp : List Nat), Reads W c (boolsV l) fp ∧ l.length + 1 ≤ Rows.uptoBulk y.1 := by
 obtain ⟨v, l, hc, hs, _, hL⟩ := open_slice_R (R := fun cs (a : Bool) => cs = [.bool a]) (B := fun _ => 1) Tryz.underlying57 (show Tryz.prog.cellsOf 4 = 1 by kernel_rfl) (by omega) (fun n cs y => read_bool Tryz.underlying4 n cs y) h
 simp only [List.cons.injEq, and_true] at hc
 subst hc
 obtain ⟨fp, hR, hfp⟩ := hs.reads (fun a : Bool => Value.bool a) (fun cs a h => h)
 exact ⟨l, fp, hR, hL⟩
theorem two_of_lenH {α : Type} {l : List α} (h : l.length = 2) : ∃ a b, l = [a, b] := by
 match l, h with
 | [a, b], _ => exact ⟨a, b, rfl⟩
theorem eight_of_lenH {α : Type} {l : List α} (h : l.length = 8) : ∃ a b c d e f g i, l = [a, b, c, d, e, f, g, i] := by
 match l, h with
 | [a, b, c, d, e, f, g, i], _ => exact ⟨a, b, c, d, e, f, g, i, rfl⟩
theorem nine_of_lenH {α : Type} {l : List α} (h : l.length = 9) : ∃ a b c d e f g i j, l = [a, b, c, d, e, f, g, i, j] := by
 match l, h with
 | [a, b, c, d, e, f, g, i, j], _ => exact ⟨a, b, c, d, e, f, g, i, j, rfl⟩
theorem read_opH (n : Nat) (cs : List Value) (y : DataW H × List MemPlace) (h : Tr enc Tryz.prog W n 60 cs = some y) : ∃ o : OpH, OpHR W cs o ∧ o.data.length + o.keep.length + 2 ≤ Rows.uptoBulk y.1 := by
 obtain ⟨xs, m, rfl, rfl, hl, hx, hf⟩ := DataW.trod_struct Tryz.underlying60 h
 rw [show Tryz.prog.cellsOf 60 = 9 by kernel_rfl] at hl
 obtain ⟨c0, c1, c2, c3, c4, c5, c6, c7, c8, rfl⟩ := nine_of_lenH hl
 obtain ⟨x0, x1, x2, x3, x4, x5, x6, x7, rfl⟩ := eight_of_lenH hx
 have k0 : Tryz.prog.cellsOf 3 = 1 := by kernel_rfl
 have k1 : Tryz.prog.cellsOf 22 = 1 := by kernel_rfl
 have k2 : Tryz.prog.cellsOf 2 = 1 := by kernel_rfl
 have k3 : Tryz.prog.cellsOf 57 = 1 := by kernel_rfl
 have k4 : Tryz.prog.cellsOf 58 = 2 := by kernel_rfl
 have f0 := field_of hf 0 3 0 1 rfl k0
 have f1 := field_of hf 1 2 1 1 rfl k2
 have f2 := field_of hf 2 3 2 1 rfl k0
 have f3 := field_of hf 3 3 3 1 rfl k0
 have f4 := field_of hf 4 22 4 1 rfl k1
 have f5 := field_of hf 5 2 5 1 rfl k2
 have f6 := field_of hf 6 57 6 1 rfl k3
 have f7 := field_of hf 7 58 7 2 rfl k4
 simp only [List.drop_zero, List.drop_succ_cons, List.take_succ_cons, List.take_zero, List.getElem?_cons_zero, List.getElem?_cons_succ] at f0 f1 f2 f3 f4 f5 f6 f7
 obtain ⟨i0, e0, _, _⟩ := DataW.trod_int Tryz.underlying3 f0
 obtain ⟨i1, e1, _, _⟩ := DataW.trod_int Tryz.underlying2 f1
 obtain ⟨i2, ⟨e2, b1, b2⟩, _⟩ := read_i64 Tryz.underlying3 _ _ _ f2
 obtain ⟨i3, ⟨e3, b3, b4⟩, _⟩ := read_i64 Tryz.underlying3 _ _ _ f3
 obtain ⟨ld, fd, hd, hfd, hdl⟩ := read_bytes _ _ _ f4
 obtain ⟨i5, e5, _, _⟩ := DataW.trod_int Tryz.underlying2 f5
 obtain ⟨lk, fk, hk, hkl⟩ := read_boolsH _ _ _ f6
 obtain ⟨ys, m', e', e4, hl4, hy, hg⟩ := DataW.trod_array Tryz.underlying58 f7
 obtain ⟨y0, y1, rfl⟩ := two_of_lenH hy
 have g0 := hg 0 (by omega)
 have g1 := hg 1 (by omega)
 simp only [k0, Nat.zero_mul, Nat.one_mul, Nat.mul_one, List.drop_zero, List.drop_succ_cons, List.take_succ_cons, List.take_zero, List.getElem?_cons_zero, List.getElem?_cons_succ] at g0 g1
 obtain ⟨j0, q0, _, _⟩ := DataW.trod_int Tryz.underlying3 g0
 obtain ⟨j1, q1, _, _⟩ := DataW.trod_int Tryz.underlying3 g1
 simp only [List.cons.injEq, and_true] at e0 e1 e2 e3 e5 q0 q1
 subst e0; subst e1; subst e2; subst e3; subst e5; subst q0; subst q1
 refine ⟨⟨i0, i1, i2, i3, ld, i5, lk, j0, j1⟩, ⟨c4, c6, fd, fk, rfl, hd, hk, ⟨by dsimp only; omega, by dsimp only; omega⟩, by dsimp only; omega, by dsimp only; omega⟩, ?_⟩
 simp only [List.map_cons, List.map_nil, Rows.uptoBulk, Rows.uptoBulkAll]
 omega
end
theorem SliceAt.roLH {W : World} {v : Value} {l : List OpH} (h : SliceAt W 9 (OpHR W) v l) : RoLH (baseOf W) v l := by
 obtain ⟨sa, sc, e, h⟩ := h.ro (by omega)
 refine ⟨sa, sc, e, h.imp id ?_⟩
 rintro ⟨b, o, C, e1, e2, h⟩
 refine ⟨b, o, C, e1, e2, fun i hi => ?_⟩
 obtain ⟨cells, h1, dv, kv, fd, fk, rfl, hd, hk, _⟩ := h i hi
 obtain ⟨da, dc, e, hx⟩ := RoS.ofReads hd
 obtain ⟨ka, kc, e2, hy⟩ := RoS.ofReads hk
 rw [length_bytesV] at e
 rw [show (boolsV l[i].keep).length = l[i].keep.length by simp [boolsV]] at e2
 subst e
 subst e2
 exact ⟨da, dc, ka, kc, h1, ⟨da, dc, by rw [length_bytesV], hx⟩, ka, kc, by simp [boolsV], hy⟩
theorem SliceAt.okH {W : World} {v : Value} {l : List OpH} (h : SliceAt W 9 (OpHR W) v l) : ∀ x ∈ l, x.Ok := by
  intro x hx
  obtain ⟨sa, sc, e, h⟩ := h.ro (by omega)
  rcases h with rfl | ⟨b, o, C, e1, e2, h⟩
  · cases hx
  · obtain ⟨i, hi, rfl⟩ := List.getElem_of_mem hx
    obtain ⟨cells, h1, dv, kv, fd, fk, rfl, hd, hk, h2⟩ := h i hi
    exact h2
theorem opH_le : ∀ {l : List OpH} {x : OpH}, x ∈ l → x.data.length + x.keep.length ≤ (l.map fun o => o.data.length + o.keep.length + 2).sum
 | a :: l, x, h => by
  simp only [List.map_cons, List.sum_cons]
  rcases List.mem_cons.1 h with rfl | h
  · omega
  · have := opH_le h; omega
end Go.Proofs.YtiooeiapplnafaaGreatDoor
namespace Go.Proofs.YtiooeiapplnafaaGreatDoor
open Go.ChangeShapes Go.WideShapes Go.ChangeAt Go.RowKit
section
variable {H : Type} {enc : TypeId × Value → H} {W : World}
theorem three_of_lenH {α : Type} {l : List α} (h : l.length = 3) : ∃ a b c, l = [a, b, c] := by
 match l, h with
 | [a, b, c], _ => exact ⟨a, b, c, rfl⟩
theorem read_arr3 (n : Nat) (cs : List Value) (y : DataW H × List MemPlace) (h : Tr enc Tryz.prog W n 64 cs = some y) : ∃ a b c : Int, cs = [.int .i64 a, .int .i64 b, .int .i64 c] := by
 obtain ⟨ys, m', e', e4, hl4, hy, hg⟩ := DataW.trod_array Tryz.underlying64 h
 have k0 : Tryz.prog.cellsOf 3 = 1 := by kernel_rfl
 rw [show Tryz.prog.cellsOf 64 = 3 by kernel_rfl] at hl4
 obtain ⟨c0, c1, c2, rfl⟩ := three_of_lenH hl4
 obtain ⟨y0, y1, y2, rfl⟩ := three_of_lenH hy
 have g0 := hg 0 (by omega)
 have g1 := hg 1 (by omega)
 have g2 := hg 2 (by omega)
 simp only [k0, Nat.zero_mul, Nat.one_mul, Nat.mul_one, List.drop_zero, List.drop_succ_cons, List.take_succ_cons, List.take_zero, List.getElem?_cons_zero, List.getElem?_cons_succ] at g0 g1 g2
 obtain ⟨j0, q0, _, _⟩ := DataW.trod_int Tryz.underlying3 g0
 obtain ⟨j1, q1, _, _⟩ := DataW.trod_int Tryz.underlying3 g1
 obtain ⟨j2, q2, _, _⟩ := DataW.trod_int Tryz.underlying3 g2
 simp only [List.cons.injEq, and_true] at q0 q1 q2
 subst q0; subst q1; subst q2
 exact ⟨j0, j1, j2, rfl⟩
end
end Go.Proofs.YtiooeiapplnafaaGreatDoor
