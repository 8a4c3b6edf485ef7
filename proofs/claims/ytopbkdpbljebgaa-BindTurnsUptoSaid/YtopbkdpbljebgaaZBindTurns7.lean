/- The texts BeI BeJ BeK, one behind the other: what the law leans on. Conditions: as each theorem says. -/
import Derived.Test.YtopbkdpbljebgaaZBindTurns6
/- The laws of bind: the document's Eval, Holds, Parts as a whole; conditions and their parts; terms that are moved. Conditions: that what is handed in can be read; sizes. -/
set_option linter.unusedSimpArgs false
set_option linter.unusedVariables false
namespace Go.Proofs.Ytopbkdpbljebgaa
open Go.RowKit

theorem ExV.inv {B : Base} {S : List Assn} {op : Str} {n : Int} {text of : Str} {args : List Ex} {c : C5} (h : ExV B S (.mk op n text of args) c) : ∃ pa ca css, c = ⟨tV op, iV n, tV text, tV of, .slice pa args.length ca⟩ ∧ FlV B S c5 (.slice pa args.length ca) css ∧ css.length = args.length ∧ ∀ (i : Nat) (t : Ex) (c : C5), args[i]? = some t → css[i]? = some c → ExV B S t c := by
  cases h with
  | mk op n text of args av css hf hl hb ht hc =>
    obtain ⟨a, cap, rfl⟩ := hf.form hl
    exact ⟨a, cap, css, rfl, hf, hl, hc⟩
section
variable {B : Base} {S : List Assn} {row : List Va} {sc : List Co} {sa ra : Option Addr} {ns cs m rc : Nat}
theorem Be.eval (hs : FlV B S coC (.slice sa ns cs) sc) (hsn : sc.length = ns) (hnn : ns < 2 ^ 32) (hrow : FlV B S vaC (.slice ra m rc) row) (hm : row.length = m) (hmn : m < 2 ^ 32) (hok : okRow row) {e : Ex} {t : Tm} (h : BE sc e t) :
    ExI e → ∀ ce, ExV B S e ce → Fn Try.prog B 27 #[eA ce, .slice sa ns cs, .slice ra m rc] S (fun u l => u = .tuple #[vA (evalR row t).1, iV (evalR row t).2] ∧ l = S) := by
  induction h with
  | num n text of args =>
    intro hi ce hv
    obtain ⟨pa, ca, css, rfl, -, -, -⟩ := hv.inv
    rw [evalR_ok (v := ⟨1, n, []⟩) (by rw [evalT, if_pos rfl])]
    exact Be.evNum rfl
  | text n text of args =>
    intro hi ce hv
    obtain ⟨pa, ca, css, rfl, -, -, -⟩ := hv.inv
    rw [evalR_ok (v := ⟨2, 0, text⟩) (by rw [evalT, if_pos rfl])]
    exact Be.evText rfl
  | name n text of args i c hf hc =>
    intro hi ce hv
    obtain ⟨pa, ca, css, rfl, -, -, -⟩ := hv.inv
    exact Be.evName rfl hs hsn hnn hrow hm hmn i c hf hc
  | one op k n text of e t h hk ih =>
    intro hi ce hv
    obtain ⟨pa, ca, css, rfl, hf, hl, hc⟩ := hv.inv
    obtain ⟨b, o, rfl, hr⟩ := hf.at (sz := 5) (fun _ => rfl) (by simp)
    obtain ⟨c0, hc0⟩ : ∃ c, css[0]? = some c := ⟨_, List.getElem?_eq_getElem (by rw [hl]; simp)⟩
    exact Be.evOne rfl (hr 0 c0 hc0) h (hi.sub (i := 0) rfl) hok hk rfl (ih (hi.sub (i := 0) rfl) c0 (hc 0 e c0 rfl hc0))
  | two op k n text of e1 e2 t1 t2 h1 h2 hk ih1 ih2 =>
    intro hi ce hv
    obtain ⟨pa, ca, css, rfl, hf, hl, hc⟩ := hv.inv
    obtain ⟨b, o, rfl, hr⟩ := hf.at (sz := 5) (fun _ => rfl) (by simp)
    obtain ⟨c0, hc0⟩ : ∃ c, css[0]? = some c := ⟨_, List.getElem?_eq_getElem (by rw [hl]; simp)⟩
    obtain ⟨c1, hc1⟩ : ∃ c, css[1]? = some c := ⟨_, List.getElem?_eq_getElem (by rw [hl]; simp)⟩
    exact Be.evTwo rfl (hr 0 c0 hc0) h1 (hi.sub (i := 0) rfl) h2 (hi.sub (i := 1) rfl) hok hk rfl (ih1 (hi.sub (i := 0) rfl) c0 (hc 0 e1 c0 rfl hc0)) (hr 1 c1 hc1) (ih2 (hi.sub (i := 1) rfl) c1 (hc 1 e2 c1 rfl hc1))
theorem Be.holds (hs : FlV B S coC (.slice sa ns cs) sc) (hsn : sc.length = ns) (hnn : ns < 2 ^ 32) (hrow : FlV B S vaC (.slice ra m rc) row) (hm : row.length = m) (hmn : m < 2 ^ 32) (hok : okRow row) {e : Ex} {t : Tm} (h : BE sc e t) (hi : ExI e) (ce : C5) (hv : ExV B S e ce) :
  Fn Try.prog B 22 #[eA ce, .slice sa ns cs, .slice ra m rc] S (fun u l => u = .bool (holds1 row t) ∧ l = S) := by
 have hE := Be.eval hs hsn hnn hrow hm hmn hok h hi ce hv
 obtain ⟨op, n, text, of, a, mm, cap, rfl⟩ := hv.form
 refine Fn.enter3 28 Try.func22 rfl rfl (Nat.le_of_ble_eq_true rfl) (fun F => ?_)
 try simp only [List.cons_append, List.nil_append]
 refine T.seq ?_
 refine T.region ?_
 refine LW.e rfl (Ef.box [_, _, _, _, _] rfl rfl ?_)
 intro g3
 refine LW.q rfl (Qt.assign rfl) ?_
 refine LW.done ?_
 refine T.seq ?_
 refine T.region ?_
 first | refine LW.q rfl (Qt.loadAgg [_, _, _, _, _] (by kernel_rfl) rfl ⟨rfl, rfl, rfl, rfl, rfl, trivial⟩) ?_ | refine LW.q rfl (Qt.loadAgg [_, _, _, _, _] (by kernel_rfl) rfl (by exact rdl_flat _ _ _ (by intros; rfl) _ (by omega))) ?_
 refine LW.q rfl (Qt.move rfl) ?_
 refine LW.q rfl (Qt.move rfl) ?_
 refine LW.e rfl (Ef.call (hE) Try.func27 rfl rfl rfl ?_)
 rintro _ _ ⟨rfl, rfl⟩
 try simp only [List.cons_append, List.nil_append]
 refine LW.q rfl (Qt.move rfl) ?_
 refine LW.q rfl (Qt.extr rfl rfl) ?_
 refine LW.q rfl (Qt.extr rfl rfl) ?_
 refine LW.e rfl (Ef.alloc [.int .i64 0, .int .i64 0, .string .empty] (by unfold zeroB; kernel_rfl) ?_)
 intro g7
 refine LW.e0 rfl (Ef.store [_, _, _] (by kernel_rfl) rfl rfl rfl rfl (by simp) ?_)
 try simp only [splice, List.length_cons, List.length_nil, List.drop_succ_cons, List.cons_append, List.take_succ_cons, List.take_zero, List.drop_zero, List.nil_append, List.append_nil]
 refine LW.q rfl (Qt.assign rfl) ?_
 refine LW.done ?_
 refine T.seq ?_
 refine T.region ?_
 refine LW.q rfl (Qt.move rfl) ?_
 refine LW.q rfl (Qt.eql rfl rfl) ?_
 refine LW.q rfl (Qt.move rfl) ?_
 refine LW.split (t := 18) rfl (fun g1 => ?_) (fun g1 => ?_)
 ·
  try replace g1 := of_decide_eq_true g1
  refine LW.q rfl (Qt.fieldAddr0 (by kernel_rfl) rfl) ?_
  first | refine LW.q rfl (Qt.load (by kernel_rfl) rfl rfl) ?_ | refine LW.q rfl (Qt.load (by kernel_rfl) rfl (map_at _ _ _ (by omega))) ?_ | refine LW.q rfl (Qt.load (by kernel_rfl) rfl (flat_cell0 _ _ _ (by intros; rfl) _ (by omega) (by rfl))) ?_ | refine LW.q rfl (Qt.load (by kernel_rfl) rfl (flat_cell _ _ _ (by intros; rfl) _ _ (by omega) (by rfl))) ?_ | refine LW.q rfl (Qt.load (by kernel_rfl) rfl (bytes_at _ _ (by omega))) ?_
  refine LW.q rfl (Qt.eql rfl rfl) ?_
  refine LW.q rfl (Qt.pick rfl rfl) ?_
  refine LW.q rfl (Qt.move rfl) ?_
  refine LW.split (t := 23) rfl (fun g2 => ?_) (fun g2 => ?_)
  ·
   try replace g2 := of_decide_eq_true g2
   refine LW.q rfl (Qt.fieldAddr (off := 1) (by kernel_rfl) rfl) ?_
   first | refine LW.q rfl (Qt.load (by kernel_rfl) rfl rfl) ?_ | refine LW.q rfl (Qt.load (by kernel_rfl) rfl (map_at _ _ _ (by omega))) ?_ | refine LW.q rfl (Qt.load (by kernel_rfl) rfl (flat_cell0 _ _ _ (by intros; rfl) _ (by omega) (by rfl))) ?_ | refine LW.q rfl (Qt.load (by kernel_rfl) rfl (flat_cell _ _ _ (by intros; rfl) _ _ (by omega) (by rfl))) ?_ | refine LW.q rfl (Qt.load (by kernel_rfl) rfl (bytes_at _ _ (by omega))) ?_
   refine LW.q rfl (Qt.eql rfl rfl) ?_
   refine LW.q rfl (Qt.pick rfl rfl) ?_
   refine LW.q rfl (Qt.assign rfl) ?_
   refine LW.done ?_
   refine T.ret ?_
   exact ⟨.inl rfl, _, _, res [_] rfl ⟨rvT rfl, trivial⟩, ⟨by unfold holds1; rw [decide_eq_true g1, decide_eq_true g2]; rfl, rfl⟩, Sub.any⟩
  ·
   try replace g2 := of_decide_eq_false g2
   refine LW.s rfl ?_
   refine LW.s rfl ?_
   refine LW.s rfl ?_
   refine LW.q rfl (Qt.pick rfl rfl) ?_
   refine LW.q rfl (Qt.assign rfl) ?_
   refine LW.done ?_
   refine T.ret ?_
   exact ⟨.inl rfl, _, _, res [_] rfl ⟨rvT rfl, trivial⟩, ⟨by unfold holds1; rw [decide_eq_true g1, decide_eq_false g2]; rfl, rfl⟩, Sub.any⟩
 ·
  try replace g1 := of_decide_eq_false g1
  refine LW.s rfl ?_
  refine LW.s rfl ?_
  refine LW.s rfl ?_
  refine LW.q rfl (Qt.pick rfl rfl) ?_
  refine LW.q rfl (Qt.move rfl) ?_
  first | refine LW.gF (t := 23) rfl rfl ?_ | refine LW.gF (t := 23) rfl (decide_eq_false (rfl)) ?_ | refine LW.gF (t := 23) rfl (rfl) ?_
  refine LW.s rfl ?_
  refine LW.s rfl ?_
  refine LW.s rfl ?_
  refine LW.q rfl (Qt.pick rfl rfl) ?_
  refine LW.q rfl (Qt.assign rfl) ?_
  refine LW.done ?_
  refine T.ret ?_
  exact ⟨.inl rfl, _, _, res [_] rfl ⟨rvT rfl, trivial⟩, ⟨by unfold holds1; rw [decide_eq_false g1]; rfl, rfl⟩, Sub.any⟩
end
/-- The parts of an expression. -/
def partsE : Ex → List Ex
  | .mk op n text of args => if op = sAnd then (match args with
      | e :: f :: _ => partsE e ++ partsE f
      | _ => []) else [.mk op n text of args]
def ExsS (B : Base) (S : List Assn) (es : List Ex) (css : List C5) : Prop := css.length = es.length ∧ ∀ (i : Nat) (t : Ex) (c : C5), es[i]? = some t → css[i]? = some c → ExV B S t c
theorem ExsS.mono {B : Base} {S S' : List Assn} {ts : List Ex} {css : List C5} (h : ExsS B S ts css) (hs : ∀ w, Own B w S' → Own B w S) : ExsS B S' ts css := ⟨h.1, fun i t c h1 h2 => (h.2 i t c h1 h2).mono hs⟩
theorem ExsS.app {B : Base} {S : List Assn} {ts us : List Ex} {css dss : List C5} (h : ExsS B S ts css) (k : ExsS B S us dss) : ExsS B S (ts ++ us) (css ++ dss) := ⟨by rw [List.length_append, List.length_append, h.1, k.1], fun i t c h1 h2 => by
  by_cases hi : i < ts.length
  · rw [List.getElem?_append_left hi] at h1
    rw [List.getElem?_append_left (by rw [h.1]; exact hi)] at h2
    exact h.2 i t c h1 h2
  · rw [List.getElem?_append_right (by omega)] at h1
    rw [List.getElem?_append_right (by rw [h.1]; omega), h.1] at h2
    exact k.2 _ t c h1 h2⟩
theorem ExsS.oneC {B : Base} {S : List Assn} {ts : List Ex} {css : List C5} (h : ExsS B S ts css) : ∀ x ∈ css.flatMap c5, x.oneCell' = true := by
  intro x hx
  obtain ⟨c, hc, hxc⟩ := List.mem_flatMap.1 hx
  obtain ⟨i, hi, rfl⟩ := List.getElem_of_mem hc
  obtain ⟨op, n, text, of, a, m, cap, hf⟩ := (h.2 i _ _ (List.getElem?_eq_getElem (by rw [← h.1]; exact hi)) (List.getElem?_eq_getElem hi)).form
  rw [hf] at hxc
  simp at hxc
  rcases hxc with rfl | rfl | rfl | rfl | rfl <;> rfl
theorem ExsS.one {B : Base} {S : List Assn} {t : Ex} {c : C5} (h : ExV B S t c) : ExsS B S [t] [c] := ⟨rfl, fun i u d h1 h2 => by
  cases i with
  | zero => simp at h1 h2; subst h1; subst h2; exact h
  | succ i => simp at h1⟩
def PartsPostE (B : Base) (S : List Assn) (t : Ex) (u : Value) (l : List Assn) : Prop := ∃ p n c css, u = .slice p n c ∧ (0 < n → ∃ g, p = some ⟨g, 0, none⟩) ∧ ExsS B S (partsE t) css ∧ css.length = n ∧ l = row (.slice p n c) 42 5 n (css.flatMap c5) :: S
theorem Be.elemE : ElemOk Try.prog 40 42 5 80 := .mk' (.agg #[.string .empty, .int .i64 0, .string .empty, .string .empty, .slice none 0 0]) Try.underlying40 (by kernel_rfl) rfl (by omega)
set_option maxHeartbeats 1000000 in
theorem Be.parts1 (B : Base) (S : List Assn) (op : Str) (n : Int) (text of : Str) (args : List Ex) (c : C5) (h : ExV B S (.mk op n text of args) c) (ho : op ≠ sAnd) : Fn Try.prog B 20 #[eA c] S (PartsPostE B S (.mk op n text of args)) := by
  have hp : partsE (.mk op n text of args) = [.mk op n text of args] := by rw [partsE.eq_def]; dsimp only; rw [if_neg ho]
  have h0 := h
  obtain ⟨pa, ca, css, rfl, -, -, -⟩ := h.inv
  refine Fn.enter1 26 Try.func20 rfl rfl (Nat.le_of_ble_eq_true rfl) (fun F => ?_)
  try simp only [List.cons_append, List.nil_append]
  refine T.seq ?_
  refine T.region ?_
  refine LW.e rfl (Ef.box [_, _, _, _, _] rfl rfl ?_)
  intro g1
  refine LW.q rfl (Qt.assign rfl) ?_
  refine LW.done ?_
  refine T.seq ?_
  refine T.seq ?_
  refine T.region ?_
  refine LW.q rfl (Qt.fieldAddr0 (by kernel_rfl) rfl) ?_
  first | refine LW.q rfl (Qt.load (by kernel_rfl) rfl rfl) ?_ | refine LW.q rfl (Qt.load (by kernel_rfl) rfl (map_at _ _ _ (by omega))) ?_ | refine LW.q rfl (Qt.load (by kernel_rfl) rfl (flat_cell0 _ _ _ (by intros; rfl) _ (by omega) (by rfl))) ?_ | refine LW.q rfl (Qt.load (by kernel_rfl) rfl (flat_cell _ _ _ (by intros; rfl) _ _ (by omega) (by rfl))) ?_ | refine LW.q rfl (Qt.load (by kernel_rfl) rfl (bytes_at _ _ (by omega))) ?_
  refine LW.q rfl (Qt.neqS rfl rfl) ?_
  refine LW.done ?_
  first | refine T.condT rfl ?_ | refine T.condPT rfl (ho) ?_ | refine T.condBT rfl (ho) ?_
  refine T.seq ?_
  refine T.region ?_
  first | refine LW.q rfl (Qt.loadAgg [_, _, _, _, _] (by kernel_rfl) rfl ⟨rfl, rfl, rfl, rfl, rfl, trivial⟩) ?_ | refine LW.q rfl (Qt.loadAgg [_, _, _, _, _] (by kernel_rfl) rfl (by exact rdl_flat _ _ _ (by intros; rfl) _ (by omega))) ?_
  refine LW.e rfl (Ef.one [_, _, _, _, _] (e := 42) (sz := 5) (by kernel_rfl) ⟨.agg #[.string .empty, .int .i64 0, .string .empty, .string .empty, .slice none 0 0], by kernel_rfl, rfl⟩ rfl rfl rfl (by omega) (by omega) ?_)
  intro g9
  refine LW.conv (l' := row (.slice (some ⟨g9, 0, none⟩) 1 1) 42 5 1 ([(⟨tV op, iV n, tV text, tV of, .slice pa args.length ca⟩ : C5)].flatMap c5) :: _) (fun w ho => ho.blk_row (sz := 5) (n := 1) rfl (by unfold maxLen; omega)) ?_
  refine LW.q rfl (Qt.assign rfl) ?_
  refine LW.done ?_
  refine T.ret ?_
  exact ⟨.inl rfl, _, _, res [_] rfl ⟨rvT rfl, trivial⟩, ⟨_, _, _, [_], rfl, fun _ => ⟨_, rfl⟩, by rw [hp]; exact ExsS.one h0, rfl, rfl⟩, Sub.any⟩
set_option maxHeartbeats 1000000 in
theorem Be.parts2 (B : Base) (S : List Assn) (n : Int) (text of : Str) (t u : Ex) (ca b o : Nat) (c0 c1 : C5) (hr0 : ∀ w, Own B w S → w.rangeAt b (o + 0 * 5) (c5 c0)) (hr1 : ∀ w, Own B w S → w.rangeAt b (o + 1 * 5) (c5 c1))
  (hb : (partsE t).length + (partsE u).length < 2 ^ 32) (h0 : Fn Try.prog B 20 #[eA c0] S (PartsPostE B S t)) (h1 : Fn Try.prog B 20 #[eA c1] S (PartsPostE B S u)) :
  Fn Try.prog B 20 #[eA ⟨tV sAnd, iV n, tV text, tV of, .slice (some ⟨b, o, none⟩) 2 ca⟩] S (PartsPostE B S (.mk sAnd n text of [t, u])) := by
 have hp : partsE (.mk sAnd n text of [t, u]) = partsE t ++ partsE u := by rw [partsE, if_pos rfl]
 refine Fn.enter1 26 Try.func20 rfl rfl (Nat.le_of_ble_eq_true rfl) (fun F => ?_)
 try simp only [List.cons_append, List.nil_append]
 refine T.seq ?_
 refine T.region ?_
 refine LW.e rfl (Ef.box [_, _, _, _, _] rfl rfl ?_)
 intro g1
 refine LW.q rfl (Qt.assign rfl) ?_
 refine LW.done ?_
 refine T.seq ?_
 refine T.seq ?_
 refine T.region ?_
 refine LW.q rfl (Qt.fieldAddr0 (by kernel_rfl) rfl) ?_
 first | refine LW.q rfl (Qt.load (by kernel_rfl) rfl rfl) ?_ | refine LW.q rfl (Qt.load (by kernel_rfl) rfl (map_at _ _ _ (by omega))) ?_ | refine LW.q rfl (Qt.load (by kernel_rfl) rfl (flat_cell0 _ _ _ (by intros; rfl) _ (by omega) (by rfl))) ?_ | refine LW.q rfl (Qt.load (by kernel_rfl) rfl (flat_cell _ _ _ (by intros; rfl) _ _ (by omega) (by rfl))) ?_ | refine LW.q rfl (Qt.load (by kernel_rfl) rfl (bytes_at _ _ (by omega))) ?_
 refine LW.q rfl (Qt.neqS rfl rfl) ?_
 refine LW.done ?_
 first | refine T.condF rfl ?_ | refine T.condPF rfl (rfl) ?_ | refine T.condBF rfl (rfl) ?_
 refine T.conv (l' := row (.slice none 0 0) 42 5 0 (List.flatMap c5 []) :: _) (fun w ho => ho.row_nil 42 5) ?_
 refine T.skip ?_
 refine T.seq ?_
 refine T.region ?_
 refine LW.q rfl (Qt.assign rfl) ?_
 refine LW.done ?_
 refine T.seq ?_
 refine T.seq ?_
 refine T.region ?_
 refine LW.q rfl (Qt.assign rfl) ?_
 refine LW.done ?_
 refine T.block ?_
 refine T.loop (fun mz fz lz => ∃ (f0 : Fr) (i : Nat) (css : List C5) (p : Option Addr) (l0 k : Nat), (i ≤ 2 ∧ ExsS B S (if i = 0 then [] else if i = 1 then partsE t else partsE t ++ partsE u) css ∧ css.length = l0 ∧ (0 < l0 → ∃ g, p = some ⟨g, 0, none⟩)) ∧ mz = 2 - i ∧ fz = (upd (upd (upd f0 1 (.pointer (some ⟨g1, 0, none⟩))) 3 (.slice p l0 k)) 4 (iV i)) ∧ lz = row (.slice p l0 k) 42 5 l0 (css.flatMap c5) :: blk g1 [tV sAnd, iV n, tV text, tV of, .slice (some ⟨b, o, none⟩) 2 ca] 42 :: (S ++ F)) ?_ ?_
 · refine ⟨_, _, ⟨_, 0, [], none, 0, 0, ⟨by omega, ⟨rfl, by intro i t c h; simp at h⟩, rfl, fun h => absurd h (by omega)⟩, rfl, (updS rfl (updS rfl (updS rfl rfl))), rfl⟩, Sub.any⟩
 ·
  rintro mz fz lz ⟨f0, i, css, p, l0, k, ⟨hi, hcs, hl, hp0⟩, hmz, rfl, rfl⟩
  subst mz
  try simp only [List.cons_append, List.nil_append]
  have hl1 := hcs.1
  refine T.seq ?_
  refine T.seq ?_
  refine T.region ?_
  refine LW.q rfl (Qt.move rfl) ?_
  refine LW.q rfl (Qt.fieldAddr (off := 4) (by kernel_rfl) rfl) ?_
  first | refine LW.q rfl (Qt.load (by kernel_rfl) rfl rfl) ?_ | refine LW.q rfl (Qt.load (by kernel_rfl) rfl (map_at _ _ _ (by omega))) ?_ | refine LW.q rfl (Qt.load (by kernel_rfl) rfl (flat_cell0 _ _ _ (by intros; rfl) _ (by omega) (by rfl))) ?_ | refine LW.q rfl (Qt.load (by kernel_rfl) rfl (flat_cell _ _ _ (by intros; rfl) _ _ (by omega) (by rfl))) ?_ | refine LW.q rfl (Qt.load (by kernel_rfl) rfl (bytes_at _ _ (by omega))) ?_
  refine LW.q rfl (Qt.len (e := 42) (sz := 5) (by kernel_rfl) rfl) ?_
  refine LW.q rfl (Qt.lss rfl rfl) ?_
  refine LW.done ?_
  refine T.condP rfl (fun hlt => ?_) (fun hlt => ?_)
  ·
   by_cases hi0 : i = 0
   ·
    subst hi0
    rw [if_pos rfl] at hcs hl1
    have hnil : css = [] := List.eq_nil_of_length_eq_zero hl1
    subst hnil
    simp only [List.length_nil] at hl
    subst hl
    refine T.skip ?_
    refine T.seq ?_
    refine T.block ?_
    refine T.region ?_
    refine LW.q rfl (Qt.move rfl) ?_
    refine LW.q rfl (Qt.fieldAddr (off := 4) (by kernel_rfl) rfl) ?_
    first | refine LW.q rfl (Qt.load (by kernel_rfl) rfl rfl) ?_ | refine LW.q rfl (Qt.load (by kernel_rfl) rfl (map_at _ _ _ (by omega))) ?_ | refine LW.q rfl (Qt.load (by kernel_rfl) rfl (flat_cell0 _ _ _ (by intros; rfl) _ (by omega) (by rfl))) ?_ | refine LW.q rfl (Qt.load (by kernel_rfl) rfl (flat_cell _ _ _ (by intros; rfl) _ _ (by omega) (by rfl))) ?_ | refine LW.q rfl (Qt.load (by kernel_rfl) rfl (bytes_at _ _ (by omega))) ?_
    refine LW.q rfl (Qt.move rfl) ?_
    refine LW.q rfl (Qt.index _ (e := 42) (sz := 5) (by kernel_rfl) rfl rfl rfl (by omega)) ?_
    refine LW.q rfl (Qt.loadAggW (c5 c0) (by kernel_rfl) rfl (fun w ho => hr0 w (ho.map Sub.any))) ?_
    refine LW.e rfl (Ef.call (h0) Try.func20 rfl rfl rfl ?_)
    rintro _ _ ⟨p1, n1, k1, cs1, rfl, hp1, hs1, hl2, rfl⟩
    try simp only [List.cons_append, List.nil_append]
    have e1 := hs1.1
    try simp only [List.cons_append, List.nil_append]
    refine LW.e rfl (Ef.append Be.elemE rfl rfl (SrcOf.row (by kernel_rfl) hs1.oneC) (by unfold maxLen; omega) (by omega) ?_)
    rintro p4 c4 hp4
    try simp only [List.cons_append, List.nil_append]
    rw [← List.flatMap_append]
    refine LW.q rfl (Qt.assign rfl) ?_
    refine LW.done ?_
    refine T.region ?_
    refine LW.q rfl (Qt.move rfl) ?_
    refine LW.q rfl (Qt.add rfl rfl (wr64 (by omega) (by omega))) ?_
    refine LW.q rfl (Qt.assign rfl) ?_
    refine LW.done ?_
    refine ⟨_, ?_, _, ⟨_, 1, [] ++ cs1, p4, 0 + n1, c4, ⟨by omega, by rw [if_neg (by omega), if_pos rfl]; exact hs1, by rw [List.nil_append]; omega, hp4⟩, rfl, (updS rfl (updS rfl (updS rfl rfl))), rfl⟩, Sub.any⟩
    first | omega | (simp; omega)
   ·
    obtain rfl : i = 1 := by omega
    rw [if_neg (by omega), if_pos rfl] at hcs hl1
    refine T.skip ?_
    refine T.seq ?_
    refine T.block ?_
    refine T.region ?_
    refine LW.q rfl (Qt.move rfl) ?_
    refine LW.q rfl (Qt.fieldAddr (off := 4) (by kernel_rfl) rfl) ?_
    first | refine LW.q rfl (Qt.load (by kernel_rfl) rfl rfl) ?_ | refine LW.q rfl (Qt.load (by kernel_rfl) rfl (map_at _ _ _ (by omega))) ?_ | refine LW.q rfl (Qt.load (by kernel_rfl) rfl (flat_cell0 _ _ _ (by intros; rfl) _ (by omega) (by rfl))) ?_ | refine LW.q rfl (Qt.load (by kernel_rfl) rfl (flat_cell _ _ _ (by intros; rfl) _ _ (by omega) (by rfl))) ?_ | refine LW.q rfl (Qt.load (by kernel_rfl) rfl (bytes_at _ _ (by omega))) ?_
    refine LW.q rfl (Qt.move rfl) ?_
    refine LW.q rfl (Qt.index _ (e := 42) (sz := 5) (by kernel_rfl) rfl rfl rfl (by omega)) ?_
    refine LW.q rfl (Qt.loadAggW (c5 c1) (by kernel_rfl) rfl (fun w ho => hr1 w (ho.map Sub.any))) ?_
    refine LW.e rfl (Ef.call (h1) Try.func20 rfl rfl rfl ?_)
    rintro _ _ ⟨p1, n1, k1, cs1, rfl, hp1, hs1, hl2, rfl⟩
    try simp only [List.cons_append, List.nil_append]
    have e1 := hs1.1
    try simp only [List.cons_append, List.nil_append]
    refine LW.e rfl (Ef.append Be.elemE rfl rfl (SrcOf.row (by kernel_rfl) hs1.oneC) (by unfold maxLen; omega) (by omega) ?_)
    rintro p4 c4 hp4
    try simp only [List.cons_append, List.nil_append]
    rw [← List.flatMap_append]
    refine LW.q rfl (Qt.assign rfl) ?_
    refine LW.done ?_
    refine T.region ?_
    refine LW.q rfl (Qt.move rfl) ?_
    refine LW.q rfl (Qt.add rfl rfl (wr64 (by omega) (by omega))) ?_
    refine LW.q rfl (Qt.assign rfl) ?_
    refine LW.done ?_
    refine ⟨_, ?_, _, ⟨_, 2, css ++ cs1, p4, l0 + n1, c4, ⟨by omega, by rw [if_neg (by omega), if_neg (by omega)]; exact hcs.app hs1, by rw [List.length_append]; omega, hp4⟩, rfl, (updS rfl (updS rfl (updS rfl rfl))), rfl⟩, Sub.any⟩
    first | omega | (simp; omega)
  ·
   obtain rfl : i = 2 := by omega
   rw [if_neg (by omega), if_neg (by omega)] at hcs
   refine T.exit ?_
   refine T.seq ?_
   refine T.region ?_
   refine LW.q rfl (Qt.move rfl) ?_
   refine LW.q rfl (Qt.assign rfl) ?_
   refine LW.done ?_
   refine T.ret ?_
   exact ⟨.inl rfl, _, _, res [_] rfl ⟨rvT rfl, trivial⟩, ⟨p, l0, k, css, rfl, hp0, by rw [hp]; exact hcs, hl, rfl⟩, Sub.any⟩
theorem Be.parts (B : Base) (S : List Assn) {sc : List Co} {e : Ex} {t : Tm} (h : BE sc e t) : ∀ c, ExV B S e c → (partsE e).length < 2 ^ 32 → Fn Try.prog B 20 #[eA c] S (PartsPostE B S e) := by
  induction h with
  | num n text of args => intro c hv _; exact Be.parts1 B S _ _ _ _ _ c hv (by decide)
  | text n text of args => intro c hv _; exact Be.parts1 B S _ _ _ _ _ c hv (by decide)
  | name n text of args i c hf hc => intro c hv _; exact Be.parts1 B S _ _ _ _ _ c hv (by decide)
  | one op k n text of e t h hk ih => intro c hv _; exact Be.parts1 B S _ _ _ _ _ c hv (op_one hk).2.2.2.2.2
  | two op k n text of e1 e2 t1 t2 h1 h2 hk ih1 ih2 =>
    intro c hv hb
    by_cases ha : op = sAnd
    · subst ha
      obtain ⟨pa, ca, css, rfl, hf, hl, hc⟩ := hv.inv
      obtain ⟨b, o, rfl, hr⟩ := hf.at (sz := 5) (fun _ => rfl) (by simp)
      obtain ⟨c0, hc0⟩ : ∃ c, css[0]? = some c := ⟨_, List.getElem?_eq_getElem (by rw [hl]; simp)⟩
      obtain ⟨c1, hc1⟩ : ∃ c, css[1]? = some c := ⟨_, List.getElem?_eq_getElem (by rw [hl]; simp)⟩
      rw [partsE, if_pos rfl, List.length_append] at hb
      exact Be.parts2 B S n text of e1 e2 ca b o c0 c1 (hr 0 c0 hc0) (hr 1 c1 hc1) hb (ih1 c0 (hc 0 e1 c0 rfl hc0) (by omega)) (ih2 c1 (hc 1 e2 c1 rfl hc1) (by omega))
    · exact Be.parts1 B S _ _ _ _ _ c hv ha
theorem TmOk.move {by0 : Int} {t : Tm} (h : TmOk t) : TmOk (moveT by0 t) := by
  induction h with
  | val k v p => rw [moveT, if_neg (by decide)]; exact .val _ _ _
  | col k v p => rw [moveT]; exact .col _ _ _
  | one op k v p t h1 h2 h3 ht ih => rw [moveT, if_neg h2]; exact .one op k v p _ h1 h2 h3 ih
  | two op k v p t u h1 h2 h3 ht hu ih1 ih2 => rw [moveT, if_neg h2]; exact .two op k v p _ _ h1 h2 h3 ih1 ih2
end Go.Proofs.Ytopbkdpbljebgaa

/- The laws of bind: BindParts. Conditions: that what is handed in can be read; sizes. -/
set_option linter.unusedSimpArgs false
set_option linter.unusedVariables false
namespace Go.Proofs.Ytopbkdpbljebgaa
open Go.RowKit

end Go.Proofs.Ytopbkdpbljebgaa

/- The laws of bind: BindTurns, plain. Conditions: none. -/
set_option linter.unusedSimpArgs false
set_option linter.unusedVariables false
namespace Go.Proofs.Ytopbkdpbljebgaa
open Go.RowKit

def notE (e : Ex) : Ex := .mk sNot 0 [] [] [e]
def twoE (op : Str) (x y : Ex) : Ex := .mk op 0 [] [] [x, y]
def negE (e : Ex) : Ex := .mk sMinus 0 [] [] [e]
abbrev sOr : Str := [79, 82]
abbrev sLt : Str := [60]
abbrev sGe : Str := [62, 61]
abbrev sLe : Str := [60, 61]
abbrev sEq : Str := [61]
abbrev sNe : Str := [60, 62]
abbrev sPlus : Str := [43]
abbrev sMul : Str := [42]
def pairsE (a b : Ex) : List (Ex × Ex) :=
  [(notE (twoE sOr a b), twoE sAnd (notE a) (notE b)), (notE (twoE sAnd a b), twoE sOr (notE a) (notE b)), (notE (twoE sLt a b), twoE sGe a b), (twoE sLe a b, twoE sGe b a), (notE (twoE sEq a b), twoE sNe b a), (twoE sMinus a b, twoE sPlus a (negE b)), (twoE sMul a b, twoE sMul b a)]
/-- What an expression is bound to has this kind; none where it isn't bound. -/
def kd (sc : List Co) (e : Ex) : Option Int := match bindE sc e with
  | .ok t => some t.kind
  | .error _ => none
theorem bind_op {sc : List Co} {op : Str} {n : Int} {text of : Str} {args : List Ex} (h1 : op ≠ sNumber) (h2 : op ≠ sText) (h3 : op ≠ sName) : bindE sc (.mk op n text of args) = match bindL sc args with
      | .error c => .error c
      | .ok ts => if (kindP op (ts.map Tm.kind)).2 = true then .ok (.mk op (kindP op (ts.map Tm.kind)).1 vZ 0 ts) else .error 170 := by
  rw [bindE, if_neg h1, if_neg h2, if_neg h3] <;> rfl
theorem bindL_one {sc : List Co} {x : Ex} : bindL sc [x] = match bindE sc x with
    | .error c => .error c
    | .ok t => .ok [t] := by
  rw [bindL, bindL]
  cases bindE sc x <;> rfl
theorem bindL_two {sc : List Co} {x y : Ex} : bindL sc [x, y] = match bindE sc x with
    | .error c => .error c
    | .ok t => match bindE sc y with
      | .error c => .error c
      | .ok u => .ok [t, u] := by
  rw [bindL, bindL_one]
  cases bindE sc x with
  | error c => rfl
  | ok t => cases bindE sc y <;> rfl
theorem kd_not (sc : List Co) (e : Ex) : kd sc (notE e) = if kd sc e = some 3 then some 3 else none := by
  unfold kd notE
  rw [bind_op (by decide) (by decide) (by decide), bindL_one]
  cases bindE sc e with
  | error c => rfl
  | ok t =>
    simp only [List.map_cons, List.map_nil, Option.some.injEq]
    by_cases h : t.kind = 3
    · rw [h]; rfl
    · have : (kindP sNot [t.kind]).2 = false := by simp [kindP, alls, h]
      rw [this, if_neg (by decide), if_neg h]
theorem kd_neg (sc : List Co) (e : Ex) : kd sc (negE e) = if kd sc e = some 1 then some 1 else none := by
  unfold kd negE
  rw [bind_op (by decide) (by decide) (by decide), bindL_one]
  cases bindE sc e with
  | error c => rfl
  | ok t =>
    simp only [List.map_cons, List.map_nil, Option.some.injEq]
    by_cases h : t.kind = 1
    · rw [h]; rfl
    · have : (kindP sMinus [t.kind]).2 = false := by simp [kindP, alls, h, cmpOp]
      rw [this, if_neg (by decide), if_neg h]
theorem kd_two {sc : List Co} {op : Str} (x y : Ex) (h1 : op ≠ sNumber) (h2 : op ≠ sText) (h3 : op ≠ sName) : kd sc (twoE op x y) = match kd sc x, kd sc y with
    | some a, some b => if (kindP op [a, b]).2 = true then some (kindP op [a, b]).1 else none
    | _, _ => none := by
  unfold kd twoE
  rw [bind_op h1 h2 h3, bindL_two]
  cases bindE sc x with
  | error c => cases bindE sc y <;> rfl
  | ok t =>
    cases bindE sc y with
    | error c => rfl
    | ok u =>
      simp only [List.map_cons, List.map_nil]
      by_cases h : (kindP op [t.kind, u.kind]).2 = true
      · rw [if_pos h, if_pos h]; rfl
      · rw [if_neg h, if_neg h]
theorem kind_log {op : Str} (h : logOp op) (a b : Int) : kindP op [a, b] = (3, decide (a = 3 ∧ b = 3)) := by
  unfold kindP; rw [if_pos h]; simp [alls]
theorem kind_cmp {op : Str} (h : cmpOp op) (a b : Int) : kindP op [a, b] = (3, decide (a = b ∧ (a = 1 ∨ a = 2))) := by
  have h1 : ¬ (op = [79, 82] ∨ op = [65, 78, 68]) := by rcases h with rfl | rfl | rfl | rfl | rfl | rfl <;> decide
  have h2 : op ≠ [78, 79, 84] := by rcases h with rfl | rfl | rfl | rfl | rfl | rfl <;> decide
  unfold kindP; rw [if_neg h1, if_neg h2, if_pos h]
  congr 1
  rw [Bool.eq_iff_iff]
  simp only [List.length_cons, List.length_nil, Bool.and_eq_true, Bool.or_eq_true, alls_two, decide_eq_true_eq]
  omega
theorem kind_ari {op : Str} (h : ariOp op) (a b : Int) : kindP op [a, b] = (1, decide (a = 1 ∧ b = 1)) := by
  have h1 : ¬ (op = [79, 82] ∨ op = [65, 78, 68]) := by rcases h with rfl | rfl | rfl <;> decide
  have h2 : op ≠ [78, 79, 84] := by rcases h with rfl | rfl | rfl <;> decide
  have h3 : ¬ cmpOp op := by rcases h with rfl | rfl | rfl <;> (unfold cmpOp; decide)
  unfold kindP; rw [if_neg h1, if_neg h2, if_neg h3]
  by_cases h4 : op = [45]
  · rw [if_pos h4]; simp [alls]
  · rw [if_neg h4, if_pos (by rcases h with h | h | h; exact .inl h; exact absurd h h4; exact .inr h)]; simp [alls]
/-- Both sides of a pair are bound alike. -/
theorem pairs_kd {sc : List Co} {a b : Ex} : ∀ p ∈ pairsE a b, kd sc p.1 = kd sc p.2 := by
  have L : ∀ op, logOp op → ∀ x y, kd sc (twoE op x y) = if kd sc x = some 3 ∧ kd sc y = some 3 then some 3 else none := by
    intro op h x y
    rw [kd_two x y (by rcases h with rfl | rfl <;> decide) (by rcases h with rfl | rfl <;> decide) (by rcases h with rfl | rfl <;> decide)]
    cases kd sc x <;> cases kd sc y <;> simp [kind_log h]
  have C : ∀ op, cmpOp op → ∀ x y, kd sc (twoE op x y) = if kd sc x = kd sc y ∧ (kd sc x = some 1 ∨ kd sc x = some 2) then some 3 else none := by
    intro op h x y
    rw [kd_two x y (by rcases h with rfl | rfl | rfl | rfl | rfl | rfl <;> decide) (by rcases h with rfl | rfl | rfl | rfl | rfl | rfl <;> decide) (by rcases h with rfl | rfl | rfl | rfl | rfl | rfl <;> decide)]
    cases kd sc x <;> cases kd sc y <;> simp [kind_cmp h]
  have A : ∀ op, ariOp op → ∀ x y, kd sc (twoE op x y) = if kd sc x = some 1 ∧ kd sc y = some 1 then some 1 else none := by
    intro op h x y
    rw [kd_two x y (by rcases h with rfl | rfl | rfl <;> decide) (by rcases h with rfl | rfl | rfl <;> decide) (by rcases h with rfl | rfl | rfl <;> decide)]
    cases kd sc x <;> cases kd sc y <;> simp [kind_ari h]
  have N3 : ∀ e, (kd sc (notE e) = some 3 ↔ kd sc e = some 3) := by
    intro e; rw [kd_not]; split <;> simp_all
  have N1 : ∀ e, (kd sc (negE e) = some 1 ↔ kd sc e = some 1) := by
    intro e; rw [kd_neg]; split <;> simp_all
  have c : ∀ op, op = sLt ∨ op = sGe ∨ op = sLe ∨ op = sEq ∨ op = sNe → cmpOp op := by
    rintro op (rfl | rfl | rfl | rfl | rfl) <;> simp [cmpOp]
  have sw : (kd sc a = kd sc b ∧ (kd sc a = some 1 ∨ kd sc a = some 2)) ↔ (kd sc b = kd sc a ∧ (kd sc b = some 1 ∨ kd sc b = some 2)) := ⟨fun ⟨h1, h2⟩ => ⟨h1.symm, by rw [← h1]; exact h2⟩, fun ⟨h1, h2⟩ => ⟨h1.symm, by rw [← h1]; exact h2⟩⟩
  intro p hp
  simp only [pairsE, List.mem_cons, List.not_mem_nil, or_false] at hp
  rcases hp with rfl | rfl | rfl | rfl | rfl | rfl | rfl <;> dsimp only
  · rw [kd_not, L _ (.inl rfl), L _ (.inr rfl)]; simp only [N3]; split <;> simp_all
  · rw [kd_not, L _ (.inr rfl), L _ (.inl rfl)]; simp only [N3]; split <;> simp_all
  · rw [kd_not, C _ (c _ (.inl rfl)), C _ (c _ (.inr (.inl rfl)))]; split <;> simp_all
  · rw [C _ (c _ (.inr (.inr (.inl rfl)))), C _ (c _ (.inr (.inl rfl)))]; simp only [sw]
  · rw [kd_not, C _ (c _ (.inr (.inr (.inr (.inl rfl))))), C _ (c _ (.inr (.inr (.inr (.inr rfl)))))]; simp only [sw]; split <;> simp
  · rw [A _ (.inr (.inl rfl)), A _ (.inl rfl)]; simp only [N1]
  · rw [A _ (.inr (.inr rfl)), A _ (.inr (.inr rfl))]; simp only [and_comm]
/-! what both sides come to -/
theorem bind_not {sc : List Co} {e : Ex} {t : Tm} (h : bindE sc (notE e) = .ok t) : ∃ u k, bindE sc e = .ok u ∧ t = .mk sNot k vZ 0 [u] ∧ u.kind = 3 := by
  unfold notE at h
  rw [bind_op (by decide) (by decide) (by decide), bindL_one] at h
  cases hb : bindE sc e with
  | error c => rw [hb] at h; cases h
  | ok u =>
    rw [hb] at h
    dsimp only at h
    split at h
    · rename_i hk
      injection h with h; subst h
      refine ⟨u, _, rfl, rfl, ?_⟩
      rcases kindP_one (a := u.kind) hk with ⟨_, a, _⟩ | ⟨a, _⟩
      · exact a
      · cases a
    · cases h
theorem bind_neg {sc : List Co} {e : Ex} {t : Tm} (h : bindE sc (negE e) = .ok t) : ∃ u k, bindE sc e = .ok u ∧ t = .mk sMinus k vZ 0 [u] := by
  unfold negE at h
  rw [bind_op (by decide) (by decide) (by decide), bindL_one] at h
  cases hb : bindE sc e with
  | error c => rw [hb] at h; cases h
  | ok u =>
    rw [hb] at h
    dsimp only at h
    split at h
    · injection h with h; subst h
      exact ⟨u, _, rfl, rfl⟩
    · cases h
theorem bind_two {sc : List Co} {op : Str} {x y : Ex} {t : Tm} (h : bindE sc (twoE op x y) = .ok t) (h1 : op ≠ sNumber) (h2 : op ≠ sText) (h3 : op ≠ sName) : ∃ u v k, bindE sc x = .ok u ∧ bindE sc y = .ok v ∧ t = .mk op k vZ 0 [u, v] ∧ (kindP op [u.kind, v.kind]).2 = true := by
  unfold twoE at h
  rw [bind_op h1 h2 h3, bindL_two] at h
  cases hb : bindE sc x with
  | error c => rw [hb] at h; cases h
  | ok u =>
    rw [hb] at h
    dsimp only at h
    cases hc : bindE sc y with
    | error c => rw [hc] at h; cases h
    | ok v =>
      rw [hc] at h
      dsimp only at h
      split at h
      · rename_i hk
        injection h with h; subst h
        exact ⟨u, v, _, rfl, rfl, rfl, hk⟩
      · cases h
theorem ev_not {row : List Va} {k : Int} {u : Tm} {w : Va} (h : evalT row (.mk sNot k vZ 0 [u]) = .ok w) : ∃ a, evalT row u = .ok a ∧ w = truthV (decide (a.int = 0)) := by
  rw [evalT_one (by decide) (by decide)] at h
  cases e : evalT row u with
  | error c => rw [e] at h; cases h
  | ok a => rw [e] at h; dsimp only at h; rw [if_pos rfl] at h; injection h with h; exact ⟨a, rfl, h.symm⟩
theorem ev_neg {row : List Va} {k : Int} {u : Tm} {w : Va} (h : evalT row (.mk sMinus k vZ 0 [u]) = .ok w) : ∃ a, evalT row u = .ok a ∧ w = ⟨1, w64 (0 - a.int), []⟩ := by
  rw [evalT_one (by decide) (by decide)] at h
  cases e : evalT row u with
  | error c => rw [e] at h; cases h
  | ok a =>
    rw [e] at h; dsimp only at h; rw [if_neg (by decide)] at h
    refine ⟨a, rfl, ?_⟩
    unfold arithE at h
    split at h
    · injection h with h; subst h; unfold arithP; rw [if_neg (by decide), if_pos rfl]
    · cases h
theorem ev_two {row : List Va} {op : Str} {k : Int} {u v : Tm} {w : Va} (h : evalT row (.mk op k vZ 0 [u, v]) = .ok w) (h1 : op ≠ sVal) (h2 : op ≠ sCol) : ∃ a b, evalT row u = .ok a ∧ evalT row v = .ok b ∧ reckonT op a b = .ok w := by
  rw [evalT_two h1 h2] at h
  cases e : evalT row u with
  | error c => rw [e] at h; cases h
  | ok a =>
    rw [e] at h; dsimp only at h
    cases e2 : evalT row v with
    | error c => rw [e2] at h; cases h
    | ok b => rw [e2] at h; exact ⟨a, b, rfl, rfl, h⟩
def noBool (sc : List Co) : Prop := ∀ c ∈ sc, c.kind ≠ 3
theorem be_bool {sc : List Co} (hs : noBool sc) {row : List Va} {e : Ex} {t : Tm} (h : BE sc e t) : t.kind = 3 → ∀ v, evalT row t = .ok v → v.int = 0 ∨ v.int = 1 := by
  have tr : ∀ p, (truthV p).int = 0 ∨ (truthV p).int = 1 := by intro p; cases p <;> simp [truthV]
  cases h with
  | num n text of args => intro h; simp [Tm.kind] at h
  | text n text of args => intro h; simp [Tm.kind] at h
  | name n text of args i c hf hc => intro h; exact absurd h (hs c (List.mem_of_getElem? hc))
  | one op k n text of e t h hk =>
    intro hk3 v hv
    rcases hk with ⟨rfl, _, _⟩ | ⟨_, _, hk1⟩
    · rw [evalT_one (by decide) (by decide)] at hv
      cases e : evalT row t with
      | error c => rw [e] at hv; cases hv
      | ok a => rw [e] at hv; dsimp only at hv; rw [if_pos rfl] at hv; injection hv with hv; subst hv; exact tr _
    · simp only [Tm.kind] at hk3; omega
  | two op k n text of e1 e2 t1 t2 h1 h2 hk =>
    intro hk3 v hv
    obtain ⟨g1, g2, _⟩ := op_two hk
    obtain ⟨a, b, _, _, hr⟩ := ev_two hv g1 g2
    rcases hk with ⟨h3, _⟩ | ⟨h3, _⟩ | ⟨_, _, _, hk1⟩
    · obtain ⟨p, hp⟩ := reckon_bool (.inl h3) a b
      rw [hp] at hr; injection hr with hr; subst hr; exact tr _
    · obtain ⟨p, hp⟩ := reckon_bool (.inr h3) a b
      rw [hp] at hr; injection hr with hr; subst hr; exact tr _
    · simp only [Tm.kind] at hk3; omega
theorem less_anti : ∀ a b : Str, Op.bytesLess a b = true → Op.bytesLess b a = false
  | _, [], h => by cases ‹List UInt8› <;> simp [Op.bytesLess] at h
  | [], _ :: _, _ => by simp [Op.bytesLess]
  | x :: a, y :: b, h => by
    simp only [Op.bytesLess, Bool.or_eq_true, Bool.and_eq_true, decide_eq_true_eq, beq_iff_eq] at h ⊢
    rw [Bool.eq_false_iff]
    simp only [ne_eq, Bool.or_eq_true, Bool.and_eq_true, decide_eq_true_eq, beq_iff_eq]
    rcases h with h | ⟨rfl, h⟩
    · rintro (h2 | ⟨rfl, _⟩)
      · exact absurd h (UInt8.lt_asymm h2)
      · exact UInt8.lt_irrefl _ h
    · rintro (h2 | ⟨_, h2⟩)
      · exact UInt8.lt_irrefl _ h2
      · rw [less_anti a b h] at h2; cases h2
theorem less_total : ∀ a b : Str, Op.bytesLess a b = false → a ≠ b → Op.bytesLess b a = true
  | [], [], _, h => absurd rfl h
  | [], _ :: _, h, _ => by simp [Op.bytesLess] at h
  | _ :: _, [], _, _ => by simp [Op.bytesLess]
  | x :: a, y :: b, h, hne => by
    rw [Bool.eq_false_iff] at h
    simp only [Op.bytesLess, ne_eq, Bool.or_eq_true, Bool.and_eq_true, decide_eq_true_eq, beq_iff_eq, not_or, not_and] at h ⊢
    by_cases e : x = y
    · subst e
      exact .inr ⟨rfl, less_total a b (by simpa using h.2 rfl) (fun e => hne (by rw [e]))⟩
    · left
      rcases UInt8.lt_or_lt_of_ne e with h2 | h2
      · exact absurd h2 h.1
      · exact h2
theorem cmpS_neg (a b : Str) : cmpS b a = - cmpS a b := by
  unfold cmpS
  by_cases h : Op.bytesLess a b = true
  · have h2 := less_anti a b h
    rw [if_pos h, if_neg (by rw [h2]; decide), if_neg (by rintro rfl; rw [h] at h2; cases h2)]; rfl
  · by_cases e : a = b
    · subst e; rw [if_neg h, if_pos rfl]; rfl
    · rw [if_neg h, if_neg e, if_pos (less_total a b (by simpa using h) e)]
theorem ord_neg (a b : Va) : ordV b a = - ordV a b := by
  unfold ordV
  rw [cmpS_neg a.text b.text]
  unfold orI cmpI
  by_cases h1 : a.int < b.int
  · have h2 : ¬ b.int < a.int := by omega
    simp [h1, h2]
  · by_cases h2 : b.int < a.int
    · simp [h1, h2]
    · simp [h1, h2]
theorem truth_ext {p q : Bool} (h : p = q) : truthV p = truthV q := by rw [h]
theorem truth_int (p : Bool) : decide ((truthV p).int = 0) = !p ∧ decide ((truthV p).int = 1) = p := by cases p <;> simp [truthV]
/-- Both sides of a pair come to the same, as far as they come to a value. -/
theorem pairs_eval {sc : List Co} (hs : noBool sc) {row : List Va} {a b : Ex} : ∀ p ∈ pairsE a b, ∀ x y v w, bindE sc p.1 = .ok x → bindE sc p.2 = .ok y → evalT row x = .ok v → evalT row y = .ok w → v = w := by
  have S : ∀ {α : Type} {x y : α} {r : Except Int α}, r = .ok x → r = .ok y → x = y := by
    intro α x y r h1 h2; rw [h1] at h2; injection h2
  intro p hp x y v w hx hy hv hw
  simp only [pairsE, List.mem_cons, List.not_mem_nil, or_false] at hp
  rcases hp with rfl | rfl | rfl | rfl | rfl | rfl | rfl <;> dsimp only at hx hy
  · obtain ⟨_, _, hx', rfl, _⟩ := bind_not hx
    obtain ⟨a1, b1, _, ha1, hb1, rfl, hk⟩ := bind_two hx' (by decide) (by decide) (by decide)
    obtain ⟨_, _, _, hy1, hy2, rfl, _⟩ := bind_two hy (by decide) (by decide) (by decide)
    obtain ⟨a2, _, ha2, rfl, ka⟩ := bind_not hy1
    obtain ⟨b2, _, hb2, rfl, kb⟩ := bind_not hy2
    obtain rfl := S ha1 ha2; obtain rfl := S hb1 hb2
    obtain ⟨o, ho, rfl⟩ := ev_not hv
    obtain ⟨va, vb, hva, hvb, hr⟩ := ev_two ho (by decide) (by decide)
    obtain ⟨na, nb, hna, hnb, hr2⟩ := ev_two hw (by decide) (by decide)
    obtain ⟨va2, hva2, rfl⟩ := ev_not hna
    obtain ⟨vb2, hvb2, rfl⟩ := ev_not hnb
    obtain rfl := S hva hva2; obtain rfl := S hvb hvb2
    have ba := be_bool hs (be_of _ _ _ ha1) ka va hva
    have bb := be_bool hs (be_of _ _ _ hb1) kb vb hvb
    simp only [reckonT, if_true] at hr
    injection hr with hr; subst hr
    have : reckonT sAnd (truthV (decide (va.int = 0))) (truthV (decide (vb.int = 0))) = .ok (truthV (decide ((truthV (decide (va.int = 0))).int = 1) && decide ((truthV (decide (vb.int = 0))).int = 1))) := rfl
    rw [this] at hr2; injection hr2 with hr2; subst hr2
    rw [(truth_int _).1, (truth_int _).2, (truth_int _).2]
    rcases ba with h | h <;> rcases bb with h' | h' <;> rw [h, h'] <;> rfl
  · obtain ⟨_, _, hx', rfl, _⟩ := bind_not hx
    obtain ⟨a1, b1, _, ha1, hb1, rfl, hk⟩ := bind_two hx' (by decide) (by decide) (by decide)
    obtain ⟨_, _, _, hy1, hy2, rfl, _⟩ := bind_two hy (by decide) (by decide) (by decide)
    obtain ⟨a2, _, ha2, rfl, ka⟩ := bind_not hy1
    obtain ⟨b2, _, hb2, rfl, kb⟩ := bind_not hy2
    obtain rfl := S ha1 ha2; obtain rfl := S hb1 hb2
    obtain ⟨o, ho, rfl⟩ := ev_not hv
    obtain ⟨va, vb, hva, hvb, hr⟩ := ev_two ho (by decide) (by decide)
    obtain ⟨na, nb, hna, hnb, hr2⟩ := ev_two hw (by decide) (by decide)
    obtain ⟨va2, hva2, rfl⟩ := ev_not hna
    obtain ⟨vb2, hvb2, rfl⟩ := ev_not hnb
    obtain rfl := S hva hva2; obtain rfl := S hvb hvb2
    have ba := be_bool hs (be_of _ _ _ ha1) ka va hva
    have bb := be_bool hs (be_of _ _ _ hb1) kb vb hvb
    have e1 : reckonT sAnd va vb = .ok (truthV (decide (va.int = 1) && decide (vb.int = 1))) := rfl
    rw [e1] at hr; injection hr with hr; subst hr
    have : reckonT sOr (truthV (decide (va.int = 0))) (truthV (decide (vb.int = 0))) = .ok (truthV (decide ((truthV (decide (va.int = 0))).int = 1) || decide ((truthV (decide (vb.int = 0))).int = 1))) := rfl
    rw [this] at hr2; injection hr2 with hr2; subst hr2
    rw [(truth_int _).1, (truth_int _).2, (truth_int _).2]
    rcases ba with h | h <;> rcases bb with h' | h' <;> rw [h, h'] <;> rfl
  · obtain ⟨_, _, hx', rfl, _⟩ := bind_not hx
    obtain ⟨a1, b1, _, ha1, hb1, rfl, hk⟩ := bind_two hx' (by decide) (by decide) (by decide)
    obtain ⟨a2, b2, _, ha2, hb2, rfl, _⟩ := bind_two hy (by decide) (by decide) (by decide)
    obtain rfl := S ha1 ha2; obtain rfl := S hb1 hb2
    obtain ⟨o, ho, rfl⟩ := ev_not hv
    obtain ⟨va, vb, hva, hvb, hr⟩ := ev_two ho (by decide) (by decide)
    obtain ⟨va2, vb2, hva2, hvb2, hr2⟩ := ev_two hw (by decide) (by decide)
    obtain rfl := S hva hva2; obtain rfl := S hvb hvb2
    have e1 : reckonT sLt va vb = .ok (truthV (decide (ordV va vb < 0))) := rfl
    have e2 : reckonT sGe va vb = .ok (truthV (decide (0 ≤ ordV va vb))) := rfl
    rw [e1] at hr; injection hr with hr; subst hr
    rw [e2] at hr2; injection hr2 with hr2; subst hr2
    rw [(truth_int _).1]
    apply truth_ext
    rw [Bool.eq_iff_iff]; simp
  · obtain ⟨a1, b1, _, ha1, hb1, rfl, hk⟩ := bind_two hx (by decide) (by decide) (by decide)
    obtain ⟨b2, a2, _, hb2, ha2, rfl, _⟩ := bind_two hy (by decide) (by decide) (by decide)
    obtain rfl := S ha1 ha2; obtain rfl := S hb1 hb2
    obtain ⟨va, vb, hva, hvb, hr⟩ := ev_two hv (by decide) (by decide)
    obtain ⟨vb2, va2, hvb2, hva2, hr2⟩ := ev_two hw (by decide) (by decide)
    obtain rfl := S hva hva2; obtain rfl := S hvb hvb2
    have e1 : reckonT sLe va vb = .ok (truthV (decide (ordV va vb ≤ 0))) := rfl
    have e2 : reckonT sGe vb va = .ok (truthV (decide (0 ≤ ordV vb va))) := rfl
    rw [e1] at hr; injection hr with hr; subst hr
    rw [e2] at hr2; injection hr2 with hr2; subst hr2
    apply truth_ext
    rw [ord_neg va vb, Bool.eq_iff_iff]; simp only [decide_eq_true_eq]; omega
  · obtain ⟨_, _, hx', rfl, _⟩ := bind_not hx
    obtain ⟨a1, b1, _, ha1, hb1, rfl, hk⟩ := bind_two hx' (by decide) (by decide) (by decide)
    obtain ⟨b2, a2, _, hb2, ha2, rfl, _⟩ := bind_two hy (by decide) (by decide) (by decide)
    obtain rfl := S ha1 ha2; obtain rfl := S hb1 hb2
    obtain ⟨o, ho, rfl⟩ := ev_not hv
    obtain ⟨va, vb, hva, hvb, hr⟩ := ev_two ho (by decide) (by decide)
    obtain ⟨vb2, va2, hvb2, hva2, hr2⟩ := ev_two hw (by decide) (by decide)
    obtain rfl := S hva hva2; obtain rfl := S hvb hvb2
    have e1 : reckonT sEq va vb = .ok (truthV (decide (ordV va vb = 0))) := rfl
    have e2 : reckonT sNe vb va = .ok (truthV (decide (ordV vb va ≠ 0))) := rfl
    rw [e1] at hr; injection hr with hr; subst hr
    rw [e2] at hr2; injection hr2 with hr2; subst hr2
    rw [(truth_int _).1]
    apply truth_ext
    rw [ord_neg va vb, Bool.eq_iff_iff]; simp only [Bool.not_eq_true', decide_eq_false_iff_not, decide_eq_true_eq]; omega
  · obtain ⟨a1, b1, _, ha1, hb1, rfl, hk⟩ := bind_two hx (by decide) (by decide) (by decide)
    obtain ⟨a2, _, _, ha2, hn, rfl, _⟩ := bind_two hy (by decide) (by decide) (by decide)
    obtain ⟨b2, _, hb2, rfl⟩ := bind_neg hn
    obtain rfl := S ha1 ha2; obtain rfl := S hb1 hb2
    obtain ⟨va, vb, hva, hvb, hr⟩ := ev_two hv (by decide) (by decide)
    obtain ⟨va2, nb, hva2, hnb, hr2⟩ := ev_two hw (by decide) (by decide)
    obtain ⟨vb2, hvb2, rfl⟩ := ev_neg hnb
    obtain rfl := S hva hva2; obtain rfl := S hvb hvb2
    have e1 : reckonT sMinus va vb = arithE sMinus va.int vb.int := rfl
    have e2 : reckonT sPlus va ⟨1, w64 (0 - vb.int), []⟩ = arithE sPlus va.int (w64 (0 - vb.int)) := rfl
    rw [e1] at hr; rw [e2] at hr2
    unfold arithE at hr hr2
    split at hr
    · split at hr2
      · injection hr with hr; injection hr2 with hr2
        subst hr; subst hr2
        congr 1
        have f1 : (arithP sMinus va.int vb.int).1 = w64 (va.int - vb.int) := by unfold arithP; rw [if_neg (by decide), if_pos rfl]
        have f2 : (arithP sPlus va.int (w64 (0 - vb.int))).1 = w64 (va.int + w64 (0 - vb.int)) := by unfold arithP; rw [if_pos rfl]
        rw [f1, f2]
        obtain ⟨q, hq⟩ := w64_mod (0 - vb.int)
        obtain ⟨r, hr⟩ := w64_mod (va.int - vb.int)
        exact (w64_eq (w64_fits _) (r - q) (by rw [hr, hq]; omega)).symm
      · cases hr2
    · cases hr
  · obtain ⟨a1, b1, _, ha1, hb1, rfl, hk⟩ := bind_two hx (by decide) (by decide) (by decide)
    obtain ⟨b2, a2, _, hb2, ha2, rfl, _⟩ := bind_two hy (by decide) (by decide) (by decide)
    obtain rfl := S ha1 ha2; obtain rfl := S hb1 hb2
    obtain ⟨va, vb, hva, hvb, hr⟩ := ev_two hv (by decide) (by decide)
    obtain ⟨vb2, va2, hvb2, hva2, hr2⟩ := ev_two hw (by decide) (by decide)
    obtain rfl := S hva hva2; obtain rfl := S hvb hvb2
    have e1 : reckonT sMul va vb = arithE sMul va.int vb.int := rfl
    have e2 : reckonT sMul vb va = arithE sMul vb.int va.int := rfl
    rw [e1] at hr; rw [e2] at hr2
    unfold arithE at hr hr2
    split at hr
    · split at hr2
      · injection hr with hr; injection hr2 with hr2
        subst hr; subst hr2
        congr 1
        unfold arithP
        rw [if_neg (by decide), if_neg (by decide), if_neg (by decide), if_neg (by decide)]
        simp only
        rw [Int.mul_comm]
      · cases hr2
    · cases hr
end Go.Proofs.Ytopbkdpbljebgaa
