/- The texts BeI BeJ, one behind the other: what the law leans on. Conditions: as each theorem says. -/
import Derived.Test.YtopbkdpbljebgaaZBindParts6
/- The laws of bind: the document's Eval, Holds, Parts as a whole; conditions and their parts; terms that are moved. Conditions: that what is handed in can be read; sizes. -/
set_option linter.unusedSimpArgs false
set_option linter.unusedVariables false
namespace Go.Proofs.Ytopbkdpbljebgaa
open Go.RowKit

theorem ExV.inv {B : Base} {S : List Assn} {op : Str} {n : Int} {text of : Str} {args : List Ex} {c : C5} (h : ExV B S (.mk op n text of args) c) : ∃ pa ca css, c = ⟨tV op, iV n, tV text, tV of, .slice pa args.length ca⟩ ∧ FlV B S c5 (.slice pa args.length ca) css ∧ css.length = args.length ∧ ∀ (i : Nat) (t : Ex) (c : C5), args[i]? = some t → css[i]? = some c → ExV B S t c := by
  cases h with
  | mk op n text of args av css hf hl hb ht hc =>
    obtain ⟨a, cap, rfl⟩ := hf.form hl
    exact ⟨a, cap, css, rfl, hf, hl, hc⟩
section
variable {B : Base} {S : List Assn} {row : List Va} {sc : List Co} {sa ra : Option Addr} {ns cs m rc : Nat}
theorem Be.eval (hs : FlV B S coC (.slice sa ns cs) sc) (hsn : sc.length = ns) (hnn : ns < 2 ^ 32) (hrow : FlV B S vaC (.slice ra m rc) row) (hm : row.length = m) (hmn : m < 2 ^ 32) (hok : okRow row) {e : Ex} {t : Tm} (h : BE sc e t) :
    ExI e → ∀ ce, ExV B S e ce → Fn Try.prog B 27 #[eA ce, .slice sa ns cs, .slice ra m rc] S (fun u l => u = .tuple #[vA (evalR row t).1, iV (evalR row t).2] ∧ l = S) := by
  induction h with
  | num n text of args =>
    intro hi ce hv
    obtain ⟨pa, ca, css, rfl, -, -, -⟩ := hv.inv
    rw [evalR_ok (v := ⟨1, n, []⟩) (by rw [evalT, if_pos rfl])]
    exact Be.evNum rfl
  | text n text of args =>
    intro hi ce hv
    obtain ⟨pa, ca, css, rfl, -, -, -⟩ := hv.inv
    rw [evalR_ok (v := ⟨2, 0, text⟩) (by rw [evalT, if_pos rfl])]
    exact Be.evText rfl
  | name n text of args i c hf hc =>
    intro hi ce hv
    obtain ⟨pa, ca, css, rfl, -, -, -⟩ := hv.inv
    exact Be.evName rfl hs hsn hnn hrow hm hmn i c hf hc
  | one op k n text of e t h hk ih =>
    intro hi ce hv
    obtain ⟨pa, ca, css, rfl, hf, hl, hc⟩ := hv.inv
    obtain ⟨b, o, rfl, hr⟩ := hf.at (sz := 5) (fun _ => rfl) (by simp)
    obtain ⟨c0, hc0⟩ : ∃ c, css[0]? = some c := ⟨_, List.getElem?_eq_getElem (by rw [hl]; simp)⟩
    exact Be.evOne rfl (hr 0 c0 hc0) h (hi.sub (i := 0) rfl) hok hk rfl (ih (hi.sub (i := 0) rfl) c0 (hc 0 e c0 rfl hc0))
  | two op k n text of e1 e2 t1 t2 h1 h2 hk ih1 ih2 =>
    intro hi ce hv
    obtain ⟨pa, ca, css, rfl, hf, hl, hc⟩ := hv.inv
    obtain ⟨b, o, rfl, hr⟩ := hf.at (sz := 5) (fun _ => rfl) (by simp)
    obtain ⟨c0, hc0⟩ : ∃ c, css[0]? = some c := ⟨_, List.getElem?_eq_getElem (by rw [hl]; simp)⟩
    obtain ⟨c1, hc1⟩ : ∃ c, css[1]? = some c := ⟨_, List.getElem?_eq_getElem (by rw [hl]; simp)⟩
    exact Be.evTwo rfl (hr 0 c0 hc0) h1 (hi.sub (i := 0) rfl) h2 (hi.sub (i := 1) rfl) hok hk rfl (ih1 (hi.sub (i := 0) rfl) c0 (hc 0 e1 c0 rfl hc0)) (hr 1 c1 hc1) (ih2 (hi.sub (i := 1) rfl) c1 (hc 1 e2 c1 rfl hc1))
theorem Be.holds (hs : FlV B S coC (.slice sa ns cs) sc) (hsn : sc.length = ns) (hnn : ns < 2 ^ 32) (hrow : FlV B S vaC (.slice ra m rc) row) (hm : row.length = m) (hmn : m < 2 ^ 32) (hok : okRow row) {e : Ex} {t : Tm} (h : BE sc e t) (hi : ExI e) (ce : C5) (hv : ExV B S e ce) :
  Fn Try.prog B 22 #[eA ce, .slice sa ns cs, .slice ra m rc] S (fun u l => u = .bool (holds1 row t) ∧ l = S) := by
 have hE := Be.eval hs hsn hnn hrow hm hmn hok h hi ce hv
 obtain ⟨op, n, text, of, a, mm, cap, rfl⟩ := hv.form
 refine Fn.enter3 28 Try.func22 rfl rfl (Nat.le_of_ble_eq_true rfl) (fun F => ?_)
 try simp only [List.cons_append, List.nil_append]
 refine T.seq ?_
 refine T.region ?_
 refine LW.e rfl (Ef.box [_, _, _, _, _] rfl rfl ?_)
 intro g3
 refine LW.q rfl (Qt.assign rfl) ?_
 refine LW.done ?_
 refine T.seq ?_
 refine T.region ?_
 first | refine LW.q rfl (Qt.loadAgg [_, _, _, _, _] (by kernel_rfl) rfl ⟨rfl, rfl, rfl, rfl, rfl, trivial⟩) ?_ | refine LW.q rfl (Qt.loadAgg [_, _, _, _, _] (by kernel_rfl) rfl (by exact rdl_flat _ _ _ (by intros; rfl) _ (by omega))) ?_
 refine LW.q rfl (Qt.move rfl) ?_
 refine LW.q rfl (Qt.move rfl) ?_
 refine LW.e rfl (Ef.call (hE) Try.func27 rfl rfl rfl ?_)
 rintro _ _ ⟨rfl, rfl⟩
 try simp only [List.cons_append, List.nil_append]
 refine LW.q rfl (Qt.move rfl) ?_
 refine LW.q rfl (Qt.extr rfl rfl) ?_
 refine LW.q rfl (Qt.extr rfl rfl) ?_
 refine LW.e rfl (Ef.alloc [.int .i64 0, .int .i64 0, .string .empty] (by unfold zeroB; kernel_rfl) ?_)
 intro g7
 refine LW.e0 rfl (Ef.store [_, _, _] (by kernel_rfl) rfl rfl rfl rfl (by simp) ?_)
 try simp only [splice, List.length_cons, List.length_nil, List.drop_succ_cons, List.cons_append, List.take_succ_cons, List.take_zero, List.drop_zero, List.nil_append, List.append_nil]
 refine LW.q rfl (Qt.assign rfl) ?_
 refine LW.done ?_
 refine T.seq ?_
 refine T.region ?_
 refine LW.q rfl (Qt.move rfl) ?_
 refine LW.q rfl (Qt.eql rfl rfl) ?_
 refine LW.q rfl (Qt.move rfl) ?_
 refine LW.split (t := 18) rfl (fun g1 => ?_) (fun g1 => ?_)
 ·
  try replace g1 := of_decide_eq_true g1
  refine LW.q rfl (Qt.fieldAddr0 (by kernel_rfl) rfl) ?_
  first | refine LW.q rfl (Qt.load (by kernel_rfl) rfl rfl) ?_ | refine LW.q rfl (Qt.load (by kernel_rfl) rfl (map_at _ _ _ (by omega))) ?_ | refine LW.q rfl (Qt.load (by kernel_rfl) rfl (flat_cell0 _ _ _ (by intros; rfl) _ (by omega) (by rfl))) ?_ | refine LW.q rfl (Qt.load (by kernel_rfl) rfl (flat_cell _ _ _ (by intros; rfl) _ _ (by omega) (by rfl))) ?_ | refine LW.q rfl (Qt.load (by kernel_rfl) rfl (bytes_at _ _ (by omega))) ?_
  refine LW.q rfl (Qt.eql rfl rfl) ?_
  refine LW.q rfl (Qt.pick rfl rfl) ?_
  refine LW.q rfl (Qt.move rfl) ?_
  refine LW.split (t := 23) rfl (fun g2 => ?_) (fun g2 => ?_)
  ·
   try replace g2 := of_decide_eq_true g2
   refine LW.q rfl (Qt.fieldAddr (off := 1) (by kernel_rfl) rfl) ?_
   first | refine LW.q rfl (Qt.load (by kernel_rfl) rfl rfl) ?_ | refine LW.q rfl (Qt.load (by kernel_rfl) rfl (map_at _ _ _ (by omega))) ?_ | refine LW.q rfl (Qt.load (by kernel_rfl) rfl (flat_cell0 _ _ _ (by intros; rfl) _ (by omega) (by rfl))) ?_ | refine LW.q rfl (Qt.load (by kernel_rfl) rfl (flat_cell _ _ _ (by intros; rfl) _ _ (by omega) (by rfl))) ?_ | refine LW.q rfl (Qt.load (by kernel_rfl) rfl (bytes_at _ _ (by omega))) ?_
   refine LW.q rfl (Qt.eql rfl rfl) ?_
   refine LW.q rfl (Qt.pick rfl rfl) ?_
   refine LW.q rfl (Qt.assign rfl) ?_
   refine LW.done ?_
   refine T.ret ?_
   exact ⟨.inl rfl, _, _, res [_] rfl ⟨rvT rfl, trivial⟩, ⟨by unfold holds1; rw [decide_eq_true g1, decide_eq_true g2]; rfl, rfl⟩, Sub.any⟩
  ·
   try replace g2 := of_decide_eq_false g2
   refine LW.s rfl ?_
   refine LW.s rfl ?_
   refine LW.s rfl ?_
   refine LW.q rfl (Qt.pick rfl rfl) ?_
   refine LW.q rfl (Qt.assign rfl) ?_
   refine LW.done ?_
   refine T.ret ?_
   exact ⟨.inl rfl, _, _, res [_] rfl ⟨rvT rfl, trivial⟩, ⟨by unfold holds1; rw [decide_eq_true g1, decide_eq_false g2]; rfl, rfl⟩, Sub.any⟩
 ·
  try replace g1 := of_decide_eq_false g1
  refine LW.s rfl ?_
  refine LW.s rfl ?_
  refine LW.s rfl ?_
  refine LW.q rfl (Qt.pick rfl rfl) ?_
  refine LW.q rfl (Qt.move rfl) ?_
  first | refine LW.gF (t := 23) rfl rfl ?_ | refine LW.gF (t := 23) rfl (decide_eq_false (rfl)) ?_ | refine LW.gF (t := 23) rfl (rfl) ?_
  refine LW.s rfl ?_
  refine LW.s rfl ?_
  refine LW.s rfl ?_
  refine LW.q rfl (Qt.pick rfl rfl) ?_
  refine LW.q rfl (Qt.assign rfl) ?_
  refine LW.done ?_
  refine T.ret ?_
  exact ⟨.inl rfl, _, _, res [_] rfl ⟨rvT rfl, trivial⟩, ⟨by unfold holds1; rw [decide_eq_false g1]; rfl, rfl⟩, Sub.any⟩
end
/-- The parts of an expression. -/
def partsE : Ex → List Ex
  | .mk op n text of args => if op = sAnd then (match args with
      | e :: f :: _ => partsE e ++ partsE f
      | _ => []) else [.mk op n text of args]
def ExsS (B : Base) (S : List Assn) (es : List Ex) (css : List C5) : Prop := css.length = es.length ∧ ∀ (i : Nat) (t : Ex) (c : C5), es[i]? = some t → css[i]? = some c → ExV B S t c
theorem ExsS.mono {B : Base} {S S' : List Assn} {ts : List Ex} {css : List C5} (h : ExsS B S ts css) (hs : ∀ w, Own B w S' → Own B w S) : ExsS B S' ts css := ⟨h.1, fun i t c h1 h2 => (h.2 i t c h1 h2).mono hs⟩
theorem ExsS.app {B : Base} {S : List Assn} {ts us : List Ex} {css dss : List C5} (h : ExsS B S ts css) (k : ExsS B S us dss) : ExsS B S (ts ++ us) (css ++ dss) := ⟨by rw [List.length_append, List.length_append, h.1, k.1], fun i t c h1 h2 => by
  by_cases hi : i < ts.length
  · rw [List.getElem?_append_left hi] at h1
    rw [List.getElem?_append_left (by rw [h.1]; exact hi)] at h2
    exact h.2 i t c h1 h2
  · rw [List.getElem?_append_right (by omega)] at h1
    rw [List.getElem?_append_right (by rw [h.1]; omega), h.1] at h2
    exact k.2 _ t c h1 h2⟩
theorem ExsS.oneC {B : Base} {S : List Assn} {ts : List Ex} {css : List C5} (h : ExsS B S ts css) : ∀ x ∈ css.flatMap c5, x.oneCell' = true := by
  intro x hx
  obtain ⟨c, hc, hxc⟩ := List.mem_flatMap.1 hx
  obtain ⟨i, hi, rfl⟩ := List.getElem_of_mem hc
  obtain ⟨op, n, text, of, a, m, cap, hf⟩ := (h.2 i _ _ (List.getElem?_eq_getElem (by rw [← h.1]; exact hi)) (List.getElem?_eq_getElem hi)).form
  rw [hf] at hxc
  simp at hxc
  rcases hxc with rfl | rfl | rfl | rfl | rfl <;> rfl
theorem ExsS.one {B : Base} {S : List Assn} {t : Ex} {c : C5} (h : ExV B S t c) : ExsS B S [t] [c] := ⟨rfl, fun i u d h1 h2 => by
  cases i with
  | zero => simp at h1 h2; subst h1; subst h2; exact h
  | succ i => simp at h1⟩
def PartsPostE (B : Base) (S : List Assn) (t : Ex) (u : Value) (l : List Assn) : Prop := ∃ p n c css, u = .slice p n c ∧ (0 < n → ∃ g, p = some ⟨g, 0, none⟩) ∧ ExsS B S (partsE t) css ∧ css.length = n ∧ l = row (.slice p n c) 42 5 n (css.flatMap c5) :: S
theorem Be.elemE : ElemOk Try.prog 40 42 5 80 := .mk' (.agg #[.string .empty, .int .i64 0, .string .empty, .string .empty, .slice none 0 0]) Try.underlying40 (by kernel_rfl) rfl (by omega)
set_option maxHeartbeats 1000000 in
theorem Be.parts1 (B : Base) (S : List Assn) (op : Str) (n : Int) (text of : Str) (args : List Ex) (c : C5) (h : ExV B S (.mk op n text of args) c) (ho : op ≠ sAnd) : Fn Try.prog B 20 #[eA c] S (PartsPostE B S (.mk op n text of args)) := by
  have hp : partsE (.mk op n text of args) = [.mk op n text of args] := by rw [partsE.eq_def]; dsimp only; rw [if_neg ho]
  have h0 := h
  obtain ⟨pa, ca, css, rfl, -, -, -⟩ := h.inv
  refine Fn.enter1 26 Try.func20 rfl rfl (Nat.le_of_ble_eq_true rfl) (fun F => ?_)
  try simp only [List.cons_append, List.nil_append]
  refine T.seq ?_
  refine T.region ?_
  refine LW.e rfl (Ef.box [_, _, _, _, _] rfl rfl ?_)
  intro g1
  refine LW.q rfl (Qt.assign rfl) ?_
  refine LW.done ?_
  refine T.seq ?_
  refine T.seq ?_
  refine T.region ?_
  refine LW.q rfl (Qt.fieldAddr0 (by kernel_rfl) rfl) ?_
  first | refine LW.q rfl (Qt.load (by kernel_rfl) rfl rfl) ?_ | refine LW.q rfl (Qt.load (by kernel_rfl) rfl (map_at _ _ _ (by omega))) ?_ | refine LW.q rfl (Qt.load (by kernel_rfl) rfl (flat_cell0 _ _ _ (by intros; rfl) _ (by omega) (by rfl))) ?_ | refine LW.q rfl (Qt.load (by kernel_rfl) rfl (flat_cell _ _ _ (by intros; rfl) _ _ (by omega) (by rfl))) ?_ | refine LW.q rfl (Qt.load (by kernel_rfl) rfl (bytes_at _ _ (by omega))) ?_
  refine LW.q rfl (Qt.neqS rfl rfl) ?_
  refine LW.done ?_
  first | refine T.condT rfl ?_ | refine T.condPT rfl (ho) ?_ | refine T.condBT rfl (ho) ?_
  refine T.seq ?_
  refine T.region ?_
  first | refine LW.q rfl (Qt.loadAgg [_, _, _, _, _] (by kernel_rfl) rfl ⟨rfl, rfl, rfl, rfl, rfl, trivial⟩) ?_ | refine LW.q rfl (Qt.loadAgg [_, _, _, _, _] (by kernel_rfl) rfl (by exact rdl_flat _ _ _ (by intros; rfl) _ (by omega))) ?_
  refine LW.e rfl (Ef.one [_, _, _, _, _] (e := 42) (sz := 5) (by kernel_rfl) ⟨.agg #[.string .empty, .int .i64 0, .string .empty, .string .empty, .slice none 0 0], by kernel_rfl, rfl⟩ rfl rfl rfl (by omega) (by omega) ?_)
  intro g9
  refine LW.conv (l' := row (.slice (some ⟨g9, 0, none⟩) 1 1) 42 5 1 ([(⟨tV op, iV n, tV text, tV of, .slice pa args.length ca⟩ : C5)].flatMap c5) :: _) (fun w ho => ho.blk_row (sz := 5) (n := 1) rfl (by unfold maxLen; omega)) ?_
  refine LW.q rfl (Qt.assign rfl) ?_
  refine LW.done ?_
  refine T.ret ?_
  exact ⟨.inl rfl, _, _, res [_] rfl ⟨rvT rfl, trivial⟩, ⟨_, _, _, [_], rfl, fun _ => ⟨_, rfl⟩, by rw [hp]; exact ExsS.one h0, rfl, rfl⟩, Sub.any⟩
set_option maxHeartbeats 1000000 in
theorem Be.parts2 (B : Base) (S : List Assn) (n : Int) (text of : Str) (t u : Ex) (ca b o : Nat) (c0 c1 : C5) (hr0 : ∀ w, Own B w S → w.rangeAt b (o + 0 * 5) (c5 c0)) (hr1 : ∀ w, Own B w S → w.rangeAt b (o + 1 * 5) (c5 c1))
  (hb : (partsE t).length + (partsE u).length < 2 ^ 32) (h0 : Fn Try.prog B 20 #[eA c0] S (PartsPostE B S t)) (h1 : Fn Try.prog B 20 #[eA c1] S (PartsPostE B S u)) :
  Fn Try.prog B 20 #[eA ⟨tV sAnd, iV n, tV text, tV of, .slice (some ⟨b, o, none⟩) 2 ca⟩] S (PartsPostE B S (.mk sAnd n text of [t, u])) := by
 have hp : partsE (.mk sAnd n text of [t, u]) = partsE t ++ partsE u := by rw [partsE, if_pos rfl]
 refine Fn.enter1 26 Try.func20 rfl rfl (Nat.le_of_ble_eq_true rfl) (fun F => ?_)
 try simp only [List.cons_append, List.nil_append]
 refine T.seq ?_
 refine T.region ?_
 refine LW.e rfl (Ef.box [_, _, _, _, _] rfl rfl ?_)
 intro g1
 refine LW.q rfl (Qt.assign rfl) ?_
 refine LW.done ?_
 refine T.seq ?_
 refine T.seq ?_
 refine T.region ?_
 refine LW.q rfl (Qt.fieldAddr0 (by kernel_rfl) rfl) ?_
 first | refine LW.q rfl (Qt.load (by kernel_rfl) rfl rfl) ?_ | refine LW.q rfl (Qt.load (by kernel_rfl) rfl (map_at _ _ _ (by omega))) ?_ | refine LW.q rfl (Qt.load (by kernel_rfl) rfl (flat_cell0 _ _ _ (by intros; rfl) _ (by omega) (by rfl))) ?_ | refine LW.q rfl (Qt.load (by kernel_rfl) rfl (flat_cell _ _ _ (by intros; rfl) _ _ (by omega) (by rfl))) ?_ | refine LW.q rfl (Qt.load (by kernel_rfl) rfl (bytes_at _ _ (by omega))) ?_
 refine LW.q rfl (Qt.neqS rfl rfl) ?_
 refine LW.done ?_
 first | refine T.condF rfl ?_ | refine T.condPF rfl (rfl) ?_ | refine T.condBF rfl (rfl) ?_
 refine T.conv (l' := row (.slice none 0 0) 42 5 0 (List.flatMap c5 []) :: _) (fun w ho => ho.row_nil 42 5) ?_
 refine T.skip ?_
 refine T.seq ?_
 refine T.region ?_
 refine LW.q rfl (Qt.assign rfl) ?_
 refine LW.done ?_
 refine T.seq ?_
 refine T.seq ?_
 refine T.region ?_
 refine LW.q rfl (Qt.assign rfl) ?_
 refine LW.done ?_
 refine T.block ?_
 refine T.loop (fun mz fz lz => ∃ (f0 : Fr) (i : Nat) (css : List C5) (p : Option Addr) (l0 k : Nat), (i ≤ 2 ∧ ExsS B S (if i = 0 then [] else if i = 1 then partsE t else partsE t ++ partsE u) css ∧ css.length = l0 ∧ (0 < l0 → ∃ g, p = some ⟨g, 0, none⟩)) ∧ mz = 2 - i ∧ fz = (upd (upd (upd f0 1 (.pointer (some ⟨g1, 0, none⟩))) 3 (.slice p l0 k)) 4 (iV i)) ∧ lz = row (.slice p l0 k) 42 5 l0 (css.flatMap c5) :: blk g1 [tV sAnd, iV n, tV text, tV of, .slice (some ⟨b, o, none⟩) 2 ca] 42 :: (S ++ F)) ?_ ?_
 · refine ⟨_, _, ⟨_, 0, [], none, 0, 0, ⟨by omega, ⟨rfl, by intro i t c h; simp at h⟩, rfl, fun h => absurd h (by omega)⟩, rfl, (updS rfl (updS rfl (updS rfl rfl))), rfl⟩, Sub.any⟩
 ·
  rintro mz fz lz ⟨f0, i, css, p, l0, k, ⟨hi, hcs, hl, hp0⟩, hmz, rfl, rfl⟩
  subst mz
  try simp only [List.cons_append, List.nil_append]
  have hl1 := hcs.1
  refine T.seq ?_
  refine T.seq ?_
  refine T.region ?_
  refine LW.q rfl (Qt.move rfl) ?_
  refine LW.q rfl (Qt.fieldAddr (off := 4) (by kernel_rfl) rfl) ?_
  first | refine LW.q rfl (Qt.load (by kernel_rfl) rfl rfl) ?_ | refine LW.q rfl (Qt.load (by kernel_rfl) rfl (map_at _ _ _ (by omega))) ?_ | refine LW.q rfl (Qt.load (by kernel_rfl) rfl (flat_cell0 _ _ _ (by intros; rfl) _ (by omega) (by rfl))) ?_ | refine LW.q rfl (Qt.load (by kernel_rfl) rfl (flat_cell _ _ _ (by intros; rfl) _ _ (by omega) (by rfl))) ?_ | refine LW.q rfl (Qt.load (by kernel_rfl) rfl (bytes_at _ _ (by omega))) ?_
  refine LW.q rfl (Qt.len (e := 42) (sz := 5) (by kernel_rfl) rfl) ?_
  refine LW.q rfl (Qt.lss rfl rfl) ?_
  refine LW.done ?_
  refine T.condP rfl (fun hlt => ?_) (fun hlt => ?_)
  ·
   by_cases hi0 : i = 0
   ·
    subst hi0
    rw [if_pos rfl] at hcs hl1
    have hnil : css = [] := List.eq_nil_of_length_eq_zero hl1
    subst hnil
    simp only [List.length_nil] at hl
    subst hl
    refine T.skip ?_
    refine T.seq ?_
    refine T.block ?_
    refine T.region ?_
    refine LW.q rfl (Qt.move rfl) ?_
    refine LW.q rfl (Qt.fieldAddr (off := 4) (by kernel_rfl) rfl) ?_
    first | refine LW.q rfl (Qt.load (by kernel_rfl) rfl rfl) ?_ | refine LW.q rfl (Qt.load (by kernel_rfl) rfl (map_at _ _ _ (by omega))) ?_ | refine LW.q rfl (Qt.load (by kernel_rfl) rfl (flat_cell0 _ _ _ (by intros; rfl) _ (by omega) (by rfl))) ?_ | refine LW.q rfl (Qt.load (by kernel_rfl) rfl (flat_cell _ _ _ (by intros; rfl) _ _ (by omega) (by rfl))) ?_ | refine LW.q rfl (Qt.load (by kernel_rfl) rfl (bytes_at _ _ (by omega))) ?_
    refine LW.q rfl (Qt.move rfl) ?_
    refine LW.q rfl (Qt.index _ (e := 42) (sz := 5) (by kernel_rfl) rfl rfl rfl (by omega)) ?_
    refine LW.q rfl (Qt.loadAggW (c5 c0) (by kernel_rfl) rfl (fun w ho => hr0 w (ho.map Sub.any))) ?_
    refine LW.e rfl (Ef.call (h0) Try.func20 rfl rfl rfl ?_)
    rintro _ _ ⟨p1, n1, k1, cs1, rfl, hp1, hs1, hl2, rfl⟩
    try simp only [List.cons_append, List.nil_append]
    have e1 := hs1.1
    try simp only [List.cons_append, List.nil_append]
    refine LW.e rfl (Ef.append Be.elemE rfl rfl (SrcOf.row (by kernel_rfl) hs1.oneC) (by unfold maxLen; omega) (by omega) ?_)
    rintro p4 c4 hp4
    try simp only [List.cons_append, List.nil_append]
    rw [← List.flatMap_append]
    refine LW.q rfl (Qt.assign rfl) ?_
    refine LW.done ?_
    refine T.region ?_
    refine LW.q rfl (Qt.move rfl) ?_
    refine LW.q rfl (Qt.add rfl rfl (wr64 (by omega) (by omega))) ?_
    refine LW.q rfl (Qt.assign rfl) ?_
    refine LW.done ?_
    refine ⟨_, ?_, _, ⟨_, 1, [] ++ cs1, p4, 0 + n1, c4, ⟨by omega, by rw [if_neg (by omega), if_pos rfl]; exact hs1, by rw [List.nil_append]; omega, hp4⟩, rfl, (updS rfl (updS rfl (updS rfl rfl))), rfl⟩, Sub.any⟩
    first | omega | (simp; omega)
   ·
    obtain rfl : i = 1 := by omega
    rw [if_neg (by omega), if_pos rfl] at hcs hl1
    refine T.skip ?_
    refine T.seq ?_
    refine T.block ?_
    refine T.region ?_
    refine LW.q rfl (Qt.move rfl) ?_
    refine LW.q rfl (Qt.fieldAddr (off := 4) (by kernel_rfl) rfl) ?_
    first | refine LW.q rfl (Qt.load (by kernel_rfl) rfl rfl) ?_ | refine LW.q rfl (Qt.load (by kernel_rfl) rfl (map_at _ _ _ (by omega))) ?_ | refine LW.q rfl (Qt.load (by kernel_rfl) rfl (flat_cell0 _ _ _ (by intros; rfl) _ (by omega) (by rfl))) ?_ | refine LW.q rfl (Qt.load (by kernel_rfl) rfl (flat_cell _ _ _ (by intros; rfl) _ _ (by omega) (by rfl))) ?_ | refine LW.q rfl (Qt.load (by kernel_rfl) rfl (bytes_at _ _ (by omega))) ?_
    refine LW.q rfl (Qt.move rfl) ?_
    refine LW.q rfl (Qt.index _ (e := 42) (sz := 5) (by kernel_rfl) rfl rfl rfl (by omega)) ?_
    refine LW.q rfl (Qt.loadAggW (c5 c1) (by kernel_rfl) rfl (fun w ho => hr1 w (ho.map Sub.any))) ?_
    refine LW.e rfl (Ef.call (h1) Try.func20 rfl rfl rfl ?_)
    rintro _ _ ⟨p1, n1, k1, cs1, rfl, hp1, hs1, hl2, rfl⟩
    try simp only [List.cons_append, List.nil_append]
    have e1 := hs1.1
    try simp only [List.cons_append, List.nil_append]
    refine LW.e rfl (Ef.append Be.elemE rfl rfl (SrcOf.row (by kernel_rfl) hs1.oneC) (by unfold maxLen; omega) (by omega) ?_)
    rintro p4 c4 hp4
    try simp only [List.cons_append, List.nil_append]
    rw [← List.flatMap_append]
    refine LW.q rfl (Qt.assign rfl) ?_
    refine LW.done ?_
    refine T.region ?_
    refine LW.q rfl (Qt.move rfl) ?_
    refine LW.q rfl (Qt.add rfl rfl (wr64 (by omega) (by omega))) ?_
    refine LW.q rfl (Qt.assign rfl) ?_
    refine LW.done ?_
    refine ⟨_, ?_, _, ⟨_, 2, css ++ cs1, p4, l0 + n1, c4, ⟨by omega, by rw [if_neg (by omega), if_neg (by omega)]; exact hcs.app hs1, by rw [List.length_append]; omega, hp4⟩, rfl, (updS rfl (updS rfl (updS rfl rfl))), rfl⟩, Sub.any⟩
    first | omega | (simp; omega)
  ·
   obtain rfl : i = 2 := by omega
   rw [if_neg (by omega), if_neg (by omega)] at hcs
   refine T.exit ?_
   refine T.seq ?_
   refine T.region ?_
   refine LW.q rfl (Qt.move rfl) ?_
   refine LW.q rfl (Qt.assign rfl) ?_
   refine LW.done ?_
   refine T.ret ?_
   exact ⟨.inl rfl, _, _, res [_] rfl ⟨rvT rfl, trivial⟩, ⟨p, l0, k, css, rfl, hp0, by rw [hp]; exact hcs, hl, rfl⟩, Sub.any⟩
/-- The parts of both, one by one. -/
theorem be_parts {sc : List Co} {e : Ex} {t : Tm} (h : BE sc e t) : ExI e → (partsE e).length = (partsT t).length ∧ ∀ (i : Nat) x y, (partsE e)[i]? = some x → (partsT t)[i]? = some y → BE sc x y ∧ ExI x := by
  have single : ∀ {e : Ex} {t : Tm}, BE sc e t → ExI e → partsE e = [e] → partsT t = [t] → (partsE e).length = (partsT t).length ∧ ∀ (i : Nat) x y, (partsE e)[i]? = some x → (partsT t)[i]? = some y → BE sc x y ∧ ExI x := by
    intro e t hb hi h1 h2
    rw [h1, h2]
    refine ⟨rfl, fun i x y hx hy => ?_⟩
    match i with
    | 0 => simp at hx hy; subst hx; subst hy; exact ⟨hb, hi⟩
    | i + 1 => simp at hx
  induction h with
  | num n text of args => exact fun hi => single (.num n text of args) hi (by rw [partsE.eq_def]; rfl) (by rw [partsT.eq_def]; rfl)
  | text n text of args => exact fun hi => single (.text n text of args) hi (by rw [partsE.eq_def]; rfl) (by rw [partsT.eq_def]; rfl)
  | name n text of args i c hf hc => exact fun hi => single (.name n text of args i c hf hc) hi (by rw [partsE.eq_def]; rfl) (by rw [partsT.eq_def]; rfl)
  | one op k n text of e t h hk ih =>
    have hne := (op_one hk).2.2.2.2.2
    exact fun hi => single (.one op k n text of e t h hk) hi (by rw [partsE.eq_def]; dsimp only; rw [if_neg hne]) (by rw [partsT.eq_def]; dsimp only; rw [if_neg hne])
  | two op k n text of e1 e2 t1 t2 h1 h2 hk ih1 ih2 =>
    intro hi
    by_cases ha : op = sAnd
    · subst ha
      have a1 := ih1 (hi.sub (i := 0) rfl)
      have a2 := ih2 (hi.sub (i := 1) rfl)
      rw [partsE, if_pos rfl, partsT, if_pos rfl]
      refine ⟨by rw [List.length_append, List.length_append, a1.1, a2.1], fun i x y hx hy => ?_⟩
      by_cases hlt : i < (partsE e1).length
      · rw [List.getElem?_append_left hlt] at hx
        rw [List.getElem?_append_left (by rw [← a1.1]; exact hlt)] at hy
        exact a1.2 i x y hx hy
      · rw [List.getElem?_append_right (by omega)] at hx
        rw [List.getElem?_append_right (by rw [← a1.1]; omega), ← a1.1] at hy
        exact a2.2 _ x y hx hy
    · exact single (.two op k n text of e1 e2 t1 t2 h1 h2 hk) hi (by rw [partsE.eq_def]; dsimp only; rw [if_neg ha]) (by rw [partsT.eq_def]; dsimp only; rw [if_neg ha])
theorem Be.parts (B : Base) (S : List Assn) {sc : List Co} {e : Ex} {t : Tm} (h : BE sc e t) : ∀ c, ExV B S e c → (partsE e).length < 2 ^ 32 → Fn Try.prog B 20 #[eA c] S (PartsPostE B S e) := by
  induction h with
  | num n text of args => intro c hv _; exact Be.parts1 B S _ _ _ _ _ c hv (by decide)
  | text n text of args => intro c hv _; exact Be.parts1 B S _ _ _ _ _ c hv (by decide)
  | name n text of args i c hf hc => intro c hv _; exact Be.parts1 B S _ _ _ _ _ c hv (by decide)
  | one op k n text of e t h hk ih => intro c hv _; exact Be.parts1 B S _ _ _ _ _ c hv (op_one hk).2.2.2.2.2
  | two op k n text of e1 e2 t1 t2 h1 h2 hk ih1 ih2 =>
    intro c hv hb
    by_cases ha : op = sAnd
    · subst ha
      obtain ⟨pa, ca, css, rfl, hf, hl, hc⟩ := hv.inv
      obtain ⟨b, o, rfl, hr⟩ := hf.at (sz := 5) (fun _ => rfl) (by simp)
      obtain ⟨c0, hc0⟩ : ∃ c, css[0]? = some c := ⟨_, List.getElem?_eq_getElem (by rw [hl]; simp)⟩
      obtain ⟨c1, hc1⟩ : ∃ c, css[1]? = some c := ⟨_, List.getElem?_eq_getElem (by rw [hl]; simp)⟩
      rw [partsE, if_pos rfl, List.length_append] at hb
      exact Be.parts2 B S n text of e1 e2 ca b o c0 c1 (hr 0 c0 hc0) (hr 1 c1 hc1) hb (ih1 c0 (hc 0 e1 c0 rfl hc0) (by omega)) (ih2 c1 (hc 1 e2 c1 rfl hc1) (by omega))
    · exact Be.parts1 B S _ _ _ _ _ c hv ha
theorem holdsL_app (row : List Va) (a b : List Tm) : holdsL row (a ++ b) = (holdsL row a && holdsL row b) := by unfold holdsL; rw [List.all_append]
theorem holds_parts {sc : List Co} {row : List Va} (hr : okRow row) {e : Ex} {t : Tm} (h : BE sc e t) : ExI e → holdsL row (partsT t) = holds1 row t := by
  have single : ∀ {t : Tm}, partsT t = [t] → holdsL row (partsT t) = holds1 row t := by intro t h; rw [h]; simp [holdsL]
  induction h with
  | num n text of args => exact fun hi => single (by rw [partsT.eq_def]; rfl)
  | text n text of args => exact fun hi => single (by rw [partsT.eq_def]; rfl)
  | name n text of args i c hf hc => exact fun hi => single (by rw [partsT.eq_def]; rfl)
  | one op k n text of e t h hk ih =>
    have hne := (op_one hk).2.2.2.2.2
    exact fun hi => single (by rw [partsT.eq_def]; dsimp only; rw [if_neg hne])
  | two op k n text of e1 e2 t1 t2 h1 h2 hk ih1 ih2 =>
    intro hi
    by_cases ha : op = sAnd
    · have a1 := ih1 (hi.sub (i := 0) rfl)
      have a2 := ih2 (hi.sub (i := 1) rfl)
      have b1 := be_type hr h1 (hi.sub (i := 0) rfl)
      have b2 := be_type hr h2 (hi.sub (i := 1) rfl)
      obtain ⟨g1, g2, _⟩ := op_two hk
      have hev := evalT_two (row := row) (op := op) (k := k) (p := 0) (v := vZ) (t := t1) (u := t2) g1 g2
      have k3 : t1.kind = 3 ∧ t2.kind = 3 := by
        rcases hk with ⟨_, a, b, _⟩ | ⟨h, _⟩ | ⟨h, _⟩
        · exact ⟨a, b⟩
        · rw [ha] at h; simp [cmpOp] at h
        · rw [ha] at h; simp [ariOp] at h
      rw [partsT, if_pos ha, holdsL_app, a1, a2]
      cases e1' : evalT row t1 with
      | error c =>
        have hne := be_err (row := row) h1 c e1'
        have : evalR row (.mk op k vZ 0 [t1, t2]) = (vZ, c) := evalR_err (by rw [hev, e1'])
        unfold holds1
        rw [this, evalR_err e1', decide_eq_false hne]
        rfl
      | ok v1 =>
        cases e2' : evalT row t2 with
        | error c =>
          have hne := be_err (row := row) h2 c e2'
          have : evalR row (.mk op k vZ 0 [t1, t2]) = (vZ, c) := evalR_err (by rw [hev, e1']; dsimp only; rw [e2'])
          unfold holds1
          rw [this, evalR_err e2', decide_eq_false hne]
          simp
        | ok v2 =>
          have : evalR row (.mk op k vZ 0 [t1, t2]) = (truthV (decide (v1.int = 1) && decide (v2.int = 1)), 0) := evalR_ok (by rw [hev, e1']; dsimp only; rw [e2']; dsimp only; subst ha; rfl)
          have c1 := (b1 v1 e1').1
          have c2 := (b2 v2 e2').1
          unfold holds1
          rw [this, evalR_ok e1', evalR_ok e2']
          dsimp only
          rw [c1, c2, k3.1, k3.2]
          unfold truthV
          cases decide (v1.int = 1) <;> cases decide (v2.int = 1) <;> rfl
    · exact single (by rw [partsT.eq_def]; dsimp only; rw [if_neg ha])
/-- A term moved comes to the same with its row moved. -/
theorem eval_move {sc : List Co} {row ahead : List Va} (hs : sc.length < 2 ^ 32) (ha : ahead.length < 2 ^ 32) {e : Ex} {t : Tm} (h : BE sc e t) : evalT (ahead ++ row) (moveT ahead.length t) = evalT row t := by
  induction h with
  | num n text of args => rw [moveT, List.map_nil, evalT, if_pos rfl, evalT, if_pos rfl]
  | text n text of args => rw [moveT, List.map_nil, evalT, if_pos rfl, evalT, if_pos rfl]
  | name n text of args i c hf hc =>
    have hil := (List.getElem?_eq_some_iff.1 hc).1
    rw [moveT, List.map_nil, if_pos rfl, evalT, if_neg (by decide), if_pos rfl, evalT, if_neg (by decide), if_pos rfl]
    have e : w64 ((i : Int) + (ahead.length : Int)) = ((ahead.length + i : Nat) : Int) := by rw [w64_self ⟨by omega, by omega⟩]; omega
    rw [e]
    unfold colT
    rw [if_neg (show ¬ ((ahead.length + i : Nat) : Int) < 0 by omega), if_neg (show ¬ (i : Int) < 0 by omega), List.length_append]
    by_cases hlt : (row.length : Int) ≤ (i : Int)
    · rw [if_pos (by omega), if_pos hlt]
    · rw [if_neg (by omega), if_neg hlt, Int.toNat_natCast, Int.toNat_natCast, List.getElem?_append_right (by omega), Nat.add_sub_cancel_left]
  | one op k n text of e t h hk ih =>
    obtain ⟨g1, g2, _⟩ := op_one hk
    rw [moveT, if_neg g2, List.map_cons, List.map_nil, evalT_one g1 g2, evalT_one g1 g2, ih]
  | two op k n text of e1 e2 t1 t2 h1 h2 hk ih1 ih2 =>
    obtain ⟨g1, g2, _⟩ := op_two hk
    rw [moveT, if_neg g2, List.map_cons, List.map_cons, List.map_nil, evalT_two g1 g2, evalT_two g1 g2, ih1, ih2]
theorem TmOk.move {by0 : Int} {t : Tm} (h : TmOk t) : TmOk (moveT by0 t) := by
  induction h with
  | val k v p => rw [moveT, if_neg (by decide)]; exact .val _ _ _
  | col k v p => rw [moveT]; exact .col _ _ _
  | one op k v p t h1 h2 h3 ht ih => rw [moveT, if_neg h2]; exact .one op k v p _ h1 h2 h3 ih
  | two op k v p t u h1 h2 h3 ht hu ih1 ih2 => rw [moveT, if_neg h2]; exact .two op k v p _ _ h1 h2 h3 ih1 ih2
end Go.Proofs.Ytopbkdpbljebgaa

/- The laws of bind: BindParts. Conditions: that what is handed in can be read; sizes. -/
set_option linter.unusedSimpArgs false
set_option linter.unusedVariables false
namespace Go.Proofs.Ytopbkdpbljebgaa
open Go.RowKit

theorem flV_oneB {B : Base} {l : List Assn} {α : Type} {g : α → List Value} {b k : Nat} {t : TypeId} (x : α) : FlV B (blk b (g x) t :: l) g (.slice (some ⟨b, 0, none⟩) 1 k) [x] := by
  have h := FlV.blk (B := B) (g := g) (b := b) (c := k) (t := t) (l := l) (x := [x]) rfl
  simpa using h
theorem parts_ok {t : Tm} (h : TmOk t) : ∀ x ∈ partsT t, TmOk x := by
  have single : ∀ {t : Tm}, TmOk t → partsT t = [t] → ∀ x ∈ partsT t, TmOk x := by
    intro t h e x hx; rw [e] at hx; simp at hx; subst hx; exact h
  induction h with
  | val k v p => exact single (.val k v p) (by rw [partsT.eq_def]; rfl)
  | col k v p => exact single (.col k v p) (by rw [partsT.eq_def]; rfl)
  | one op k v p t h1 h2 h3 ht ih => exact single (.one op k v p t h1 h2 h3 ht) (by rw [partsT.eq_def]; dsimp only; rw [if_neg h3])
  | two op k v p t u h1 h2 h3 ht hu ih1 ih2 =>
    by_cases ha : op = sAnd
    · intro x hx
      rw [partsT, if_pos ha] at hx
      rcases List.mem_append.1 hx with hx | hx
      · exact ih1 x hx
      · exact ih2 x hx
    · exact single (.two op k v p t u h1 h2 h3 ht hu) (by rw [partsT.eq_def]; dsimp only; rw [if_neg ha])
set_option maxHeartbeats 4000000 in
set_option maxRecDepth 20000 in
theorem Be.bindParts (B : Base) (e : Ex) (ce : C5) (he : ExV B [] e ce) (hie : ExI e) (hsz : exSz e < 2 ^ 30)
  (ra : Option Addr) (m rc : Nat) (rs : List Va) (hr : FlV B [] vaC (.slice ra m rc) rs) (hm : rs.length = m) (hmn : m < 2 ^ 30) (hok : okRow rs)
  (aa : Option Addr) (am ac : Nat) (as0 : List Va) (ha : FlV B [] vaC (.slice aa am ac) as0) (ham : as0.length = am) (hamn : am < 2 ^ 30) : Fn Try.prog B 6 #[eA ce, .slice ra m rc, .slice aa am ac] [] (fun u l => u = .bool true ∧ l = []) := by
 obtain ⟨op, en, text, of, ea, em, ec, rfl⟩ := he.form
 refine Fn.enter3 110 Try.func6 rfl rfl (Nat.le_of_ble_eq_true rfl) (fun F => ?_)
 try simp only [List.cons_append, List.nil_append]
 refine T.seq ?_
 refine T.region ?_
 refine LW.e rfl (Ef.box [_, _, _, _, _] rfl rfl ?_)
 intro g3
 refine LW.q rfl (Qt.assign rfl) ?_
 refine LW.done ?_
 refine T.seq ?_
 refine T.seq ?_
 refine T.region ?_
 refine LW.e rfl (Ef.call (Be.awake B) Try.func7 rfl rfl rfl ?_)
 rintro _ _ ⟨rfl, rfl⟩
 try simp only [List.cons_append, List.nil_append]
 first | refine LW.q rfl (Qt.notP rfl) ?_ | refine LW.q rfl (Qt.notB rfl) ?_
 refine LW.done ?_
 first | refine T.condF rfl ?_ | refine T.condPF rfl (rfl) ?_ | refine T.condBF rfl (rfl) ?_
 refine T.skip ?_
 refine T.seq ?_
 refine T.region ?_
 refine LW.e rfl (Ef.call (Be.table B) Try.func12 rfl rfl rfl ?_)
 rintro _ _ ⟨gc, rfl, rfl⟩
 try simp only [List.cons_append, List.nil_append]
 refine LW.e rfl (Ef.one [_, _, _, _, _] (e := 48) (sz := 5) (by kernel_rfl) ⟨.agg #[.int .i64 0, .string .empty, .slice none 0 0, .slice none 0 0, .bool false], by kernel_rfl, rfl⟩ rfl rfl rfl (by omega) (by omega) ?_)
 intro g25
 refine LW.e rfl (Ef.call (Be.scopes B [blk g25 (tblC gc) 48, blk gc colsC 29] _ [tblT] (Be.tbV B g25 gc []) (by decide) (by decide)) Try.func8 rfl rfl rfl ?_)
 rintro _ _ ⟨p1, k1, p2, k2, rfl, hp1, hp2, rfl⟩
 try simp only [List.cons_append, List.nil_append]
 rw [show scopeP [tblT] = tblSc from rfl, show tblSc.length = 2 from rfl]
 obtain ⟨gs1, rfl⟩ := hp1 (by decide)
 obtain ⟨gs2, rfl⟩ := hp2 (by decide)
 have hs1 : FlV B [row (.slice (some ⟨gs1, 0, none⟩) 2 k1) 31 3 2 (tblSc.flatMap coC)] coC (.slice (some ⟨gs1, 0, none⟩) 2 k1) tblSc := FlV.row (sz := 3) coC_len (by omega) rfl (fun _ => ⟨gs1, rfl⟩)
 have hs2 : FlV B [row (.slice (some ⟨gs2, 0, none⟩) 2 k2) 33 3 2 (tblSc.flatMap coC)] coC (.slice (some ⟨gs2, 0, none⟩) 2 k2) tblSc := FlV.row (sz := 3) coC_len (by omega) rfl (fun _ => ⟨gs2, rfl⟩)
 try simp only [List.cons_append, List.nil_append]
 refine LW.q rfl (Qt.move rfl) ?_
 refine LW.q rfl (Qt.extr rfl rfl) ?_
 refine LW.q rfl (Qt.extr rfl rfl) ?_
 refine LW.q rfl (Qt.assign rfl) ?_
 refine LW.q rfl (Qt.assign rfl) ?_
 refine LW.done ?_
 refine T.seq ?_
 refine T.region ?_
 first | refine LW.q rfl (Qt.loadAgg [_, _, _, _, _] (by kernel_rfl) rfl ⟨rfl, rfl, rfl, rfl, rfl, trivial⟩) ?_ | refine LW.q rfl (Qt.loadAgg [_, _, _, _, _] (by kernel_rfl) rfl (by exact rdl_flat _ _ _ (by intros; rfl) _ (by omega))) ?_
 refine LW.q rfl (Qt.move rfl) ?_
 refine LW.e rfl (Ef.call (Bd.bind B [row (.slice (some ⟨gs1, 0, none⟩) 2 k1) 31 3 2 (tblSc.flatMap coC)] e _ _ 2 k1 tblSc (he.mono fun w ho => ho.map fun _ _ => trivial) hs1 rfl (by decide)) Try.func15 rfl rfl rfl ?_)
 rintro u l hpost
 try simp only [List.cons_append, List.nil_append]
 by_cases hbe : ∃ t, bindE tblSc e = .ok t
 ·
  obtain ⟨t, hbe⟩ := hbe
  obtain ⟨A1, q7, rfl, ht1, rfl⟩ := hpost.okE hbe
  have htok := bindE_ok _ _ _ hbe
  have hB := be_of _ _ _ hbe
  have hpl := parts_le _ _ _ hbe
  have hpp := be_parts hB hie
  have hhp := holds_parts hok hB hie
  have hP := Bd.parts B [A1] t htok q7 ht1 (by omega)
  have hPE := Be.parts B [] hB _ he (by rw [hpp.1]; omega)
  have hrS : ∀ S, FlV B S vaC (.slice ra m rc) rs := fun S => hr.mono fun w ho => ho.map fun _ _ => trivial
  have hE := Bd.evalF B [A1] rs _ m rc (hrS _) hm (by omega) t htok q7 ht1
  have hM := Bd.move B [A1] am t q7 ht1
  obtain ⟨pa7, ca7, rfl⟩ := ht1.form
  try simp only [List.cons_append, List.nil_append]
  refine LW.q rfl (Qt.move rfl) ?_
  refine LW.q rfl (Qt.extr rfl rfl) ?_
  refine LW.q rfl (Qt.extr rfl rfl) ?_
  refine LW.e rfl (Ef.alloc [.string .empty, .int .i64 0, .int .i64 0, .int .i64 0, .string .empty, .int .i64 0, .slice none 0 0] (by unfold zeroB; kernel_rfl) ?_)
  intro g9
  refine LW.e0 rfl (Ef.store [_, _, _, _, _, _, _] (by kernel_rfl) rfl rfl rfl rfl (by simp) ?_)
  try simp only [splice, List.length_cons, List.length_nil, List.drop_succ_cons, List.cons_append, List.take_succ_cons, List.take_zero, List.drop_zero, List.nil_append, List.append_nil]
  refine LW.q rfl (Qt.assign rfl) ?_
  refine LW.done ?_
  refine T.seq ?_
  refine T.seq ?_
  refine T.region ?_
  refine LW.q rfl (Qt.move rfl) ?_
  refine LW.q rfl (Qt.neq rfl rfl) ?_
  refine LW.done ?_
  first | refine T.condF rfl ?_ | refine T.condPF rfl (rfl) ?_ | refine T.condBF rfl (rfl) ?_
  refine T.skip ?_
  refine T.seq ?_
  refine T.region ?_
  first | refine LW.q rfl (Qt.loadAgg [_, _, _, _, _, _, _] (by kernel_rfl) rfl ⟨rfl, rfl, rfl, rfl, rfl, rfl, rfl, trivial⟩) ?_ | refine LW.q rfl (Qt.loadAgg [_, _, _, _, _, _, _] (by kernel_rfl) rfl (by exact rdl_flat _ _ _ (by intros; rfl) _ (by omega))) ?_
  refine LW.e rfl (Ef.call (hP) Try.func18 rfl rfl rfl ?_)
  rintro _ _ ⟨p4, n4, k4, cs4, rfl, hp4, hcs4, hl4, rfl⟩
  try simp only [List.cons_append, List.nil_append]
  have e4 := hcs4.1
  try simp only [List.cons_append, List.nil_append]
  refine LW.q rfl (Qt.assign rfl) ?_
  refine LW.done ?_
  refine T.cut (fun fz lz => ∃ (f0 : Fr) (f9 : Nat), (True) ∧ fz = (upd (upd (upd (upd (upd f0 1 (.slice ra m rc)) 2 (.slice aa am ac)) 3 (.pointer (some ⟨g3, 0, none⟩))) 8 (.slice (some ⟨gs2, 0, none⟩) 2 k2)) 9 (.pointer (some ⟨g9, 0, none⟩))) ∧ lz = A1 :: blk g9 [tV t.op, iV t.kind, iV t.v.kind, iV t.v.int, tV t.v.text, iV t.place, .slice pa7 t.args.length ca7] 58 :: blk g3 [tV op, iV en, tV text, tV of, .slice ea em ec] 42 :: row (.slice (some ⟨gs2, 0, none⟩) 2 k2) 33 3 2 (tblSc.flatMap coC) :: F) ?_ ?_
  ·
   refine T.seq ?_
   refine T.draw 16 ([blk g3 [tV op, iV en, tV text, tV of, .slice ea em ec] 42, blk g9 [tV t.op, iV t.kind, iV t.v.kind, iV t.v.int, tV t.v.text, iV t.place, .slice pa7 t.args.length ca7] 58]) (by kernel_rfl) (Nat.le_of_ble_eq_true rfl) (by kernel_rfl) ?_
   refine RW.q 0 rfl rfl (by kernel_rfl) Sub.any (Qt.move rfl) ?_
   refine RW.q 1 rfl rfl (by kernel_rfl) Sub.any (Qt.len (e := 58) (sz := 7) (by kernel_rfl) rfl) ?_
   first | refine RW.q 2 rfl rfl (by kernel_rfl) Sub.any (Qt.loadAgg [_, _, _, _, _] (by kernel_rfl) rfl ⟨rfl, rfl, rfl, rfl, rfl, trivial⟩) ?_ | refine RW.q 2 rfl rfl (by kernel_rfl) Sub.any (Qt.loadAgg [_, _, _, _, _] (by kernel_rfl) rfl (by exact rdl_flat _ _ _ (by intros; rfl) _ (by omega))) ?_
   refine RW.one 3 (by kernel_rfl) ?_
   refine RO.eS rfl rfl (Ef.call hPE Try.func20 rfl rfl rfl ?_)
   rintro _ _ ⟨p5, n5, k5, cs5, rfl, hp5, hcs5, hl5, rfl⟩
   try simp only [List.cons_append, List.nil_append]
   have e5 := hcs5.1
   refine ⟨Sub.any, ?_⟩
   refine RW.q 4 rfl rfl (by kernel_rfl) Sub.any (Qt.len (e := 42) (sz := 5) (by kernel_rfl) rfl) ?_
   refine RW.q 5 rfl rfl (by kernel_rfl) Sub.any (Qt.neq rfl rfl) ?_
   refine RW.q 6 rfl rfl (by kernel_rfl) Sub.any (Qt.move rfl) ?_
   first | refine RW.gF (t := 48) rfl rfl ?_ | refine RW.gF (t := 48) rfl (decide_eq_false ((by omega))) ?_ | refine RW.gF (t := 48) rfl ((by omega)) ?_
   refine RW.q 7 rfl rfl (by kernel_rfl) Sub.any (Qt.move rfl) ?_
   refine RW.q 8 rfl rfl (by kernel_rfl) Sub.any (Qt.move rfl) ?_
   refine RW.q 10 rfl rfl (by kernel_rfl) Sub.any (Qt.move rfl) ?_
   first | refine RW.q 11 rfl rfl (by kernel_rfl) Sub.any (Qt.loadAgg [_, _, _, _, _, _, _] (by kernel_rfl) rfl ⟨rfl, rfl, rfl, rfl, rfl, rfl, rfl, trivial⟩) ?_ | refine RW.q 11 rfl rfl (by kernel_rfl) Sub.any (Qt.loadAgg [_, _, _, _, _, _, _] (by kernel_rfl) rfl (by exact rdl_flat _ _ _ (by intros; rfl) _ (by omega))) ?_
   refine RW.all [9, 12] (by kernel_rfl) (List.forall_mem_cons.2 ⟨?_, List.forall_mem_cons.2 ⟨?_, List.forall_mem_nil _⟩⟩)
   ·
    refine RO.eS rfl rfl (Ef.call (Bd.holds B [row (.slice p4 n4 k4) 58 7 n4 (cs4.flatMap c7), A1] rs ra m rc (hrS _) hm (by omega) p4 n4 k4 (partsT t) cs4 (FlV.row (sz := 7) (fun _ => rfl) (by omega) hl4 hp4) (hcs4.mono fun w ho => ho.map Sub.any) (by omega) (by omega) (parts_ok htok)) Try.func21 rfl rfl rfl ?_)
    rintro _ _ ⟨rfl, rfl⟩
    try simp only [List.cons_append, List.nil_append]
    refine ⟨Sub.any, ?_⟩
    refine RW.one 12 (by kernel_rfl) ?_
    refine RO.eS rfl rfl (Ef.one [_, _, _, _, _, _, _] (e := 58) (sz := 7) (by kernel_rfl) ⟨.agg #[.string .empty, .int .i64 0, .int .i64 0, .int .i64 0, .string .empty, .int .i64 0, .slice none 0 0], by kernel_rfl, rfl⟩ rfl rfl rfl (by omega) (by omega) ?_)
    intro g54
    refine ⟨Sub.any, ?_⟩
    refine RW.one 13 (by kernel_rfl) ?_
    refine RO.eS rfl rfl (Ef.call (Bd.holds B [blk g54 [tV t.op, iV t.kind, iV t.v.kind, iV t.v.int, tV t.v.text, iV t.place, .slice pa7 t.args.length ca7] 58, A1] rs ra m rc (hrS _) hm (by omega) (some ⟨g54, 0, none⟩) 1 1 [t] [⟨tV t.op, iV t.kind, iV t.v.kind, iV t.v.int, tV t.v.text, iV t.place, .slice pa7 t.args.length ca7⟩] (flV_oneB (g := c7) (⟨tV t.op, iV t.kind, iV t.v.kind, iV t.v.int, tV t.v.text, iV t.place, .slice pa7 t.args.length ca7⟩ : C7)) ((TmsS.one ht1).mono fun w ho => ho.map Sub.any) rfl (by omega) (by intro x hx; simp at hx; subst hx; exact htok)) Try.func21 rfl rfl rfl ?_)
    rintro _ _ ⟨rfl, rfl⟩
    try simp only [List.cons_append, List.nil_append]
    refine ⟨Sub.any, ?_⟩
    refine RW.q 14 rfl rfl (by kernel_rfl) Sub.any (Qt.neqB (by kernel_rfl) rfl rfl) ?_
    refine RW.q 15 rfl rfl (by kernel_rfl) Sub.any (Qt.pick rfl rfl) ?_
    refine RW.done (by rfl) ?_
    simp only [List.drop_succ_cons, List.drop_zero, List.drop_nil]
    refine LW.done ?_
    first | refine T.condF rfl ?_ | refine T.condPF rfl ((by rw [hhp]; simp [holdsL])) ?_ | refine T.condBF rfl ((by rw [hhp]; simp [holdsL])) ?_
    refine T.skip ?_
    exact ⟨_, ⟨_, 0, trivial, (updS rfl (updS rfl (updS rfl (updS rfl (updS rfl rfl))))), rfl⟩, Sub.any⟩
   ·
    refine RO.eS rfl rfl (Ef.one [_, _, _, _, _, _, _] (e := 58) (sz := 7) (by kernel_rfl) ⟨.agg #[.string .empty, .int .i64 0, .int .i64 0, .int .i64 0, .string .empty, .int .i64 0, .slice none 0 0], by kernel_rfl, rfl⟩ rfl rfl rfl (by omega) (by omega) ?_)
    intro g54
    refine ⟨Sub.any, ?_⟩
    refine RW.one 9 (by kernel_rfl) ?_
    refine RO.eS rfl rfl (Ef.call (Bd.holds B [row (.slice p4 n4 k4) 58 7 n4 (cs4.flatMap c7), A1] rs ra m rc (hrS _) hm (by omega) p4 n4 k4 (partsT t) cs4 (FlV.row (sz := 7) (fun _ => rfl) (by omega) hl4 hp4) (hcs4.mono fun w ho => ho.map Sub.any) (by omega) (by omega) (parts_ok htok)) Try.func21 rfl rfl rfl ?_)
    rintro _ _ ⟨rfl, rfl⟩
    try simp only [List.cons_append, List.nil_append]
    refine ⟨Sub.any, ?_⟩
    refine RW.one 13 (by kernel_rfl) ?_
    refine RO.eS rfl rfl (Ef.call (Bd.holds B [blk g54 [tV t.op, iV t.kind, iV t.v.kind, iV t.v.int, tV t.v.text, iV t.place, .slice pa7 t.args.length ca7] 58, A1] rs ra m rc (hrS _) hm (by omega) (some ⟨g54, 0, none⟩) 1 1 [t] [⟨tV t.op, iV t.kind, iV t.v.kind, iV t.v.int, tV t.v.text, iV t.place, .slice pa7 t.args.length ca7⟩] (flV_oneB (g := c7) (⟨tV t.op, iV t.kind, iV t.v.kind, iV t.v.int, tV t.v.text, iV t.place, .slice pa7 t.args.length ca7⟩ : C7)) ((TmsS.one ht1).mono fun w ho => ho.map Sub.any) rfl (by omega) (by intro x hx; simp at hx; subst hx; exact htok)) Try.func21 rfl rfl rfl ?_)
    rintro _ _ ⟨rfl, rfl⟩
    try simp only [List.cons_append, List.nil_append]
    refine ⟨Sub.any, ?_⟩
    refine RW.q 14 rfl rfl (by kernel_rfl) Sub.any (Qt.neqB (by kernel_rfl) rfl rfl) ?_
    refine RW.q 15 rfl rfl (by kernel_rfl) Sub.any (Qt.pick rfl rfl) ?_
    refine RW.done (by rfl) ?_
    simp only [List.drop_succ_cons, List.drop_zero, List.drop_nil]
    refine LW.done ?_
    first | refine T.condF rfl ?_ | refine T.condPF rfl ((by rw [hhp]; simp [holdsL])) ?_ | refine T.condBF rfl ((by rw [hhp]; simp [holdsL])) ?_
    refine T.skip ?_
    exact ⟨_, ⟨_, 0, trivial, (updS rfl (updS rfl (updS rfl (updS rfl (updS rfl rfl))))), rfl⟩, Sub.any⟩
  rintro fz lz ⟨f0, f9, _, rfl, rfl⟩
  try simp only [List.cons_append, List.nil_append]
  refine T.seq ?_
  refine T.region ?_
  refine LW.q rfl (Qt.assign rfl) ?_
  refine LW.done ?_
  refine T.seq ?_
  refine T.seq ?_
  refine T.region ?_
  first | refine LW.q rfl (Qt.loadAgg [_, _, _, _, _] (by kernel_rfl) rfl ⟨rfl, rfl, rfl, rfl, rfl, trivial⟩) ?_ | refine LW.q rfl (Qt.loadAgg [_, _, _, _, _] (by kernel_rfl) rfl (by exact rdl_flat _ _ _ (by intros; rfl) _ (by omega))) ?_
  refine LW.e rfl (Ef.call (hPE) Try.func20 rfl rfl rfl ?_)
  rintro _ _ ⟨p6, n6, k6, cs6, rfl, hp6, hcs6, hl6, rfl⟩
  try simp only [List.cons_append, List.nil_append]
  have e6 := hcs6.1
  try simp only [List.cons_append, List.nil_append]
  refine LW.q rfl (Qt.len (e := 42) (sz := 5) (by kernel_rfl) rfl) ?_
  refine LW.q rfl (Qt.move rfl) ?_
  refine LW.done ?_
  refine T.block ?_
  refine T.loop (fun mz fz lz => ∃ (f0 : Fr) (i : Nat) (al : Bool), (i ≤ n6 ∧ al = holdsL rs ((partsT t).take i)) ∧ mz = n6 - i ∧ fz = (upd (upd (upd (upd (upd (upd (upd (upd (upd f0 1 (.slice ra m rc)) 2 (.slice aa am ac)) 3 (.pointer (some ⟨g3, 0, none⟩))) 8 (.slice (some ⟨gs2, 0, none⟩) 2 k2)) 9 (.pointer (some ⟨g9, 0, none⟩))) 12 (.bool al)) 59 (.slice p6 n6 k6)) 60 (iV n6)) 61 (iV i)) ∧ lz = row (.slice p6 n6 k6) 42 5 n6 (cs6.flatMap c5) :: A1 :: blk g9 [tV t.op, iV t.kind, iV t.v.kind, iV t.v.int, tV t.v.text, iV t.place, .slice pa7 t.args.length ca7] 58 :: row (.slice (some ⟨gs2, 0, none⟩) 2 k2) 33 3 2 (tblSc.flatMap coC) :: F) ?_ ?_
  · refine ⟨_, _, ⟨_, 0, true, ⟨Nat.zero_le _, rfl⟩, rfl, (updS rfl (updS rfl (updS rfl (updS rfl (updS rfl (updS rfl (updS rfl (updS rfl (updS rfl rfl))))))))), rfl⟩, Sub.any⟩
  ·
   rintro mz fz lz ⟨f0, i, al, ⟨hi, hal⟩, hmz, rfl, rfl⟩
   subst mz
   try simp only [List.cons_append, List.nil_append]
   have hf6 : FlV B [row (.slice p6 n6 k6) 42 5 n6 (cs6.flatMap c5)] c5 (.slice p6 n6 k6) cs6 := FlV.row (sz := 5) (fun _ => rfl) (by omega) hl6 hp6
   refine T.seq ?_
   refine T.region ?_
   refine LW.q rfl (Qt.lss rfl rfl) ?_
   refine LW.done ?_
   refine T.seq ?_
   refine T.condP rfl (fun hlt => ?_) (fun hlt => ?_)
   ·
    obtain ⟨b6, o6, rfl, hr6⟩ := hf6.at (sz := 5) (fun _ => rfl) (by omega)
    obtain ⟨x, hx⟩ : ∃ x, (partsE e)[i]? = some x := ⟨_, List.getElem?_eq_getElem (by omega)⟩
    obtain ⟨y, hy⟩ : ∃ y, (partsT t)[i]? = some y := ⟨_, List.getElem?_eq_getElem (by rw [← hpp.1]; omega)⟩
    obtain ⟨q, hq⟩ : ∃ q, cs6[i]? = some q := ⟨_, List.getElem?_eq_getElem (by omega)⟩
    obtain ⟨hxy, hxi⟩ := hpp.2 i x y hx hy
    have hqv := hcs6.2 i x q hx hq
    have hq1 := hr6 i q hq
    have hH := Be.holds (S := [row (.slice (some ⟨gs2, 0, none⟩) 2 k2) 33 3 2 (tblSc.flatMap coC)]) hs2 rfl (by decide) (hrS _) hm (by omega) hok hxy hxi q (hqv.mono fun w ho => ho.map fun _ _ => trivial)
    obtain ⟨o1, n1, t1, f1, pa1, m1, c1, rfl⟩ := hqv.form
    refine T.skip ?_
    refine T.seq ?_
    refine T.block ?_
    refine T.seq ?_
    refine T.region ?_
    refine LW.q rfl (Qt.index _ (e := 42) (sz := 5) (by kernel_rfl) rfl rfl rfl (by omega)) ?_
    refine LW.q rfl (Qt.loadAggW (c5 ⟨tV o1, iV n1, tV t1, tV f1, .slice pa1 m1 c1⟩) (by kernel_rfl) rfl (fun w ho => hq1 w (ho.map Sub.any))) ?_
    refine LW.e rfl (Ef.alloc [.string .empty, .int .i64 0, .string .empty, .string .empty, .slice none 0 0] (by unfold zeroB; kernel_rfl) ?_)
    intro g14
    refine LW.e0 rfl (Ef.store [_, _, _, _, _] (by kernel_rfl) rfl rfl rfl rfl (by simp) ?_)
    try simp only [splice, List.length_cons, List.length_nil, List.drop_succ_cons, List.cons_append, List.take_succ_cons, List.take_zero, List.drop_zero, List.nil_append, List.append_nil]
    refine LW.done ?_
    refine T.region ?_
    refine LW.q rfl (Qt.move rfl) ?_
    refine LW.q rfl (Qt.move rfl) ?_
    refine LW.split (t := 66) rfl (fun hb => ?_) (fun hb => ?_)
    ·
     try replace hb := of_decide_eq_true hb
     first | refine LW.q rfl (Qt.loadAgg [_, _, _, _, _] (by kernel_rfl) rfl ⟨rfl, rfl, rfl, rfl, rfl, trivial⟩) ?_ | refine LW.q rfl (Qt.loadAgg [_, _, _, _, _] (by kernel_rfl) rfl (by exact rdl_flat _ _ _ (by intros; rfl) _ (by omega))) ?_
     refine LW.q rfl (Qt.move rfl) ?_
     refine LW.q rfl (Qt.move rfl) ?_
     refine LW.e rfl (Ef.call (hH) Try.func22 rfl rfl rfl ?_)
     rintro _ _ ⟨rfl, rfl⟩
     try simp only [List.cons_append, List.nil_append]
     refine LW.q rfl (Qt.pick rfl rfl) ?_
     refine LW.q rfl (Qt.assign rfl) ?_
     refine LW.done ?_
     refine T.region ?_
     refine LW.q rfl (Qt.add rfl rfl (wr64 (by omega) (by omega))) ?_
     refine LW.q rfl (Qt.move rfl) ?_
     refine LW.done ?_
     refine ⟨_, ?_, _, ⟨_, i + 1, holds1 rs y, ⟨by omega, by rw [holdsL_succ hy, ← hal, hb]; rfl⟩, rfl, (updS rfl (updS rfl (updS rfl (updS rfl (updS rfl (updS rfl (updS rfl (updS rfl (updS rfl rfl))))))))), rfl⟩, Sub.any⟩
     first | omega | (simp; omega)
    ·
     try replace hb := of_decide_eq_false hb
     refine LW.s rfl ?_
     refine LW.s rfl ?_
     refine LW.s rfl ?_
     refine LW.s rfl ?_
     refine LW.q rfl (Qt.pick rfl rfl) ?_
     refine LW.q rfl (Qt.assign rfl) ?_
     refine LW.done ?_
     refine T.region ?_
     refine LW.q rfl (Qt.add rfl rfl (wr64 (by omega) (by omega))) ?_
     refine LW.q rfl (Qt.move rfl) ?_
     refine LW.done ?_
     refine ⟨_, ?_, _, ⟨_, i + 1, false, ⟨by omega, by rw [holdsL_succ hy, ← hal, hb]; rfl⟩, rfl, (updS rfl (updS rfl (updS rfl (updS rfl (updS rfl (updS rfl (updS rfl (updS rfl (updS rfl rfl))))))))), rfl⟩, Sub.any⟩
     first | omega | (simp; omega)
   ·
    obtain rfl : n6 = i := by omega
    rw [List.take_of_length_le (by rw [← hpp.1]; omega), hhp] at hal
    refine T.exit ?_
    refine T.seq ?_
    refine T.region ?_
    first | refine LW.q rfl (Qt.loadAgg [_, _, _, _, _, _, _] (by kernel_rfl) rfl ⟨rfl, rfl, rfl, rfl, rfl, rfl, rfl, trivial⟩) ?_ | refine LW.q rfl (Qt.loadAgg [_, _, _, _, _, _, _] (by kernel_rfl) rfl (by exact rdl_flat _ _ _ (by intros; rfl) _ (by omega))) ?_
    refine LW.q rfl (Qt.move rfl) ?_
    refine LW.q rfl (Qt.len (e := 55) (sz := 3) (by kernel_rfl) rfl) ?_
    refine LW.e rfl (Ef.call (hM) Try.func19 rfl rfl rfl ?_)
    rintro _ _ ⟨A5, q5, rfl, ht5, rfl⟩
    try simp only [List.cons_append, List.nil_append]
    have hE5 := fun (p : Option Addr) (c : Nat) (hp : 0 < am + m → ∃ g, p = some ⟨g, 0, none⟩) => Bd.evalF B [A5, row (.slice p (am + m) c) 55 3 (am + m) ((as0 ++ rs).flatMap vaC)] (as0 ++ rs) p (am + m) c ((FlV.row (l := []) (sz := 3) (fun _ => rfl) (by omega) (by simp [ham, hm]) hp).mono fun w ho => ho.tl) (by simp [ham, hm]) (by omega) (moveT am t) htok.move q5 (ht5.mono fun w ho => ho.map Sub.any)
    have hmv : evalR (as0 ++ rs) (moveT am t) = evalR rs t := by
     unfold evalR
     rw [← ham, eval_move (by decide) (by omega) hB]
    rw [hmv] at hE5
    obtain ⟨pa5, ca5, rfl⟩ := ht5.form
    try simp only [List.cons_append, List.nil_append]
    refine LW.e rfl (Ef.alloc [.string .empty, .int .i64 0, .int .i64 0, .int .i64 0, .string .empty, .int .i64 0, .slice none 0 0] (by unfold zeroB; kernel_rfl) ?_)
    intro g15
    refine LW.e0 rfl (Ef.store [_, _, _, _, _, _, _] (by kernel_rfl) rfl rfl rfl rfl (by simp) ?_)
    try simp only [splice, List.length_cons, List.length_nil, List.drop_succ_cons, List.cons_append, List.take_succ_cons, List.take_zero, List.drop_zero, List.nil_append, List.append_nil]
    refine LW.done ?_
    refine T.seq ?_
    refine T.region ?_
    refine LW.e rfl (Ef.empty Be.elemV ?_)
    rintro g77
    try simp only [List.cons_append, List.nil_append]
    refine LW.q rfl (Qt.move rfl) ?_
    refine LW.e rfl (Ef.append Be.elemV rfl rfl (SrcOf.fl (ha.mono fun w ho => ho.map fun _ _ => trivial) (by kernel_rfl) (fun _ => rfl) ham (vaC_one as0)) (by unfold maxLen; omega) (by omega) ?_)
    rintro p7 c7' hp7
    try simp only [List.cons_append, List.nil_append]
    simp only [List.nil_append, Nat.zero_add] at hp7 ⊢
    refine LW.q rfl (Qt.move rfl) ?_
    refine LW.e rfl (Ef.append Be.elemV rfl rfl (SrcOf.fl (hr.mono fun w ho => ho.map fun _ _ => trivial) (by kernel_rfl) (fun _ => rfl) hm (vaC_one rs)) (by unfold maxLen; omega) (by omega) ?_)
    rintro p8 c8 hp8
    try simp only [List.cons_append, List.nil_append]
    rw [← List.flatMap_append]
    refine LW.q rfl (Qt.assign rfl) ?_
    refine LW.done ?_
    refine T.seq ?_
    refine T.region ?_
    first | refine LW.q rfl (Qt.loadAgg [_, _, _, _, _, _, _] (by kernel_rfl) rfl ⟨rfl, rfl, rfl, rfl, rfl, rfl, rfl, trivial⟩) ?_ | refine LW.q rfl (Qt.loadAgg [_, _, _, _, _, _, _] (by kernel_rfl) rfl (by exact rdl_flat _ _ _ (by intros; rfl) _ (by omega))) ?_
    refine LW.q rfl (Qt.move rfl) ?_
    refine LW.e rfl (Ef.call (hE) Try.func16 rfl rfl rfl ?_)
    rintro _ _ ⟨rfl, rfl⟩
    try simp only [List.cons_append, List.nil_append]
    refine LW.q rfl (Qt.move rfl) ?_
    refine LW.q rfl (Qt.extr rfl rfl) ?_
    refine LW.q rfl (Qt.extr rfl rfl) ?_
    refine LW.e rfl (Ef.alloc [.int .i64 0, .int .i64 0, .string .empty] (by unfold zeroB; kernel_rfl) ?_)
    intro g17
    refine LW.e0 rfl (Ef.store [_, _, _] (by kernel_rfl) rfl rfl rfl rfl (by simp) ?_)
    try simp only [splice, List.length_cons, List.length_nil, List.drop_succ_cons, List.cons_append, List.take_succ_cons, List.take_zero, List.drop_zero, List.nil_append, List.append_nil]
    refine LW.q rfl (Qt.assign rfl) ?_
    refine LW.done ?_
    refine T.seq ?_
    refine T.region ?_
    first | refine LW.q rfl (Qt.loadAgg [_, _, _, _, _, _, _] (by kernel_rfl) rfl ⟨rfl, rfl, rfl, rfl, rfl, rfl, rfl, trivial⟩) ?_ | refine LW.q rfl (Qt.loadAgg [_, _, _, _, _, _, _] (by kernel_rfl) rfl (by exact rdl_flat _ _ _ (by intros; rfl) _ (by omega))) ?_
    refine LW.q rfl (Qt.move rfl) ?_
    refine LW.e rfl (Ef.call (hE5 p8 c8 hp8) Try.func16 rfl rfl rfl ?_)
    rintro _ _ ⟨rfl, rfl⟩
    try simp only [List.cons_append, List.nil_append]
    refine LW.q rfl (Qt.move rfl) ?_
    refine LW.q rfl (Qt.extr rfl rfl) ?_
    refine LW.q rfl (Qt.extr rfl rfl) ?_
    refine LW.e rfl (Ef.alloc [.int .i64 0, .int .i64 0, .string .empty] (by unfold zeroB; kernel_rfl) ?_)
    intro g19
    refine LW.e0 rfl (Ef.store [_, _, _] (by kernel_rfl) rfl rfl rfl rfl (by simp) ?_)
    try simp only [splice, List.length_cons, List.length_nil, List.drop_succ_cons, List.cons_append, List.take_succ_cons, List.take_zero, List.drop_zero, List.nil_append, List.append_nil]
    refine LW.q rfl (Qt.assign rfl) ?_
    refine LW.done ?_
    refine T.seq ?_
    refine T.region ?_
    refine LW.q rfl (Qt.move rfl) ?_
    refine LW.q rfl (Qt.move rfl) ?_
    first | refine LW.q rfl (Qt.loadAgg [_, _, _, _, _, _, _] (by kernel_rfl) rfl ⟨rfl, rfl, rfl, rfl, rfl, rfl, rfl, trivial⟩) ?_ | refine LW.q rfl (Qt.loadAgg [_, _, _, _, _, _, _] (by kernel_rfl) rfl (by exact rdl_flat _ _ _ (by intros; rfl) _ (by omega))) ?_
    refine LW.e rfl (Ef.one [_, _, _, _, _, _, _] (e := 58) (sz := 7) (by kernel_rfl) ⟨.agg #[.string .empty, .int .i64 0, .int .i64 0, .int .i64 0, .string .empty, .int .i64 0, .slice none 0 0], by kernel_rfl, rfl⟩ rfl rfl rfl (by omega) (by omega) ?_)
    intro g97
    refine LW.e rfl (Ef.call (Bd.holds B [blk g97 [tV t.op, iV t.kind, iV t.v.kind, iV t.v.int, tV t.v.text, iV t.place, .slice pa7 t.args.length ca7] 58, A1] rs ra m rc (hrS _) hm (by omega) (some ⟨g97, 0, none⟩) 1 1 [t] [⟨tV t.op, iV t.kind, iV t.v.kind, iV t.v.int, tV t.v.text, iV t.place, .slice pa7 t.args.length ca7⟩] (flV_oneB (g := c7) (⟨tV t.op, iV t.kind, iV t.v.kind, iV t.v.int, tV t.v.text, iV t.place, .slice pa7 t.args.length ca7⟩ : C7)) ((TmsS.one ht1).mono fun w ho => ho.map Sub.any) rfl (by omega) (by intro x hx; simp at hx; subst hx; exact htok)) Try.func21 rfl rfl rfl ?_)
    rintro _ _ ⟨rfl, rfl⟩
    try simp only [List.cons_append, List.nil_append]
    refine LW.q rfl (Qt.eqlB (by kernel_rfl) rfl rfl) ?_
    refine LW.q rfl (Qt.move rfl) ?_
    first | refine LW.gT (t := 100) rfl rfl ?_ | refine LW.gT (t := 100) rfl (decide_eq_true ((by rw [hal]; simp [holdsL]))) ?_ | refine LW.gT (t := 100) rfl ((by rw [hal]; simp [holdsL])) ?_
    first | refine LW.q rfl (Qt.loadAgg [_, _, _] (by kernel_rfl) rfl ⟨rfl, rfl, rfl, trivial⟩) ?_ | refine LW.q rfl (Qt.loadAgg [_, _, _] (by kernel_rfl) rfl (by exact rdl_flat _ _ _ (by intros; rfl) _ (by omega))) ?_
    first | refine LW.q rfl (Qt.loadAgg [_, _, _] (by kernel_rfl) rfl ⟨rfl, rfl, rfl, trivial⟩) ?_ | refine LW.q rfl (Qt.loadAgg [_, _, _] (by kernel_rfl) rfl (by exact rdl_flat _ _ _ (by intros; rfl) _ (by omega))) ?_
    refine LW.q rfl (Qt.eqlVa (evalR rs t).1 (evalR rs t).1 rfl rfl) ?_
    refine LW.q rfl (Qt.pick rfl rfl) ?_
    refine LW.q rfl (Qt.move rfl) ?_
    first | refine LW.gT (t := 105) rfl rfl ?_ | refine LW.gT (t := 105) rfl (decide_eq_true ((by simp))) ?_ | refine LW.gT (t := 105) rfl ((by simp)) ?_
    refine LW.q rfl (Qt.move rfl) ?_
    refine LW.q rfl (Qt.move rfl) ?_
    refine LW.q rfl (Qt.eql rfl rfl) ?_
    refine LW.q rfl (Qt.pick rfl rfl) ?_
    refine LW.q rfl (Qt.assign rfl) ?_
    refine LW.done ?_
    refine T.ret ?_
    exact ⟨.inl rfl, _, _, res [_] rfl ⟨rvT rfl, trivial⟩, ⟨by simp [outV], rfl⟩, Sub.any⟩
 ·
  obtain ⟨code, hbe⟩ : ∃ code, bindE tblSc e = .error code := by
   cases e' : bindE tblSc e with
   | error c => exact ⟨c, rfl⟩
   | ok t => exact absurd ⟨t, e'⟩ hbe
  obtain ⟨rfl, hne, rfl⟩ := hpost.errE hbe
  try simp only [List.cons_append, List.nil_append]
  refine LW.q rfl (Qt.move rfl) ?_
  refine LW.q rfl (Qt.extr rfl rfl) ?_
  refine LW.q rfl (Qt.extr rfl rfl) ?_
  refine LW.e rfl (Ef.alloc [.string .empty, .int .i64 0, .int .i64 0, .int .i64 0, .string .empty, .int .i64 0, .slice none 0 0] (by unfold zeroB; kernel_rfl) ?_)
  intro g9
  refine LW.e0 rfl (Ef.store [_, _, _, _, _, _, _] (by kernel_rfl) rfl rfl rfl rfl (by simp) ?_)
  try simp only [splice, List.length_cons, List.length_nil, List.drop_succ_cons, List.cons_append, List.take_succ_cons, List.take_zero, List.drop_zero, List.nil_append, List.append_nil]
  refine LW.q rfl (Qt.assign rfl) ?_
  refine LW.done ?_
  refine T.seq ?_
  refine T.seq ?_
  refine T.region ?_
  refine LW.q rfl (Qt.move rfl) ?_
  refine LW.q rfl (Qt.neq rfl rfl) ?_
  refine LW.done ?_
  first | refine T.condT rfl ?_ | refine T.condPT rfl (hne) ?_ | refine T.condBT rfl (hne) ?_
  refine T.seq ?_
  refine T.region ?_
  first | refine LW.q rfl (Qt.loadAgg [_, _, _, _, _, _, _] (by kernel_rfl) rfl ⟨rfl, rfl, rfl, rfl, rfl, rfl, rfl, trivial⟩) ?_ | refine LW.q rfl (Qt.loadAgg [_, _, _, _, _, _, _] (by kernel_rfl) rfl (by exact rdl_flat _ _ _ (by intros; rfl) _ (by omega))) ?_
  refine LW.e rfl (Ef.call (Be.kindZ B) Try.func17 rfl rfl rfl ?_)
  rintro _ _ ⟨rfl, rfl⟩
  try simp only [List.cons_append, List.nil_append]
  refine LW.q rfl (Qt.eql rfl rfl) ?_
  refine LW.q rfl (Qt.assign rfl) ?_
  refine LW.done ?_
  refine T.ret ?_
  exact ⟨.inl rfl, _, _, res [_] rfl ⟨rvT rfl, trivial⟩, ⟨by rfl, rfl⟩, Sub.any⟩
end Go.Proofs.Ytopbkdpbljebgaa
