/- The texts BdC, one behind the other: what the law leans on. Conditions: as each theorem says. -/
import Derived.Test.YtopbkdpbljebgaaZBindTurns3
/- The package bind: the value of a term. Conditions: that what is handed in can be read; sizes. -/
set_option linter.unusedSimpArgs false
set_option linter.unusedVariables false
namespace Go.Proofs.Ytopbkdpbljebgaa
open Go.RowKit

abbrev sVal : Str := [118, 97, 108, 117, 101]
abbrev sCol : Str := [99, 111, 108, 117, 109, 110]
abbrev sNot : Str := [78, 79, 84]
abbrev sAnd : Str := [65, 78, 68]
def colT (row : List Va) (k p : Int) : Except Int Va :=
  if p < 0 then .error 161
  else if (row.length : Int) ≤ p then .error 161
  else match row[p.toNat]? with
    | none => .error 161
    | some v => if v.kind ≠ k then .error 161 else .ok v
/-- What a term comes to for a row. -/
def evalT (row : List Va) : Tm → Except Int Va
  | .mk op k v p args =>
    if op = sVal then .ok v
    else if op = sCol then colT row k p
    else match args with
      | [] => .error 0
      | [t] => match evalT row t with
        | .error c => .error c
        | .ok a => if op = sNot then .ok (truthV (decide (a.int = 0))) else arithE [45] 0 a.int
      | t :: u :: _ => match evalT row t with
        | .error c => .error c
        | .ok a => match evalT row u with
          | .error c => .error c
          | .ok b => reckonT op a b
/-- A term of the right form. -/
inductive TmOk : Tm → Prop
  | val (k : Int) (v : Va) (p : Int) : TmOk (.mk sVal k v p [])
  | col (k : Int) (v : Va) (p : Int) : TmOk (.mk sCol k v p [])
  | one (op : Str) (k : Int) (v : Va) (p : Int) (t : Tm) (h1 : op ≠ sVal) (h2 : op ≠ sCol) (h3 : op ≠ sAnd) (ht : TmOk t) : TmOk (.mk op k v p [t])
  | two (op : Str) (k : Int) (v : Va) (p : Int) (t u : Tm) (h1 : op ≠ sVal) (h2 : op ≠ sCol) (h3 : op ≠ sNot) (ht : TmOk t) (hu : TmOk u) : TmOk (.mk op k v p [t, u])
theorem TmV.inv {B : Base} {S : List Assn} {op : Str} {k : Int} {v : Va} {p : Int} {args : List Tm} {c : C7} (h : TmV B S (.mk op k v p args) c) : ∃ pa ca css, c = ⟨tV op, iV k, iV v.kind, iV v.int, tV v.text, iV p, .slice pa args.length ca⟩ ∧ FlV B S c7 (.slice pa args.length ca) css ∧ css.length = args.length ∧ ∀ (i : Nat) (t : Tm) (c : C7), args[i]? = some t → css[i]? = some c → TmV B S t c := by
  cases h with
  | mk op k v p args av css hf hl hb hc =>
    obtain ⟨a, cap, rfl⟩ := hf.form hl
    exact ⟨a, cap, css, rfl, hf, hl, hc⟩
section
variable {B : Base} {S : List Assn} {op vt : Str} {k vk vi p : Int} {pa ra : Option Addr} {na ca m rc : Nat} {row : List Va}
abbrev tmA (op : Str) (k vk vi : Int) (vt : Str) (p : Int) (pa : Option Addr) (na ca : Nat) : Value := .agg #[tV op, iV k, iV vk, iV vi, tV vt, iV p, .slice pa na ca]
set_option maxHeartbeats 1000000 in
theorem Bd.evVal (h : op = sVal) : Fn Try.prog B 26 #[tmA op k vk vi vt p pa na ca, .slice ra m rc] S (fun u l => u = vA ⟨vk, vi, vt⟩ ∧ l = S) := by
  refine Fn.enter2 86 Try.func26 rfl rfl (Nat.le_of_ble_eq_true rfl) (fun F => ?_)
  try simp only [List.cons_append, List.nil_append]
  refine T.seq ?_
  refine T.region ?_
  refine LW.e rfl (Ef.box [_, _, _, _, _, _, _] rfl rfl ?_)
  intro g2
  refine LW.e rfl (Ef.alloc [.int .i64 0, .int .i64 0, .string .empty] (by unfold zeroB; kernel_rfl) ?_)
  intro g4
  refine LW.done ?_
  refine T.seq ?_
  refine T.block ?_
  refine T.seq ?_
  refine T.region ?_
  refine LW.q rfl (Qt.fieldAddr0 (by kernel_rfl) rfl) ?_
  first | refine LW.q rfl (Qt.load (by kernel_rfl) rfl rfl) ?_ | refine LW.q rfl (Qt.load (by kernel_rfl) rfl (map_at _ _ _ (by omega))) ?_ | refine LW.q rfl (Qt.load (by kernel_rfl) rfl (flat_cell0 _ _ _ (by intros; rfl) _ (by omega) (by rfl))) ?_ | refine LW.q rfl (Qt.load (by kernel_rfl) rfl (flat_cell _ _ _ (by intros; rfl) _ _ (by omega) (by rfl))) ?_ | refine LW.q rfl (Qt.load (by kernel_rfl) rfl (bytes_at _ _ (by omega))) ?_
  refine LW.q rfl (Qt.eqlS rfl rfl) ?_
  refine LW.q rfl (Qt.assign rfl) ?_
  refine LW.done ?_
  first | refine T.condT rfl ?_ | refine T.condPT rfl (h) ?_ | refine T.condBT rfl (h) ?_
  refine T.seq ?_
  refine T.region ?_
  refine LW.q rfl (Qt.fieldAddr (off := 2) (by kernel_rfl) rfl) ?_
  first | refine LW.q rfl (Qt.loadAgg [_, _, _] (by kernel_rfl) rfl ⟨rfl, rfl, rfl, trivial⟩) ?_ | refine LW.q rfl (Qt.loadAgg [_, _, _] (by kernel_rfl) rfl (by exact rdl_flat _ _ _ (by intros; rfl) _ (by omega))) ?_
  refine LW.e0 rfl (Ef.store [_, _, _] (by kernel_rfl) rfl rfl rfl rfl (by simp) ?_)
  try simp only [splice, List.length_cons, List.length_nil, List.drop_succ_cons, List.cons_append, List.take_succ_cons, List.take_zero, List.drop_zero, List.nil_append, List.append_nil]
  refine LW.done ?_
  refine T.ret ?_
  exact ⟨.inl rfl, _, _, res [_] rfl ⟨rvA [_, _, _] (by kernel_rfl) rfl ⟨rfl, rfl, rfl, trivial⟩, trivial⟩, ⟨rfl, rfl⟩, Sub.any⟩
set_option maxHeartbeats 1000000 in
theorem Bd.evCol (h0 : op ≠ sVal) (h : op = sCol) (hrow : FlV B S vaC (.slice ra m rc) row) (hm : row.length = m) (hmn : m < 2 ^ 32) {v : Va} (he : colT row k p = .ok v) : Fn Try.prog B 26 #[tmA op k vk vi vt p pa na ca, .slice ra m rc] S (fun u l => u = vA v ∧ l = S) := by
  refine Fn.enter2 86 Try.func26 rfl rfl (Nat.le_of_ble_eq_true rfl) (fun F => ?_)
  try simp only [List.cons_append, List.nil_append]
  refine T.seq ?_
  refine T.region ?_
  refine LW.e rfl (Ef.box [_, _, _, _, _, _, _] rfl rfl ?_)
  intro g2
  refine LW.e rfl (Ef.alloc [.int .i64 0, .int .i64 0, .string .empty] (by unfold zeroB; kernel_rfl) ?_)
  intro g4
  refine LW.done ?_
  refine T.seq ?_
  refine T.block ?_
  refine T.seq ?_
  refine T.region ?_
  refine LW.q rfl (Qt.fieldAddr0 (by kernel_rfl) rfl) ?_
  first | refine LW.q rfl (Qt.load (by kernel_rfl) rfl rfl) ?_ | refine LW.q rfl (Qt.load (by kernel_rfl) rfl (map_at _ _ _ (by omega))) ?_ | refine LW.q rfl (Qt.load (by kernel_rfl) rfl (flat_cell0 _ _ _ (by intros; rfl) _ (by omega) (by rfl))) ?_ | refine LW.q rfl (Qt.load (by kernel_rfl) rfl (flat_cell _ _ _ (by intros; rfl) _ _ (by omega) (by rfl))) ?_ | refine LW.q rfl (Qt.load (by kernel_rfl) rfl (bytes_at _ _ (by omega))) ?_
  refine LW.q rfl (Qt.eqlS rfl rfl) ?_
  refine LW.q rfl (Qt.assign rfl) ?_
  refine LW.done ?_
  have hv1 : 0 ≤ p ∧ p < (m : Int) ∧ ∃ v0, row[p.toNat]? = some v0 ∧ v0.kind = k ∧ v0 = v := by
    unfold colT at he
    rw [hm] at he
    split at he
    · cases he
    · split at he
      · cases he
      · split at he
        · cases he
        · rename_i v0 hv0
          split at he
          · cases he
          · rename_i hk
            injection he with he
            exact ⟨by omega, by omega, v0, hv0, Classical.not_not.1 hk, he⟩
  obtain ⟨p0, p1, v0, hv0, hvk, rfl⟩ := hv1
  obtain ⟨j, hj⟩ : ∃ j : Nat, p = (j : Int) := ⟨p.toNat, by omega⟩
  subst hj
  obtain ⟨b, o, rfl, hr⟩ := hrow.at (sz := 3) (fun _ => rfl) (by omega)
  have hr0 := hr j v0 (by simpa using hv0)
  first | refine T.condF rfl ?_ | refine T.condPF rfl (h0) ?_ | refine T.condBF rfl (h0) ?_
  refine T.seq ?_
  refine T.region ?_
  refine LW.q rfl (Qt.fieldAddr0 (by kernel_rfl) rfl) ?_
  first | refine LW.q rfl (Qt.load (by kernel_rfl) rfl rfl) ?_ | refine LW.q rfl (Qt.load (by kernel_rfl) rfl (map_at _ _ _ (by omega))) ?_ | refine LW.q rfl (Qt.load (by kernel_rfl) rfl (flat_cell0 _ _ _ (by intros; rfl) _ (by omega) (by rfl))) ?_ | refine LW.q rfl (Qt.load (by kernel_rfl) rfl (flat_cell _ _ _ (by intros; rfl) _ _ (by omega) (by rfl))) ?_ | refine LW.q rfl (Qt.load (by kernel_rfl) rfl (bytes_at _ _ (by omega))) ?_
  refine LW.q rfl (Qt.eqlS rfl rfl) ?_
  refine LW.q rfl (Qt.assign rfl) ?_
  refine LW.done ?_
  first | refine T.condT rfl ?_ | refine T.condPT rfl (h) ?_ | refine T.condBT rfl (h) ?_
  refine T.seq ?_
  refine T.seq ?_
  refine T.drawAll 21 (by kernel_rfl) (Nat.le_of_ble_eq_true rfl) (by kernel_rfl) ?_
  refine RW.q 0 rfl rfl (by kernel_rfl) (Sub.refl _) (Qt.fieldAddr (off := 5) (by kernel_rfl) rfl) ?_
  first | refine RW.q 1 rfl rfl (by kernel_rfl) (Sub.refl _) (Qt.load (by kernel_rfl) rfl rfl) ?_ | refine RW.q 1 rfl rfl (by kernel_rfl) (Sub.refl _) (Qt.load (by kernel_rfl) rfl (map_at _ _ _ (by omega))) ?_ | refine RW.q 1 rfl rfl (by kernel_rfl) (Sub.refl _) (Qt.load (by kernel_rfl) rfl (flat_cell0 _ _ _ (by intros; rfl) _ (by omega) (by rfl))) ?_ | refine RW.q 1 rfl rfl (by kernel_rfl) (Sub.refl _) (Qt.load (by kernel_rfl) rfl (flat_cell _ _ _ (by intros; rfl) _ _ (by omega) (by rfl))) ?_ | refine RW.q 1 rfl rfl (by kernel_rfl) (Sub.refl _) (Qt.load (by kernel_rfl) rfl (bytes_at _ _ (by omega))) ?_
  refine RW.q 2 rfl rfl (by kernel_rfl) (Sub.refl _) (Qt.lss rfl rfl) ?_
  refine RW.q 3 rfl rfl (by kernel_rfl) (Sub.refl _) (Qt.move rfl) ?_
  first | refine RW.gF (t := 19) rfl rfl ?_ | refine RW.gF (t := 19) rfl (decide_eq_false ((by omega))) ?_ | refine RW.gF (t := 19) rfl ((by omega)) ?_
  refine RW.q 4 rfl rfl (by kernel_rfl) (Sub.refl _) (Qt.fieldAddr (off := 5) (by kernel_rfl) rfl) ?_
  first | refine RW.q 5 rfl rfl (by kernel_rfl) (Sub.refl _) (Qt.load (by kernel_rfl) rfl rfl) ?_ | refine RW.q 5 rfl rfl (by kernel_rfl) (Sub.refl _) (Qt.load (by kernel_rfl) rfl (map_at _ _ _ (by omega))) ?_ | refine RW.q 5 rfl rfl (by kernel_rfl) (Sub.refl _) (Qt.load (by kernel_rfl) rfl (flat_cell0 _ _ _ (by intros; rfl) _ (by omega) (by rfl))) ?_ | refine RW.q 5 rfl rfl (by kernel_rfl) (Sub.refl _) (Qt.load (by kernel_rfl) rfl (flat_cell _ _ _ (by intros; rfl) _ _ (by omega) (by rfl))) ?_ | refine RW.q 5 rfl rfl (by kernel_rfl) (Sub.refl _) (Qt.load (by kernel_rfl) rfl (bytes_at _ _ (by omega))) ?_
  refine RW.q 6 rfl rfl (by kernel_rfl) (Sub.refl _) (Qt.move rfl) ?_
  refine RW.q 7 rfl rfl (by kernel_rfl) (Sub.refl _) (Qt.len (e := 55) (sz := 3) (by kernel_rfl) rfl) ?_
  refine RW.q 8 rfl rfl (by kernel_rfl) (Sub.refl _) (Qt.geq rfl rfl) ?_
  refine RW.q 9 rfl rfl (by kernel_rfl) (Sub.refl _) (Qt.pick rfl rfl) ?_
  refine RW.q 10 rfl rfl (by kernel_rfl) (Sub.refl _) (Qt.move rfl) ?_
  first | refine RW.gF (t := 26) rfl rfl ?_ | refine RW.gF (t := 26) rfl (decide_eq_false ((by omega))) ?_ | refine RW.gF (t := 26) rfl ((by omega)) ?_
  refine RW.q 11 rfl rfl (by kernel_rfl) (Sub.refl _) (Qt.move rfl) ?_
  refine RW.q 12 rfl rfl (by kernel_rfl) (Sub.refl _) (Qt.fieldAddr (off := 5) (by kernel_rfl) rfl) ?_
  first | refine RW.q 13 rfl rfl (by kernel_rfl) (Sub.refl _) (Qt.load (by kernel_rfl) rfl rfl) ?_ | refine RW.q 13 rfl rfl (by kernel_rfl) (Sub.refl _) (Qt.load (by kernel_rfl) rfl (map_at _ _ _ (by omega))) ?_ | refine RW.q 13 rfl rfl (by kernel_rfl) (Sub.refl _) (Qt.load (by kernel_rfl) rfl (flat_cell0 _ _ _ (by intros; rfl) _ (by omega) (by rfl))) ?_ | refine RW.q 13 rfl rfl (by kernel_rfl) (Sub.refl _) (Qt.load (by kernel_rfl) rfl (flat_cell _ _ _ (by intros; rfl) _ _ (by omega) (by rfl))) ?_ | refine RW.q 13 rfl rfl (by kernel_rfl) (Sub.refl _) (Qt.load (by kernel_rfl) rfl (bytes_at _ _ (by omega))) ?_
  refine RW.q 14 rfl rfl (by kernel_rfl) (Sub.refl _) (Qt.index _ (e := 55) (sz := 3) (by kernel_rfl) rfl rfl rfl (by omega)) ?_
  refine RW.q 15 rfl rfl (by kernel_rfl) (Sub.refl _) (Qt.fieldAddr0 (by kernel_rfl) rfl) ?_
  refine RW.q 16 rfl rfl (by kernel_rfl) (Sub.refl _) (Qt.loadW (by kernel_rfl) rfl (fun w ho => rangeAt_one (j := 0) (hr0 w (ho.map Sub.any)) rfl)) ?_
  refine RW.q 17 rfl rfl (by kernel_rfl) (Sub.refl _) (Qt.fieldAddr (off := 1) (by kernel_rfl) rfl) ?_
  first | refine RW.q 18 rfl rfl (by kernel_rfl) (Sub.refl _) (Qt.load (by kernel_rfl) rfl rfl) ?_ | refine RW.q 18 rfl rfl (by kernel_rfl) (Sub.refl _) (Qt.load (by kernel_rfl) rfl (map_at _ _ _ (by omega))) ?_ | refine RW.q 18 rfl rfl (by kernel_rfl) (Sub.refl _) (Qt.load (by kernel_rfl) rfl (flat_cell0 _ _ _ (by intros; rfl) _ (by omega) (by rfl))) ?_ | refine RW.q 18 rfl rfl (by kernel_rfl) (Sub.refl _) (Qt.load (by kernel_rfl) rfl (flat_cell _ _ _ (by intros; rfl) _ _ (by omega) (by rfl))) ?_ | refine RW.q 18 rfl rfl (by kernel_rfl) (Sub.refl _) (Qt.load (by kernel_rfl) rfl (bytes_at _ _ (by omega))) ?_
  refine RW.q 19 rfl rfl (by kernel_rfl) (Sub.refl _) (Qt.neq rfl rfl) ?_
  refine RW.q 20 rfl rfl (by kernel_rfl) (Sub.refl _) (Qt.pick rfl rfl) ?_
  refine RW.done (by rfl) ?_
  simp only [List.drop_succ_cons, List.drop_zero, List.drop_nil]
  refine LW.done ?_
  first | refine T.condF rfl ?_ | refine T.condPF rfl ((by rw [hvk]; simp)) ?_ | refine T.condBF rfl ((by rw [hvk]; simp)) ?_
  refine T.skip ?_
  refine T.seq ?_
  refine T.region ?_
  refine LW.q rfl (Qt.move rfl) ?_
  refine LW.q rfl (Qt.fieldAddr (off := 5) (by kernel_rfl) rfl) ?_
  first | refine LW.q rfl (Qt.load (by kernel_rfl) rfl rfl) ?_ | refine LW.q rfl (Qt.load (by kernel_rfl) rfl (map_at _ _ _ (by omega))) ?_ | refine LW.q rfl (Qt.load (by kernel_rfl) rfl (flat_cell0 _ _ _ (by intros; rfl) _ (by omega) (by rfl))) ?_ | refine LW.q rfl (Qt.load (by kernel_rfl) rfl (flat_cell _ _ _ (by intros; rfl) _ _ (by omega) (by rfl))) ?_ | refine LW.q rfl (Qt.load (by kernel_rfl) rfl (bytes_at _ _ (by omega))) ?_
  refine LW.q rfl (Qt.index _ (e := 55) (sz := 3) (by kernel_rfl) rfl rfl rfl (by omega)) ?_
  refine LW.q rfl (Qt.loadAggW (vaC v0) (by kernel_rfl) rfl (fun w ho => hr0 w (ho.map Sub.any))) ?_
  refine LW.e0 rfl (Ef.store [_, _, _] (by kernel_rfl) rfl rfl rfl rfl (by simp) ?_)
  try simp only [splice, List.length_cons, List.length_nil, List.drop_succ_cons, List.cons_append, List.take_succ_cons, List.take_zero, List.drop_zero, List.nil_append, List.append_nil]
  refine LW.done ?_
  refine T.ret ?_
  exact ⟨.inl rfl, _, _, res [_] rfl ⟨rvA [_, _, _] (by kernel_rfl) rfl ⟨rfl, rfl, rfl, trivial⟩, trivial⟩, ⟨rfl, rfl⟩, Sub.any⟩
set_option maxHeartbeats 1000000 in
theorem Bd.evColX (h0 : op ≠ sVal) (h : op = sCol) (hrow : FlV B S vaC (.slice ra m rc) row) (hm : row.length = m) (hmn : m < 2 ^ 32) {code : Int} (he : colT row k p = .error code) : Fx Try.prog B 26 #[tmA op k vk vi vt p pa na ca, .slice ra m rc] S (pvC code) := by
  have hcd : code = 161 := by
    unfold colT at he
    split at he
    · injection he with he; exact he.symm
    · split at he
      · injection he with he; exact he.symm
      · split at he
        · injection he with he; exact he.symm
        · split at he
          · injection he with he; exact he.symm
          · cases he
  subst hcd
  refine Fx.enter2 86 Try.func26 rfl rfl (Nat.le_of_ble_eq_true rfl) (fun F => ?_)
  try simp only [List.cons_append, List.nil_append]
  refine T.seq ?_
  refine T.region ?_
  refine LW.e rfl (Ef.box [_, _, _, _, _, _, _] rfl rfl ?_)
  intro g2
  refine LW.e rfl (Ef.alloc [.int .i64 0, .int .i64 0, .string .empty] (by unfold zeroB; kernel_rfl) ?_)
  intro g4
  refine LW.done ?_
  refine T.seq ?_
  refine T.block ?_
  refine T.seq ?_
  refine T.region ?_
  refine LW.q rfl (Qt.fieldAddr0 (by kernel_rfl) rfl) ?_
  first | refine LW.q rfl (Qt.load (by kernel_rfl) rfl rfl) ?_ | refine LW.q rfl (Qt.load (by kernel_rfl) rfl (map_at _ _ _ (by omega))) ?_ | refine LW.q rfl (Qt.load (by kernel_rfl) rfl (flat_cell0 _ _ _ (by intros; rfl) _ (by omega) (by rfl))) ?_ | refine LW.q rfl (Qt.load (by kernel_rfl) rfl (flat_cell _ _ _ (by intros; rfl) _ _ (by omega) (by rfl))) ?_ | refine LW.q rfl (Qt.load (by kernel_rfl) rfl (bytes_at _ _ (by omega))) ?_
  refine LW.q rfl (Qt.eqlS rfl rfl) ?_
  refine LW.q rfl (Qt.assign rfl) ?_
  refine LW.done ?_
  first | refine T.condF rfl ?_ | refine T.condPF rfl (h0) ?_ | refine T.condBF rfl (h0) ?_
  refine T.seq ?_
  refine T.region ?_
  refine LW.q rfl (Qt.fieldAddr0 (by kernel_rfl) rfl) ?_
  first | refine LW.q rfl (Qt.load (by kernel_rfl) rfl rfl) ?_ | refine LW.q rfl (Qt.load (by kernel_rfl) rfl (map_at _ _ _ (by omega))) ?_ | refine LW.q rfl (Qt.load (by kernel_rfl) rfl (flat_cell0 _ _ _ (by intros; rfl) _ (by omega) (by rfl))) ?_ | refine LW.q rfl (Qt.load (by kernel_rfl) rfl (flat_cell _ _ _ (by intros; rfl) _ _ (by omega) (by rfl))) ?_ | refine LW.q rfl (Qt.load (by kernel_rfl) rfl (bytes_at _ _ (by omega))) ?_
  refine LW.q rfl (Qt.eqlS rfl rfl) ?_
  refine LW.q rfl (Qt.assign rfl) ?_
  refine LW.done ?_
  first | refine T.condT rfl ?_ | refine T.condPT rfl (h) ?_ | refine T.condBT rfl (h) ?_
  refine T.seq ?_
  refine T.seq ?_
  refine T.drawAll 21 (by kernel_rfl) (Nat.le_of_ble_eq_true rfl) (by kernel_rfl) ?_
  refine RW.q 0 rfl rfl (by kernel_rfl) (Sub.refl _) (Qt.fieldAddr (off := 5) (by kernel_rfl) rfl) ?_
  first | refine RW.q 1 rfl rfl (by kernel_rfl) (Sub.refl _) (Qt.load (by kernel_rfl) rfl rfl) ?_ | refine RW.q 1 rfl rfl (by kernel_rfl) (Sub.refl _) (Qt.load (by kernel_rfl) rfl (map_at _ _ _ (by omega))) ?_ | refine RW.q 1 rfl rfl (by kernel_rfl) (Sub.refl _) (Qt.load (by kernel_rfl) rfl (flat_cell0 _ _ _ (by intros; rfl) _ (by omega) (by rfl))) ?_ | refine RW.q 1 rfl rfl (by kernel_rfl) (Sub.refl _) (Qt.load (by kernel_rfl) rfl (flat_cell _ _ _ (by intros; rfl) _ _ (by omega) (by rfl))) ?_ | refine RW.q 1 rfl rfl (by kernel_rfl) (Sub.refl _) (Qt.load (by kernel_rfl) rfl (bytes_at _ _ (by omega))) ?_
  refine RW.q 2 rfl rfl (by kernel_rfl) (Sub.refl _) (Qt.lss rfl rfl) ?_
  refine RW.q 3 rfl rfl (by kernel_rfl) (Sub.refl _) (Qt.move rfl) ?_
  refine RW.split (t := 19) rfl (fun g1 => ?_) (fun g1 => ?_)
  · skip
    try replace g1 := of_decide_eq_true g1
    refine RW.s 4 rfl rfl (by kernel_rfl) (Sub.refl _) ?_
    refine RW.s 5 rfl rfl (by kernel_rfl) (Sub.refl _) ?_
    refine RW.s 6 rfl rfl (by kernel_rfl) (Sub.refl _) ?_
    refine RW.s 7 rfl rfl (by kernel_rfl) (Sub.refl _) ?_
    refine RW.s 8 rfl rfl (by kernel_rfl) (Sub.refl _) ?_
    refine RW.q 9 rfl rfl (by kernel_rfl) (Sub.refl _) (Qt.pick rfl rfl) ?_
    refine RW.q 10 rfl rfl (by kernel_rfl) (Sub.refl _) (Qt.move rfl) ?_
    first | refine RW.gT (t := 26) rfl rfl ?_ | refine RW.gT (t := 26) rfl (decide_eq_true (rfl)) ?_ | refine RW.gT (t := 26) rfl (rfl) ?_
    refine RW.s 11 rfl rfl (by kernel_rfl) (Sub.refl _) ?_
    refine RW.s 12 rfl rfl (by kernel_rfl) (Sub.refl _) ?_
    refine RW.s 13 rfl rfl (by kernel_rfl) (Sub.refl _) ?_
    refine RW.s 14 rfl rfl (by kernel_rfl) (Sub.refl _) ?_
    refine RW.s 15 rfl rfl (by kernel_rfl) (Sub.refl _) ?_
    refine RW.s 16 rfl rfl (by kernel_rfl) (Sub.refl _) ?_
    refine RW.s 17 rfl rfl (by kernel_rfl) (Sub.refl _) ?_
    refine RW.s 18 rfl rfl (by kernel_rfl) (Sub.refl _) ?_
    refine RW.s 19 rfl rfl (by kernel_rfl) (Sub.refl _) ?_
    refine RW.q 20 rfl rfl (by kernel_rfl) (Sub.refl _) (Qt.pick rfl rfl) ?_
    refine RW.done (by rfl) ?_
    simp only [List.drop_succ_cons, List.drop_zero, List.drop_nil]
    refine LW.done ?_
    first | refine T.condT rfl ?_ | refine T.condPT rfl (rfl) ?_ | refine T.condBT rfl (rfl) ?_
    refine T.region ?_
    refine LW.q rfl (Qt.build [(0, 1)] [.int .i64 0] [_] [(0, _)] (by kernel_rfl) (by unfold zeroB; kernel_rfl) rfl rfl) ?_
    refine LW.q rfl (Qt.iface (by kernel_rfl) rfl) ?_
    refine LW.dies rfl (Dx.pan rfl) ?_
    exact ⟨rfl, Sub.any⟩
  · skip
    try replace g1 := of_decide_eq_false g1
    refine RW.q 4 rfl rfl (by kernel_rfl) (Sub.refl _) (Qt.fieldAddr (off := 5) (by kernel_rfl) rfl) ?_
    first | refine RW.q 5 rfl rfl (by kernel_rfl) (Sub.refl _) (Qt.load (by kernel_rfl) rfl rfl) ?_ | refine RW.q 5 rfl rfl (by kernel_rfl) (Sub.refl _) (Qt.load (by kernel_rfl) rfl (map_at _ _ _ (by omega))) ?_ | refine RW.q 5 rfl rfl (by kernel_rfl) (Sub.refl _) (Qt.load (by kernel_rfl) rfl (flat_cell0 _ _ _ (by intros; rfl) _ (by omega) (by rfl))) ?_ | refine RW.q 5 rfl rfl (by kernel_rfl) (Sub.refl _) (Qt.load (by kernel_rfl) rfl (flat_cell _ _ _ (by intros; rfl) _ _ (by omega) (by rfl))) ?_ | refine RW.q 5 rfl rfl (by kernel_rfl) (Sub.refl _) (Qt.load (by kernel_rfl) rfl (bytes_at _ _ (by omega))) ?_
    refine RW.q 6 rfl rfl (by kernel_rfl) (Sub.refl _) (Qt.move rfl) ?_
    refine RW.q 7 rfl rfl (by kernel_rfl) (Sub.refl _) (Qt.len (e := 55) (sz := 3) (by kernel_rfl) rfl) ?_
    refine RW.q 8 rfl rfl (by kernel_rfl) (Sub.refl _) (Qt.geq rfl rfl) ?_
    refine RW.q 9 rfl rfl (by kernel_rfl) (Sub.refl _) (Qt.pick rfl rfl) ?_
    refine RW.q 10 rfl rfl (by kernel_rfl) (Sub.refl _) (Qt.move rfl) ?_
    refine RW.split (t := 26) rfl (fun g2 => ?_) (fun g2 => ?_)
    · skip
      try replace g2 := of_decide_eq_true g2
      refine RW.s 11 rfl rfl (by kernel_rfl) (Sub.refl _) ?_
      refine RW.s 12 rfl rfl (by kernel_rfl) (Sub.refl _) ?_
      refine RW.s 13 rfl rfl (by kernel_rfl) (Sub.refl _) ?_
      refine RW.s 14 rfl rfl (by kernel_rfl) (Sub.refl _) ?_
      refine RW.s 15 rfl rfl (by kernel_rfl) (Sub.refl _) ?_
      refine RW.s 16 rfl rfl (by kernel_rfl) (Sub.refl _) ?_
      refine RW.s 17 rfl rfl (by kernel_rfl) (Sub.refl _) ?_
      refine RW.s 18 rfl rfl (by kernel_rfl) (Sub.refl _) ?_
      refine RW.s 19 rfl rfl (by kernel_rfl) (Sub.refl _) ?_
      refine RW.q 20 rfl rfl (by kernel_rfl) (Sub.refl _) (Qt.pick rfl rfl) ?_
      refine RW.done (by rfl) ?_
      simp only [List.drop_succ_cons, List.drop_zero, List.drop_nil]
      refine LW.done ?_
      first | refine T.condT rfl ?_ | refine T.condPT rfl (rfl) ?_ | refine T.condBT rfl (rfl) ?_
      refine T.region ?_
      refine LW.q rfl (Qt.build [(0, 1)] [.int .i64 0] [_] [(0, _)] (by kernel_rfl) (by unfold zeroB; kernel_rfl) rfl rfl) ?_
      refine LW.q rfl (Qt.iface (by kernel_rfl) rfl) ?_
      refine LW.dies rfl (Dx.pan rfl) ?_
      exact ⟨rfl, Sub.any⟩
    · skip
      try replace g2 := of_decide_eq_false g2
      obtain ⟨j, hj⟩ : ∃ j : Nat, p = (j : Int) := ⟨p.toNat, by omega⟩
      subst hj
      obtain ⟨b, o, rfl, hr⟩ := hrow.at (sz := 3) (fun _ => rfl) (by omega)
      obtain ⟨v0, hv0⟩ : ∃ v0, row[j]? = some v0 := ⟨_, List.getElem?_eq_getElem (by omega)⟩
      have hr0 := hr j v0 hv0
      have hk : v0.kind ≠ k := by
        unfold colT at he
        rw [hm, if_neg g1, if_neg (by omega), Int.toNat_natCast, hv0] at he
        simp only at he
        split at he
        · assumption
        · cases he
      refine RW.q 11 rfl rfl (by kernel_rfl) (Sub.refl _) (Qt.move rfl) ?_
      refine RW.q 12 rfl rfl (by kernel_rfl) (Sub.refl _) (Qt.fieldAddr (off := 5) (by kernel_rfl) rfl) ?_
      first | refine RW.q 13 rfl rfl (by kernel_rfl) (Sub.refl _) (Qt.load (by kernel_rfl) rfl rfl) ?_ | refine RW.q 13 rfl rfl (by kernel_rfl) (Sub.refl _) (Qt.load (by kernel_rfl) rfl (map_at _ _ _ (by omega))) ?_ | refine RW.q 13 rfl rfl (by kernel_rfl) (Sub.refl _) (Qt.load (by kernel_rfl) rfl (flat_cell0 _ _ _ (by intros; rfl) _ (by omega) (by rfl))) ?_ | refine RW.q 13 rfl rfl (by kernel_rfl) (Sub.refl _) (Qt.load (by kernel_rfl) rfl (flat_cell _ _ _ (by intros; rfl) _ _ (by omega) (by rfl))) ?_ | refine RW.q 13 rfl rfl (by kernel_rfl) (Sub.refl _) (Qt.load (by kernel_rfl) rfl (bytes_at _ _ (by omega))) ?_
      refine RW.q 14 rfl rfl (by kernel_rfl) (Sub.refl _) (Qt.index _ (e := 55) (sz := 3) (by kernel_rfl) rfl rfl rfl (by omega)) ?_
      refine RW.q 15 rfl rfl (by kernel_rfl) (Sub.refl _) (Qt.fieldAddr0 (by kernel_rfl) rfl) ?_
      refine RW.q 16 rfl rfl (by kernel_rfl) (Sub.refl _) (Qt.loadW (by kernel_rfl) rfl (fun w ho => rangeAt_one (j := 0) (hr0 w (ho.map Sub.any)) rfl)) ?_
      refine RW.q 17 rfl rfl (by kernel_rfl) (Sub.refl _) (Qt.fieldAddr (off := 1) (by kernel_rfl) rfl) ?_
      first | refine RW.q 18 rfl rfl (by kernel_rfl) (Sub.refl _) (Qt.load (by kernel_rfl) rfl rfl) ?_ | refine RW.q 18 rfl rfl (by kernel_rfl) (Sub.refl _) (Qt.load (by kernel_rfl) rfl (map_at _ _ _ (by omega))) ?_ | refine RW.q 18 rfl rfl (by kernel_rfl) (Sub.refl _) (Qt.load (by kernel_rfl) rfl (flat_cell0 _ _ _ (by intros; rfl) _ (by omega) (by rfl))) ?_ | refine RW.q 18 rfl rfl (by kernel_rfl) (Sub.refl _) (Qt.load (by kernel_rfl) rfl (flat_cell _ _ _ (by intros; rfl) _ _ (by omega) (by rfl))) ?_ | refine RW.q 18 rfl rfl (by kernel_rfl) (Sub.refl _) (Qt.load (by kernel_rfl) rfl (bytes_at _ _ (by omega))) ?_
      refine RW.q 19 rfl rfl (by kernel_rfl) (Sub.refl _) (Qt.neq rfl rfl) ?_
      refine RW.q 20 rfl rfl (by kernel_rfl) (Sub.refl _) (Qt.pick rfl rfl) ?_
      refine RW.done (by rfl) ?_
      simp only [List.drop_succ_cons, List.drop_zero, List.drop_nil]
      refine LW.done ?_
      first | refine T.condT rfl ?_ | refine T.condPT rfl (hk) ?_ | refine T.condBT rfl (hk) ?_
      refine T.region ?_
      refine LW.q rfl (Qt.build [(0, 1)] [.int .i64 0] [_] [(0, _)] (by kernel_rfl) (by unfold zeroB; kernel_rfl) rfl rfl) ?_
      refine LW.q rfl (Qt.iface (by kernel_rfl) rfl) ?_
      refine LW.dies rfl (Dx.pan rfl) ?_
      exact ⟨rfl, Sub.any⟩
set_option maxHeartbeats 1000000 in
theorem Bd.evNot (h1 : op ≠ sVal) (h2 : op ≠ sCol) {b o : Nat} {c0 : C7} (hpa : pa = some ⟨b, o, none⟩) (hr0 : ∀ w, Own B w S → w.rangeAt b (o + 0 * 7) (c7 c0)) (hn : 0 < na) (h3 : op = sNot) {v0 : Va} (hc0 : Fn Try.prog B 26 #[tA c0, .slice ra m rc] S (fun u l => u = vA v0 ∧ l = S)) : Fn Try.prog B 26 #[tmA op k vk vi vt p pa na ca, .slice ra m rc] S (fun u l => u = vA (truthV (decide (v0.int = 0))) ∧ l = S) := by
  subst hpa
  refine Fn.enter2 86 Try.func26 rfl rfl (Nat.le_of_ble_eq_true rfl) (fun F => ?_)
  try simp only [List.cons_append, List.nil_append]
  refine T.seq ?_
  refine T.region ?_
  refine LW.e rfl (Ef.box [_, _, _, _, _, _, _] rfl rfl ?_)
  intro g2
  refine LW.e rfl (Ef.alloc [.int .i64 0, .int .i64 0, .string .empty] (by unfold zeroB; kernel_rfl) ?_)
  intro g4
  refine LW.done ?_
  refine T.seq ?_
  refine T.block ?_
  refine T.seq ?_
  refine T.region ?_
  refine LW.q rfl (Qt.fieldAddr0 (by kernel_rfl) rfl) ?_
  first | refine LW.q rfl (Qt.load (by kernel_rfl) rfl rfl) ?_ | refine LW.q rfl (Qt.load (by kernel_rfl) rfl (map_at _ _ _ (by omega))) ?_ | refine LW.q rfl (Qt.load (by kernel_rfl) rfl (flat_cell0 _ _ _ (by intros; rfl) _ (by omega) (by rfl))) ?_ | refine LW.q rfl (Qt.load (by kernel_rfl) rfl (flat_cell _ _ _ (by intros; rfl) _ _ (by omega) (by rfl))) ?_ | refine LW.q rfl (Qt.load (by kernel_rfl) rfl (bytes_at _ _ (by omega))) ?_
  refine LW.q rfl (Qt.eqlS rfl rfl) ?_
  refine LW.q rfl (Qt.assign rfl) ?_
  refine LW.done ?_
  first | refine T.condF rfl ?_ | refine T.condPF rfl (h1) ?_ | refine T.condBF rfl (h1) ?_
  refine T.seq ?_
  refine T.region ?_
  refine LW.q rfl (Qt.fieldAddr0 (by kernel_rfl) rfl) ?_
  first | refine LW.q rfl (Qt.load (by kernel_rfl) rfl rfl) ?_ | refine LW.q rfl (Qt.load (by kernel_rfl) rfl (map_at _ _ _ (by omega))) ?_ | refine LW.q rfl (Qt.load (by kernel_rfl) rfl (flat_cell0 _ _ _ (by intros; rfl) _ (by omega) (by rfl))) ?_ | refine LW.q rfl (Qt.load (by kernel_rfl) rfl (flat_cell _ _ _ (by intros; rfl) _ _ (by omega) (by rfl))) ?_ | refine LW.q rfl (Qt.load (by kernel_rfl) rfl (bytes_at _ _ (by omega))) ?_
  refine LW.q rfl (Qt.eqlS rfl rfl) ?_
  refine LW.q rfl (Qt.assign rfl) ?_
  refine LW.done ?_
  first | refine T.condF rfl ?_ | refine T.condPF rfl (h2) ?_ | refine T.condBF rfl (h2) ?_
  refine T.seq ?_
  refine T.region ?_
  refine LW.q rfl (Qt.fieldAddr0 (by kernel_rfl) rfl) ?_
  first | refine LW.q rfl (Qt.load (by kernel_rfl) rfl rfl) ?_ | refine LW.q rfl (Qt.load (by kernel_rfl) rfl (map_at _ _ _ (by omega))) ?_ | refine LW.q rfl (Qt.load (by kernel_rfl) rfl (flat_cell0 _ _ _ (by intros; rfl) _ (by omega) (by rfl))) ?_ | refine LW.q rfl (Qt.load (by kernel_rfl) rfl (flat_cell _ _ _ (by intros; rfl) _ _ (by omega) (by rfl))) ?_ | refine LW.q rfl (Qt.load (by kernel_rfl) rfl (bytes_at _ _ (by omega))) ?_
  refine LW.q rfl (Qt.eqlS rfl rfl) ?_
  refine LW.q rfl (Qt.assign rfl) ?_
  refine LW.done ?_
  first | refine T.condT rfl ?_ | refine T.condPT rfl (h3) ?_ | refine T.condBT rfl (h3) ?_
  refine T.seq ?_
  refine T.region ?_
  refine LW.q rfl (Qt.fieldAddr (off := 6) (by kernel_rfl) rfl) ?_
  first | refine LW.q rfl (Qt.load (by kernel_rfl) rfl rfl) ?_ | refine LW.q rfl (Qt.load (by kernel_rfl) rfl (map_at _ _ _ (by omega))) ?_ | refine LW.q rfl (Qt.load (by kernel_rfl) rfl (flat_cell0 _ _ _ (by intros; rfl) _ (by omega) (by rfl))) ?_ | refine LW.q rfl (Qt.load (by kernel_rfl) rfl (flat_cell _ _ _ (by intros; rfl) _ _ (by omega) (by rfl))) ?_ | refine LW.q rfl (Qt.load (by kernel_rfl) rfl (bytes_at _ _ (by omega))) ?_
  refine LW.q rfl (Qt.index 0 (e := 58) (sz := 7) (by kernel_rfl) rfl rfl rfl (by omega)) ?_
  refine LW.q rfl (Qt.loadAggW (c7 c0) (by kernel_rfl) rfl (fun w ho => hr0 w (ho.map Sub.any))) ?_
  refine LW.q rfl (Qt.move rfl) ?_
  refine LW.e rfl (Ef.call (hc0) Try.func26 rfl rfl rfl ?_)
  rintro _ _ ⟨rfl, rfl⟩
  try simp only [List.cons_append, List.nil_append]
  refine LW.q rfl (Qt.field 1 (by kernel_rfl) rfl rfl) ?_
  refine LW.q rfl (Qt.eql rfl rfl) ?_
  refine LW.e rfl (Ef.call (Bd.truth B (decide (v0.int = 0))) Try.func31 rfl rfl rfl ?_)
  rintro _ _ ⟨rfl, rfl⟩
  try simp only [List.cons_append, List.nil_append]
  refine LW.e0 rfl (Ef.store [_, _, _] (by kernel_rfl) rfl rfl rfl rfl (by simp) ?_)
  try simp only [splice, List.length_cons, List.length_nil, List.drop_succ_cons, List.cons_append, List.take_succ_cons, List.take_zero, List.drop_zero, List.nil_append, List.append_nil]
  refine LW.done ?_
  refine T.ret ?_
  exact ⟨.inl rfl, _, _, res [_] rfl ⟨rvA [_, _, _] (by kernel_rfl) rfl ⟨rfl, rfl, rfl, trivial⟩, trivial⟩, ⟨rfl, rfl⟩, Sub.any⟩
set_option maxHeartbeats 1000000 in
theorem Bd.evNotX (h1 : op ≠ sVal) (h2 : op ≠ sCol) {b o : Nat} {c0 : C7} (hpa : pa = some ⟨b, o, none⟩) (hr0 : ∀ w, Own B w S → w.rangeAt b (o + 0 * 7) (c7 c0)) (hn : 0 < na) (h3 : op = sNot) {code : Int} (hc0 : Fx Try.prog B 26 #[tA c0, .slice ra m rc] S (pvC code)) : Fx Try.prog B 26 #[tmA op k vk vi vt p pa na ca, .slice ra m rc] S (pvC code) := by
  subst hpa
  refine Fx.enter2 86 Try.func26 rfl rfl (Nat.le_of_ble_eq_true rfl) (fun F => ?_)
  try simp only [List.cons_append, List.nil_append]
  refine T.seq ?_
  refine T.region ?_
  refine LW.e rfl (Ef.box [_, _, _, _, _, _, _] rfl rfl ?_)
  intro g2
  refine LW.e rfl (Ef.alloc [.int .i64 0, .int .i64 0, .string .empty] (by unfold zeroB; kernel_rfl) ?_)
  intro g4
  refine LW.done ?_
  refine T.seq ?_
  refine T.block ?_
  refine T.seq ?_
  refine T.region ?_
  refine LW.q rfl (Qt.fieldAddr0 (by kernel_rfl) rfl) ?_
  first | refine LW.q rfl (Qt.load (by kernel_rfl) rfl rfl) ?_ | refine LW.q rfl (Qt.load (by kernel_rfl) rfl (map_at _ _ _ (by omega))) ?_ | refine LW.q rfl (Qt.load (by kernel_rfl) rfl (flat_cell0 _ _ _ (by intros; rfl) _ (by omega) (by rfl))) ?_ | refine LW.q rfl (Qt.load (by kernel_rfl) rfl (flat_cell _ _ _ (by intros; rfl) _ _ (by omega) (by rfl))) ?_ | refine LW.q rfl (Qt.load (by kernel_rfl) rfl (bytes_at _ _ (by omega))) ?_
  refine LW.q rfl (Qt.eqlS rfl rfl) ?_
  refine LW.q rfl (Qt.assign rfl) ?_
  refine LW.done ?_
  first | refine T.condF rfl ?_ | refine T.condPF rfl (h1) ?_ | refine T.condBF rfl (h1) ?_
  refine T.seq ?_
  refine T.region ?_
  refine LW.q rfl (Qt.fieldAddr0 (by kernel_rfl) rfl) ?_
  first | refine LW.q rfl (Qt.load (by kernel_rfl) rfl rfl) ?_ | refine LW.q rfl (Qt.load (by kernel_rfl) rfl (map_at _ _ _ (by omega))) ?_ | refine LW.q rfl (Qt.load (by kernel_rfl) rfl (flat_cell0 _ _ _ (by intros; rfl) _ (by omega) (by rfl))) ?_ | refine LW.q rfl (Qt.load (by kernel_rfl) rfl (flat_cell _ _ _ (by intros; rfl) _ _ (by omega) (by rfl))) ?_ | refine LW.q rfl (Qt.load (by kernel_rfl) rfl (bytes_at _ _ (by omega))) ?_
  refine LW.q rfl (Qt.eqlS rfl rfl) ?_
  refine LW.q rfl (Qt.assign rfl) ?_
  refine LW.done ?_
  first | refine T.condF rfl ?_ | refine T.condPF rfl (h2) ?_ | refine T.condBF rfl (h2) ?_
  refine T.seq ?_
  refine T.region ?_
  refine LW.q rfl (Qt.fieldAddr0 (by kernel_rfl) rfl) ?_
  first | refine LW.q rfl (Qt.load (by kernel_rfl) rfl rfl) ?_ | refine LW.q rfl (Qt.load (by kernel_rfl) rfl (map_at _ _ _ (by omega))) ?_ | refine LW.q rfl (Qt.load (by kernel_rfl) rfl (flat_cell0 _ _ _ (by intros; rfl) _ (by omega) (by rfl))) ?_ | refine LW.q rfl (Qt.load (by kernel_rfl) rfl (flat_cell _ _ _ (by intros; rfl) _ _ (by omega) (by rfl))) ?_ | refine LW.q rfl (Qt.load (by kernel_rfl) rfl (bytes_at _ _ (by omega))) ?_
  refine LW.q rfl (Qt.eqlS rfl rfl) ?_
  refine LW.q rfl (Qt.assign rfl) ?_
  refine LW.done ?_
  first | refine T.condT rfl ?_ | refine T.condPT rfl (h3) ?_ | refine T.condBT rfl (h3) ?_
  refine T.seq ?_
  refine T.region ?_
  refine LW.q rfl (Qt.fieldAddr (off := 6) (by kernel_rfl) rfl) ?_
  first | refine LW.q rfl (Qt.load (by kernel_rfl) rfl rfl) ?_ | refine LW.q rfl (Qt.load (by kernel_rfl) rfl (map_at _ _ _ (by omega))) ?_ | refine LW.q rfl (Qt.load (by kernel_rfl) rfl (flat_cell0 _ _ _ (by intros; rfl) _ (by omega) (by rfl))) ?_ | refine LW.q rfl (Qt.load (by kernel_rfl) rfl (flat_cell _ _ _ (by intros; rfl) _ _ (by omega) (by rfl))) ?_ | refine LW.q rfl (Qt.load (by kernel_rfl) rfl (bytes_at _ _ (by omega))) ?_
  refine LW.q rfl (Qt.index 0 (e := 58) (sz := 7) (by kernel_rfl) rfl rfl rfl (by omega)) ?_
  refine LW.q rfl (Qt.loadAggW (c7 c0) (by kernel_rfl) rfl (fun w ho => hr0 w (ho.map Sub.any))) ?_
  refine LW.q rfl (Qt.move rfl) ?_
  refine LW.dies rfl (Dx.call (hc0) Try.func26 rfl rfl rfl) ?_
  refine ⟨rfl, ?_⟩
  try simp only [List.cons_append, List.nil_append]
  exact Sub.any
set_option maxHeartbeats 1000000 in
theorem Bd.evNeg (h1 : op ≠ sVal) (h2 : op ≠ sCol) {b o : Nat} {c0 : C7} (hpa : pa = some ⟨b, o, none⟩) (hr0 : ∀ w, Own B w S → w.rangeAt b (o + 0 * 7) (c7 c0)) (hn : na = 1) (h3 : op ≠ sNot) {v0 : Va} (hc0 : Fn Try.prog B 26 #[tA c0, .slice ra m rc] S (fun u l => u = vA v0 ∧ l = S)) {v : Va} (he : arithE [45] 0 v0.int = .ok v) : Fn Try.prog B 26 #[tmA op k vk vi vt p pa na ca, .slice ra m rc] S (fun u l => u = vA v ∧ l = S) := by
  subst hpa
  subst hn
  refine Fn.enter2 86 Try.func26 rfl rfl (Nat.le_of_ble_eq_true rfl) (fun F => ?_)
  try simp only [List.cons_append, List.nil_append]
  refine T.seq ?_
  refine T.region ?_
  refine LW.e rfl (Ef.box [_, _, _, _, _, _, _] rfl rfl ?_)
  intro g2
  refine LW.e rfl (Ef.alloc [.int .i64 0, .int .i64 0, .string .empty] (by unfold zeroB; kernel_rfl) ?_)
  intro g4
  refine LW.done ?_
  refine T.seq ?_
  refine T.block ?_
  refine T.seq ?_
  refine T.region ?_
  refine LW.q rfl (Qt.fieldAddr0 (by kernel_rfl) rfl) ?_
  first | refine LW.q rfl (Qt.load (by kernel_rfl) rfl rfl) ?_ | refine LW.q rfl (Qt.load (by kernel_rfl) rfl (map_at _ _ _ (by omega))) ?_ | refine LW.q rfl (Qt.load (by kernel_rfl) rfl (flat_cell0 _ _ _ (by intros; rfl) _ (by omega) (by rfl))) ?_ | refine LW.q rfl (Qt.load (by kernel_rfl) rfl (flat_cell _ _ _ (by intros; rfl) _ _ (by omega) (by rfl))) ?_ | refine LW.q rfl (Qt.load (by kernel_rfl) rfl (bytes_at _ _ (by omega))) ?_
  refine LW.q rfl (Qt.eqlS rfl rfl) ?_
  refine LW.q rfl (Qt.assign rfl) ?_
  refine LW.done ?_
  first | refine T.condF rfl ?_ | refine T.condPF rfl (h1) ?_ | refine T.condBF rfl (h1) ?_
  refine T.seq ?_
  refine T.region ?_
  refine LW.q rfl (Qt.fieldAddr0 (by kernel_rfl) rfl) ?_
  first | refine LW.q rfl (Qt.load (by kernel_rfl) rfl rfl) ?_ | refine LW.q rfl (Qt.load (by kernel_rfl) rfl (map_at _ _ _ (by omega))) ?_ | refine LW.q rfl (Qt.load (by kernel_rfl) rfl (flat_cell0 _ _ _ (by intros; rfl) _ (by omega) (by rfl))) ?_ | refine LW.q rfl (Qt.load (by kernel_rfl) rfl (flat_cell _ _ _ (by intros; rfl) _ _ (by omega) (by rfl))) ?_ | refine LW.q rfl (Qt.load (by kernel_rfl) rfl (bytes_at _ _ (by omega))) ?_
  refine LW.q rfl (Qt.eqlS rfl rfl) ?_
  refine LW.q rfl (Qt.assign rfl) ?_
  refine LW.done ?_
  first | refine T.condF rfl ?_ | refine T.condPF rfl (h2) ?_ | refine T.condBF rfl (h2) ?_
  refine T.seq ?_
  refine T.region ?_
  refine LW.q rfl (Qt.fieldAddr0 (by kernel_rfl) rfl) ?_
  first | refine LW.q rfl (Qt.load (by kernel_rfl) rfl rfl) ?_ | refine LW.q rfl (Qt.load (by kernel_rfl) rfl (map_at _ _ _ (by omega))) ?_ | refine LW.q rfl (Qt.load (by kernel_rfl) rfl (flat_cell0 _ _ _ (by intros; rfl) _ (by omega) (by rfl))) ?_ | refine LW.q rfl (Qt.load (by kernel_rfl) rfl (flat_cell _ _ _ (by intros; rfl) _ _ (by omega) (by rfl))) ?_ | refine LW.q rfl (Qt.load (by kernel_rfl) rfl (bytes_at _ _ (by omega))) ?_
  refine LW.q rfl (Qt.eqlS rfl rfl) ?_
  refine LW.q rfl (Qt.assign rfl) ?_
  refine LW.done ?_
  first | refine T.condF rfl ?_ | refine T.condPF rfl (h3) ?_ | refine T.condBF rfl (h3) ?_
  refine T.seq ?_
  refine T.region ?_
  refine LW.q rfl (Qt.fieldAddr (off := 6) (by kernel_rfl) rfl) ?_
  first | refine LW.q rfl (Qt.load (by kernel_rfl) rfl rfl) ?_ | refine LW.q rfl (Qt.load (by kernel_rfl) rfl (map_at _ _ _ (by omega))) ?_ | refine LW.q rfl (Qt.load (by kernel_rfl) rfl (flat_cell0 _ _ _ (by intros; rfl) _ (by omega) (by rfl))) ?_ | refine LW.q rfl (Qt.load (by kernel_rfl) rfl (flat_cell _ _ _ (by intros; rfl) _ _ (by omega) (by rfl))) ?_ | refine LW.q rfl (Qt.load (by kernel_rfl) rfl (bytes_at _ _ (by omega))) ?_
  refine LW.q rfl (Qt.len (e := 58) (sz := 7) (by kernel_rfl) rfl) ?_
  refine LW.q rfl (Qt.eql rfl rfl) ?_
  refine LW.q rfl (Qt.assign rfl) ?_
  refine LW.done ?_
  first | refine T.condT rfl ?_ | refine T.condPT rfl ((by omega)) ?_ | refine T.condBT rfl ((by omega)) ?_
  refine T.seq ?_
  refine T.region ?_
  refine LW.q rfl (Qt.fieldAddr (off := 6) (by kernel_rfl) rfl) ?_
  first | refine LW.q rfl (Qt.load (by kernel_rfl) rfl rfl) ?_ | refine LW.q rfl (Qt.load (by kernel_rfl) rfl (map_at _ _ _ (by omega))) ?_ | refine LW.q rfl (Qt.load (by kernel_rfl) rfl (flat_cell0 _ _ _ (by intros; rfl) _ (by omega) (by rfl))) ?_ | refine LW.q rfl (Qt.load (by kernel_rfl) rfl (flat_cell _ _ _ (by intros; rfl) _ _ (by omega) (by rfl))) ?_ | refine LW.q rfl (Qt.load (by kernel_rfl) rfl (bytes_at _ _ (by omega))) ?_
  refine LW.q rfl (Qt.index 0 (e := 58) (sz := 7) (by kernel_rfl) rfl rfl rfl (by omega)) ?_
  refine LW.q rfl (Qt.loadAggW (c7 c0) (by kernel_rfl) rfl (fun w ho => hr0 w (ho.map Sub.any))) ?_
  refine LW.q rfl (Qt.move rfl) ?_
  refine LW.e rfl (Ef.call (hc0) Try.func26 rfl rfl rfl ?_)
  rintro _ _ ⟨rfl, rfl⟩
  try simp only [List.cons_append, List.nil_append]
  refine LW.q rfl (Qt.field 1 (by kernel_rfl) rfl rfl) ?_
  refine LW.e rfl (Ef.call (Bd.arithOk B [45] 0 v0.int v he) Try.func32 rfl rfl rfl ?_)
  rintro _ _ ⟨rfl, rfl⟩
  try simp only [List.cons_append, List.nil_append]
  refine LW.e0 rfl (Ef.store [_, _, _] (by kernel_rfl) rfl rfl rfl rfl (by simp) ?_)
  try simp only [splice, List.length_cons, List.length_nil, List.drop_succ_cons, List.cons_append, List.take_succ_cons, List.take_zero, List.drop_zero, List.nil_append, List.append_nil]
  refine LW.done ?_
  refine T.ret ?_
  exact ⟨.inl rfl, _, _, res [_] rfl ⟨rvA [_, _, _] (by kernel_rfl) rfl ⟨rfl, rfl, rfl, trivial⟩, trivial⟩, ⟨rfl, rfl⟩, Sub.any⟩
set_option maxHeartbeats 1000000 in
theorem Bd.evNegX (h1 : op ≠ sVal) (h2 : op ≠ sCol) {b o : Nat} {c0 : C7} (hpa : pa = some ⟨b, o, none⟩) (hr0 : ∀ w, Own B w S → w.rangeAt b (o + 0 * 7) (c7 c0)) (hn : na = 1) (h3 : op ≠ sNot) {code : Int} (hc0 : Fx Try.prog B 26 #[tA c0, .slice ra m rc] S (pvC code)) : Fx Try.prog B 26 #[tmA op k vk vi vt p pa na ca, .slice ra m rc] S (pvC code) := by
  subst hpa
  subst hn
  refine Fx.enter2 86 Try.func26 rfl rfl (Nat.le_of_ble_eq_true rfl) (fun F => ?_)
  try simp only [List.cons_append, List.nil_append]
  refine T.seq ?_
  refine T.region ?_
  refine LW.e rfl (Ef.box [_, _, _, _, _, _, _] rfl rfl ?_)
  intro g2
  refine LW.e rfl (Ef.alloc [.int .i64 0, .int .i64 0, .string .empty] (by unfold zeroB; kernel_rfl) ?_)
  intro g4
  refine LW.done ?_
  refine T.seq ?_
  refine T.block ?_
  refine T.seq ?_
  refine T.region ?_
  refine LW.q rfl (Qt.fieldAddr0 (by kernel_rfl) rfl) ?_
  first | refine LW.q rfl (Qt.load (by kernel_rfl) rfl rfl) ?_ | refine LW.q rfl (Qt.load (by kernel_rfl) rfl (map_at _ _ _ (by omega))) ?_ | refine LW.q rfl (Qt.load (by kernel_rfl) rfl (flat_cell0 _ _ _ (by intros; rfl) _ (by omega) (by rfl))) ?_ | refine LW.q rfl (Qt.load (by kernel_rfl) rfl (flat_cell _ _ _ (by intros; rfl) _ _ (by omega) (by rfl))) ?_ | refine LW.q rfl (Qt.load (by kernel_rfl) rfl (bytes_at _ _ (by omega))) ?_
  refine LW.q rfl (Qt.eqlS rfl rfl) ?_
  refine LW.q rfl (Qt.assign rfl) ?_
  refine LW.done ?_
  first | refine T.condF rfl ?_ | refine T.condPF rfl (h1) ?_ | refine T.condBF rfl (h1) ?_
  refine T.seq ?_
  refine T.region ?_
  refine LW.q rfl (Qt.fieldAddr0 (by kernel_rfl) rfl) ?_
  first | refine LW.q rfl (Qt.load (by kernel_rfl) rfl rfl) ?_ | refine LW.q rfl (Qt.load (by kernel_rfl) rfl (map_at _ _ _ (by omega))) ?_ | refine LW.q rfl (Qt.load (by kernel_rfl) rfl (flat_cell0 _ _ _ (by intros; rfl) _ (by omega) (by rfl))) ?_ | refine LW.q rfl (Qt.load (by kernel_rfl) rfl (flat_cell _ _ _ (by intros; rfl) _ _ (by omega) (by rfl))) ?_ | refine LW.q rfl (Qt.load (by kernel_rfl) rfl (bytes_at _ _ (by omega))) ?_
  refine LW.q rfl (Qt.eqlS rfl rfl) ?_
  refine LW.q rfl (Qt.assign rfl) ?_
  refine LW.done ?_
  first | refine T.condF rfl ?_ | refine T.condPF rfl (h2) ?_ | refine T.condBF rfl (h2) ?_
  refine T.seq ?_
  refine T.region ?_
  refine LW.q rfl (Qt.fieldAddr0 (by kernel_rfl) rfl) ?_
  first | refine LW.q rfl (Qt.load (by kernel_rfl) rfl rfl) ?_ | refine LW.q rfl (Qt.load (by kernel_rfl) rfl (map_at _ _ _ (by omega))) ?_ | refine LW.q rfl (Qt.load (by kernel_rfl) rfl (flat_cell0 _ _ _ (by intros; rfl) _ (by omega) (by rfl))) ?_ | refine LW.q rfl (Qt.load (by kernel_rfl) rfl (flat_cell _ _ _ (by intros; rfl) _ _ (by omega) (by rfl))) ?_ | refine LW.q rfl (Qt.load (by kernel_rfl) rfl (bytes_at _ _ (by omega))) ?_
  refine LW.q rfl (Qt.eqlS rfl rfl) ?_
  refine LW.q rfl (Qt.assign rfl) ?_
  refine LW.done ?_
  first | refine T.condF rfl ?_ | refine T.condPF rfl (h3) ?_ | refine T.condBF rfl (h3) ?_
  refine T.seq ?_
  refine T.region ?_
  refine LW.q rfl (Qt.fieldAddr (off := 6) (by kernel_rfl) rfl) ?_
  first | refine LW.q rfl (Qt.load (by kernel_rfl) rfl rfl) ?_ | refine LW.q rfl (Qt.load (by kernel_rfl) rfl (map_at _ _ _ (by omega))) ?_ | refine LW.q rfl (Qt.load (by kernel_rfl) rfl (flat_cell0 _ _ _ (by intros; rfl) _ (by omega) (by rfl))) ?_ | refine LW.q rfl (Qt.load (by kernel_rfl) rfl (flat_cell _ _ _ (by intros; rfl) _ _ (by omega) (by rfl))) ?_ | refine LW.q rfl (Qt.load (by kernel_rfl) rfl (bytes_at _ _ (by omega))) ?_
  refine LW.q rfl (Qt.len (e := 58) (sz := 7) (by kernel_rfl) rfl) ?_
  refine LW.q rfl (Qt.eql rfl rfl) ?_
  refine LW.q rfl (Qt.assign rfl) ?_
  refine LW.done ?_
  first | refine T.condT rfl ?_ | refine T.condPT rfl ((by omega)) ?_ | refine T.condBT rfl ((by omega)) ?_
  refine T.seq ?_
  refine T.region ?_
  refine LW.q rfl (Qt.fieldAddr (off := 6) (by kernel_rfl) rfl) ?_
  first | refine LW.q rfl (Qt.load (by kernel_rfl) rfl rfl) ?_ | refine LW.q rfl (Qt.load (by kernel_rfl) rfl (map_at _ _ _ (by omega))) ?_ | refine LW.q rfl (Qt.load (by kernel_rfl) rfl (flat_cell0 _ _ _ (by intros; rfl) _ (by omega) (by rfl))) ?_ | refine LW.q rfl (Qt.load (by kernel_rfl) rfl (flat_cell _ _ _ (by intros; rfl) _ _ (by omega) (by rfl))) ?_ | refine LW.q rfl (Qt.load (by kernel_rfl) rfl (bytes_at _ _ (by omega))) ?_
  refine LW.q rfl (Qt.index 0 (e := 58) (sz := 7) (by kernel_rfl) rfl rfl rfl (by omega)) ?_
  refine LW.q rfl (Qt.loadAggW (c7 c0) (by kernel_rfl) rfl (fun w ho => hr0 w (ho.map Sub.any))) ?_
  refine LW.q rfl (Qt.move rfl) ?_
  refine LW.dies rfl (Dx.call (hc0) Try.func26 rfl rfl rfl) ?_
  refine ⟨rfl, ?_⟩
  try simp only [List.cons_append, List.nil_append]
  exact Sub.any
set_option maxHeartbeats 1000000 in
theorem Bd.evNegY (h1 : op ≠ sVal) (h2 : op ≠ sCol) {b o : Nat} {c0 : C7} (hpa : pa = some ⟨b, o, none⟩) (hr0 : ∀ w, Own B w S → w.rangeAt b (o + 0 * 7) (c7 c0)) (hn : na = 1) (h3 : op ≠ sNot) {v0 : Va} (hc0 : Fn Try.prog B 26 #[tA c0, .slice ra m rc] S (fun u l => u = vA v0 ∧ l = S)) {code : Int} (he : arithE [45] 0 v0.int = .error code) : Fx Try.prog B 26 #[tmA op k vk vi vt p pa na ca, .slice ra m rc] S (pvC code) := by
  subst hpa
  subst hn
  refine Fx.enter2 86 Try.func26 rfl rfl (Nat.le_of_ble_eq_true rfl) (fun F => ?_)
  try simp only [List.cons_append, List.nil_append]
  refine T.seq ?_
  refine T.region ?_
  refine LW.e rfl (Ef.box [_, _, _, _, _, _, _] rfl rfl ?_)
  intro g2
  refine LW.e rfl (Ef.alloc [.int .i64 0, .int .i64 0, .string .empty] (by unfold zeroB; kernel_rfl) ?_)
  intro g4
  refine LW.done ?_
  refine T.seq ?_
  refine T.block ?_
  refine T.seq ?_
  refine T.region ?_
  refine LW.q rfl (Qt.fieldAddr0 (by kernel_rfl) rfl) ?_
  first | refine LW.q rfl (Qt.load (by kernel_rfl) rfl rfl) ?_ | refine LW.q rfl (Qt.load (by kernel_rfl) rfl (map_at _ _ _ (by omega))) ?_ | refine LW.q rfl (Qt.load (by kernel_rfl) rfl (flat_cell0 _ _ _ (by intros; rfl) _ (by omega) (by rfl))) ?_ | refine LW.q rfl (Qt.load (by kernel_rfl) rfl (flat_cell _ _ _ (by intros; rfl) _ _ (by omega) (by rfl))) ?_ | refine LW.q rfl (Qt.load (by kernel_rfl) rfl (bytes_at _ _ (by omega))) ?_
  refine LW.q rfl (Qt.eqlS rfl rfl) ?_
  refine LW.q rfl (Qt.assign rfl) ?_
  refine LW.done ?_
  first | refine T.condF rfl ?_ | refine T.condPF rfl (h1) ?_ | refine T.condBF rfl (h1) ?_
  refine T.seq ?_
  refine T.region ?_
  refine LW.q rfl (Qt.fieldAddr0 (by kernel_rfl) rfl) ?_
  first | refine LW.q rfl (Qt.load (by kernel_rfl) rfl rfl) ?_ | refine LW.q rfl (Qt.load (by kernel_rfl) rfl (map_at _ _ _ (by omega))) ?_ | refine LW.q rfl (Qt.load (by kernel_rfl) rfl (flat_cell0 _ _ _ (by intros; rfl) _ (by omega) (by rfl))) ?_ | refine LW.q rfl (Qt.load (by kernel_rfl) rfl (flat_cell _ _ _ (by intros; rfl) _ _ (by omega) (by rfl))) ?_ | refine LW.q rfl (Qt.load (by kernel_rfl) rfl (bytes_at _ _ (by omega))) ?_
  refine LW.q rfl (Qt.eqlS rfl rfl) ?_
  refine LW.q rfl (Qt.assign rfl) ?_
  refine LW.done ?_
  first | refine T.condF rfl ?_ | refine T.condPF rfl (h2) ?_ | refine T.condBF rfl (h2) ?_
  refine T.seq ?_
  refine T.region ?_
  refine LW.q rfl (Qt.fieldAddr0 (by kernel_rfl) rfl) ?_
  first | refine LW.q rfl (Qt.load (by kernel_rfl) rfl rfl) ?_ | refine LW.q rfl (Qt.load (by kernel_rfl) rfl (map_at _ _ _ (by omega))) ?_ | refine LW.q rfl (Qt.load (by kernel_rfl) rfl (flat_cell0 _ _ _ (by intros; rfl) _ (by omega) (by rfl))) ?_ | refine LW.q rfl (Qt.load (by kernel_rfl) rfl (flat_cell _ _ _ (by intros; rfl) _ _ (by omega) (by rfl))) ?_ | refine LW.q rfl (Qt.load (by kernel_rfl) rfl (bytes_at _ _ (by omega))) ?_
  refine LW.q rfl (Qt.eqlS rfl rfl) ?_
  refine LW.q rfl (Qt.assign rfl) ?_
  refine LW.done ?_
  first | refine T.condF rfl ?_ | refine T.condPF rfl (h3) ?_ | refine T.condBF rfl (h3) ?_
  refine T.seq ?_
  refine T.region ?_
  refine LW.q rfl (Qt.fieldAddr (off := 6) (by kernel_rfl) rfl) ?_
  first | refine LW.q rfl (Qt.load (by kernel_rfl) rfl rfl) ?_ | refine LW.q rfl (Qt.load (by kernel_rfl) rfl (map_at _ _ _ (by omega))) ?_ | refine LW.q rfl (Qt.load (by kernel_rfl) rfl (flat_cell0 _ _ _ (by intros; rfl) _ (by omega) (by rfl))) ?_ | refine LW.q rfl (Qt.load (by kernel_rfl) rfl (flat_cell _ _ _ (by intros; rfl) _ _ (by omega) (by rfl))) ?_ | refine LW.q rfl (Qt.load (by kernel_rfl) rfl (bytes_at _ _ (by omega))) ?_
  refine LW.q rfl (Qt.len (e := 58) (sz := 7) (by kernel_rfl) rfl) ?_
  refine LW.q rfl (Qt.eql rfl rfl) ?_
  refine LW.q rfl (Qt.assign rfl) ?_
  refine LW.done ?_
  first | refine T.condT rfl ?_ | refine T.condPT rfl ((by omega)) ?_ | refine T.condBT rfl ((by omega)) ?_
  refine T.seq ?_
  refine T.region ?_
  refine LW.q rfl (Qt.fieldAddr (off := 6) (by kernel_rfl) rfl) ?_
  first | refine LW.q rfl (Qt.load (by kernel_rfl) rfl rfl) ?_ | refine LW.q rfl (Qt.load (by kernel_rfl) rfl (map_at _ _ _ (by omega))) ?_ | refine LW.q rfl (Qt.load (by kernel_rfl) rfl (flat_cell0 _ _ _ (by intros; rfl) _ (by omega) (by rfl))) ?_ | refine LW.q rfl (Qt.load (by kernel_rfl) rfl (flat_cell _ _ _ (by intros; rfl) _ _ (by omega) (by rfl))) ?_ | refine LW.q rfl (Qt.load (by kernel_rfl) rfl (bytes_at _ _ (by omega))) ?_
  refine LW.q rfl (Qt.index 0 (e := 58) (sz := 7) (by kernel_rfl) rfl rfl rfl (by omega)) ?_
  refine LW.q rfl (Qt.loadAggW (c7 c0) (by kernel_rfl) rfl (fun w ho => hr0 w (ho.map Sub.any))) ?_
  refine LW.q rfl (Qt.move rfl) ?_
  refine LW.e rfl (Ef.call (hc0) Try.func26 rfl rfl rfl ?_)
  rintro _ _ ⟨rfl, rfl⟩
  try simp only [List.cons_append, List.nil_append]
  refine LW.q rfl (Qt.field 1 (by kernel_rfl) rfl rfl) ?_
  refine LW.dies rfl (Dx.call (Bd.arithBad B [45] 0 v0.int code he) Try.func32 rfl rfl rfl) ?_
  refine ⟨rfl, ?_⟩
  try simp only [List.cons_append, List.nil_append]
  exact Sub.any
set_option maxHeartbeats 1000000 in
theorem Bd.evTwoX (h1 : op ≠ sVal) (h2 : op ≠ sCol) {b o : Nat} {c0 : C7} (hpa : pa = some ⟨b, o, none⟩) (hr0 : ∀ w, Own B w S → w.rangeAt b (o + 0 * 7) (c7 c0)) (hn : na = 2) (h3 : op ≠ sNot) {code : Int} (hc0 : Fx Try.prog B 26 #[tA c0, .slice ra m rc] S (pvC code)) : Fx Try.prog B 26 #[tmA op k vk vi vt p pa na ca, .slice ra m rc] S (pvC code) := by
  subst hpa
  subst hn
  refine Fx.enter2 86 Try.func26 rfl rfl (Nat.le_of_ble_eq_true rfl) (fun F => ?_)
  try simp only [List.cons_append, List.nil_append]
  refine T.seq ?_
  refine T.region ?_
  refine LW.e rfl (Ef.box [_, _, _, _, _, _, _] rfl rfl ?_)
  intro g2
  refine LW.e rfl (Ef.alloc [.int .i64 0, .int .i64 0, .string .empty] (by unfold zeroB; kernel_rfl) ?_)
  intro g4
  refine LW.done ?_
  refine T.seq ?_
  refine T.block ?_
  refine T.seq ?_
  refine T.region ?_
  refine LW.q rfl (Qt.fieldAddr0 (by kernel_rfl) rfl) ?_
  first | refine LW.q rfl (Qt.load (by kernel_rfl) rfl rfl) ?_ | refine LW.q rfl (Qt.load (by kernel_rfl) rfl (map_at _ _ _ (by omega))) ?_ | refine LW.q rfl (Qt.load (by kernel_rfl) rfl (flat_cell0 _ _ _ (by intros; rfl) _ (by omega) (by rfl))) ?_ | refine LW.q rfl (Qt.load (by kernel_rfl) rfl (flat_cell _ _ _ (by intros; rfl) _ _ (by omega) (by rfl))) ?_ | refine LW.q rfl (Qt.load (by kernel_rfl) rfl (bytes_at _ _ (by omega))) ?_
  refine LW.q rfl (Qt.eqlS rfl rfl) ?_
  refine LW.q rfl (Qt.assign rfl) ?_
  refine LW.done ?_
  first | refine T.condF rfl ?_ | refine T.condPF rfl (h1) ?_ | refine T.condBF rfl (h1) ?_
  refine T.seq ?_
  refine T.region ?_
  refine LW.q rfl (Qt.fieldAddr0 (by kernel_rfl) rfl) ?_
  first | refine LW.q rfl (Qt.load (by kernel_rfl) rfl rfl) ?_ | refine LW.q rfl (Qt.load (by kernel_rfl) rfl (map_at _ _ _ (by omega))) ?_ | refine LW.q rfl (Qt.load (by kernel_rfl) rfl (flat_cell0 _ _ _ (by intros; rfl) _ (by omega) (by rfl))) ?_ | refine LW.q rfl (Qt.load (by kernel_rfl) rfl (flat_cell _ _ _ (by intros; rfl) _ _ (by omega) (by rfl))) ?_ | refine LW.q rfl (Qt.load (by kernel_rfl) rfl (bytes_at _ _ (by omega))) ?_
  refine LW.q rfl (Qt.eqlS rfl rfl) ?_
  refine LW.q rfl (Qt.assign rfl) ?_
  refine LW.done ?_
  first | refine T.condF rfl ?_ | refine T.condPF rfl (h2) ?_ | refine T.condBF rfl (h2) ?_
  refine T.seq ?_
  refine T.region ?_
  refine LW.q rfl (Qt.fieldAddr0 (by kernel_rfl) rfl) ?_
  first | refine LW.q rfl (Qt.load (by kernel_rfl) rfl rfl) ?_ | refine LW.q rfl (Qt.load (by kernel_rfl) rfl (map_at _ _ _ (by omega))) ?_ | refine LW.q rfl (Qt.load (by kernel_rfl) rfl (flat_cell0 _ _ _ (by intros; rfl) _ (by omega) (by rfl))) ?_ | refine LW.q rfl (Qt.load (by kernel_rfl) rfl (flat_cell _ _ _ (by intros; rfl) _ _ (by omega) (by rfl))) ?_ | refine LW.q rfl (Qt.load (by kernel_rfl) rfl (bytes_at _ _ (by omega))) ?_
  refine LW.q rfl (Qt.eqlS rfl rfl) ?_
  refine LW.q rfl (Qt.assign rfl) ?_
  refine LW.done ?_
  first | refine T.condF rfl ?_ | refine T.condPF rfl (h3) ?_ | refine T.condBF rfl (h3) ?_
  refine T.seq ?_
  refine T.region ?_
  refine LW.q rfl (Qt.fieldAddr (off := 6) (by kernel_rfl) rfl) ?_
  first | refine LW.q rfl (Qt.load (by kernel_rfl) rfl rfl) ?_ | refine LW.q rfl (Qt.load (by kernel_rfl) rfl (map_at _ _ _ (by omega))) ?_ | refine LW.q rfl (Qt.load (by kernel_rfl) rfl (flat_cell0 _ _ _ (by intros; rfl) _ (by omega) (by rfl))) ?_ | refine LW.q rfl (Qt.load (by kernel_rfl) rfl (flat_cell _ _ _ (by intros; rfl) _ _ (by omega) (by rfl))) ?_ | refine LW.q rfl (Qt.load (by kernel_rfl) rfl (bytes_at _ _ (by omega))) ?_
  refine LW.q rfl (Qt.len (e := 58) (sz := 7) (by kernel_rfl) rfl) ?_
  refine LW.q rfl (Qt.eql rfl rfl) ?_
  refine LW.q rfl (Qt.assign rfl) ?_
  refine LW.done ?_
  first | refine T.condF rfl ?_ | refine T.condPF rfl ((by omega)) ?_ | refine T.condBF rfl ((by omega)) ?_
  refine T.skip ?_
  refine T.seq ?_
  refine T.region ?_
  refine LW.q rfl (Qt.fieldAddr (off := 6) (by kernel_rfl) rfl) ?_
  first | refine LW.q rfl (Qt.load (by kernel_rfl) rfl rfl) ?_ | refine LW.q rfl (Qt.load (by kernel_rfl) rfl (map_at _ _ _ (by omega))) ?_ | refine LW.q rfl (Qt.load (by kernel_rfl) rfl (flat_cell0 _ _ _ (by intros; rfl) _ (by omega) (by rfl))) ?_ | refine LW.q rfl (Qt.load (by kernel_rfl) rfl (flat_cell _ _ _ (by intros; rfl) _ _ (by omega) (by rfl))) ?_ | refine LW.q rfl (Qt.load (by kernel_rfl) rfl (bytes_at _ _ (by omega))) ?_
  refine LW.q rfl (Qt.index 0 (e := 58) (sz := 7) (by kernel_rfl) rfl rfl rfl (by omega)) ?_
  refine LW.q rfl (Qt.loadAggW (c7 c0) (by kernel_rfl) rfl (fun w ho => hr0 w (ho.map Sub.any))) ?_
  refine LW.q rfl (Qt.move rfl) ?_
  refine LW.dies rfl (Dx.call (hc0) Try.func26 rfl rfl rfl) ?_
  refine ⟨rfl, ?_⟩
  try simp only [List.cons_append, List.nil_append]
  exact Sub.any
set_option maxHeartbeats 1000000 in
theorem Bd.evTwo (h1 : op ≠ sVal) (h2 : op ≠ sCol) {b o : Nat} {c0 : C7} (hpa : pa = some ⟨b, o, none⟩) (hr0 : ∀ w, Own B w S → w.rangeAt b (o + 0 * 7) (c7 c0)) {c1 : C7} (hr1 : ∀ w, Own B w S → w.rangeAt b (o + 1 * 7) (c7 c1)) (hn : na = 2) (h3 : op ≠ sNot) {v0 : Va} (hc0 : Fn Try.prog B 26 #[tA c0, .slice ra m rc] S (fun u l => u = vA v0 ∧ l = S)) {v1 : Va} (hc1 : Fn Try.prog B 26 #[tA c1, .slice ra m rc] S (fun u l => u = vA v1 ∧ l = S)) {v : Va} (he : reckonT op v0 v1 = .ok v) : Fn Try.prog B 26 #[tmA op k vk vi vt p pa na ca, .slice ra m rc] S (fun u l => u = vA v ∧ l = S) := by
  subst hpa
  subst hn
  refine Fn.enter2 86 Try.func26 rfl rfl (Nat.le_of_ble_eq_true rfl) (fun F => ?_)
  try simp only [List.cons_append, List.nil_append]
  refine T.seq ?_
  refine T.region ?_
  refine LW.e rfl (Ef.box [_, _, _, _, _, _, _] rfl rfl ?_)
  intro g2
  refine LW.e rfl (Ef.alloc [.int .i64 0, .int .i64 0, .string .empty] (by unfold zeroB; kernel_rfl) ?_)
  intro g4
  refine LW.done ?_
  refine T.seq ?_
  refine T.block ?_
  refine T.seq ?_
  refine T.region ?_
  refine LW.q rfl (Qt.fieldAddr0 (by kernel_rfl) rfl) ?_
  first | refine LW.q rfl (Qt.load (by kernel_rfl) rfl rfl) ?_ | refine LW.q rfl (Qt.load (by kernel_rfl) rfl (map_at _ _ _ (by omega))) ?_ | refine LW.q rfl (Qt.load (by kernel_rfl) rfl (flat_cell0 _ _ _ (by intros; rfl) _ (by omega) (by rfl))) ?_ | refine LW.q rfl (Qt.load (by kernel_rfl) rfl (flat_cell _ _ _ (by intros; rfl) _ _ (by omega) (by rfl))) ?_ | refine LW.q rfl (Qt.load (by kernel_rfl) rfl (bytes_at _ _ (by omega))) ?_
  refine LW.q rfl (Qt.eqlS rfl rfl) ?_
  refine LW.q rfl (Qt.assign rfl) ?_
  refine LW.done ?_
  first | refine T.condF rfl ?_ | refine T.condPF rfl (h1) ?_ | refine T.condBF rfl (h1) ?_
  refine T.seq ?_
  refine T.region ?_
  refine LW.q rfl (Qt.fieldAddr0 (by kernel_rfl) rfl) ?_
  first | refine LW.q rfl (Qt.load (by kernel_rfl) rfl rfl) ?_ | refine LW.q rfl (Qt.load (by kernel_rfl) rfl (map_at _ _ _ (by omega))) ?_ | refine LW.q rfl (Qt.load (by kernel_rfl) rfl (flat_cell0 _ _ _ (by intros; rfl) _ (by omega) (by rfl))) ?_ | refine LW.q rfl (Qt.load (by kernel_rfl) rfl (flat_cell _ _ _ (by intros; rfl) _ _ (by omega) (by rfl))) ?_ | refine LW.q rfl (Qt.load (by kernel_rfl) rfl (bytes_at _ _ (by omega))) ?_
  refine LW.q rfl (Qt.eqlS rfl rfl) ?_
  refine LW.q rfl (Qt.assign rfl) ?_
  refine LW.done ?_
  first | refine T.condF rfl ?_ | refine T.condPF rfl (h2) ?_ | refine T.condBF rfl (h2) ?_
  refine T.seq ?_
  refine T.region ?_
  refine LW.q rfl (Qt.fieldAddr0 (by kernel_rfl) rfl) ?_
  first | refine LW.q rfl (Qt.load (by kernel_rfl) rfl rfl) ?_ | refine LW.q rfl (Qt.load (by kernel_rfl) rfl (map_at _ _ _ (by omega))) ?_ | refine LW.q rfl (Qt.load (by kernel_rfl) rfl (flat_cell0 _ _ _ (by intros; rfl) _ (by omega) (by rfl))) ?_ | refine LW.q rfl (Qt.load (by kernel_rfl) rfl (flat_cell _ _ _ (by intros; rfl) _ _ (by omega) (by rfl))) ?_ | refine LW.q rfl (Qt.load (by kernel_rfl) rfl (bytes_at _ _ (by omega))) ?_
  refine LW.q rfl (Qt.eqlS rfl rfl) ?_
  refine LW.q rfl (Qt.assign rfl) ?_
  refine LW.done ?_
  first | refine T.condF rfl ?_ | refine T.condPF rfl (h3) ?_ | refine T.condBF rfl (h3) ?_
  refine T.seq ?_
  refine T.region ?_
  refine LW.q rfl (Qt.fieldAddr (off := 6) (by kernel_rfl) rfl) ?_
  first | refine LW.q rfl (Qt.load (by kernel_rfl) rfl rfl) ?_ | refine LW.q rfl (Qt.load (by kernel_rfl) rfl (map_at _ _ _ (by omega))) ?_ | refine LW.q rfl (Qt.load (by kernel_rfl) rfl (flat_cell0 _ _ _ (by intros; rfl) _ (by omega) (by rfl))) ?_ | refine LW.q rfl (Qt.load (by kernel_rfl) rfl (flat_cell _ _ _ (by intros; rfl) _ _ (by omega) (by rfl))) ?_ | refine LW.q rfl (Qt.load (by kernel_rfl) rfl (bytes_at _ _ (by omega))) ?_
  refine LW.q rfl (Qt.len (e := 58) (sz := 7) (by kernel_rfl) rfl) ?_
  refine LW.q rfl (Qt.eql rfl rfl) ?_
  refine LW.q rfl (Qt.assign rfl) ?_
  refine LW.done ?_
  first | refine T.condF rfl ?_ | refine T.condPF rfl ((by omega)) ?_ | refine T.condBF rfl ((by omega)) ?_
  refine T.skip ?_
  refine T.seq ?_
  refine T.region ?_
  refine LW.q rfl (Qt.fieldAddr (off := 6) (by kernel_rfl) rfl) ?_
  first | refine LW.q rfl (Qt.load (by kernel_rfl) rfl rfl) ?_ | refine LW.q rfl (Qt.load (by kernel_rfl) rfl (map_at _ _ _ (by omega))) ?_ | refine LW.q rfl (Qt.load (by kernel_rfl) rfl (flat_cell0 _ _ _ (by intros; rfl) _ (by omega) (by rfl))) ?_ | refine LW.q rfl (Qt.load (by kernel_rfl) rfl (flat_cell _ _ _ (by intros; rfl) _ _ (by omega) (by rfl))) ?_ | refine LW.q rfl (Qt.load (by kernel_rfl) rfl (bytes_at _ _ (by omega))) ?_
  refine LW.q rfl (Qt.index 0 (e := 58) (sz := 7) (by kernel_rfl) rfl rfl rfl (by omega)) ?_
  refine LW.q rfl (Qt.loadAggW (c7 c0) (by kernel_rfl) rfl (fun w ho => hr0 w (ho.map Sub.any))) ?_
  refine LW.q rfl (Qt.move rfl) ?_
  refine LW.e rfl (Ef.call (hc0) Try.func26 rfl rfl rfl ?_)
  rintro _ _ ⟨rfl, rfl⟩
  try simp only [List.cons_append, List.nil_append]
  refine LW.e rfl (Ef.alloc [.int .i64 0, .int .i64 0, .string .empty] (by unfold zeroB; kernel_rfl) ?_)
  intro g5
  refine LW.e0 rfl (Ef.store [_, _, _] (by kernel_rfl) rfl rfl rfl rfl (by simp) ?_)
  try simp only [splice, List.length_cons, List.length_nil, List.drop_succ_cons, List.cons_append, List.take_succ_cons, List.take_zero, List.drop_zero, List.nil_append, List.append_nil]
  refine LW.done ?_
  refine T.seq ?_
  refine T.drawAll 10 (by kernel_rfl) (Nat.le_of_ble_eq_true rfl) (by kernel_rfl) ?_
  refine RW.q 0 rfl rfl (by kernel_rfl) (Sub.refl _) (Qt.fieldAddr0 (by kernel_rfl) rfl) ?_
  first | refine RW.q 1 rfl rfl (by kernel_rfl) (Sub.refl _) (Qt.load (by kernel_rfl) rfl rfl) ?_ | refine RW.q 1 rfl rfl (by kernel_rfl) (Sub.refl _) (Qt.load (by kernel_rfl) rfl (map_at _ _ _ (by omega))) ?_ | refine RW.q 1 rfl rfl (by kernel_rfl) (Sub.refl _) (Qt.load (by kernel_rfl) rfl (flat_cell0 _ _ _ (by intros; rfl) _ (by omega) (by rfl))) ?_ | refine RW.q 1 rfl rfl (by kernel_rfl) (Sub.refl _) (Qt.load (by kernel_rfl) rfl (flat_cell _ _ _ (by intros; rfl) _ _ (by omega) (by rfl))) ?_ | refine RW.q 1 rfl rfl (by kernel_rfl) (Sub.refl _) (Qt.load (by kernel_rfl) rfl (bytes_at _ _ (by omega))) ?_
  first | refine RW.q 2 rfl rfl (by kernel_rfl) (Sub.refl _) (Qt.loadAgg [_, _, _] (by kernel_rfl) rfl ⟨rfl, rfl, rfl, trivial⟩) ?_ | refine RW.q 2 rfl rfl (by kernel_rfl) (Sub.refl _) (Qt.loadAgg [_, _, _] (by kernel_rfl) rfl (by exact rdl_flat _ _ _ (by intros; rfl) _ (by omega))) ?_
  refine RW.q 3 rfl rfl (by kernel_rfl) (Sub.refl _) (Qt.fieldAddr (off := 6) (by kernel_rfl) rfl) ?_
  first | refine RW.q 4 rfl rfl (by kernel_rfl) (Sub.refl _) (Qt.load (by kernel_rfl) rfl rfl) ?_ | refine RW.q 4 rfl rfl (by kernel_rfl) (Sub.refl _) (Qt.load (by kernel_rfl) rfl (map_at _ _ _ (by omega))) ?_ | refine RW.q 4 rfl rfl (by kernel_rfl) (Sub.refl _) (Qt.load (by kernel_rfl) rfl (flat_cell0 _ _ _ (by intros; rfl) _ (by omega) (by rfl))) ?_ | refine RW.q 4 rfl rfl (by kernel_rfl) (Sub.refl _) (Qt.load (by kernel_rfl) rfl (flat_cell _ _ _ (by intros; rfl) _ _ (by omega) (by rfl))) ?_ | refine RW.q 4 rfl rfl (by kernel_rfl) (Sub.refl _) (Qt.load (by kernel_rfl) rfl (bytes_at _ _ (by omega))) ?_
  refine RW.q 5 rfl rfl (by kernel_rfl) (Sub.refl _) (Qt.index 1 (e := 58) (sz := 7) (by kernel_rfl) rfl rfl rfl (by omega)) ?_
  refine RW.q 6 rfl rfl (by kernel_rfl) (Sub.refl _) (Qt.loadAggW (c7 c1) (by kernel_rfl) rfl (fun w ho => hr1 w (ho.map Sub.any))) ?_
  refine RW.q 7 rfl rfl (by kernel_rfl) (Sub.refl _) (Qt.move rfl) ?_
  refine RW.one 8 (by kernel_rfl) ?_
  refine RO.e rfl rfl (Ef.call (hc1) Try.func26 rfl rfl rfl ?_)
  rintro _ _ ⟨rfl, rfl⟩
  try simp only [List.cons_append, List.nil_append]
  refine ⟨Sub.any, ?_⟩
  refine RW.one 9 (by kernel_rfl) ?_
  refine RO.e rfl rfl (Ef.call (Bd.reckonOk B op v0 v1 v he) Try.func33 rfl rfl rfl ?_)
  rintro _ _ ⟨rfl, rfl⟩
  try simp only [List.cons_append, List.nil_append]
  refine ⟨Sub.any, ?_⟩
  refine RW.done (by rfl) ?_
  simp only [List.drop_succ_cons, List.drop_zero, List.drop_nil]
  refine LW.e0 rfl (Ef.store [_, _, _] (by kernel_rfl) rfl rfl rfl rfl (by simp) ?_)
  try simp only [splice, List.length_cons, List.length_nil, List.drop_succ_cons, List.cons_append, List.take_succ_cons, List.take_zero, List.drop_zero, List.nil_append, List.append_nil]
  refine LW.done ?_
  refine T.ret ?_
  exact ⟨.inl rfl, _, _, res [_] rfl ⟨rvA [_, _, _] (by kernel_rfl) rfl ⟨rfl, rfl, rfl, trivial⟩, trivial⟩, ⟨rfl, rfl⟩, Sub.any⟩
set_option maxHeartbeats 1000000 in
theorem Bd.evTwoY (h1 : op ≠ sVal) (h2 : op ≠ sCol) {b o : Nat} {c0 : C7} (hpa : pa = some ⟨b, o, none⟩) (hr0 : ∀ w, Own B w S → w.rangeAt b (o + 0 * 7) (c7 c0)) {c1 : C7} (hr1 : ∀ w, Own B w S → w.rangeAt b (o + 1 * 7) (c7 c1)) (hn : na = 2) (h3 : op ≠ sNot) {v0 : Va} (hc0 : Fn Try.prog B 26 #[tA c0, .slice ra m rc] S (fun u l => u = vA v0 ∧ l = S)) {code : Int} (hc1 : Fx Try.prog B 26 #[tA c1, .slice ra m rc] S (pvC code)) : Fx Try.prog B 26 #[tmA op k vk vi vt p pa na ca, .slice ra m rc] S (pvC code) := by
  subst hpa
  subst hn
  refine Fx.enter2 86 Try.func26 rfl rfl (Nat.le_of_ble_eq_true rfl) (fun F => ?_)
  try simp only [List.cons_append, List.nil_append]
  refine T.seq ?_
  refine T.region ?_
  refine LW.e rfl (Ef.box [_, _, _, _, _, _, _] rfl rfl ?_)
  intro g2
  refine LW.e rfl (Ef.alloc [.int .i64 0, .int .i64 0, .string .empty] (by unfold zeroB; kernel_rfl) ?_)
  intro g4
  refine LW.done ?_
  refine T.seq ?_
  refine T.block ?_
  refine T.seq ?_
  refine T.region ?_
  refine LW.q rfl (Qt.fieldAddr0 (by kernel_rfl) rfl) ?_
  first | refine LW.q rfl (Qt.load (by kernel_rfl) rfl rfl) ?_ | refine LW.q rfl (Qt.load (by kernel_rfl) rfl (map_at _ _ _ (by omega))) ?_ | refine LW.q rfl (Qt.load (by kernel_rfl) rfl (flat_cell0 _ _ _ (by intros; rfl) _ (by omega) (by rfl))) ?_ | refine LW.q rfl (Qt.load (by kernel_rfl) rfl (flat_cell _ _ _ (by intros; rfl) _ _ (by omega) (by rfl))) ?_ | refine LW.q rfl (Qt.load (by kernel_rfl) rfl (bytes_at _ _ (by omega))) ?_
  refine LW.q rfl (Qt.eqlS rfl rfl) ?_
  refine LW.q rfl (Qt.assign rfl) ?_
  refine LW.done ?_
  first | refine T.condF rfl ?_ | refine T.condPF rfl (h1) ?_ | refine T.condBF rfl (h1) ?_
  refine T.seq ?_
  refine T.region ?_
  refine LW.q rfl (Qt.fieldAddr0 (by kernel_rfl) rfl) ?_
  first | refine LW.q rfl (Qt.load (by kernel_rfl) rfl rfl) ?_ | refine LW.q rfl (Qt.load (by kernel_rfl) rfl (map_at _ _ _ (by omega))) ?_ | refine LW.q rfl (Qt.load (by kernel_rfl) rfl (flat_cell0 _ _ _ (by intros; rfl) _ (by omega) (by rfl))) ?_ | refine LW.q rfl (Qt.load (by kernel_rfl) rfl (flat_cell _ _ _ (by intros; rfl) _ _ (by omega) (by rfl))) ?_ | refine LW.q rfl (Qt.load (by kernel_rfl) rfl (bytes_at _ _ (by omega))) ?_
  refine LW.q rfl (Qt.eqlS rfl rfl) ?_
  refine LW.q rfl (Qt.assign rfl) ?_
  refine LW.done ?_
  first | refine T.condF rfl ?_ | refine T.condPF rfl (h2) ?_ | refine T.condBF rfl (h2) ?_
  refine T.seq ?_
  refine T.region ?_
  refine LW.q rfl (Qt.fieldAddr0 (by kernel_rfl) rfl) ?_
  first | refine LW.q rfl (Qt.load (by kernel_rfl) rfl rfl) ?_ | refine LW.q rfl (Qt.load (by kernel_rfl) rfl (map_at _ _ _ (by omega))) ?_ | refine LW.q rfl (Qt.load (by kernel_rfl) rfl (flat_cell0 _ _ _ (by intros; rfl) _ (by omega) (by rfl))) ?_ | refine LW.q rfl (Qt.load (by kernel_rfl) rfl (flat_cell _ _ _ (by intros; rfl) _ _ (by omega) (by rfl))) ?_ | refine LW.q rfl (Qt.load (by kernel_rfl) rfl (bytes_at _ _ (by omega))) ?_
  refine LW.q rfl (Qt.eqlS rfl rfl) ?_
  refine LW.q rfl (Qt.assign rfl) ?_
  refine LW.done ?_
  first | refine T.condF rfl ?_ | refine T.condPF rfl (h3) ?_ | refine T.condBF rfl (h3) ?_
  refine T.seq ?_
  refine T.region ?_
  refine LW.q rfl (Qt.fieldAddr (off := 6) (by kernel_rfl) rfl) ?_
  first | refine LW.q rfl (Qt.load (by kernel_rfl) rfl rfl) ?_ | refine LW.q rfl (Qt.load (by kernel_rfl) rfl (map_at _ _ _ (by omega))) ?_ | refine LW.q rfl (Qt.load (by kernel_rfl) rfl (flat_cell0 _ _ _ (by intros; rfl) _ (by omega) (by rfl))) ?_ | refine LW.q rfl (Qt.load (by kernel_rfl) rfl (flat_cell _ _ _ (by intros; rfl) _ _ (by omega) (by rfl))) ?_ | refine LW.q rfl (Qt.load (by kernel_rfl) rfl (bytes_at _ _ (by omega))) ?_
  refine LW.q rfl (Qt.len (e := 58) (sz := 7) (by kernel_rfl) rfl) ?_
  refine LW.q rfl (Qt.eql rfl rfl) ?_
  refine LW.q rfl (Qt.assign rfl) ?_
  refine LW.done ?_
  first | refine T.condF rfl ?_ | refine T.condPF rfl ((by omega)) ?_ | refine T.condBF rfl ((by omega)) ?_
  refine T.skip ?_
  refine T.seq ?_
  refine T.region ?_
  refine LW.q rfl (Qt.fieldAddr (off := 6) (by kernel_rfl) rfl) ?_
  first | refine LW.q rfl (Qt.load (by kernel_rfl) rfl rfl) ?_ | refine LW.q rfl (Qt.load (by kernel_rfl) rfl (map_at _ _ _ (by omega))) ?_ | refine LW.q rfl (Qt.load (by kernel_rfl) rfl (flat_cell0 _ _ _ (by intros; rfl) _ (by omega) (by rfl))) ?_ | refine LW.q rfl (Qt.load (by kernel_rfl) rfl (flat_cell _ _ _ (by intros; rfl) _ _ (by omega) (by rfl))) ?_ | refine LW.q rfl (Qt.load (by kernel_rfl) rfl (bytes_at _ _ (by omega))) ?_
  refine LW.q rfl (Qt.index 0 (e := 58) (sz := 7) (by kernel_rfl) rfl rfl rfl (by omega)) ?_
  refine LW.q rfl (Qt.loadAggW (c7 c0) (by kernel_rfl) rfl (fun w ho => hr0 w (ho.map Sub.any))) ?_
  refine LW.q rfl (Qt.move rfl) ?_
  refine LW.e rfl (Ef.call (hc0) Try.func26 rfl rfl rfl ?_)
  rintro _ _ ⟨rfl, rfl⟩
  try simp only [List.cons_append, List.nil_append]
  refine LW.e rfl (Ef.alloc [.int .i64 0, .int .i64 0, .string .empty] (by unfold zeroB; kernel_rfl) ?_)
  intro g5
  refine LW.e0 rfl (Ef.store [_, _, _] (by kernel_rfl) rfl rfl rfl rfl (by simp) ?_)
  try simp only [splice, List.length_cons, List.length_nil, List.drop_succ_cons, List.cons_append, List.take_succ_cons, List.take_zero, List.drop_zero, List.nil_append, List.append_nil]
  refine LW.done ?_
  refine T.seq ?_
  refine T.drawAll 10 (by kernel_rfl) (Nat.le_of_ble_eq_true rfl) (by kernel_rfl) ?_
  refine RW.q 0 rfl rfl (by kernel_rfl) (Sub.refl _) (Qt.fieldAddr0 (by kernel_rfl) rfl) ?_
  first | refine RW.q 1 rfl rfl (by kernel_rfl) (Sub.refl _) (Qt.load (by kernel_rfl) rfl rfl) ?_ | refine RW.q 1 rfl rfl (by kernel_rfl) (Sub.refl _) (Qt.load (by kernel_rfl) rfl (map_at _ _ _ (by omega))) ?_ | refine RW.q 1 rfl rfl (by kernel_rfl) (Sub.refl _) (Qt.load (by kernel_rfl) rfl (flat_cell0 _ _ _ (by intros; rfl) _ (by omega) (by rfl))) ?_ | refine RW.q 1 rfl rfl (by kernel_rfl) (Sub.refl _) (Qt.load (by kernel_rfl) rfl (flat_cell _ _ _ (by intros; rfl) _ _ (by omega) (by rfl))) ?_ | refine RW.q 1 rfl rfl (by kernel_rfl) (Sub.refl _) (Qt.load (by kernel_rfl) rfl (bytes_at _ _ (by omega))) ?_
  first | refine RW.q 2 rfl rfl (by kernel_rfl) (Sub.refl _) (Qt.loadAgg [_, _, _] (by kernel_rfl) rfl ⟨rfl, rfl, rfl, trivial⟩) ?_ | refine RW.q 2 rfl rfl (by kernel_rfl) (Sub.refl _) (Qt.loadAgg [_, _, _] (by kernel_rfl) rfl (by exact rdl_flat _ _ _ (by intros; rfl) _ (by omega))) ?_
  refine RW.q 3 rfl rfl (by kernel_rfl) (Sub.refl _) (Qt.fieldAddr (off := 6) (by kernel_rfl) rfl) ?_
  first | refine RW.q 4 rfl rfl (by kernel_rfl) (Sub.refl _) (Qt.load (by kernel_rfl) rfl rfl) ?_ | refine RW.q 4 rfl rfl (by kernel_rfl) (Sub.refl _) (Qt.load (by kernel_rfl) rfl (map_at _ _ _ (by omega))) ?_ | refine RW.q 4 rfl rfl (by kernel_rfl) (Sub.refl _) (Qt.load (by kernel_rfl) rfl (flat_cell0 _ _ _ (by intros; rfl) _ (by omega) (by rfl))) ?_ | refine RW.q 4 rfl rfl (by kernel_rfl) (Sub.refl _) (Qt.load (by kernel_rfl) rfl (flat_cell _ _ _ (by intros; rfl) _ _ (by omega) (by rfl))) ?_ | refine RW.q 4 rfl rfl (by kernel_rfl) (Sub.refl _) (Qt.load (by kernel_rfl) rfl (bytes_at _ _ (by omega))) ?_
  refine RW.q 5 rfl rfl (by kernel_rfl) (Sub.refl _) (Qt.index 1 (e := 58) (sz := 7) (by kernel_rfl) rfl rfl rfl (by omega)) ?_
  refine RW.q 6 rfl rfl (by kernel_rfl) (Sub.refl _) (Qt.loadAggW (c7 c1) (by kernel_rfl) rfl (fun w ho => hr1 w (ho.map Sub.any))) ?_
  refine RW.q 7 rfl rfl (by kernel_rfl) (Sub.refl _) (Qt.move rfl) ?_
  refine RW.one 8 (by kernel_rfl) ?_
  refine RO.dies rfl rfl (Dx.call (hc1) Try.func26 rfl rfl rfl) ?_
  refine ⟨rfl, ?_⟩
  try simp only [List.cons_append, List.nil_append]
  exact Sub.any
set_option maxHeartbeats 1000000 in
theorem Bd.evTwoZ (h1 : op ≠ sVal) (h2 : op ≠ sCol) {b o : Nat} {c0 : C7} (hpa : pa = some ⟨b, o, none⟩) (hr0 : ∀ w, Own B w S → w.rangeAt b (o + 0 * 7) (c7 c0)) {c1 : C7} (hr1 : ∀ w, Own B w S → w.rangeAt b (o + 1 * 7) (c7 c1)) (hn : na = 2) (h3 : op ≠ sNot) {v0 : Va} (hc0 : Fn Try.prog B 26 #[tA c0, .slice ra m rc] S (fun u l => u = vA v0 ∧ l = S)) {v1 : Va} (hc1 : Fn Try.prog B 26 #[tA c1, .slice ra m rc] S (fun u l => u = vA v1 ∧ l = S)) {code : Int} (he : reckonT op v0 v1 = .error code) : Fx Try.prog B 26 #[tmA op k vk vi vt p pa na ca, .slice ra m rc] S (pvC code) := by
  subst hpa
  subst hn
  refine Fx.enter2 86 Try.func26 rfl rfl (Nat.le_of_ble_eq_true rfl) (fun F => ?_)
  try simp only [List.cons_append, List.nil_append]
  refine T.seq ?_
  refine T.region ?_
  refine LW.e rfl (Ef.box [_, _, _, _, _, _, _] rfl rfl ?_)
  intro g2
  refine LW.e rfl (Ef.alloc [.int .i64 0, .int .i64 0, .string .empty] (by unfold zeroB; kernel_rfl) ?_)
  intro g4
  refine LW.done ?_
  refine T.seq ?_
  refine T.block ?_
  refine T.seq ?_
  refine T.region ?_
  refine LW.q rfl (Qt.fieldAddr0 (by kernel_rfl) rfl) ?_
  first | refine LW.q rfl (Qt.load (by kernel_rfl) rfl rfl) ?_ | refine LW.q rfl (Qt.load (by kernel_rfl) rfl (map_at _ _ _ (by omega))) ?_ | refine LW.q rfl (Qt.load (by kernel_rfl) rfl (flat_cell0 _ _ _ (by intros; rfl) _ (by omega) (by rfl))) ?_ | refine LW.q rfl (Qt.load (by kernel_rfl) rfl (flat_cell _ _ _ (by intros; rfl) _ _ (by omega) (by rfl))) ?_ | refine LW.q rfl (Qt.load (by kernel_rfl) rfl (bytes_at _ _ (by omega))) ?_
  refine LW.q rfl (Qt.eqlS rfl rfl) ?_
  refine LW.q rfl (Qt.assign rfl) ?_
  refine LW.done ?_
  first | refine T.condF rfl ?_ | refine T.condPF rfl (h1) ?_ | refine T.condBF rfl (h1) ?_
  refine T.seq ?_
  refine T.region ?_
  refine LW.q rfl (Qt.fieldAddr0 (by kernel_rfl) rfl) ?_
  first | refine LW.q rfl (Qt.load (by kernel_rfl) rfl rfl) ?_ | refine LW.q rfl (Qt.load (by kernel_rfl) rfl (map_at _ _ _ (by omega))) ?_ | refine LW.q rfl (Qt.load (by kernel_rfl) rfl (flat_cell0 _ _ _ (by intros; rfl) _ (by omega) (by rfl))) ?_ | refine LW.q rfl (Qt.load (by kernel_rfl) rfl (flat_cell _ _ _ (by intros; rfl) _ _ (by omega) (by rfl))) ?_ | refine LW.q rfl (Qt.load (by kernel_rfl) rfl (bytes_at _ _ (by omega))) ?_
  refine LW.q rfl (Qt.eqlS rfl rfl) ?_
  refine LW.q rfl (Qt.assign rfl) ?_
  refine LW.done ?_
  first | refine T.condF rfl ?_ | refine T.condPF rfl (h2) ?_ | refine T.condBF rfl (h2) ?_
  refine T.seq ?_
  refine T.region ?_
  refine LW.q rfl (Qt.fieldAddr0 (by kernel_rfl) rfl) ?_
  first | refine LW.q rfl (Qt.load (by kernel_rfl) rfl rfl) ?_ | refine LW.q rfl (Qt.load (by kernel_rfl) rfl (map_at _ _ _ (by omega))) ?_ | refine LW.q rfl (Qt.load (by kernel_rfl) rfl (flat_cell0 _ _ _ (by intros; rfl) _ (by omega) (by rfl))) ?_ | refine LW.q rfl (Qt.load (by kernel_rfl) rfl (flat_cell _ _ _ (by intros; rfl) _ _ (by omega) (by rfl))) ?_ | refine LW.q rfl (Qt.load (by kernel_rfl) rfl (bytes_at _ _ (by omega))) ?_
  refine LW.q rfl (Qt.eqlS rfl rfl) ?_
  refine LW.q rfl (Qt.assign rfl) ?_
  refine LW.done ?_
  first | refine T.condF rfl ?_ | refine T.condPF rfl (h3) ?_ | refine T.condBF rfl (h3) ?_
  refine T.seq ?_
  refine T.region ?_
  refine LW.q rfl (Qt.fieldAddr (off := 6) (by kernel_rfl) rfl) ?_
  first | refine LW.q rfl (Qt.load (by kernel_rfl) rfl rfl) ?_ | refine LW.q rfl (Qt.load (by kernel_rfl) rfl (map_at _ _ _ (by omega))) ?_ | refine LW.q rfl (Qt.load (by kernel_rfl) rfl (flat_cell0 _ _ _ (by intros; rfl) _ (by omega) (by rfl))) ?_ | refine LW.q rfl (Qt.load (by kernel_rfl) rfl (flat_cell _ _ _ (by intros; rfl) _ _ (by omega) (by rfl))) ?_ | refine LW.q rfl (Qt.load (by kernel_rfl) rfl (bytes_at _ _ (by omega))) ?_
  refine LW.q rfl (Qt.len (e := 58) (sz := 7) (by kernel_rfl) rfl) ?_
  refine LW.q rfl (Qt.eql rfl rfl) ?_
  refine LW.q rfl (Qt.assign rfl) ?_
  refine LW.done ?_
  first | refine T.condF rfl ?_ | refine T.condPF rfl ((by omega)) ?_ | refine T.condBF rfl ((by omega)) ?_
  refine T.skip ?_
  refine T.seq ?_
  refine T.region ?_
  refine LW.q rfl (Qt.fieldAddr (off := 6) (by kernel_rfl) rfl) ?_
  first | refine LW.q rfl (Qt.load (by kernel_rfl) rfl rfl) ?_ | refine LW.q rfl (Qt.load (by kernel_rfl) rfl (map_at _ _ _ (by omega))) ?_ | refine LW.q rfl (Qt.load (by kernel_rfl) rfl (flat_cell0 _ _ _ (by intros; rfl) _ (by omega) (by rfl))) ?_ | refine LW.q rfl (Qt.load (by kernel_rfl) rfl (flat_cell _ _ _ (by intros; rfl) _ _ (by omega) (by rfl))) ?_ | refine LW.q rfl (Qt.load (by kernel_rfl) rfl (bytes_at _ _ (by omega))) ?_
  refine LW.q rfl (Qt.index 0 (e := 58) (sz := 7) (by kernel_rfl) rfl rfl rfl (by omega)) ?_
  refine LW.q rfl (Qt.loadAggW (c7 c0) (by kernel_rfl) rfl (fun w ho => hr0 w (ho.map Sub.any))) ?_
  refine LW.q rfl (Qt.move rfl) ?_
  refine LW.e rfl (Ef.call (hc0) Try.func26 rfl rfl rfl ?_)
  rintro _ _ ⟨rfl, rfl⟩
  try simp only [List.cons_append, List.nil_append]
  refine LW.e rfl (Ef.alloc [.int .i64 0, .int .i64 0, .string .empty] (by unfold zeroB; kernel_rfl) ?_)
  intro g5
  refine LW.e0 rfl (Ef.store [_, _, _] (by kernel_rfl) rfl rfl rfl rfl (by simp) ?_)
  try simp only [splice, List.length_cons, List.length_nil, List.drop_succ_cons, List.cons_append, List.take_succ_cons, List.take_zero, List.drop_zero, List.nil_append, List.append_nil]
  refine LW.done ?_
  refine T.seq ?_
  refine T.drawAll 10 (by kernel_rfl) (Nat.le_of_ble_eq_true rfl) (by kernel_rfl) ?_
  refine RW.q 0 rfl rfl (by kernel_rfl) (Sub.refl _) (Qt.fieldAddr0 (by kernel_rfl) rfl) ?_
  first | refine RW.q 1 rfl rfl (by kernel_rfl) (Sub.refl _) (Qt.load (by kernel_rfl) rfl rfl) ?_ | refine RW.q 1 rfl rfl (by kernel_rfl) (Sub.refl _) (Qt.load (by kernel_rfl) rfl (map_at _ _ _ (by omega))) ?_ | refine RW.q 1 rfl rfl (by kernel_rfl) (Sub.refl _) (Qt.load (by kernel_rfl) rfl (flat_cell0 _ _ _ (by intros; rfl) _ (by omega) (by rfl))) ?_ | refine RW.q 1 rfl rfl (by kernel_rfl) (Sub.refl _) (Qt.load (by kernel_rfl) rfl (flat_cell _ _ _ (by intros; rfl) _ _ (by omega) (by rfl))) ?_ | refine RW.q 1 rfl rfl (by kernel_rfl) (Sub.refl _) (Qt.load (by kernel_rfl) rfl (bytes_at _ _ (by omega))) ?_
  first | refine RW.q 2 rfl rfl (by kernel_rfl) (Sub.refl _) (Qt.loadAgg [_, _, _] (by kernel_rfl) rfl ⟨rfl, rfl, rfl, trivial⟩) ?_ | refine RW.q 2 rfl rfl (by kernel_rfl) (Sub.refl _) (Qt.loadAgg [_, _, _] (by kernel_rfl) rfl (by exact rdl_flat _ _ _ (by intros; rfl) _ (by omega))) ?_
  refine RW.q 3 rfl rfl (by kernel_rfl) (Sub.refl _) (Qt.fieldAddr (off := 6) (by kernel_rfl) rfl) ?_
  first | refine RW.q 4 rfl rfl (by kernel_rfl) (Sub.refl _) (Qt.load (by kernel_rfl) rfl rfl) ?_ | refine RW.q 4 rfl rfl (by kernel_rfl) (Sub.refl _) (Qt.load (by kernel_rfl) rfl (map_at _ _ _ (by omega))) ?_ | refine RW.q 4 rfl rfl (by kernel_rfl) (Sub.refl _) (Qt.load (by kernel_rfl) rfl (flat_cell0 _ _ _ (by intros; rfl) _ (by omega) (by rfl))) ?_ | refine RW.q 4 rfl rfl (by kernel_rfl) (Sub.refl _) (Qt.load (by kernel_rfl) rfl (flat_cell _ _ _ (by intros; rfl) _ _ (by omega) (by rfl))) ?_ | refine RW.q 4 rfl rfl (by kernel_rfl) (Sub.refl _) (Qt.load (by kernel_rfl) rfl (bytes_at _ _ (by omega))) ?_
  refine RW.q 5 rfl rfl (by kernel_rfl) (Sub.refl _) (Qt.index 1 (e := 58) (sz := 7) (by kernel_rfl) rfl rfl rfl (by omega)) ?_
  refine RW.q 6 rfl rfl (by kernel_rfl) (Sub.refl _) (Qt.loadAggW (c7 c1) (by kernel_rfl) rfl (fun w ho => hr1 w (ho.map Sub.any))) ?_
  refine RW.q 7 rfl rfl (by kernel_rfl) (Sub.refl _) (Qt.move rfl) ?_
  refine RW.one 8 (by kernel_rfl) ?_
  refine RO.e rfl rfl (Ef.call (hc1) Try.func26 rfl rfl rfl ?_)
  rintro _ _ ⟨rfl, rfl⟩
  try simp only [List.cons_append, List.nil_append]
  refine ⟨Sub.any, ?_⟩
  refine RW.one 9 (by kernel_rfl) ?_
  refine RO.dies rfl rfl (Dx.call (Bd.reckonBad B op v0 v1 code he) Try.func33 rfl rfl rfl) ?_
  refine ⟨rfl, ?_⟩
  try simp only [List.cons_append, List.nil_append]
  exact Sub.any
end
theorem Bd.eval (B : Base) (S : List Assn) (row : List Va) (ra : Option Addr) (m rc : Nat) (hrow : FlV B S vaC (.slice ra m rc) row) (hm : row.length = m) (hmn : m < 2 ^ 32) (t : Tm) (ho : TmOk t) : ∀ c, TmV B S t c →
    (∀ v, evalT row t = .ok v → Fn Try.prog B 26 #[tA c, .slice ra m rc] S (fun u l => u = vA v ∧ l = S)) ∧ (∀ code, evalT row t = .error code → Fx Try.prog B 26 #[tA c, .slice ra m rc] S (pvC code)) := by
  induction ho with
  | val k v p =>
    intro c hv
    obtain ⟨pa, ca, css, rfl, -, -, -⟩ := hv.inv
    refine ⟨fun v' h => ?_, fun code h => ?_⟩
    · unfold evalT at h; rw [if_pos rfl] at h; injection h with h; subst h
      exact Bd.evVal rfl
    · unfold evalT at h; rw [if_pos rfl] at h; cases h
  | col k v p =>
    intro c hv
    obtain ⟨pa, ca, css, rfl, -, -, -⟩ := hv.inv
    refine ⟨fun v' h => ?_, fun code h => ?_⟩
    · unfold evalT at h; rw [if_neg (by decide), if_pos rfl] at h
      exact Bd.evCol (by decide) rfl hrow hm hmn h
    · unfold evalT at h; rw [if_neg (by decide), if_pos rfl] at h
      exact Bd.evColX (by decide) rfl hrow hm hmn h
  | one op k v p t h1 h2 _ ht ih =>
    intro c hv
    obtain ⟨pa, ca, css, rfl, hf, hl, hc⟩ := hv.inv
    obtain ⟨b, o, rfl, hr⟩ := hf.at (sz := 7) (fun _ => rfl) (by simp)
    obtain ⟨c0, hc0⟩ : ∃ c, css[0]? = some c := ⟨_, List.getElem?_eq_getElem (by rw [hl]; simp)⟩
    obtain ⟨i1, i2⟩ := ih c0 (hc 0 t c0 rfl hc0)
    have hr0 := hr 0 c0 hc0
    have ev : evalT row (.mk op k v p [t]) = match evalT row t with
        | .error c => .error c
        | .ok a => if op = sNot then .ok (truthV (decide (a.int = 0))) else arithE [45] 0 a.int := by rw [evalT, if_neg h1, if_neg h2]
    rw [ev]
    cases e : evalT row t with
    | error c0 =>
      refine ⟨fun v' h => (by cases h), fun code h => ?_⟩
      injection h with h; subst h
      by_cases h3 : op = sNot
      · exact Bd.evNotX h1 h2 rfl hr0 (by simp) h3 (i2 _ e)
      · exact Bd.evNegX h1 h2 rfl hr0 rfl h3 (i2 _ e)
    | ok a =>
      dsimp only
      by_cases h3 : op = sNot
      · rw [if_pos h3]
        refine ⟨fun v' h => ?_, fun code h => (by cases h)⟩
        injection h with h; subst h
        exact Bd.evNot h1 h2 rfl hr0 (by simp) h3 (i1 _ e)
      · rw [if_neg h3]
        exact ⟨fun v' h => Bd.evNeg h1 h2 rfl hr0 rfl h3 (i1 _ e) h, fun code h => Bd.evNegY h1 h2 rfl hr0 rfl h3 (i1 _ e) h⟩
  | two op k v p t u h1 h2 h3 ht hu ih1 ih2 =>
    intro c hv
    obtain ⟨pa, ca, css, rfl, hf, hl, hc⟩ := hv.inv
    obtain ⟨b, o, rfl, hr⟩ := hf.at (sz := 7) (fun _ => rfl) (by simp)
    obtain ⟨c0, hc0⟩ : ∃ c, css[0]? = some c := ⟨_, List.getElem?_eq_getElem (by rw [hl]; simp)⟩
    obtain ⟨c1, hc1⟩ : ∃ c, css[1]? = some c := ⟨_, List.getElem?_eq_getElem (by rw [hl]; simp)⟩
    obtain ⟨i1, i2⟩ := ih1 c0 (hc 0 t c0 rfl hc0)
    obtain ⟨j1, j2⟩ := ih2 c1 (hc 1 u c1 rfl hc1)
    have hr0 := hr 0 c0 hc0
    have hr1 := hr 1 c1 hc1
    have ev : evalT row (.mk op k v p [t, u]) = match evalT row t with
        | .error c => .error c
        | .ok a => match evalT row u with
          | .error c => .error c
          | .ok b => reckonT op a b := by rw [evalT, if_neg h1, if_neg h2]
    rw [ev]
    cases e : evalT row t with
    | error c0 =>
      refine ⟨fun v' h => (by cases h), fun code h => ?_⟩
      injection h with h; subst h
      exact Bd.evTwoX h1 h2 rfl hr0 rfl h3 (i2 _ e)
    | ok a =>
      dsimp only
      cases e2 : evalT row u with
      | error c0 =>
        refine ⟨fun v' h => (by cases h), fun code h => ?_⟩
        injection h with h; subst h
        exact Bd.evTwoY h1 h2 rfl hr0 hr1 rfl h3 (i1 _ e) (j2 _ e2)
      | ok b =>
        exact ⟨fun v' h => Bd.evTwo h1 h2 rfl hr0 hr1 rfl h3 (i1 _ e) (j1 _ e2) h, fun code h => Bd.evTwoZ h1 h2 rfl hr0 hr1 rfl h3 (i1 _ e) (j1 _ e2) h⟩
end Go.Proofs.Ytopbkdpbljebgaa
