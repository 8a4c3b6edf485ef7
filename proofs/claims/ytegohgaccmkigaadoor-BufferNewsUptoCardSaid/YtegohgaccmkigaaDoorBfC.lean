/- The package buffer: New, force, victim. Conditions: sizes. -/
import Derived.Test.YtegohgaccmkigaaDoorBfB
set_option linter.unusedSimpArgs false
set_option linter.unusedVariables false
namespace Go.Proofs.YtegohgaccmkigaaDoor
open Go.RowKit

theorem Bf.elemF : ElemOk Tryd.prog 35 79 1 16 := .mk' .nilIface Tryd.underlying35 (by kernel_rfl) rfl (by omega)
theorem Bf.elemFr : ElemOk Tryd.prog 34 81 6 56 := .mk' (.agg #[.int .i64 0, .slice none 0 0, .int .i64 0, .int .i64 0, .bool false, .bool false]) Tryd.underlying34 (by kernel_rfl) rfl (by omega)
abbrev fm0 : Fm := ⟨0, 0, 0, false, false, none, 0, []⟩
/-- A frame without a page. -/
abbrev fm1 : Fm := ⟨-1, 0, 0, false, false, none, 0, []⟩
abbrev lgR (pl : Option Addr) (nl cl : Nat) (ls : List Value) : Assn := row (.slice pl nl cl) 79 1 nl ls

set_option maxHeartbeats 1000000 in
set_option maxRecDepth 100000 in
theorem Bf.clone (B : Base) (S : List Assn) (v : Value) (ls : List Value) (m : Nat) (hm : ls.length = m) (hv : RdV B S v ls) (h1 : ∀ x ∈ ls, x.oneCell' = true) (hb : m < 2 ^ 20) : Fn Tryd.prog B 32 #[v] S (fun u l => ∃ p c, u = .slice p m c ∧ l = lgR p m c ls :: S) := by
  subst hm
  obtain ⟨a, c, rfl⟩ := hv.form (m := ls.length) rfl
  refine Fn.enter1 8 Tryd.func32 rfl rfl (Nat.le_of_ble_eq_true rfl) (fun F => ?_)
  try simp only [List.cons_append, List.nil_append]
  refine T.seq ?_
  refine T.region ?_
  refine LW.q rfl (Qt.assign rfl) ?_
  refine LW.done ?_
  refine T.seq ?_
  refine T.seq ?_
  refine T.region ?_
  refine LW.q rfl (Qt.move rfl) ?_
  refine LW.q rfl (Qt.eqlSl (by kernel_rfl) rfl rfl) ?_
  refine LW.done ?_
  refine T.cond rfl (fun h => ?_) (fun h => ?_)
  · skip
    have hb0 : ls = [] := by rcases Nat.eq_zero_or_pos ls.length with h0 | h0; exact List.eq_nil_of_length_eq_zero h0; obtain ⟨g, o, rfl, _⟩ := hv.at h0; cases h
    subst hb0
    refine T.conv (l' := lgR none ([] : List Value).length 0 [] :: (S ++ F)) (fun w ho => ho.row_nil _ _) ?_
    refine T.seq ?_
    refine T.region ?_
    refine LW.q rfl (Qt.assign rfl) ?_
    refine LW.done ?_
    refine T.ret ?_
    exact ⟨.inl rfl, _, _, res [_] rfl ⟨rvT rfl, trivial⟩, ⟨none, 0, rfl, rfl⟩, Sub.any⟩
  · skip
    refine T.skip ?_
    refine T.seq ?_
    refine T.region ?_
    refine LW.e rfl (Ef.empty Bf.elemF ?_)
    rintro g5
    try simp only [List.cons_append, List.nil_append]
    refine LW.q rfl (Qt.move rfl) ?_
    refine LW.e rfl (Ef.append Bf.elemF rfl rfl (SrcOf.rd (m := ls.length) (hv.mono (fun w ho => ho.tl.drop)) (by kernel_rfl) rfl h1) (by unfold maxLen; omega) (by omega) ?_)
    rintro p1 c1 hp1
    try simp only [List.cons_append, List.nil_append]
    simp only [Nat.zero_add, List.nil_append]
    refine LW.q rfl (Qt.assign rfl) ?_
    refine LW.done ?_
    refine T.ret ?_
    exact ⟨.inl rfl, _, _, res [_] rfl ⟨rvT rfl, trivial⟩, ⟨_, _, rfl, rfl⟩, Sub.any⟩

abbrev fmZ : Value := .agg #[.int .i64 0, .slice none 0 0, .int .i64 0, .int .i64 0, .bool false, .bool false]
theorem made_frames (n : Nat) : (madeCells fmZ.cells (n * 6)).toList = (List.replicate n fm0).flatMap fmC := by
  have hl : ((List.replicate n fm0).flatMap fmC).length = n * 6 := by rw [fm_len, List.length_replicate]
  have hz : fmZ.cells = (fmC fm0).toArray := rfl
  rw [hz]
  apply List.ext_getElem
  · rw [hl]; simp [madeCells]
  · intro i h1 h2
    have h2' := h2
    rw [hl] at h2'
    have h3 := fm_at (Fs := List.replicate n fm0) (i := i / 6) (x := fm0) (by rw [List.getElem?_replicate, if_pos (by omega)]) (i % 6) (Nat.mod_lt _ (by omega))
    rw [show 0 + i / 6 * 6 + i % 6 = i by omega, List.getElem?_eq_getElem h2] at h3
    have h6 : i % 6 < (fmC fm0).length := Nat.mod_lt _ (by show 0 < 6; omega)
    rw [List.getElem?_eq_getElem h6] at h3
    rw [Option.some.inj h3]
    simp [madeCells]
    rw [List.getElem?_eq_getElem h6]
    rfl
theorem fm_rep (k n : Nat) (h : k < n) : (List.replicate k fm1 ++ List.replicate (n - k) fm0).set k fm1 = List.replicate (k + 1) fm1 ++ List.replicate (n - (k + 1)) fm0 := by
  rw [List.set_append_right _ _ (by simp), List.length_replicate, Nat.sub_self, show n - k = (n - (k + 1)) + 1 by omega, List.replicate_succ, List.set_cons_zero, List.replicate_succ' (n := k), List.append_assoc]
  rfl

set_option maxHeartbeats 1000000 in
set_option maxRecDepth 100000 in
theorem Bf.new_no (B : Base) (b : Nat) (D : DD) (first count frames : Int) (lv : Value) (hs : D.secs.length ≤ 4096) (hf : -(2 ^ 63) ≤ first ∧ first < 2 ^ 63) (hcn : -(2 ^ 63) ≤ count ∧ count < 2 ^ 63) (h : first < 0 ∨ count < 1 ∨ (D.secs.length : Int) < count ∨ (D.secs.length : Int) - count < first ∨ frames < 1 ∨ 4096 < frames) :
    Fn Tryd.prog B 10 #[.pointer (some ⟨b, 0, none⟩), .int .i64 first, .int .i64 count, .int .i64 frames, lv] [dskA b D] (fun u l => u = .tuple #[.pointer none, .int .i64 1] ∧ l = [dskA b D]) := by
  refine Fn.enter5 73 Tryd.func10 rfl rfl (Nat.le_of_ble_eq_true rfl) (fun F => ?_)
  try simp only [List.cons_append, List.nil_append]
  refine T.seq ?_
  refine T.region ?_
  refine LW.q rfl (Qt.assign rfl) ?_
  refine LW.q rfl (Qt.assign rfl) ?_
  refine LW.done ?_
  refine T.seq ?_
  refine T.seq ?_
  refine T.region ?_
  refine LW.q rfl (Qt.move rfl) ?_
  refine LW.q rfl (Qt.lss rfl rfl) ?_
  refine LW.q rfl (Qt.move rfl) ?_
  refine LW.split (t := 16) rfl (fun h1 => ?_) (fun h1 => ?_)
  · skip
    try replace h1 := of_decide_eq_true h1
    refine LW.s rfl ?_
    refine LW.s rfl ?_
    refine LW.q rfl (Qt.pick rfl rfl) ?_
    refine LW.q rfl (Qt.move rfl) ?_
    first | refine LW.gT (t := 20) rfl rfl ?_ | refine LW.gT (t := 20) rfl (decide_eq_true (by omega)) ?_ | refine LW.gT (t := 20) rfl (by omega) ?_
    refine LW.s rfl ?_
    refine LW.s rfl ?_
    refine LW.s rfl ?_
    refine LW.s rfl ?_
    refine LW.s rfl ?_
    refine LW.s rfl ?_
    refine LW.q rfl (Qt.pick rfl rfl) ?_
    refine LW.q rfl (Qt.move rfl) ?_
    first | refine LW.gT (t := 28) rfl rfl ?_ | refine LW.gT (t := 28) rfl (decide_eq_true (by omega)) ?_ | refine LW.gT (t := 28) rfl (by omega) ?_
    refine LW.s rfl ?_
    refine LW.s rfl ?_
    refine LW.s rfl ?_
    refine LW.s rfl ?_
    refine LW.s rfl ?_
    refine LW.s rfl ?_
    refine LW.s rfl ?_
    refine LW.s rfl ?_
    refine LW.q rfl (Qt.pick rfl rfl) ?_
    refine LW.q rfl (Qt.move rfl) ?_
    first | refine LW.gT (t := 38) rfl rfl ?_ | refine LW.gT (t := 38) rfl (decide_eq_true (by omega)) ?_ | refine LW.gT (t := 38) rfl (by omega) ?_
    refine LW.s rfl ?_
    refine LW.s rfl ?_
    refine LW.q rfl (Qt.pick rfl rfl) ?_
    refine LW.q rfl (Qt.move rfl) ?_
    first | refine LW.gT (t := 42) rfl rfl ?_ | refine LW.gT (t := 42) rfl (decide_eq_true (by omega)) ?_ | refine LW.gT (t := 42) rfl (by omega) ?_
    refine LW.s rfl ?_
    refine LW.s rfl ?_
    refine LW.q rfl (Qt.pick rfl rfl) ?_
    refine LW.done ?_
    first | refine T.condT rfl ?_ | refine T.condPT rfl (by omega) ?_ | refine T.condBT rfl (by omega) ?_
    refine T.seq ?_
    refine T.region ?_
    refine LW.q rfl (Qt.assign rfl) ?_
    refine LW.q rfl (Qt.assign rfl) ?_
    refine LW.done ?_
    refine T.ret ?_
    exact ⟨.inl rfl, _, _, res [_, _] rfl ⟨rvT rfl, rvT rfl, trivial⟩, ⟨rfl, rfl⟩, Sub.any⟩
  · skip
    try replace h1 := of_decide_eq_false h1
    refine LW.q rfl (Qt.move rfl) ?_
    refine LW.q rfl (Qt.lss rfl rfl) ?_
    refine LW.q rfl (Qt.pick rfl rfl) ?_
    refine LW.q rfl (Qt.move rfl) ?_
    refine LW.split (t := 20) rfl (fun h2 => ?_) (fun h2 => ?_)
    · skip
      try replace h2 := of_decide_eq_true h2
      refine LW.s rfl ?_
      refine LW.s rfl ?_
      refine LW.s rfl ?_
      refine LW.s rfl ?_
      refine LW.s rfl ?_
      refine LW.s rfl ?_
      refine LW.q rfl (Qt.pick rfl rfl) ?_
      refine LW.q rfl (Qt.move rfl) ?_
      first | refine LW.gT (t := 28) rfl rfl ?_ | refine LW.gT (t := 28) rfl (decide_eq_true (by omega)) ?_ | refine LW.gT (t := 28) rfl (by omega) ?_
      refine LW.s rfl ?_
      refine LW.s rfl ?_
      refine LW.s rfl ?_
      refine LW.s rfl ?_
      refine LW.s rfl ?_
      refine LW.s rfl ?_
      refine LW.s rfl ?_
      refine LW.s rfl ?_
      refine LW.q rfl (Qt.pick rfl rfl) ?_
      refine LW.q rfl (Qt.move rfl) ?_
      first | refine LW.gT (t := 38) rfl rfl ?_ | refine LW.gT (t := 38) rfl (decide_eq_true (by omega)) ?_ | refine LW.gT (t := 38) rfl (by omega) ?_
      refine LW.s rfl ?_
      refine LW.s rfl ?_
      refine LW.q rfl (Qt.pick rfl rfl) ?_
      refine LW.q rfl (Qt.move rfl) ?_
      first | refine LW.gT (t := 42) rfl rfl ?_ | refine LW.gT (t := 42) rfl (decide_eq_true (by omega)) ?_ | refine LW.gT (t := 42) rfl (by omega) ?_
      refine LW.s rfl ?_
      refine LW.s rfl ?_
      refine LW.q rfl (Qt.pick rfl rfl) ?_
      refine LW.done ?_
      first | refine T.condT rfl ?_ | refine T.condPT rfl (by omega) ?_ | refine T.condBT rfl (by omega) ?_
      refine T.seq ?_
      refine T.region ?_
      refine LW.q rfl (Qt.assign rfl) ?_
      refine LW.q rfl (Qt.assign rfl) ?_
      refine LW.done ?_
      refine T.ret ?_
      exact ⟨.inl rfl, _, _, res [_, _] rfl ⟨rvT rfl, rvT rfl, trivial⟩, ⟨rfl, rfl⟩, Sub.any⟩
    · skip
      try replace h2 := of_decide_eq_false h2
      refine LW.q rfl (Qt.move rfl) ?_
      refine LW.q rfl (Qt.move rfl) ?_
      refine LW.q rfl (Qt.nilCheck rfl) ?_
      refine LW.q rfl (Qt.fieldAddr0 (by kernel_rfl) rfl) ?_
      refine LW.e rfl (Ef.call (Dk.sectorsF B b D) Tryd.func31 rfl rfl rfl ?_)
      rintro _ _ ⟨rfl, rfl⟩
      try simp only [List.cons_append, List.nil_append]
      refine LW.q rfl (Qt.gtr rfl rfl) ?_
      refine LW.q rfl (Qt.pick rfl rfl) ?_
      refine LW.q rfl (Qt.move rfl) ?_
      refine LW.split (t := 28) rfl (fun h3 => ?_) (fun h3 => ?_)
      · skip
        try replace h3 := of_decide_eq_true h3
        refine LW.s rfl ?_
        refine LW.s rfl ?_
        refine LW.s rfl ?_
        refine LW.s rfl ?_
        refine LW.s rfl ?_
        refine LW.s rfl ?_
        refine LW.s rfl ?_
        refine LW.s rfl ?_
        refine LW.q rfl (Qt.pick rfl rfl) ?_
        refine LW.q rfl (Qt.move rfl) ?_
        first | refine LW.gT (t := 38) rfl rfl ?_ | refine LW.gT (t := 38) rfl (decide_eq_true (by omega)) ?_ | refine LW.gT (t := 38) rfl (by omega) ?_
        refine LW.s rfl ?_
        refine LW.s rfl ?_
        refine LW.q rfl (Qt.pick rfl rfl) ?_
        refine LW.q rfl (Qt.move rfl) ?_
        first | refine LW.gT (t := 42) rfl rfl ?_ | refine LW.gT (t := 42) rfl (decide_eq_true (by omega)) ?_ | refine LW.gT (t := 42) rfl (by omega) ?_
        refine LW.s rfl ?_
        refine LW.s rfl ?_
        refine LW.q rfl (Qt.pick rfl rfl) ?_
        refine LW.done ?_
        first | refine T.condT rfl ?_ | refine T.condPT rfl (by omega) ?_ | refine T.condBT rfl (by omega) ?_
        refine T.seq ?_
        refine T.region ?_
        refine LW.q rfl (Qt.assign rfl) ?_
        refine LW.q rfl (Qt.assign rfl) ?_
        refine LW.done ?_
        refine T.ret ?_
        exact ⟨.inl rfl, _, _, res [_, _] rfl ⟨rvT rfl, rvT rfl, trivial⟩, ⟨rfl, rfl⟩, Sub.any⟩
      · skip
        try replace h3 := of_decide_eq_false h3
        refine LW.q rfl (Qt.move rfl) ?_
        refine LW.q rfl (Qt.move rfl) ?_
        refine LW.q rfl (Qt.nilCheck rfl) ?_
        refine LW.q rfl (Qt.fieldAddr0 (by kernel_rfl) rfl) ?_
        refine LW.e rfl (Ef.call (Dk.sectorsF B b D) Tryd.func31 rfl rfl rfl ?_)
        rintro _ _ ⟨rfl, rfl⟩
        try simp only [List.cons_append, List.nil_append]
        refine LW.q rfl (Qt.move rfl) ?_
        refine LW.q rfl (Qt.sub rfl rfl (wr64 (by omega) (by omega))) ?_
        refine LW.q rfl (Qt.gtr rfl rfl) ?_
        refine LW.q rfl (Qt.pick rfl rfl) ?_
        refine LW.q rfl (Qt.move rfl) ?_
        refine LW.split (t := 38) rfl (fun h4 => ?_) (fun h4 => ?_)
        · skip
          try replace h4 := of_decide_eq_true h4
          refine LW.s rfl ?_
          refine LW.s rfl ?_
          refine LW.q rfl (Qt.pick rfl rfl) ?_
          refine LW.q rfl (Qt.move rfl) ?_
          first | refine LW.gT (t := 42) rfl rfl ?_ | refine LW.gT (t := 42) rfl (decide_eq_true (by omega)) ?_ | refine LW.gT (t := 42) rfl (by omega) ?_
          refine LW.s rfl ?_
          refine LW.s rfl ?_
          refine LW.q rfl (Qt.pick rfl rfl) ?_
          refine LW.done ?_
          first | refine T.condT rfl ?_ | refine T.condPT rfl (by omega) ?_ | refine T.condBT rfl (by omega) ?_
          refine T.seq ?_
          refine T.region ?_
          refine LW.q rfl (Qt.assign rfl) ?_
          refine LW.q rfl (Qt.assign rfl) ?_
          refine LW.done ?_
          refine T.ret ?_
          exact ⟨.inl rfl, _, _, res [_, _] rfl ⟨rvT rfl, rvT rfl, trivial⟩, ⟨rfl, rfl⟩, Sub.any⟩
        · skip
          try replace h4 := of_decide_eq_false h4
          refine LW.q rfl (Qt.move rfl) ?_
          refine LW.q rfl (Qt.lss rfl rfl) ?_
          refine LW.q rfl (Qt.pick rfl rfl) ?_
          refine LW.q rfl (Qt.move rfl) ?_
          refine LW.split (t := 42) rfl (fun h5 => ?_) (fun h5 => ?_)
          · skip
            try replace h5 := of_decide_eq_true h5
            refine LW.s rfl ?_
            refine LW.s rfl ?_
            refine LW.q rfl (Qt.pick rfl rfl) ?_
            refine LW.done ?_
            first | refine T.condT rfl ?_ | refine T.condPT rfl (by omega) ?_ | refine T.condBT rfl (by omega) ?_
            refine T.seq ?_
            refine T.region ?_
            refine LW.q rfl (Qt.assign rfl) ?_
            refine LW.q rfl (Qt.assign rfl) ?_
            refine LW.done ?_
            refine T.ret ?_
            exact ⟨.inl rfl, _, _, res [_, _] rfl ⟨rvT rfl, rvT rfl, trivial⟩, ⟨rfl, rfl⟩, Sub.any⟩
          · skip
            try replace h5 := of_decide_eq_false h5
            refine LW.q rfl (Qt.move rfl) ?_
            refine LW.q rfl (Qt.gtr rfl rfl) ?_
            refine LW.q rfl (Qt.pick rfl rfl) ?_
            refine LW.done ?_
            first | refine T.condT rfl ?_ | refine T.condPT rfl (by omega) ?_ | refine T.condBT rfl (by omega) ?_
            refine T.seq ?_
            refine T.region ?_
            refine LW.q rfl (Qt.assign rfl) ?_
            refine LW.q rfl (Qt.assign rfl) ?_
            refine LW.done ?_
            refine T.ret ?_
            exact ⟨.inl rfl, _, _, res [_, _] rfl ⟨rvT rfl, rvT rfl, trivial⟩, ⟨rfl, rfl⟩, Sub.any⟩
set_option maxHeartbeats 4000000 in
set_option maxRecDepth 100000 in
theorem Bf.new (B : Base) (S : List Assn) (b : Nat) (D : DD) (first count n : Nat) (i j k : Int) (hi : i = first) (hj : j = count) (hk : k = n) (lv : Value) (ls : List Value) (hs : D.secs.length ≤ 4096) (h1 : 1 ≤ count) (hD : first + count ≤ D.secs.length) (hn1 : 1 ≤ n) (hn2 : n ≤ 4096) (hv : RdV B S lv ls) (h1' : ∀ x ∈ ls, x.oneCell' = true) (hb : ls.length < 2 ^ 20) :
    Fn Tryd.prog B 10 #[.pointer (some ⟨b, 0, none⟩), .int .i64 i, .int .i64 j, .int .i64 k, lv] (dskA b D :: S) (fun u l => ∃ g gf pl cl, u = .tuple #[.pointer (some ⟨g, 0, none⟩), .int .i64 0] ∧ l = poolB g b gf n first count 0 pl ls.length cl :: fmR gf n (List.replicate n fm1) :: lgR pl ls.length cl ls :: dskA b D :: S) := by
  subst hi; subst hj; subst hk
  refine Fn.enter5 73 Tryd.func10 rfl rfl (Nat.le_of_ble_eq_true rfl) (fun F => ?_)
  try simp only [List.cons_append, List.nil_append]
  refine T.seq ?_
  refine T.region ?_
  refine LW.q rfl (Qt.assign rfl) ?_
  refine LW.q rfl (Qt.assign rfl) ?_
  refine LW.done ?_
  refine T.seq ?_
  refine T.seq ?_
  refine T.region ?_
  refine LW.q rfl (Qt.move rfl) ?_
  refine LW.q rfl (Qt.lss rfl rfl) ?_
  refine LW.q rfl (Qt.move rfl) ?_
  first | refine LW.gF (t := 16) rfl rfl ?_ | refine LW.gF (t := 16) rfl (decide_eq_false (by omega)) ?_ | refine LW.gF (t := 16) rfl (by omega) ?_
  refine LW.q rfl (Qt.move rfl) ?_
  refine LW.q rfl (Qt.lss rfl rfl) ?_
  refine LW.q rfl (Qt.pick rfl rfl) ?_
  refine LW.q rfl (Qt.move rfl) ?_
  first | refine LW.gF (t := 20) rfl rfl ?_ | refine LW.gF (t := 20) rfl (decide_eq_false (by omega)) ?_ | refine LW.gF (t := 20) rfl (by omega) ?_
  refine LW.q rfl (Qt.move rfl) ?_
  refine LW.q rfl (Qt.move rfl) ?_
  refine LW.q rfl (Qt.nilCheck rfl) ?_
  refine LW.q rfl (Qt.fieldAddr0 (by kernel_rfl) rfl) ?_
  refine LW.e rfl (Ef.call (Dk.sectorsF B b D) Tryd.func31 rfl rfl rfl ?_)
  rintro _ _ ⟨rfl, rfl⟩
  try simp only [List.cons_append, List.nil_append]
  refine LW.q rfl (Qt.gtr rfl rfl) ?_
  refine LW.q rfl (Qt.pick rfl rfl) ?_
  refine LW.q rfl (Qt.move rfl) ?_
  first | refine LW.gF (t := 28) rfl rfl ?_ | refine LW.gF (t := 28) rfl (decide_eq_false (by omega)) ?_ | refine LW.gF (t := 28) rfl (by omega) ?_
  refine LW.q rfl (Qt.move rfl) ?_
  refine LW.q rfl (Qt.move rfl) ?_
  refine LW.q rfl (Qt.nilCheck rfl) ?_
  refine LW.q rfl (Qt.fieldAddr0 (by kernel_rfl) rfl) ?_
  refine LW.e rfl (Ef.call (Dk.sectorsF B b D) Tryd.func31 rfl rfl rfl ?_)
  rintro _ _ ⟨rfl, rfl⟩
  try simp only [List.cons_append, List.nil_append]
  refine LW.q rfl (Qt.move rfl) ?_
  refine LW.q rfl (Qt.sub rfl rfl (wr64 (by omega) (by omega))) ?_
  refine LW.q rfl (Qt.gtr rfl rfl) ?_
  refine LW.q rfl (Qt.pick rfl rfl) ?_
  refine LW.q rfl (Qt.move rfl) ?_
  first | refine LW.gF (t := 38) rfl rfl ?_ | refine LW.gF (t := 38) rfl (decide_eq_false (by omega)) ?_ | refine LW.gF (t := 38) rfl (by omega) ?_
  refine LW.q rfl (Qt.move rfl) ?_
  refine LW.q rfl (Qt.lss rfl rfl) ?_
  refine LW.q rfl (Qt.pick rfl rfl) ?_
  refine LW.q rfl (Qt.move rfl) ?_
  first | refine LW.gF (t := 42) rfl rfl ?_ | refine LW.gF (t := 42) rfl (decide_eq_false (by omega)) ?_ | refine LW.gF (t := 42) rfl (by omega) ?_
  refine LW.q rfl (Qt.move rfl) ?_
  refine LW.q rfl (Qt.gtr rfl rfl) ?_
  refine LW.q rfl (Qt.pick rfl rfl) ?_
  refine LW.done ?_
  first | refine T.condF rfl ?_ | refine T.condPF rfl (by omega) ?_ | refine T.condBF rfl (by omega) ?_
  refine T.skip ?_
  refine T.seq ?_
  refine T.drawBl 10 none (by kernel_rfl) (Nat.le_of_ble_eq_true rfl) (by kernel_rfl) ?_
  refine RW.q 0 rfl rfl (by kernel_rfl) Sub.any (Qt.move rfl) ?_
  refine RW.q 1 rfl rfl (by kernel_rfl) Sub.any (Qt.move rfl) ?_
  refine RW.q 2 rfl rfl (by kernel_rfl) Sub.any (Qt.move rfl) ?_
  refine RW.q 3 rfl rfl (by kernel_rfl) Sub.any (Qt.build [(0, 1), (1, 1), (2, 1)] [.pointer none, .int .i64 0, .int .i64 0] [_, _, _] [(0, _), (1, _), (2, _)] (by kernel_rfl) (by unfold zeroB; kernel_rfl) rfl rfl) ?_
  refine RW.q 4 rfl rfl (by kernel_rfl) Sub.any (Qt.move rfl) ?_
  refine RW.q 6 rfl rfl (by kernel_rfl) Sub.any (Qt.move rfl) ?_
  refine RW.all [5, 7] (by kernel_rfl) (List.forall_mem_cons.2 ⟨?_, List.forall_mem_cons.2 ⟨?_, List.forall_mem_nil _⟩⟩)
  · skip
    refine RO.eS rfl rfl (Ef.make n fmZ 56 Bf.elemFr (by kernel_rfl) rfl rfl rfl rfl (by omega) (by unfold maxLen; omega) ?_)
    rintro g51
    try simp only [List.cons_append, List.nil_append]
    rw [made_frames, show List.replicate n fm0 = List.replicate 0 fm1 ++ List.replicate (n - 0) fm0 by simp]
    refine ⟨Sub.any, ?_⟩
    refine RW.one 7 (by kernel_rfl) ?_
    refine RO.eS rfl rfl (Ef.call (Bf.clone B S lv ls ls.length rfl hv h1' hb) Tryd.func32 rfl rfl rfl ?_)
    rintro _ _ ⟨p53, c53, rfl, rfl⟩
    try simp only [List.cons_append, List.nil_append]
    refine ⟨Sub.any, ?_⟩
    refine RW.q 8 rfl rfl (by kernel_rfl) Sub.any (Qt.build [(0, 3), (3, 1), (4, 1), (5, 1)] [.pointer none, .int .i64 0, .int .i64 0, .slice none 0 0, .int .i64 0, .slice none 0 0] [_, _, _, _, _, _] [(0, _), (1, _), (3, _)] (by kernel_rfl) (by unfold zeroB; kernel_rfl) rfl rfl) ?_
    refine RW.one 9 (by kernel_rfl) ?_
    refine RO.eS rfl rfl (Ef.box [_, _, _, _, _, _] rfl rfl ?_)
    intro g55
    refine ⟨Sub.any, ?_⟩
    refine RW.done (by rfl) ?_
    simp only [List.drop_succ_cons, List.drop_zero, List.drop_nil]
    refine LW.q rfl (Qt.assign rfl) ?_
    refine LW.done ?_
    refine T.seq ?_
    refine T.seq ?_
    refine T.region ?_
    refine LW.q rfl (Qt.move rfl) ?_
    refine LW.q rfl (Qt.nilCheck rfl) ?_
    refine LW.q rfl (Qt.fieldAddr (off := 3) (by kernel_rfl) rfl) ?_
    first | refine LW.q rfl (Qt.load (by kernel_rfl) rfl rfl) ?_ | refine LW.q rfl (Qt.load (by kernel_rfl) rfl (map_at _ _ _ (by omega))) ?_ | refine LW.q rfl (Qt.load (by kernel_rfl) rfl (flat_cell0 _ _ _ (by intros; rfl) _ (by omega) (by rfl))) ?_ | refine LW.q rfl (Qt.load (by kernel_rfl) rfl (flat_cell _ _ _ (by intros; rfl) _ _ (by omega) (by rfl))) ?_ | refine LW.q rfl (Qt.load (by kernel_rfl) rfl (bytes_at _ _ (by omega))) ?_
    refine LW.q rfl (Qt.len (e := 81) (sz := 6) (by kernel_rfl) rfl) ?_
    refine LW.q rfl (Qt.move rfl) ?_
    refine LW.done ?_
    refine T.block ?_
    refine T.loop (fun mz fz lz => ∃ (f0 : Fr) (m : Nat), (m ≤ n) ∧ mz = n - m ∧ fz = (upd (upd (upd f0 12 (.pointer (some ⟨g55, 0, none⟩))) 60 (.int .i64 n)) 61 (.int .i64 m)) ∧ lz = poolB g55 b g51 n first count 0 p53 ls.length c53 :: fmR g51 n (List.replicate m fm1 ++ List.replicate (n - m) fm0) :: lgR p53 ls.length c53 ls :: dskA b D :: (S ++ F)) ?_ ?_
    · refine ⟨_, _, ⟨_, 0, Nat.zero_le _, rfl, (updS rfl (updS rfl (updS rfl rfl))), rfl⟩, Sub.any⟩
    · skip
      rintro mz fz lz ⟨f0, m, hm, hmz, rfl, rfl⟩
      subst mz
      try simp only [List.cons_append, List.nil_append]
      refine T.seq ?_
      refine T.region ?_
      refine LW.q rfl (Qt.lss rfl rfl) ?_
      refine LW.done ?_
      refine T.seq ?_
      refine T.condP rfl (fun hlt => ?_) (fun hlt => ?_)
      · skip
        have hfl := fm_len (List.replicate m fm1 ++ List.replicate (n - m) fm0)
        rw [List.length_append, List.length_replicate, List.length_replicate] at hfl
        have hat : (List.replicate m fm1 ++ List.replicate (n - m) fm0)[m]? = some fm0 := by rw [List.getElem?_append_right (by simp), List.length_replicate, Nat.sub_self, List.getElem?_replicate, if_pos (by omega)]
        refine T.skip ?_
        refine T.seq ?_
        refine T.block ?_
        refine T.seq ?_
        refine T.region ?_
        refine LW.q rfl (Qt.move rfl) ?_
        refine LW.q rfl (Qt.assign rfl) ?_
        refine LW.done ?_
        refine T.region ?_
        refine LW.q rfl (Qt.move rfl) ?_
        refine LW.q rfl (Qt.nilCheck rfl) ?_
        refine LW.q rfl (Qt.fieldAddr (off := 3) (by kernel_rfl) rfl) ?_
        first | refine LW.q rfl (Qt.load (by kernel_rfl) rfl rfl) ?_ | refine LW.q rfl (Qt.load (by kernel_rfl) rfl (map_at _ _ _ (by omega))) ?_ | refine LW.q rfl (Qt.load (by kernel_rfl) rfl (flat_cell0 _ _ _ (by intros; rfl) _ (by omega) (by rfl))) ?_ | refine LW.q rfl (Qt.load (by kernel_rfl) rfl (flat_cell _ _ _ (by intros; rfl) _ _ (by omega) (by rfl))) ?_ | refine LW.q rfl (Qt.load (by kernel_rfl) rfl (bytes_at _ _ (by omega))) ?_
        refine LW.q rfl (Qt.move rfl) ?_
        refine LW.q rfl (Qt.index _ (e := 81) (sz := 6) (by kernel_rfl) rfl rfl rfl (by omega)) ?_
        refine LW.q rfl (Qt.fieldAddr0 (by kernel_rfl) rfl) ?_
        refine LW.e0 rfl (Ef.store1 (by kernel_rfl) rfl rfl rfl (by omega) ?_)
        rw [show (0 + m * 6) = 0 + m * 6 + 0 from rfl, fm_set (y := fm1) hat 0 (by omega) _ rfl, fm_rep m n (by omega)]
        refine LW.done ?_
        refine T.region ?_
        refine LW.q rfl (Qt.add rfl rfl (wr64 (by omega) (by omega))) ?_
        refine LW.q rfl (Qt.move rfl) ?_
        refine LW.done ?_
        refine ⟨_, ?_, _, ⟨_, m + 1, by omega, rfl, (updS rfl (updS rfl (updS rfl rfl))), rfl⟩, Sub.any⟩
        first | omega | (simp; omega)
      · skip
        obtain rfl : m = n := by omega
        rw [Nat.sub_self, List.replicate_zero, List.append_nil]
        refine T.exit ?_
        refine T.seq ?_
        refine T.region ?_
        refine LW.q rfl (Qt.move rfl) ?_
        refine LW.q rfl (Qt.assign rfl) ?_
        refine LW.q rfl (Qt.assign rfl) ?_
        refine LW.done ?_
        refine T.ret ?_
        exact ⟨.inl rfl, _, _, res [_, _] rfl ⟨rvT rfl, rvT rfl, trivial⟩, ⟨g55, g51, p53, c53, rfl, rfl⟩, Sub.any⟩
  · skip
    refine RO.eS rfl rfl (Ef.call (Bf.clone B S lv ls ls.length rfl hv h1' hb) Tryd.func32 rfl rfl rfl ?_)
    rintro _ _ ⟨p53, c53, rfl, rfl⟩
    try simp only [List.cons_append, List.nil_append]
    refine ⟨Sub.any, ?_⟩
    refine RW.one 5 (by kernel_rfl) ?_
    refine RO.eS rfl rfl (Ef.make n fmZ 56 Bf.elemFr (by kernel_rfl) rfl rfl rfl rfl (by omega) (by unfold maxLen; omega) ?_)
    rintro g51
    try simp only [List.cons_append, List.nil_append]
    rw [made_frames, show List.replicate n fm0 = List.replicate 0 fm1 ++ List.replicate (n - 0) fm0 by simp]
    refine ⟨Sub.any, ?_⟩
    refine RW.q 8 rfl rfl (by kernel_rfl) Sub.any (Qt.build [(0, 3), (3, 1), (4, 1), (5, 1)] [.pointer none, .int .i64 0, .int .i64 0, .slice none 0 0, .int .i64 0, .slice none 0 0] [_, _, _, _, _, _] [(0, _), (1, _), (3, _)] (by kernel_rfl) (by unfold zeroB; kernel_rfl) rfl rfl) ?_
    refine RW.one 9 (by kernel_rfl) ?_
    refine RO.eS rfl rfl (Ef.box [_, _, _, _, _, _] rfl rfl ?_)
    intro g55
    refine ⟨Sub.any, ?_⟩
    refine RW.done (by rfl) ?_
    simp only [List.drop_succ_cons, List.drop_zero, List.drop_nil]
    refine LW.q rfl (Qt.assign rfl) ?_
    refine LW.done ?_
    refine T.seq ?_
    refine T.seq ?_
    refine T.region ?_
    refine LW.q rfl (Qt.move rfl) ?_
    refine LW.q rfl (Qt.nilCheck rfl) ?_
    refine LW.q rfl (Qt.fieldAddr (off := 3) (by kernel_rfl) rfl) ?_
    first | refine LW.q rfl (Qt.load (by kernel_rfl) rfl rfl) ?_ | refine LW.q rfl (Qt.load (by kernel_rfl) rfl (map_at _ _ _ (by omega))) ?_ | refine LW.q rfl (Qt.load (by kernel_rfl) rfl (flat_cell0 _ _ _ (by intros; rfl) _ (by omega) (by rfl))) ?_ | refine LW.q rfl (Qt.load (by kernel_rfl) rfl (flat_cell _ _ _ (by intros; rfl) _ _ (by omega) (by rfl))) ?_ | refine LW.q rfl (Qt.load (by kernel_rfl) rfl (bytes_at _ _ (by omega))) ?_
    refine LW.q rfl (Qt.len (e := 81) (sz := 6) (by kernel_rfl) rfl) ?_
    refine LW.q rfl (Qt.move rfl) ?_
    refine LW.done ?_
    refine T.block ?_
    refine T.loop (fun mz fz lz => ∃ (f0 : Fr) (m : Nat), (m ≤ n) ∧ mz = n - m ∧ fz = (upd (upd (upd f0 12 (.pointer (some ⟨g55, 0, none⟩))) 60 (.int .i64 n)) 61 (.int .i64 m)) ∧ lz = poolB g55 b g51 n first count 0 p53 ls.length c53 :: fmR g51 n (List.replicate m fm1 ++ List.replicate (n - m) fm0) :: lgR p53 ls.length c53 ls :: dskA b D :: (S ++ F)) ?_ ?_
    · refine ⟨_, _, ⟨_, 0, Nat.zero_le _, rfl, (updS rfl (updS rfl (updS rfl rfl))), rfl⟩, Sub.any⟩
    · skip
      rintro mz fz lz ⟨f0, m, hm, hmz, rfl, rfl⟩
      subst mz
      try simp only [List.cons_append, List.nil_append]
      refine T.seq ?_
      refine T.region ?_
      refine LW.q rfl (Qt.lss rfl rfl) ?_
      refine LW.done ?_
      refine T.seq ?_
      refine T.condP rfl (fun hlt => ?_) (fun hlt => ?_)
      · skip
        have hfl := fm_len (List.replicate m fm1 ++ List.replicate (n - m) fm0)
        rw [List.length_append, List.length_replicate, List.length_replicate] at hfl
        have hat : (List.replicate m fm1 ++ List.replicate (n - m) fm0)[m]? = some fm0 := by rw [List.getElem?_append_right (by simp), List.length_replicate, Nat.sub_self, List.getElem?_replicate, if_pos (by omega)]
        refine T.skip ?_
        refine T.seq ?_
        refine T.block ?_
        refine T.seq ?_
        refine T.region ?_
        refine LW.q rfl (Qt.move rfl) ?_
        refine LW.q rfl (Qt.assign rfl) ?_
        refine LW.done ?_
        refine T.region ?_
        refine LW.q rfl (Qt.move rfl) ?_
        refine LW.q rfl (Qt.nilCheck rfl) ?_
        refine LW.q rfl (Qt.fieldAddr (off := 3) (by kernel_rfl) rfl) ?_
        first | refine LW.q rfl (Qt.load (by kernel_rfl) rfl rfl) ?_ | refine LW.q rfl (Qt.load (by kernel_rfl) rfl (map_at _ _ _ (by omega))) ?_ | refine LW.q rfl (Qt.load (by kernel_rfl) rfl (flat_cell0 _ _ _ (by intros; rfl) _ (by omega) (by rfl))) ?_ | refine LW.q rfl (Qt.load (by kernel_rfl) rfl (flat_cell _ _ _ (by intros; rfl) _ _ (by omega) (by rfl))) ?_ | refine LW.q rfl (Qt.load (by kernel_rfl) rfl (bytes_at _ _ (by omega))) ?_
        refine LW.q rfl (Qt.move rfl) ?_
        refine LW.q rfl (Qt.index _ (e := 81) (sz := 6) (by kernel_rfl) rfl rfl rfl (by omega)) ?_
        refine LW.q rfl (Qt.fieldAddr0 (by kernel_rfl) rfl) ?_
        refine LW.e0 rfl (Ef.store1 (by kernel_rfl) rfl rfl rfl (by omega) ?_)
        rw [show (0 + m * 6) = 0 + m * 6 + 0 from rfl, fm_set (y := fm1) hat 0 (by omega) _ rfl, fm_rep m n (by omega)]
        refine LW.done ?_
        refine T.region ?_
        refine LW.q rfl (Qt.add rfl rfl (wr64 (by omega) (by omega))) ?_
        refine LW.q rfl (Qt.move rfl) ?_
        refine LW.done ?_
        refine ⟨_, ?_, _, ⟨_, m + 1, by omega, rfl, (updS rfl (updS rfl (updS rfl rfl))), rfl⟩, Sub.any⟩
        first | omega | (simp; omega)
      · skip
        obtain rfl : m = n := by omega
        rw [Nat.sub_self, List.replicate_zero, List.append_nil]
        refine T.exit ?_
        refine T.seq ?_
        refine T.region ?_
        refine LW.q rfl (Qt.move rfl) ?_
        refine LW.q rfl (Qt.assign rfl) ?_
        refine LW.q rfl (Qt.assign rfl) ?_
        refine LW.done ?_
        refine T.ret ?_
        exact ⟨.inl rfl, _, _, res [_, _] rfl ⟨rvT rfl, rvT rfl, trivial⟩, ⟨g55, g51, p53, c53, rfl, rfl⟩, Sub.any⟩
end Go.Proofs.YtegohgaccmkigaaDoor
