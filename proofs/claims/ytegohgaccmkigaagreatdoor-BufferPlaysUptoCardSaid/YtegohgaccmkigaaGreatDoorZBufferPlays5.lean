/- The texts BfC BfD BgA BgB BgC, one behind the other: what the law leans on. Conditions: as each theorem says. -/
import Derived.Test.YtegohgaccmkigaaGreatDoorZBufferPlays4
/- The package buffer: New, force, victim. Conditions: sizes. -/
set_option linter.unusedSimpArgs false
set_option linter.unusedVariables false
namespace Go.Proofs.YtegohgaccmkigaaGreatDoor
open Go.RowKit

theorem Bf.elemF : ElemOk Tryz.prog 67 128 1 16 := .mk' .nilIface Tryz.underlying67 (by kernel_rfl) rfl (by omega)
theorem Bf.elemFr : ElemOk Tryz.prog 66 103 6 56 := .mk' (.agg #[.int .i64 0, .slice none 0 0, .int .i64 0, .int .i64 0, .bool false, .bool false]) Tryz.underlying66 (by kernel_rfl) rfl (by omega)
abbrev fm0 : Fm := ⟨0, 0, 0, false, false, none, 0, []⟩
/-- A frame without a page. -/
abbrev fm1 : Fm := ⟨-1, 0, 0, false, false, none, 0, []⟩
abbrev lgR (pl : Option Addr) (nl cl : Nat) (ls : List Value) : Assn := row (.slice pl nl cl) 128 1 nl ls

set_option maxHeartbeats 1000000 in
set_option maxRecDepth 100000 in
theorem Bf.clone (B : Base) (S : List Assn) (v : Value) (ls : List Value) (m : Nat) (hm : ls.length = m) (hv : RdV B S v ls) (h1 : ∀ x ∈ ls, x.oneCell' = true) (hb : m < 2 ^ 20) : Fn Tryz.prog B 48 #[v] S (fun u l => ∃ p c, u = .slice p m c ∧ l = lgR p m c ls :: S) := by
 subst hm
 obtain ⟨a, c, rfl⟩ := hv.form (m := ls.length) rfl
 refine Fn.enter1 8 Tryz.func48 rfl rfl (Nat.le_of_ble_eq_true rfl) (fun F => ?_)
 try simp only [List.cons_append, List.nil_append]
 refine T.seq ?_
 refine T.region ?_
 refine LW.q rfl (Qt.assign rfl) ?_
 refine LW.done ?_
 refine T.seq ?_
 refine T.seq ?_
 refine T.region ?_
 refine LW.q rfl (Qt.move rfl) ?_
 refine LW.q rfl (Qt.eqlSl (by kernel_rfl) rfl rfl) ?_
 refine LW.done ?_
 refine T.cond rfl (fun h => ?_) (fun h => ?_)
 ·
  have hb0 : ls = [] := by rcases Nat.eq_zero_or_pos ls.length with h0 | h0; exact List.eq_nil_of_length_eq_zero h0; obtain ⟨g, o, rfl, _⟩ := hv.at h0; cases h
  subst hb0
  refine T.conv (l' := lgR none ([] : List Value).length 0 [] :: (S ++ F)) (fun w ho => ho.row_nil _ _) ?_
  refine T.seq ?_
  refine T.region ?_
  refine LW.q rfl (Qt.assign rfl) ?_
  refine LW.done ?_
  refine T.ret ?_
  exact ⟨.inl rfl, _, _, res [_] rfl ⟨rvT rfl, trivial⟩, ⟨none, 0, rfl, rfl⟩, Sub.any⟩
 ·
  refine T.skip ?_
  refine T.seq ?_
  refine T.region ?_
  refine LW.e rfl (Ef.empty Bf.elemF ?_)
  rintro g5
  try simp only [List.cons_append, List.nil_append]
  refine LW.q rfl (Qt.move rfl) ?_
  refine LW.e rfl (Ef.append Bf.elemF rfl rfl (SrcOf.rd (m := ls.length) (hv.mono (fun w ho => ho.tl.drop)) (by kernel_rfl) rfl h1) (by unfold maxLen; omega) (by omega) ?_)
  rintro p1 c1 hp1
  try simp only [List.cons_append, List.nil_append]
  simp only [Nat.zero_add, List.nil_append]
  refine LW.q rfl (Qt.assign rfl) ?_
  refine LW.done ?_
  refine T.ret ?_
  exact ⟨.inl rfl, _, _, res [_] rfl ⟨rvT rfl, trivial⟩, ⟨_, _, rfl, rfl⟩, Sub.any⟩

abbrev fmZ : Value := .agg #[.int .i64 0, .slice none 0 0, .int .i64 0, .int .i64 0, .bool false, .bool false]
theorem made_frames (n : Nat) : (madeCells fmZ.cells (n * 6)).toList = (List.replicate n fm0).flatMap fmC := by
  have hl : ((List.replicate n fm0).flatMap fmC).length = n * 6 := by rw [fm_len, List.length_replicate]
  have hz : fmZ.cells = (fmC fm0).toArray := rfl
  rw [hz]
  apply List.ext_getElem
  · rw [hl]; simp [madeCells]
  · intro i h1 h2
    have h2' := h2
    rw [hl] at h2'
    have h3 := fm_at (Fs := List.replicate n fm0) (i := i / 6) (x := fm0) (by rw [List.getElem?_replicate, if_pos (by omega)]) (i % 6) (Nat.mod_lt _ (by omega))
    rw [show 0 + i / 6 * 6 + i % 6 = i by omega, List.getElem?_eq_getElem h2] at h3
    have h6 : i % 6 < (fmC fm0).length := Nat.mod_lt _ (by show 0 < 6; omega)
    rw [List.getElem?_eq_getElem h6] at h3
    rw [Option.some.inj h3]
    simp [madeCells]
    rw [List.getElem?_eq_getElem h6]
    rfl
theorem fm_rep (k n : Nat) (h : k < n) : (List.replicate k fm1 ++ List.replicate (n - k) fm0).set k fm1 = List.replicate (k + 1) fm1 ++ List.replicate (n - (k + 1)) fm0 := by
  rw [List.set_append_right _ _ (by simp), List.length_replicate, Nat.sub_self, show n - k = (n - (k + 1)) + 1 by omega, List.replicate_succ, List.set_cons_zero, List.replicate_succ' (n := k), List.append_assoc]
  rfl

set_option maxHeartbeats 1000000 in
set_option maxRecDepth 100000 in
theorem Bf.new_no (B : Base) (b : Nat) (D : DD) (first count frames : Int) (lv : Value) (hs : D.secs.length ≤ 4096) (hf : -(2 ^ 63) ≤ first ∧ first < 2 ^ 63) (hcn : -(2 ^ 63) ≤ count ∧ count < 2 ^ 63) (h : first < 0 ∨ count < 1 ∨ (D.secs.length : Int) < count ∨ (D.secs.length : Int) - count < first ∨ frames < 1 ∨ 4096 < frames) :
  Fn Tryz.prog B 21 #[.pointer (some ⟨b, 0, none⟩), .int .i64 first, .int .i64 count, .int .i64 frames, lv] [dskA b D] (fun u l => u = .tuple #[.pointer none, .int .i64 1] ∧ l = [dskA b D]) := by
 refine Fn.enter5 73 Tryz.func21 rfl rfl (Nat.le_of_ble_eq_true rfl) (fun F => ?_)
 try simp only [List.cons_append, List.nil_append]
 refine T.seq ?_
 refine T.region ?_
 refine LW.q rfl (Qt.assign rfl) ?_
 refine LW.q rfl (Qt.assign rfl) ?_
 refine LW.done ?_
 refine T.seq ?_
 refine T.seq ?_
 refine T.region ?_
 refine LW.q rfl (Qt.move rfl) ?_
 refine LW.q rfl (Qt.lss rfl rfl) ?_
 refine LW.q rfl (Qt.move rfl) ?_
 refine LW.split (t := 16) rfl (fun h1 => ?_) (fun h1 => ?_)
 ·
  try replace h1 := of_decide_eq_true h1
  refine LW.s rfl ?_
  refine LW.s rfl ?_
  refine LW.q rfl (Qt.pick rfl rfl) ?_
  refine LW.q rfl (Qt.move rfl) ?_
  first | refine LW.gT (t := 20) rfl rfl ?_ | refine LW.gT (t := 20) rfl (decide_eq_true (by omega)) ?_ | refine LW.gT (t := 20) rfl (by omega) ?_
  refine LW.s rfl ?_
  refine LW.s rfl ?_
  refine LW.s rfl ?_
  refine LW.s rfl ?_
  refine LW.s rfl ?_
  refine LW.s rfl ?_
  refine LW.q rfl (Qt.pick rfl rfl) ?_
  refine LW.q rfl (Qt.move rfl) ?_
  first | refine LW.gT (t := 28) rfl rfl ?_ | refine LW.gT (t := 28) rfl (decide_eq_true (by omega)) ?_ | refine LW.gT (t := 28) rfl (by omega) ?_
  refine LW.s rfl ?_
  refine LW.s rfl ?_
  refine LW.s rfl ?_
  refine LW.s rfl ?_
  refine LW.s rfl ?_
  refine LW.s rfl ?_
  refine LW.s rfl ?_
  refine LW.s rfl ?_
  refine LW.q rfl (Qt.pick rfl rfl) ?_
  refine LW.q rfl (Qt.move rfl) ?_
  first | refine LW.gT (t := 38) rfl rfl ?_ | refine LW.gT (t := 38) rfl (decide_eq_true (by omega)) ?_ | refine LW.gT (t := 38) rfl (by omega) ?_
  refine LW.s rfl ?_
  refine LW.s rfl ?_
  refine LW.q rfl (Qt.pick rfl rfl) ?_
  refine LW.q rfl (Qt.move rfl) ?_
  first | refine LW.gT (t := 42) rfl rfl ?_ | refine LW.gT (t := 42) rfl (decide_eq_true (by omega)) ?_ | refine LW.gT (t := 42) rfl (by omega) ?_
  refine LW.s rfl ?_
  refine LW.s rfl ?_
  refine LW.q rfl (Qt.pick rfl rfl) ?_
  refine LW.done ?_
  first | refine T.condT rfl ?_ | refine T.condPT rfl (by omega) ?_ | refine T.condBT rfl (by omega) ?_
  refine T.seq ?_
  refine T.region ?_
  refine LW.q rfl (Qt.assign rfl) ?_
  refine LW.q rfl (Qt.assign rfl) ?_
  refine LW.done ?_
  refine T.ret ?_
  exact ⟨.inl rfl, _, _, res [_, _] rfl ⟨rvT rfl, rvT rfl, trivial⟩, ⟨rfl, rfl⟩, Sub.any⟩
 ·
  try replace h1 := of_decide_eq_false h1
  refine LW.q rfl (Qt.move rfl) ?_
  refine LW.q rfl (Qt.lss rfl rfl) ?_
  refine LW.q rfl (Qt.pick rfl rfl) ?_
  refine LW.q rfl (Qt.move rfl) ?_
  refine LW.split (t := 20) rfl (fun h2 => ?_) (fun h2 => ?_)
  ·
   try replace h2 := of_decide_eq_true h2
   refine LW.s rfl ?_
   refine LW.s rfl ?_
   refine LW.s rfl ?_
   refine LW.s rfl ?_
   refine LW.s rfl ?_
   refine LW.s rfl ?_
   refine LW.q rfl (Qt.pick rfl rfl) ?_
   refine LW.q rfl (Qt.move rfl) ?_
   first | refine LW.gT (t := 28) rfl rfl ?_ | refine LW.gT (t := 28) rfl (decide_eq_true (by omega)) ?_ | refine LW.gT (t := 28) rfl (by omega) ?_
   refine LW.s rfl ?_
   refine LW.s rfl ?_
   refine LW.s rfl ?_
   refine LW.s rfl ?_
   refine LW.s rfl ?_
   refine LW.s rfl ?_
   refine LW.s rfl ?_
   refine LW.s rfl ?_
   refine LW.q rfl (Qt.pick rfl rfl) ?_
   refine LW.q rfl (Qt.move rfl) ?_
   first | refine LW.gT (t := 38) rfl rfl ?_ | refine LW.gT (t := 38) rfl (decide_eq_true (by omega)) ?_ | refine LW.gT (t := 38) rfl (by omega) ?_
   refine LW.s rfl ?_
   refine LW.s rfl ?_
   refine LW.q rfl (Qt.pick rfl rfl) ?_
   refine LW.q rfl (Qt.move rfl) ?_
   first | refine LW.gT (t := 42) rfl rfl ?_ | refine LW.gT (t := 42) rfl (decide_eq_true (by omega)) ?_ | refine LW.gT (t := 42) rfl (by omega) ?_
   refine LW.s rfl ?_
   refine LW.s rfl ?_
   refine LW.q rfl (Qt.pick rfl rfl) ?_
   refine LW.done ?_
   first | refine T.condT rfl ?_ | refine T.condPT rfl (by omega) ?_ | refine T.condBT rfl (by omega) ?_
   refine T.seq ?_
   refine T.region ?_
   refine LW.q rfl (Qt.assign rfl) ?_
   refine LW.q rfl (Qt.assign rfl) ?_
   refine LW.done ?_
   refine T.ret ?_
   exact ⟨.inl rfl, _, _, res [_, _] rfl ⟨rvT rfl, rvT rfl, trivial⟩, ⟨rfl, rfl⟩, Sub.any⟩
  ·
   try replace h2 := of_decide_eq_false h2
   refine LW.q rfl (Qt.move rfl) ?_
   refine LW.q rfl (Qt.move rfl) ?_
   refine LW.q rfl (Qt.nilCheck rfl) ?_
   refine LW.q rfl (Qt.fieldAddr0 (by kernel_rfl) rfl) ?_
   refine LW.e rfl (Ef.call (Dk.sectorsF B b D) Tryz.func44 rfl rfl rfl ?_)
   rintro _ _ ⟨rfl, rfl⟩
   try simp only [List.cons_append, List.nil_append]
   refine LW.q rfl (Qt.gtr rfl rfl) ?_
   refine LW.q rfl (Qt.pick rfl rfl) ?_
   refine LW.q rfl (Qt.move rfl) ?_
   refine LW.split (t := 28) rfl (fun h3 => ?_) (fun h3 => ?_)
   ·
    try replace h3 := of_decide_eq_true h3
    refine LW.s rfl ?_
    refine LW.s rfl ?_
    refine LW.s rfl ?_
    refine LW.s rfl ?_
    refine LW.s rfl ?_
    refine LW.s rfl ?_
    refine LW.s rfl ?_
    refine LW.s rfl ?_
    refine LW.q rfl (Qt.pick rfl rfl) ?_
    refine LW.q rfl (Qt.move rfl) ?_
    first | refine LW.gT (t := 38) rfl rfl ?_ | refine LW.gT (t := 38) rfl (decide_eq_true (by omega)) ?_ | refine LW.gT (t := 38) rfl (by omega) ?_
    refine LW.s rfl ?_
    refine LW.s rfl ?_
    refine LW.q rfl (Qt.pick rfl rfl) ?_
    refine LW.q rfl (Qt.move rfl) ?_
    first | refine LW.gT (t := 42) rfl rfl ?_ | refine LW.gT (t := 42) rfl (decide_eq_true (by omega)) ?_ | refine LW.gT (t := 42) rfl (by omega) ?_
    refine LW.s rfl ?_
    refine LW.s rfl ?_
    refine LW.q rfl (Qt.pick rfl rfl) ?_
    refine LW.done ?_
    first | refine T.condT rfl ?_ | refine T.condPT rfl (by omega) ?_ | refine T.condBT rfl (by omega) ?_
    refine T.seq ?_
    refine T.region ?_
    refine LW.q rfl (Qt.assign rfl) ?_
    refine LW.q rfl (Qt.assign rfl) ?_
    refine LW.done ?_
    refine T.ret ?_
    exact ⟨.inl rfl, _, _, res [_, _] rfl ⟨rvT rfl, rvT rfl, trivial⟩, ⟨rfl, rfl⟩, Sub.any⟩
   ·
    try replace h3 := of_decide_eq_false h3
    refine LW.q rfl (Qt.move rfl) ?_
    refine LW.q rfl (Qt.move rfl) ?_
    refine LW.q rfl (Qt.nilCheck rfl) ?_
    refine LW.q rfl (Qt.fieldAddr0 (by kernel_rfl) rfl) ?_
    refine LW.e rfl (Ef.call (Dk.sectorsF B b D) Tryz.func44 rfl rfl rfl ?_)
    rintro _ _ ⟨rfl, rfl⟩
    try simp only [List.cons_append, List.nil_append]
    refine LW.q rfl (Qt.move rfl) ?_
    refine LW.q rfl (Qt.sub rfl rfl (wr64 (by omega) (by omega))) ?_
    refine LW.q rfl (Qt.gtr rfl rfl) ?_
    refine LW.q rfl (Qt.pick rfl rfl) ?_
    refine LW.q rfl (Qt.move rfl) ?_
    refine LW.split (t := 38) rfl (fun h4 => ?_) (fun h4 => ?_)
    ·
     try replace h4 := of_decide_eq_true h4
     refine LW.s rfl ?_
     refine LW.s rfl ?_
     refine LW.q rfl (Qt.pick rfl rfl) ?_
     refine LW.q rfl (Qt.move rfl) ?_
     first | refine LW.gT (t := 42) rfl rfl ?_ | refine LW.gT (t := 42) rfl (decide_eq_true (by omega)) ?_ | refine LW.gT (t := 42) rfl (by omega) ?_
     refine LW.s rfl ?_
     refine LW.s rfl ?_
     refine LW.q rfl (Qt.pick rfl rfl) ?_
     refine LW.done ?_
     first | refine T.condT rfl ?_ | refine T.condPT rfl (by omega) ?_ | refine T.condBT rfl (by omega) ?_
     refine T.seq ?_
     refine T.region ?_
     refine LW.q rfl (Qt.assign rfl) ?_
     refine LW.q rfl (Qt.assign rfl) ?_
     refine LW.done ?_
     refine T.ret ?_
     exact ⟨.inl rfl, _, _, res [_, _] rfl ⟨rvT rfl, rvT rfl, trivial⟩, ⟨rfl, rfl⟩, Sub.any⟩
    ·
     try replace h4 := of_decide_eq_false h4
     refine LW.q rfl (Qt.move rfl) ?_
     refine LW.q rfl (Qt.lss rfl rfl) ?_
     refine LW.q rfl (Qt.pick rfl rfl) ?_
     refine LW.q rfl (Qt.move rfl) ?_
     refine LW.split (t := 42) rfl (fun h5 => ?_) (fun h5 => ?_)
     ·
      try replace h5 := of_decide_eq_true h5
      refine LW.s rfl ?_
      refine LW.s rfl ?_
      refine LW.q rfl (Qt.pick rfl rfl) ?_
      refine LW.done ?_
      first | refine T.condT rfl ?_ | refine T.condPT rfl (by omega) ?_ | refine T.condBT rfl (by omega) ?_
      refine T.seq ?_
      refine T.region ?_
      refine LW.q rfl (Qt.assign rfl) ?_
      refine LW.q rfl (Qt.assign rfl) ?_
      refine LW.done ?_
      refine T.ret ?_
      exact ⟨.inl rfl, _, _, res [_, _] rfl ⟨rvT rfl, rvT rfl, trivial⟩, ⟨rfl, rfl⟩, Sub.any⟩
     ·
      try replace h5 := of_decide_eq_false h5
      refine LW.q rfl (Qt.move rfl) ?_
      refine LW.q rfl (Qt.gtr rfl rfl) ?_
      refine LW.q rfl (Qt.pick rfl rfl) ?_
      refine LW.done ?_
      first | refine T.condT rfl ?_ | refine T.condPT rfl (by omega) ?_ | refine T.condBT rfl (by omega) ?_
      refine T.seq ?_
      refine T.region ?_
      refine LW.q rfl (Qt.assign rfl) ?_
      refine LW.q rfl (Qt.assign rfl) ?_
      refine LW.done ?_
      refine T.ret ?_
      exact ⟨.inl rfl, _, _, res [_, _] rfl ⟨rvT rfl, rvT rfl, trivial⟩, ⟨rfl, rfl⟩, Sub.any⟩
set_option maxHeartbeats 4000000 in
set_option maxRecDepth 100000 in
theorem Bf.new (B : Base) (S : List Assn) (b : Nat) (D : DD) (first count n : Nat) (i j k : Int) (hi : i = first) (hj : j = count) (hk : k = n) (lv : Value) (ls : List Value) (hs : D.secs.length ≤ 4096) (h1 : 1 ≤ count) (hD : first + count ≤ D.secs.length) (hn1 : 1 ≤ n) (hn2 : n ≤ 4096) (hv : RdV B S lv ls) (h1' : ∀ x ∈ ls, x.oneCell' = true) (hb : ls.length < 2 ^ 20) :
  Fn Tryz.prog B 21 #[.pointer (some ⟨b, 0, none⟩), .int .i64 i, .int .i64 j, .int .i64 k, lv] (dskA b D :: S) (fun u l => ∃ g gf pl cl, u = .tuple #[.pointer (some ⟨g, 0, none⟩), .int .i64 0] ∧ l = poolB g b gf n first count 0 pl ls.length cl :: fmR gf n (List.replicate n fm1) :: lgR pl ls.length cl ls :: dskA b D :: S) := by
 subst hi; subst hj; subst hk
 refine Fn.enter5 73 Tryz.func21 rfl rfl (Nat.le_of_ble_eq_true rfl) (fun F => ?_)
 try simp only [List.cons_append, List.nil_append]
 refine T.seq ?_
 refine T.region ?_
 refine LW.q rfl (Qt.assign rfl) ?_
 refine LW.q rfl (Qt.assign rfl) ?_
 refine LW.done ?_
 refine T.seq ?_
 refine T.seq ?_
 refine T.region ?_
 refine LW.q rfl (Qt.move rfl) ?_
 refine LW.q rfl (Qt.lss rfl rfl) ?_
 refine LW.q rfl (Qt.move rfl) ?_
 first | refine LW.gF (t := 16) rfl rfl ?_ | refine LW.gF (t := 16) rfl (decide_eq_false (by omega)) ?_ | refine LW.gF (t := 16) rfl (by omega) ?_
 refine LW.q rfl (Qt.move rfl) ?_
 refine LW.q rfl (Qt.lss rfl rfl) ?_
 refine LW.q rfl (Qt.pick rfl rfl) ?_
 refine LW.q rfl (Qt.move rfl) ?_
 first | refine LW.gF (t := 20) rfl rfl ?_ | refine LW.gF (t := 20) rfl (decide_eq_false (by omega)) ?_ | refine LW.gF (t := 20) rfl (by omega) ?_
 refine LW.q rfl (Qt.move rfl) ?_
 refine LW.q rfl (Qt.move rfl) ?_
 refine LW.q rfl (Qt.nilCheck rfl) ?_
 refine LW.q rfl (Qt.fieldAddr0 (by kernel_rfl) rfl) ?_
 refine LW.e rfl (Ef.call (Dk.sectorsF B b D) Tryz.func44 rfl rfl rfl ?_)
 rintro _ _ ⟨rfl, rfl⟩
 try simp only [List.cons_append, List.nil_append]
 refine LW.q rfl (Qt.gtr rfl rfl) ?_
 refine LW.q rfl (Qt.pick rfl rfl) ?_
 refine LW.q rfl (Qt.move rfl) ?_
 first | refine LW.gF (t := 28) rfl rfl ?_ | refine LW.gF (t := 28) rfl (decide_eq_false (by omega)) ?_ | refine LW.gF (t := 28) rfl (by omega) ?_
 refine LW.q rfl (Qt.move rfl) ?_
 refine LW.q rfl (Qt.move rfl) ?_
 refine LW.q rfl (Qt.nilCheck rfl) ?_
 refine LW.q rfl (Qt.fieldAddr0 (by kernel_rfl) rfl) ?_
 refine LW.e rfl (Ef.call (Dk.sectorsF B b D) Tryz.func44 rfl rfl rfl ?_)
 rintro _ _ ⟨rfl, rfl⟩
 try simp only [List.cons_append, List.nil_append]
 refine LW.q rfl (Qt.move rfl) ?_
 refine LW.q rfl (Qt.sub rfl rfl (wr64 (by omega) (by omega))) ?_
 refine LW.q rfl (Qt.gtr rfl rfl) ?_
 refine LW.q rfl (Qt.pick rfl rfl) ?_
 refine LW.q rfl (Qt.move rfl) ?_
 first | refine LW.gF (t := 38) rfl rfl ?_ | refine LW.gF (t := 38) rfl (decide_eq_false (by omega)) ?_ | refine LW.gF (t := 38) rfl (by omega) ?_
 refine LW.q rfl (Qt.move rfl) ?_
 refine LW.q rfl (Qt.lss rfl rfl) ?_
 refine LW.q rfl (Qt.pick rfl rfl) ?_
 refine LW.q rfl (Qt.move rfl) ?_
 first | refine LW.gF (t := 42) rfl rfl ?_ | refine LW.gF (t := 42) rfl (decide_eq_false (by omega)) ?_ | refine LW.gF (t := 42) rfl (by omega) ?_
 refine LW.q rfl (Qt.move rfl) ?_
 refine LW.q rfl (Qt.gtr rfl rfl) ?_
 refine LW.q rfl (Qt.pick rfl rfl) ?_
 refine LW.done ?_
 first | refine T.condF rfl ?_ | refine T.condPF rfl (by omega) ?_ | refine T.condBF rfl (by omega) ?_
 refine T.skip ?_
 refine T.seq ?_
 refine T.drawBl 10 none (by kernel_rfl) (Nat.le_of_ble_eq_true rfl) (by kernel_rfl) ?_
 refine RW.q 0 rfl rfl (by kernel_rfl) Sub.any (Qt.move rfl) ?_
 refine RW.q 1 rfl rfl (by kernel_rfl) Sub.any (Qt.move rfl) ?_
 refine RW.q 2 rfl rfl (by kernel_rfl) Sub.any (Qt.move rfl) ?_
 refine RW.q 3 rfl rfl (by kernel_rfl) Sub.any (Qt.build [(0, 1), (1, 1), (2, 1)] [.pointer none, .int .i64 0, .int .i64 0] [_, _, _] [(0, _), (1, _), (2, _)] (by kernel_rfl) (by unfold zeroB; kernel_rfl) rfl rfl) ?_
 refine RW.q 4 rfl rfl (by kernel_rfl) Sub.any (Qt.move rfl) ?_
 refine RW.q 6 rfl rfl (by kernel_rfl) Sub.any (Qt.move rfl) ?_
 refine RW.all [5, 7] (by kernel_rfl) (List.forall_mem_cons.2 ⟨?_, List.forall_mem_cons.2 ⟨?_, List.forall_mem_nil _⟩⟩)
 ·
  refine RO.eS rfl rfl (Ef.make n fmZ 56 Bf.elemFr (by kernel_rfl) rfl rfl rfl rfl (by omega) (by unfold maxLen; omega) ?_)
  rintro g51
  try simp only [List.cons_append, List.nil_append]
  rw [made_frames, show List.replicate n fm0 = List.replicate 0 fm1 ++ List.replicate (n - 0) fm0 by simp]
  refine ⟨Sub.any, ?_⟩
  refine RW.one 7 (by kernel_rfl) ?_
  refine RO.eS rfl rfl (Ef.call (Bf.clone B S lv ls ls.length rfl hv h1' hb) Tryz.func48 rfl rfl rfl ?_)
  rintro _ _ ⟨p53, c53, rfl, rfl⟩
  try simp only [List.cons_append, List.nil_append]
  refine ⟨Sub.any, ?_⟩
  refine RW.q 8 rfl rfl (by kernel_rfl) Sub.any (Qt.build [(0, 3), (3, 1), (4, 1), (5, 1)] [.pointer none, .int .i64 0, .int .i64 0, .slice none 0 0, .int .i64 0, .slice none 0 0] [_, _, _, _, _, _] [(0, _), (1, _), (3, _)] (by kernel_rfl) (by unfold zeroB; kernel_rfl) rfl rfl) ?_
  refine RW.one 9 (by kernel_rfl) ?_
  refine RO.eS rfl rfl (Ef.box [_, _, _, _, _, _] rfl rfl ?_)
  intro g55
  refine ⟨Sub.any, ?_⟩
  refine RW.done (by rfl) ?_
  simp only [List.drop_succ_cons, List.drop_zero, List.drop_nil]
  refine LW.q rfl (Qt.assign rfl) ?_
  refine LW.done ?_
  refine T.seq ?_
  refine T.seq ?_
  refine T.region ?_
  refine LW.q rfl (Qt.move rfl) ?_
  refine LW.q rfl (Qt.nilCheck rfl) ?_
  refine LW.q rfl (Qt.fieldAddr (off := 3) (by kernel_rfl) rfl) ?_
  first | refine LW.q rfl (Qt.load (by kernel_rfl) rfl rfl) ?_ | refine LW.q rfl (Qt.load (by kernel_rfl) rfl (map_at _ _ _ (by omega))) ?_ | refine LW.q rfl (Qt.load (by kernel_rfl) rfl (flat_cell0 _ _ _ (by intros; rfl) _ (by omega) (by rfl))) ?_ | refine LW.q rfl (Qt.load (by kernel_rfl) rfl (flat_cell _ _ _ (by intros; rfl) _ _ (by omega) (by rfl))) ?_ | refine LW.q rfl (Qt.load (by kernel_rfl) rfl (bytes_at _ _ (by omega))) ?_
  refine LW.q rfl (Qt.len (e := 103) (sz := 6) (by kernel_rfl) rfl) ?_
  refine LW.q rfl (Qt.move rfl) ?_
  refine LW.done ?_
  refine T.block ?_
  refine T.loop (fun mz fz lz => ∃ (f0 : Fr) (m : Nat), (m ≤ n) ∧ mz = n - m ∧ fz = (upd (upd (upd f0 12 (.pointer (some ⟨g55, 0, none⟩))) 60 (.int .i64 n)) 61 (.int .i64 m)) ∧ lz = poolB g55 b g51 n first count 0 p53 ls.length c53 :: fmR g51 n (List.replicate m fm1 ++ List.replicate (n - m) fm0) :: lgR p53 ls.length c53 ls :: dskA b D :: (S ++ F)) ?_ ?_
  · refine ⟨_, _, ⟨_, 0, Nat.zero_le _, rfl, (updS rfl (updS rfl (updS rfl rfl))), rfl⟩, Sub.any⟩
  ·
   rintro mz fz lz ⟨f0, m, hm, hmz, rfl, rfl⟩
   subst mz
   try simp only [List.cons_append, List.nil_append]
   refine T.seq ?_
   refine T.region ?_
   refine LW.q rfl (Qt.lss rfl rfl) ?_
   refine LW.done ?_
   refine T.seq ?_
   refine T.condP rfl (fun hlt => ?_) (fun hlt => ?_)
   ·
    have hfl := fm_len (List.replicate m fm1 ++ List.replicate (n - m) fm0)
    rw [List.length_append, List.length_replicate, List.length_replicate] at hfl
    have hat : (List.replicate m fm1 ++ List.replicate (n - m) fm0)[m]? = some fm0 := by rw [List.getElem?_append_right (by simp), List.length_replicate, Nat.sub_self, List.getElem?_replicate, if_pos (by omega)]
    refine T.skip ?_
    refine T.seq ?_
    refine T.block ?_
    refine T.seq ?_
    refine T.region ?_
    refine LW.q rfl (Qt.move rfl) ?_
    refine LW.q rfl (Qt.assign rfl) ?_
    refine LW.done ?_
    refine T.region ?_
    refine LW.q rfl (Qt.move rfl) ?_
    refine LW.q rfl (Qt.nilCheck rfl) ?_
    refine LW.q rfl (Qt.fieldAddr (off := 3) (by kernel_rfl) rfl) ?_
    first | refine LW.q rfl (Qt.load (by kernel_rfl) rfl rfl) ?_ | refine LW.q rfl (Qt.load (by kernel_rfl) rfl (map_at _ _ _ (by omega))) ?_ | refine LW.q rfl (Qt.load (by kernel_rfl) rfl (flat_cell0 _ _ _ (by intros; rfl) _ (by omega) (by rfl))) ?_ | refine LW.q rfl (Qt.load (by kernel_rfl) rfl (flat_cell _ _ _ (by intros; rfl) _ _ (by omega) (by rfl))) ?_ | refine LW.q rfl (Qt.load (by kernel_rfl) rfl (bytes_at _ _ (by omega))) ?_
    refine LW.q rfl (Qt.move rfl) ?_
    refine LW.q rfl (Qt.index _ (e := 103) (sz := 6) (by kernel_rfl) rfl rfl rfl (by omega)) ?_
    refine LW.q rfl (Qt.fieldAddr0 (by kernel_rfl) rfl) ?_
    refine LW.e0 rfl (Ef.store1 (by kernel_rfl) rfl rfl rfl (by omega) ?_)
    rw [show (0 + m * 6) = 0 + m * 6 + 0 from rfl, fm_set (y := fm1) hat 0 (by omega) _ rfl, fm_rep m n (by omega)]
    refine LW.done ?_
    refine T.region ?_
    refine LW.q rfl (Qt.add rfl rfl (wr64 (by omega) (by omega))) ?_
    refine LW.q rfl (Qt.move rfl) ?_
    refine LW.done ?_
    refine ⟨_, ?_, _, ⟨_, m + 1, by omega, rfl, (updS rfl (updS rfl (updS rfl rfl))), rfl⟩, Sub.any⟩
    first | omega | (simp; omega)
   ·
    obtain rfl : m = n := by omega
    rw [Nat.sub_self, List.replicate_zero, List.append_nil]
    refine T.exit ?_
    refine T.seq ?_
    refine T.region ?_
    refine LW.q rfl (Qt.move rfl) ?_
    refine LW.q rfl (Qt.assign rfl) ?_
    refine LW.q rfl (Qt.assign rfl) ?_
    refine LW.done ?_
    refine T.ret ?_
    exact ⟨.inl rfl, _, _, res [_, _] rfl ⟨rvT rfl, rvT rfl, trivial⟩, ⟨g55, g51, p53, c53, rfl, rfl⟩, Sub.any⟩
 ·
  refine RO.eS rfl rfl (Ef.call (Bf.clone B S lv ls ls.length rfl hv h1' hb) Tryz.func48 rfl rfl rfl ?_)
  rintro _ _ ⟨p53, c53, rfl, rfl⟩
  try simp only [List.cons_append, List.nil_append]
  refine ⟨Sub.any, ?_⟩
  refine RW.one 5 (by kernel_rfl) ?_
  refine RO.eS rfl rfl (Ef.make n fmZ 56 Bf.elemFr (by kernel_rfl) rfl rfl rfl rfl (by omega) (by unfold maxLen; omega) ?_)
  rintro g51
  try simp only [List.cons_append, List.nil_append]
  rw [made_frames, show List.replicate n fm0 = List.replicate 0 fm1 ++ List.replicate (n - 0) fm0 by simp]
  refine ⟨Sub.any, ?_⟩
  refine RW.q 8 rfl rfl (by kernel_rfl) Sub.any (Qt.build [(0, 3), (3, 1), (4, 1), (5, 1)] [.pointer none, .int .i64 0, .int .i64 0, .slice none 0 0, .int .i64 0, .slice none 0 0] [_, _, _, _, _, _] [(0, _), (1, _), (3, _)] (by kernel_rfl) (by unfold zeroB; kernel_rfl) rfl rfl) ?_
  refine RW.one 9 (by kernel_rfl) ?_
  refine RO.eS rfl rfl (Ef.box [_, _, _, _, _, _] rfl rfl ?_)
  intro g55
  refine ⟨Sub.any, ?_⟩
  refine RW.done (by rfl) ?_
  simp only [List.drop_succ_cons, List.drop_zero, List.drop_nil]
  refine LW.q rfl (Qt.assign rfl) ?_
  refine LW.done ?_
  refine T.seq ?_
  refine T.seq ?_
  refine T.region ?_
  refine LW.q rfl (Qt.move rfl) ?_
  refine LW.q rfl (Qt.nilCheck rfl) ?_
  refine LW.q rfl (Qt.fieldAddr (off := 3) (by kernel_rfl) rfl) ?_
  first | refine LW.q rfl (Qt.load (by kernel_rfl) rfl rfl) ?_ | refine LW.q rfl (Qt.load (by kernel_rfl) rfl (map_at _ _ _ (by omega))) ?_ | refine LW.q rfl (Qt.load (by kernel_rfl) rfl (flat_cell0 _ _ _ (by intros; rfl) _ (by omega) (by rfl))) ?_ | refine LW.q rfl (Qt.load (by kernel_rfl) rfl (flat_cell _ _ _ (by intros; rfl) _ _ (by omega) (by rfl))) ?_ | refine LW.q rfl (Qt.load (by kernel_rfl) rfl (bytes_at _ _ (by omega))) ?_
  refine LW.q rfl (Qt.len (e := 103) (sz := 6) (by kernel_rfl) rfl) ?_
  refine LW.q rfl (Qt.move rfl) ?_
  refine LW.done ?_
  refine T.block ?_
  refine T.loop (fun mz fz lz => ∃ (f0 : Fr) (m : Nat), (m ≤ n) ∧ mz = n - m ∧ fz = (upd (upd (upd f0 12 (.pointer (some ⟨g55, 0, none⟩))) 60 (.int .i64 n)) 61 (.int .i64 m)) ∧ lz = poolB g55 b g51 n first count 0 p53 ls.length c53 :: fmR g51 n (List.replicate m fm1 ++ List.replicate (n - m) fm0) :: lgR p53 ls.length c53 ls :: dskA b D :: (S ++ F)) ?_ ?_
  · refine ⟨_, _, ⟨_, 0, Nat.zero_le _, rfl, (updS rfl (updS rfl (updS rfl rfl))), rfl⟩, Sub.any⟩
  ·
   rintro mz fz lz ⟨f0, m, hm, hmz, rfl, rfl⟩
   subst mz
   try simp only [List.cons_append, List.nil_append]
   refine T.seq ?_
   refine T.region ?_
   refine LW.q rfl (Qt.lss rfl rfl) ?_
   refine LW.done ?_
   refine T.seq ?_
   refine T.condP rfl (fun hlt => ?_) (fun hlt => ?_)
   ·
    have hfl := fm_len (List.replicate m fm1 ++ List.replicate (n - m) fm0)
    rw [List.length_append, List.length_replicate, List.length_replicate] at hfl
    have hat : (List.replicate m fm1 ++ List.replicate (n - m) fm0)[m]? = some fm0 := by rw [List.getElem?_append_right (by simp), List.length_replicate, Nat.sub_self, List.getElem?_replicate, if_pos (by omega)]
    refine T.skip ?_
    refine T.seq ?_
    refine T.block ?_
    refine T.seq ?_
    refine T.region ?_
    refine LW.q rfl (Qt.move rfl) ?_
    refine LW.q rfl (Qt.assign rfl) ?_
    refine LW.done ?_
    refine T.region ?_
    refine LW.q rfl (Qt.move rfl) ?_
    refine LW.q rfl (Qt.nilCheck rfl) ?_
    refine LW.q rfl (Qt.fieldAddr (off := 3) (by kernel_rfl) rfl) ?_
    first | refine LW.q rfl (Qt.load (by kernel_rfl) rfl rfl) ?_ | refine LW.q rfl (Qt.load (by kernel_rfl) rfl (map_at _ _ _ (by omega))) ?_ | refine LW.q rfl (Qt.load (by kernel_rfl) rfl (flat_cell0 _ _ _ (by intros; rfl) _ (by omega) (by rfl))) ?_ | refine LW.q rfl (Qt.load (by kernel_rfl) rfl (flat_cell _ _ _ (by intros; rfl) _ _ (by omega) (by rfl))) ?_ | refine LW.q rfl (Qt.load (by kernel_rfl) rfl (bytes_at _ _ (by omega))) ?_
    refine LW.q rfl (Qt.move rfl) ?_
    refine LW.q rfl (Qt.index _ (e := 103) (sz := 6) (by kernel_rfl) rfl rfl rfl (by omega)) ?_
    refine LW.q rfl (Qt.fieldAddr0 (by kernel_rfl) rfl) ?_
    refine LW.e0 rfl (Ef.store1 (by kernel_rfl) rfl rfl rfl (by omega) ?_)
    rw [show (0 + m * 6) = 0 + m * 6 + 0 from rfl, fm_set (y := fm1) hat 0 (by omega) _ rfl, fm_rep m n (by omega)]
    refine LW.done ?_
    refine T.region ?_
    refine LW.q rfl (Qt.add rfl rfl (wr64 (by omega) (by omega))) ?_
    refine LW.q rfl (Qt.move rfl) ?_
    refine LW.done ?_
    refine ⟨_, ?_, _, ⟨_, m + 1, by omega, rfl, (updS rfl (updS rfl (updS rfl rfl))), rfl⟩, Sub.any⟩
    first | omega | (simp; omega)
   ·
    obtain rfl : m = n := by omega
    rw [Nat.sub_self, List.replicate_zero, List.append_nil]
    refine T.exit ?_
    refine T.seq ?_
    refine T.region ?_
    refine LW.q rfl (Qt.move rfl) ?_
    refine LW.q rfl (Qt.assign rfl) ?_
    refine LW.q rfl (Qt.assign rfl) ?_
    refine LW.done ?_
    refine T.ret ?_
    exact ⟨.inl rfl, _, _, res [_, _] rfl ⟨rvT rfl, rvT rfl, trivial⟩, ⟨g55, g51, p53, c53, rfl, rfl⟩, Sub.any⟩
end Go.Proofs.YtegohgaccmkigaaGreatDoor

/- The package buffer: force, victim, Pin, as far as the statements BufferNews and BufferKeeps reach. Conditions: sizes. -/
set_option linter.unusedSimpArgs false
set_option linter.unusedVariables false
namespace Go.Proofs.YtegohgaccmkigaaGreatDoor
open Go.RowKit

set_option maxHeartbeats 1000000 in
set_option maxRecDepth 100000 in
theorem Bf.force1 (B : Base) (g b gf n first count hand : Nat) (pl : Option Addr) (cl : Nat) (gl bl : Nat) (W : Wl) (mark : Int) (hdur : W.dur < 2 ^ 40) (hm : mark ≤ W.dur) :
  Fn Tryz.prog B 57 #[.pointer (some ⟨g, 0, none⟩), .int .i64 mark] [poolB g b gf n first count hand pl 1 cl, lgR pl 1 cl [.iface 52 (.pointer (some ⟨gl, 0, none⟩))], wlA gl bl W] (fun u l => u = .tuple #[] ∧ l = [poolB g b gf n first count hand pl 1 cl, lgR pl 1 cl [.iface 52 (.pointer (some ⟨gl, 0, none⟩))], wlA gl bl W]) := by
 refine Fn.enter2 19 Tryz.func57 rfl rfl (Nat.le_of_ble_eq_true rfl) (fun F => ?_)
 try simp only [List.cons_append, List.nil_append]
 refine T.own (fun w ho => ?_)
 obtain ⟨gp, rfl⟩ : ∃ gp, pl = some ⟨gp, 0, none⟩ := (ho.slice_at (p := pl) (m := 1) (c := cl)).2.1 (by omega)
 clear ho
 refine T.seq ?_
 refine T.region ?_
 refine LW.q rfl (Qt.move rfl) ?_
 refine LW.q rfl (Qt.nilCheck rfl) ?_
 refine LW.q rfl (Qt.fieldAddr (off := 5) (by kernel_rfl) rfl) ?_
 first | refine LW.q rfl (Qt.load (by kernel_rfl) rfl rfl) ?_ | refine LW.q rfl (Qt.load (by kernel_rfl) rfl (map_at _ _ _ (by omega))) ?_ | refine LW.q rfl (Qt.load (by kernel_rfl) rfl (flat_cell0 _ _ _ (by intros; rfl) _ (by omega) (by rfl))) ?_ | refine LW.q rfl (Qt.load (by kernel_rfl) rfl (flat_cell _ _ _ (by intros; rfl) _ _ (by omega) (by rfl))) ?_ | refine LW.q rfl (Qt.load (by kernel_rfl) rfl (bytes_at _ _ (by omega))) ?_
 refine LW.q rfl (Qt.len (e := 128) (sz := 1) (by kernel_rfl) rfl) ?_
 refine LW.q rfl (Qt.move rfl) ?_
 refine LW.done ?_
 refine T.block ?_
 refine T.loop (fun mz fz lz => ∃ (f0 : Fr) (k : Nat), (k ≤ 1) ∧ mz = 1 - k ∧ fz = (upd (upd (upd (upd f0 1 (.int .i64 mark)) 9 (.slice (some ⟨gp, 0, none⟩) 1 cl)) 10 (.int .i64 1)) 11 (.int .i64 k)) ∧ lz = poolB g b gf n first count hand (some ⟨gp, 0, none⟩) 1 cl :: lgR (some ⟨gp, 0, none⟩) 1 cl [.iface 52 (.pointer (some ⟨gl, 0, none⟩))] :: wlA gl bl W :: F) ?_ ?_
 · refine ⟨_, _, ⟨_, 0, Nat.zero_le _, rfl, (updS rfl (updS rfl (updS rfl (updS rfl rfl)))), rfl⟩, Sub.any⟩
 ·
  rintro mz fz lz ⟨f0, k, hk, hmz, rfl, rfl⟩
  subst mz
  try simp only [List.cons_append, List.nil_append]
  refine T.seq ?_
  refine T.region ?_
  refine LW.q rfl (Qt.lss rfl rfl) ?_
  refine LW.done ?_
  refine T.seq ?_
  refine T.condP rfl (fun hlt => ?_) (fun hlt => ?_)
  ·
   obtain rfl : k = 0 := by omega
   refine T.skip ?_
   refine T.seq ?_
   refine T.block ?_
   refine T.seq ?_
   refine T.region ?_
   refine LW.q rfl (Qt.index _ (e := 128) (sz := 1) (by kernel_rfl) rfl rfl rfl (by omega)) ?_
   refine LW.q rfl (Qt.load (v := .iface 52 (.pointer (some ⟨gl, 0, none⟩))) (by kernel_rfl) rfl rfl) ?_
   refine LW.q rfl (Qt.assign rfl) ?_
   refine LW.done ?_
   refine T.region ?_
   refine LW.q rfl (Qt.move rfl) ?_
   refine LW.q rfl (Qt.move rfl) ?_
   refine LW.e rfl (Ef.callI (vs := [.int .i64 mark]) (Wl.forceNo B gl bl W mark hdur hm) Tryz.func121 rfl rfl rfl (fun w => by kernel_rfl) rfl ?_)
   rintro _ _ ⟨rfl, rfl⟩
   try simp only [List.cons_append, List.nil_append]
   refine LW.done ?_
   refine T.region ?_
   refine LW.q rfl (Qt.add rfl rfl (wr64 (by omega) (by omega))) ?_
   refine LW.q rfl (Qt.move rfl) ?_
   refine LW.done ?_
   refine ⟨_, ?_, _, ⟨_, 1, Nat.le_refl _, rfl, (updS rfl (updS rfl (updS rfl (updS rfl rfl)))), rfl⟩, Sub.any⟩
   first | omega | (simp; omega)
  ·
   refine T.exit ?_
   exact ⟨.inr rfl, _, _, res [] rfl trivial, ⟨rfl, rfl⟩, Sub.any⟩

set_option maxHeartbeats 2000000 in
set_option maxRecDepth 100000 in
theorem Bf.victim_free (B : Base) (g b gf n first count hand : Nat) (pl : Option Addr) (nl cl : Nat) (Fs : List Fm) (i : Nat) (x : Fm) (hn : Fs.length = n) (hn2 : n ≤ 4096) (hx : Fs[i]? = some x) (hp : x.page < 0) (hfirst : ∀ (j : Nat), j < i → ∀ y : Fm, Fs[j]? = some y → 0 ≤ y.page) :
  Fn Tryz.prog B 40 #[.pointer (some ⟨g, 0, none⟩)] [poolB g b gf n first count hand pl nl cl, fmR gf n Fs] (fun u l => u = .pointer (some ⟨gf, 0 + i * 6, none⟩) ∧ l = [poolB g b gf n first count hand pl nl cl, fmR gf n Fs]) := by
 have hi : i < n := by rw [← hn]; exact (List.getElem?_eq_some_iff.1 hx).1
 refine Fn.enter1 105 Tryz.func40 rfl rfl (Nat.le_of_ble_eq_true rfl) (fun F => ?_)
 try simp only [List.cons_append, List.nil_append]
 refine T.seq ?_
 refine T.region ?_
 refine LW.q rfl (Qt.assign rfl) ?_
 refine LW.done ?_
 refine T.seq ?_
 refine T.region ?_
 refine LW.q rfl (Qt.assign rfl) ?_
 refine LW.done ?_
 refine T.seq ?_
 refine T.seq ?_
 refine T.region ?_
 refine LW.q rfl (Qt.move rfl) ?_
 refine LW.q rfl (Qt.nilCheck rfl) ?_
 refine LW.q rfl (Qt.fieldAddr (off := 3) (by kernel_rfl) rfl) ?_
 first | refine LW.q rfl (Qt.load (by kernel_rfl) rfl rfl) ?_ | refine LW.q rfl (Qt.load (by kernel_rfl) rfl (map_at _ _ _ (by omega))) ?_ | refine LW.q rfl (Qt.load (by kernel_rfl) rfl (flat_cell0 _ _ _ (by intros; rfl) _ (by omega) (by rfl))) ?_ | refine LW.q rfl (Qt.load (by kernel_rfl) rfl (flat_cell _ _ _ (by intros; rfl) _ _ (by omega) (by rfl))) ?_ | refine LW.q rfl (Qt.load (by kernel_rfl) rfl (bytes_at _ _ (by omega))) ?_
 refine LW.q rfl (Qt.len (e := 103) (sz := 6) (by kernel_rfl) rfl) ?_
 refine LW.q rfl (Qt.move rfl) ?_
 refine LW.done ?_
 refine T.block ?_
 refine T.loop (fun mz fz lz => ∃ (f0 : Fr) (k : Nat) (fb : Bool), (k ≤ i) ∧ mz = n - k ∧ fz = (upd (upd (upd (upd f0 0 (.pointer (some ⟨g, 0, none⟩))) 3 (.bool fb)) 11 (.int .i64 n)) 12 (.int .i64 k)) ∧ lz = poolB g b gf n first count hand pl nl cl :: fmR gf n Fs :: F) ?_ ?_
 · refine ⟨_, _, ⟨_, 0, true, Nat.zero_le _, rfl, (updS rfl (updS rfl (updS rfl (updS rfl rfl)))), rfl⟩, Sub.any⟩
 ·
  rintro mz fz lz ⟨f0, k, fb, hk, hmz, rfl, rfl⟩
  subst mz
  try simp only [List.cons_append, List.nil_append]
  obtain ⟨y, hy⟩ : ∃ y, Fs[k]? = some y := ⟨_, List.getElem?_eq_getElem (by omega)⟩
  refine T.seq ?_
  refine T.region ?_
  refine LW.q rfl (Qt.lss rfl rfl) ?_
  refine LW.done ?_
  refine T.seq ?_
  first | refine T.condT rfl ?_ | refine T.condPT rfl (by omega) ?_ | refine T.condBT rfl (by omega) ?_
  by_cases e : k = i
  ·
   subst e
   obtain rfl : y = x := by rw [hx] at hy; exact (Option.some.inj hy).symm
   refine T.skip ?_
   refine T.seq ?_
   refine T.block ?_
   refine T.seq ?_
   refine T.region ?_
   refine LW.q rfl (Qt.move rfl) ?_
   refine LW.q rfl (Qt.assign rfl) ?_
   refine LW.done ?_
   refine T.seq ?_
   refine T.region ?_
   refine LW.q rfl (Qt.move rfl) ?_
   refine LW.q rfl (Qt.nilCheck rfl) ?_
   refine LW.q rfl (Qt.fieldAddr (off := 3) (by kernel_rfl) rfl) ?_
   first | refine LW.q rfl (Qt.load (by kernel_rfl) rfl rfl) ?_ | refine LW.q rfl (Qt.load (by kernel_rfl) rfl (map_at _ _ _ (by omega))) ?_ | refine LW.q rfl (Qt.load (by kernel_rfl) rfl (flat_cell0 _ _ _ (by intros; rfl) _ (by omega) (by rfl))) ?_ | refine LW.q rfl (Qt.load (by kernel_rfl) rfl (flat_cell _ _ _ (by intros; rfl) _ _ (by omega) (by rfl))) ?_ | refine LW.q rfl (Qt.load (by kernel_rfl) rfl (bytes_at _ _ (by omega))) ?_
   refine LW.q rfl (Qt.move rfl) ?_
   refine LW.q rfl (Qt.index _ (e := 103) (sz := 6) (by kernel_rfl) rfl rfl rfl (by omega)) ?_
   refine LW.q rfl (Qt.assign rfl) ?_
   refine LW.done ?_
   refine T.seq ?_
   refine T.seq ?_
   refine T.region ?_
   refine LW.q rfl (Qt.move rfl) ?_
   refine LW.q rfl (Qt.nilCheck rfl) ?_
   refine LW.q rfl (Qt.fieldAddr0 (by kernel_rfl) rfl) ?_
   refine LW.q rfl (Qt.load (v := .int .i64 y.page) (by kernel_rfl) rfl (fm_at hy 0 (by omega))) ?_
   refine LW.q rfl (Qt.lss rfl rfl) ?_
   refine LW.done ?_
   first | refine T.condT rfl ?_ | refine T.condPT rfl (by omega) ?_ | refine T.condBT rfl (by omega) ?_
   refine T.seq ?_
   refine T.region ?_
   refine LW.q rfl (Qt.move rfl) ?_
   refine LW.q rfl (Qt.assign rfl) ?_
   refine LW.done ?_
   refine T.ret ?_
   exact ⟨.inl rfl, _, _, res [_] rfl ⟨rvT rfl, trivial⟩, ⟨rfl, rfl⟩, Sub.any⟩
  ·
   have hpos := hfirst k (by omega) y hy
   refine T.skip ?_
   refine T.seq ?_
   refine T.block ?_
   refine T.seq ?_
   refine T.region ?_
   refine LW.q rfl (Qt.move rfl) ?_
   refine LW.q rfl (Qt.assign rfl) ?_
   refine LW.done ?_
   refine T.seq ?_
   refine T.region ?_
   refine LW.q rfl (Qt.move rfl) ?_
   refine LW.q rfl (Qt.nilCheck rfl) ?_
   refine LW.q rfl (Qt.fieldAddr (off := 3) (by kernel_rfl) rfl) ?_
   first | refine LW.q rfl (Qt.load (by kernel_rfl) rfl rfl) ?_ | refine LW.q rfl (Qt.load (by kernel_rfl) rfl (map_at _ _ _ (by omega))) ?_ | refine LW.q rfl (Qt.load (by kernel_rfl) rfl (flat_cell0 _ _ _ (by intros; rfl) _ (by omega) (by rfl))) ?_ | refine LW.q rfl (Qt.load (by kernel_rfl) rfl (flat_cell _ _ _ (by intros; rfl) _ _ (by omega) (by rfl))) ?_ | refine LW.q rfl (Qt.load (by kernel_rfl) rfl (bytes_at _ _ (by omega))) ?_
   refine LW.q rfl (Qt.move rfl) ?_
   refine LW.q rfl (Qt.index _ (e := 103) (sz := 6) (by kernel_rfl) rfl rfl rfl (by omega)) ?_
   refine LW.q rfl (Qt.assign rfl) ?_
   refine LW.done ?_
   refine T.seq ?_
   refine T.seq ?_
   refine T.region ?_
   refine LW.q rfl (Qt.move rfl) ?_
   refine LW.q rfl (Qt.nilCheck rfl) ?_
   refine LW.q rfl (Qt.fieldAddr0 (by kernel_rfl) rfl) ?_
   refine LW.q rfl (Qt.load (v := .int .i64 y.page) (by kernel_rfl) rfl (fm_at hy 0 (by omega))) ?_
   refine LW.q rfl (Qt.lss rfl rfl) ?_
   refine LW.done ?_
   first | refine T.condF rfl ?_ | refine T.condPF rfl (by omega) ?_ | refine T.condBF rfl (by omega) ?_
   refine T.skip ?_
   refine T.region ?_
   refine LW.q rfl (Qt.move rfl) ?_
   refine LW.q rfl (Qt.move rfl) ?_
   refine LW.split (t := 28) rfl (fun hfb => ?_) (fun hfb => ?_)
   ·
    try replace hfb := of_decide_eq_true hfb
    refine LW.q rfl (Qt.move rfl) ?_
    refine LW.q rfl (Qt.nilCheck rfl) ?_
    refine LW.q rfl (Qt.fieldAddr (off := 3) (by kernel_rfl) rfl) ?_
    refine LW.q rfl (Qt.load (v := .int .i64 y.pins) (by kernel_rfl) rfl (fm_at hy 3 (by omega))) ?_
    refine LW.q rfl (Qt.gtr rfl rfl) ?_
    refine LW.q rfl (Qt.pick rfl rfl) ?_
    refine LW.q rfl (Qt.assign rfl) ?_
    refine LW.done ?_
    refine T.region ?_
    refine LW.q rfl (Qt.add rfl rfl (wr64 (by omega) (by omega))) ?_
    refine LW.q rfl (Qt.move rfl) ?_
    refine LW.done ?_
    refine ⟨_, ?_, _, ⟨_, k + 1, _, by omega, rfl, (updS rfl (updS rfl (updS rfl (updS rfl rfl)))), rfl⟩, Sub.any⟩
    first | omega | (simp; omega)
   ·
    try replace hfb := of_decide_eq_false hfb
    refine LW.s rfl ?_
    refine LW.s rfl ?_
    refine LW.s rfl ?_
    refine LW.s rfl ?_
    refine LW.s rfl ?_
    refine LW.q rfl (Qt.pick rfl rfl) ?_
    refine LW.q rfl (Qt.assign rfl) ?_
    refine LW.done ?_
    refine T.region ?_
    refine LW.q rfl (Qt.add rfl rfl (wr64 (by omega) (by omega))) ?_
    refine LW.q rfl (Qt.move rfl) ?_
    refine LW.done ?_
    refine ⟨_, ?_, _, ⟨_, k + 1, _, by omega, rfl, (updS rfl (updS rfl (updS rfl (updS rfl rfl)))), rfl⟩, Sub.any⟩
    first | omega | (simp; omega)
set_option maxHeartbeats 2000000 in
set_option maxRecDepth 100000 in
theorem Bf.victim_full (B : Base) (g b gf n first count hand : Nat) (pl : Option Addr) (nl cl : Nat) (Fs : List Fm) (hn : Fs.length = n) (hn2 : n ≤ 4096) (hall : ∀ (j : Nat) (y : Fm), Fs[j]? = some y → 0 ≤ y.page ∧ 0 < y.pins) :
  Fn Tryz.prog B 40 #[.pointer (some ⟨g, 0, none⟩)] [poolB g b gf n first count hand pl nl cl, fmR gf n Fs] (fun u l => u = .pointer none ∧ l = [poolB g b gf n first count hand pl nl cl, fmR gf n Fs]) := by
 refine Fn.enter1 105 Tryz.func40 rfl rfl (Nat.le_of_ble_eq_true rfl) (fun F => ?_)
 try simp only [List.cons_append, List.nil_append]
 refine T.seq ?_
 refine T.region ?_
 refine LW.q rfl (Qt.assign rfl) ?_
 refine LW.done ?_
 refine T.seq ?_
 refine T.region ?_
 refine LW.q rfl (Qt.assign rfl) ?_
 refine LW.done ?_
 refine T.seq ?_
 refine T.seq ?_
 refine T.region ?_
 refine LW.q rfl (Qt.move rfl) ?_
 refine LW.q rfl (Qt.nilCheck rfl) ?_
 refine LW.q rfl (Qt.fieldAddr (off := 3) (by kernel_rfl) rfl) ?_
 first | refine LW.q rfl (Qt.load (by kernel_rfl) rfl rfl) ?_ | refine LW.q rfl (Qt.load (by kernel_rfl) rfl (map_at _ _ _ (by omega))) ?_ | refine LW.q rfl (Qt.load (by kernel_rfl) rfl (flat_cell0 _ _ _ (by intros; rfl) _ (by omega) (by rfl))) ?_ | refine LW.q rfl (Qt.load (by kernel_rfl) rfl (flat_cell _ _ _ (by intros; rfl) _ _ (by omega) (by rfl))) ?_ | refine LW.q rfl (Qt.load (by kernel_rfl) rfl (bytes_at _ _ (by omega))) ?_
 refine LW.q rfl (Qt.len (e := 103) (sz := 6) (by kernel_rfl) rfl) ?_
 refine LW.q rfl (Qt.move rfl) ?_
 refine LW.done ?_
 refine T.block ?_
 refine T.loop (fun mz fz lz => ∃ (f0 : Fr) (k : Nat) (fb : Bool), (k ≤ n ∧ fb = true) ∧ mz = n - k ∧ fz = (upd (upd (upd (upd f0 0 (.pointer (some ⟨g, 0, none⟩))) 3 (.bool fb)) 11 (.int .i64 n)) 12 (.int .i64 k)) ∧ lz = poolB g b gf n first count hand pl nl cl :: fmR gf n Fs :: F) ?_ ?_
 · refine ⟨_, _, ⟨_, 0, true, ⟨Nat.zero_le _, rfl⟩, rfl, (updS rfl (updS rfl (updS rfl (updS rfl rfl)))), rfl⟩, Sub.any⟩
 ·
  rintro mz fz lz ⟨f0, k, fb, ⟨hk, hfb⟩, hmz, rfl, rfl⟩
  subst mz
  try simp only [List.cons_append, List.nil_append]
  subst hfb
  refine T.seq ?_
  refine T.region ?_
  refine LW.q rfl (Qt.lss rfl rfl) ?_
  refine LW.done ?_
  refine T.seq ?_
  refine T.condP rfl (fun hlt => ?_) (fun hlt => ?_)
  ·
   obtain ⟨y, hy⟩ : ∃ y, Fs[k]? = some y := ⟨_, List.getElem?_eq_getElem (by omega)⟩
   obtain ⟨hy1, hy2⟩ := hall k y hy
   refine T.skip ?_
   refine T.seq ?_
   refine T.block ?_
   refine T.seq ?_
   refine T.region ?_
   refine LW.q rfl (Qt.move rfl) ?_
   refine LW.q rfl (Qt.assign rfl) ?_
   refine LW.done ?_
   refine T.seq ?_
   refine T.region ?_
   refine LW.q rfl (Qt.move rfl) ?_
   refine LW.q rfl (Qt.nilCheck rfl) ?_
   refine LW.q rfl (Qt.fieldAddr (off := 3) (by kernel_rfl) rfl) ?_
   first | refine LW.q rfl (Qt.load (by kernel_rfl) rfl rfl) ?_ | refine LW.q rfl (Qt.load (by kernel_rfl) rfl (map_at _ _ _ (by omega))) ?_ | refine LW.q rfl (Qt.load (by kernel_rfl) rfl (flat_cell0 _ _ _ (by intros; rfl) _ (by omega) (by rfl))) ?_ | refine LW.q rfl (Qt.load (by kernel_rfl) rfl (flat_cell _ _ _ (by intros; rfl) _ _ (by omega) (by rfl))) ?_ | refine LW.q rfl (Qt.load (by kernel_rfl) rfl (bytes_at _ _ (by omega))) ?_
   refine LW.q rfl (Qt.move rfl) ?_
   refine LW.q rfl (Qt.index _ (e := 103) (sz := 6) (by kernel_rfl) rfl rfl rfl (by omega)) ?_
   refine LW.q rfl (Qt.assign rfl) ?_
   refine LW.done ?_
   refine T.seq ?_
   refine T.seq ?_
   refine T.region ?_
   refine LW.q rfl (Qt.move rfl) ?_
   refine LW.q rfl (Qt.nilCheck rfl) ?_
   refine LW.q rfl (Qt.fieldAddr0 (by kernel_rfl) rfl) ?_
   refine LW.q rfl (Qt.load (v := .int .i64 y.page) (by kernel_rfl) rfl (fm_at hy 0 (by omega))) ?_
   refine LW.q rfl (Qt.lss rfl rfl) ?_
   refine LW.done ?_
   first | refine T.condF rfl ?_ | refine T.condPF rfl (by omega) ?_ | refine T.condBF rfl (by omega) ?_
   refine T.skip ?_
   refine T.region ?_
   refine LW.q rfl (Qt.move rfl) ?_
   refine LW.q rfl (Qt.move rfl) ?_
   first | refine LW.gT (t := 28) rfl rfl ?_ | refine LW.gT (t := 28) rfl (decide_eq_true (by omega)) ?_ | refine LW.gT (t := 28) rfl (by omega) ?_
   refine LW.q rfl (Qt.move rfl) ?_
   refine LW.q rfl (Qt.nilCheck rfl) ?_
   refine LW.q rfl (Qt.fieldAddr (off := 3) (by kernel_rfl) rfl) ?_
   refine LW.q rfl (Qt.load (v := .int .i64 y.pins) (by kernel_rfl) rfl (fm_at hy 3 (by omega))) ?_
   refine LW.q rfl (Qt.gtr rfl rfl) ?_
   refine LW.q rfl (Qt.pick rfl rfl) ?_
   refine LW.q rfl (Qt.assign rfl) ?_
   refine LW.done ?_
   refine T.region ?_
   refine LW.q rfl (Qt.add rfl rfl (wr64 (by omega) (by omega))) ?_
   refine LW.q rfl (Qt.move rfl) ?_
   refine LW.done ?_
   refine ⟨_, ?_, _, ⟨_, k + 1, _, ⟨by omega, by simpa using hy2⟩, rfl, (updS rfl (updS rfl (updS rfl (updS rfl rfl)))), rfl⟩, Sub.any⟩
   first | omega | (simp; omega)
  ·
   refine T.exit ?_
   refine T.seq ?_
   refine T.seq ?_
   refine T.region ?_
   refine LW.q rfl (Qt.move rfl) ?_
   refine LW.done ?_
   first | refine T.condT rfl ?_ | refine T.condPT rfl (by omega) ?_ | refine T.condBT rfl (by omega) ?_
   refine T.seq ?_
   refine T.region ?_
   refine LW.q rfl (Qt.assign rfl) ?_
   refine LW.done ?_
   refine T.ret ?_
   exact ⟨.inl rfl, _, _, res [_] rfl ⟨rvT rfl, trivial⟩, ⟨rfl, rfl⟩, Sub.any⟩
set_option maxHeartbeats 4000000 in
set_option maxRecDepth 100000 in
theorem Bf.victim_one (B : Base) (g b gf first count : Nat) (pl : Option Addr) (cl : Nat) (x : Fm) (gl : Nat) (W : Wl) (D : DD) (j : Nat) (hj : x.page = j) (hx1 : x.pins = 0) (hx2 : x.used = true) (hx3 : x.dirty = true) (hx4 : x.b.length = 256) (gx : Nat) (hgx : x.p = some ⟨gx, 0, none⟩) (hdur : W.dur < 2 ^ 40) (hm : x.mark ≤ W.dur) (hsec : first + j < D.secs.length) (hmx : D.secs.length ≤ 4096) (hroom : D.pend.length < 2 ^ 32) :
  Fn Tryz.prog B 40 #[.pointer (some ⟨g, 0, none⟩)] [poolB g b gf 1 first count 0 pl 1 cl, fmR gf 1 [x], lgR pl 1 cl [.iface 52 (.pointer (some ⟨gl, 0, none⟩))], wlA gl b W, dskA b D, rB (.slice (some ⟨gx, 0, none⟩) 256 x.c) 256 x.b]
   (fun u l => u = .pointer (some ⟨gf, 0 + 0 * 6, none⟩) ∧ l = [poolB g b gf 1 first count 0 pl 1 cl, fmR gf 1 [{ x with used := false }], lgR pl 1 cl [.iface 52 (.pointer (some ⟨gl, 0, none⟩))], wlA gl b W, dskA b (D.write (first + j) x.b)]) := by
 refine Fn.enter1 105 Tryz.func40 rfl rfl (Nat.le_of_ble_eq_true rfl) (fun F => ?_)
 try simp only [List.cons_append, List.nil_append]
 refine T.seq ?_
 refine T.region ?_
 refine LW.q rfl (Qt.assign rfl) ?_
 refine LW.done ?_
 refine T.seq ?_
 refine T.region ?_
 refine LW.q rfl (Qt.assign rfl) ?_
 refine LW.done ?_
 refine T.seq ?_
 refine T.seq ?_
 refine T.region ?_
 refine LW.q rfl (Qt.move rfl) ?_
 refine LW.q rfl (Qt.nilCheck rfl) ?_
 refine LW.q rfl (Qt.fieldAddr (off := 3) (by kernel_rfl) rfl) ?_
 first | refine LW.q rfl (Qt.load (by kernel_rfl) rfl rfl) ?_ | refine LW.q rfl (Qt.load (by kernel_rfl) rfl (map_at _ _ _ (by omega))) ?_ | refine LW.q rfl (Qt.load (by kernel_rfl) rfl (flat_cell0 _ _ _ (by intros; rfl) _ (by omega) (by rfl))) ?_ | refine LW.q rfl (Qt.load (by kernel_rfl) rfl (flat_cell _ _ _ (by intros; rfl) _ _ (by omega) (by rfl))) ?_ | refine LW.q rfl (Qt.load (by kernel_rfl) rfl (bytes_at _ _ (by omega))) ?_
 refine LW.q rfl (Qt.len (e := 103) (sz := 6) (by kernel_rfl) rfl) ?_
 refine LW.q rfl (Qt.move rfl) ?_
 refine LW.done ?_
 refine T.block ?_
 refine T.loop (fun mz fz lz => ∃ (f0 : Fr) (k : Nat) (fb : Bool), (k ≤ 1 ∧ fb = decide (k = 0)) ∧ mz = 1 - k ∧ fz = (upd (upd (upd (upd f0 0 (.pointer (some ⟨g, 0, none⟩))) 3 (.bool fb)) 11 (.int .i64 1)) 12 (.int .i64 k)) ∧ lz = poolB g b gf 1 first count 0 pl 1 cl :: fmR gf 1 [x] :: lgR pl 1 cl [.iface 52 (.pointer (some ⟨gl, 0, none⟩))] :: wlA gl b W :: dskA b D :: rB (.slice (some ⟨gx, 0, none⟩) 256 x.c) 256 x.b :: F) ?_ ?_
 · refine ⟨_, _, ⟨_, 0, true, ⟨Nat.zero_le _, rfl⟩, rfl, (updS rfl (updS rfl (updS rfl (updS rfl rfl)))), rfl⟩, Sub.any⟩
 ·
  rintro mz fz lz ⟨f0, k, fb, ⟨hk, hfb⟩, hmz, rfl, rfl⟩
  subst mz
  try simp only [List.cons_append, List.nil_append]
  refine T.seq ?_
  refine T.region ?_
  refine LW.q rfl (Qt.lss rfl rfl) ?_
  refine LW.done ?_
  refine T.seq ?_
  refine T.condP rfl (fun hlt => ?_) (fun hlt => ?_)
  ·
   obtain rfl : k = 0 := by omega
   obtain rfl : fb = true := hfb
   refine T.skip ?_
   refine T.seq ?_
   refine T.block ?_
   refine T.seq ?_
   refine T.region ?_
   refine LW.q rfl (Qt.move rfl) ?_
   refine LW.q rfl (Qt.assign rfl) ?_
   refine LW.done ?_
   refine T.seq ?_
   refine T.region ?_
   refine LW.q rfl (Qt.move rfl) ?_
   refine LW.q rfl (Qt.nilCheck rfl) ?_
   refine LW.q rfl (Qt.fieldAddr (off := 3) (by kernel_rfl) rfl) ?_
   first | refine LW.q rfl (Qt.load (by kernel_rfl) rfl rfl) ?_ | refine LW.q rfl (Qt.load (by kernel_rfl) rfl (map_at _ _ _ (by omega))) ?_ | refine LW.q rfl (Qt.load (by kernel_rfl) rfl (flat_cell0 _ _ _ (by intros; rfl) _ (by omega) (by rfl))) ?_ | refine LW.q rfl (Qt.load (by kernel_rfl) rfl (flat_cell _ _ _ (by intros; rfl) _ _ (by omega) (by rfl))) ?_ | refine LW.q rfl (Qt.load (by kernel_rfl) rfl (bytes_at _ _ (by omega))) ?_
   refine LW.q rfl (Qt.move rfl) ?_
   refine LW.q rfl (Qt.index _ (e := 103) (sz := 6) (by kernel_rfl) rfl rfl rfl (by omega)) ?_
   refine LW.q rfl (Qt.assign rfl) ?_
   refine LW.done ?_
   refine T.seq ?_
   refine T.seq ?_
   refine T.region ?_
   refine LW.q rfl (Qt.move rfl) ?_
   refine LW.q rfl (Qt.nilCheck rfl) ?_
   refine LW.q rfl (Qt.fieldAddr0 (by kernel_rfl) rfl) ?_
   refine LW.q rfl (Qt.load (v := .int .i64 x.page) (by kernel_rfl) rfl (fm_at (Fs := [x]) (i := 0) rfl 0 (by omega))) ?_
   refine LW.q rfl (Qt.lss rfl rfl) ?_
   refine LW.done ?_
   first | refine T.condF rfl ?_ | refine T.condPF rfl (by omega) ?_ | refine T.condBF rfl (by omega) ?_
   refine T.skip ?_
   refine T.region ?_
   refine LW.q rfl (Qt.move rfl) ?_
   refine LW.q rfl (Qt.move rfl) ?_
   first | refine LW.gT (t := 28) rfl rfl ?_ | refine LW.gT (t := 28) rfl (decide_eq_true (by omega)) ?_ | refine LW.gT (t := 28) rfl (by omega) ?_
   refine LW.q rfl (Qt.move rfl) ?_
   refine LW.q rfl (Qt.nilCheck rfl) ?_
   refine LW.q rfl (Qt.fieldAddr (off := 3) (by kernel_rfl) rfl) ?_
   refine LW.q rfl (Qt.load (v := .int .i64 x.pins) (by kernel_rfl) rfl (fm_at (Fs := [x]) (i := 0) rfl 3 (by omega))) ?_
   refine LW.q rfl (Qt.gtr rfl rfl) ?_
   refine LW.q rfl (Qt.pick rfl rfl) ?_
   refine LW.q rfl (Qt.assign rfl) ?_
   refine LW.done ?_
   refine T.region ?_
   refine LW.q rfl (Qt.add rfl rfl (wr64 (by omega) (by omega))) ?_
   refine LW.q rfl (Qt.move rfl) ?_
   refine LW.done ?_
   refine ⟨_, ?_, _, ⟨_, 1, _, ⟨Nat.le_refl _, by rw [hx1]; rfl⟩, rfl, (updS rfl (updS rfl (updS rfl (updS rfl rfl)))), rfl⟩, Sub.any⟩
   first | omega | (simp; omega)
  ·
   obtain rfl : k = 1 := by omega
   obtain rfl : fb = false := hfb
   refine T.exit ?_
   refine T.seq ?_
   refine T.seq ?_
   refine T.region ?_
   refine LW.q rfl (Qt.move rfl) ?_
   refine LW.done ?_
   first | refine T.condF rfl ?_ | refine T.condPF rfl (by omega) ?_ | refine T.condBF rfl (by omega) ?_
   clear hlt hk
   have hfe : fmR gf 1 [x] = fmR gf 1 [{ x with used := true }] := by rw [show ({ x with used := true } : Fm) = x by cases x; simp_all]
   rw [hfe]
   refine T.skip ?_
   refine T.block ?_
   refine T.loop (fun mz fz lz => ∃ (f0 : Fr) (mm : Nat) (u : Bool), (u = decide (mm = 1)) ∧ mz = mm ∧ fz = (upd f0 0 (.pointer (some ⟨g, 0, none⟩))) ∧ lz = poolB g b gf 1 first count 0 pl 1 cl :: fmR gf 1 [{ x with used := u }] :: lgR pl 1 cl [.iface 52 (.pointer (some ⟨gl, 0, none⟩))] :: wlA gl b W :: dskA b D :: rB (.slice (some ⟨gx, 0, none⟩) 256 x.c) 256 x.b :: F) ?_ ?_
   · refine ⟨_, _, ⟨_, 1, true, rfl, rfl, (updS rfl rfl), rfl⟩, Sub.any⟩
   ·
    rintro mz fz lz ⟨f0, mm, u, hmm, hmz, rfl, rfl⟩
    subst mz
    try simp only [List.cons_append, List.nil_append]
    have hat : ∀ u, ([{ x with used := u }] : List Fm)[0]? = some { x with used := u } := fun u => rfl
    refine T.block ?_
    refine T.seq ?_
    refine T.drawAll 9 (by kernel_rfl) (Nat.le_of_ble_eq_true rfl) (by kernel_rfl) ?_
    refine RW.q 0 rfl rfl (by kernel_rfl) (Sub.refl _) (Qt.move rfl) ?_
    refine RW.q 1 rfl rfl (by kernel_rfl) (Sub.refl _) (Qt.nilCheck rfl) ?_
    refine RW.q 2 rfl rfl (by kernel_rfl) (Sub.refl _) (Qt.fieldAddr (off := 3) (by kernel_rfl) rfl) ?_
    first | refine RW.q 3 rfl rfl (by kernel_rfl) (Sub.refl _) (Qt.load (by kernel_rfl) rfl rfl) ?_ | refine RW.q 3 rfl rfl (by kernel_rfl) (Sub.refl _) (Qt.load (by kernel_rfl) rfl (map_at _ _ _ (by omega))) ?_ | refine RW.q 3 rfl rfl (by kernel_rfl) (Sub.refl _) (Qt.load (by kernel_rfl) rfl (flat_cell0 _ _ _ (by intros; rfl) _ (by omega) (by rfl))) ?_ | refine RW.q 3 rfl rfl (by kernel_rfl) (Sub.refl _) (Qt.load (by kernel_rfl) rfl (flat_cell _ _ _ (by intros; rfl) _ _ (by omega) (by rfl))) ?_ | refine RW.q 3 rfl rfl (by kernel_rfl) (Sub.refl _) (Qt.load (by kernel_rfl) rfl (bytes_at _ _ (by omega))) ?_
    refine RW.q 4 rfl rfl (by kernel_rfl) (Sub.refl _) (Qt.move rfl) ?_
    refine RW.q 5 rfl rfl (by kernel_rfl) (Sub.refl _) (Qt.nilCheck rfl) ?_
    refine RW.q 6 rfl rfl (by kernel_rfl) (Sub.refl _) (Qt.fieldAddr (off := 4) (by kernel_rfl) rfl) ?_
    first | refine RW.q 7 rfl rfl (by kernel_rfl) (Sub.refl _) (Qt.load (by kernel_rfl) rfl rfl) ?_ | refine RW.q 7 rfl rfl (by kernel_rfl) (Sub.refl _) (Qt.load (by kernel_rfl) rfl (map_at _ _ _ (by omega))) ?_ | refine RW.q 7 rfl rfl (by kernel_rfl) (Sub.refl _) (Qt.load (by kernel_rfl) rfl (flat_cell0 _ _ _ (by intros; rfl) _ (by omega) (by rfl))) ?_ | refine RW.q 7 rfl rfl (by kernel_rfl) (Sub.refl _) (Qt.load (by kernel_rfl) rfl (flat_cell _ _ _ (by intros; rfl) _ _ (by omega) (by rfl))) ?_ | refine RW.q 7 rfl rfl (by kernel_rfl) (Sub.refl _) (Qt.load (by kernel_rfl) rfl (bytes_at _ _ (by omega))) ?_
    refine RW.q 8 rfl rfl (by kernel_rfl) (Sub.refl _) (Qt.index _ (e := 103) (sz := 6) (by kernel_rfl) rfl rfl rfl (by omega)) ?_
    refine RW.done (by rfl) ?_
    simp only [List.drop_succ_cons, List.drop_zero, List.drop_nil]
    refine LW.q rfl (Qt.assign rfl) ?_
    refine LW.done ?_
    refine T.seq ?_
    refine T.drawAll 12 (by kernel_rfl) (Nat.le_of_ble_eq_true rfl) (by kernel_rfl) ?_
    refine RW.q 0 rfl rfl (by kernel_rfl) (Sub.refl _) (Qt.move rfl) ?_
    refine RW.q 1 rfl rfl (by kernel_rfl) (Sub.refl _) (Qt.move rfl) ?_
    refine RW.q 2 rfl rfl (by kernel_rfl) (Sub.refl _) (Qt.nilCheck rfl) ?_
    refine RW.q 3 rfl rfl (by kernel_rfl) (Sub.refl _) (Qt.fieldAddr (off := 4) (by kernel_rfl) rfl) ?_
    first | refine RW.q 4 rfl rfl (by kernel_rfl) (Sub.refl _) (Qt.load (by kernel_rfl) rfl rfl) ?_ | refine RW.q 4 rfl rfl (by kernel_rfl) (Sub.refl _) (Qt.load (by kernel_rfl) rfl (map_at _ _ _ (by omega))) ?_ | refine RW.q 4 rfl rfl (by kernel_rfl) (Sub.refl _) (Qt.load (by kernel_rfl) rfl (flat_cell0 _ _ _ (by intros; rfl) _ (by omega) (by rfl))) ?_ | refine RW.q 4 rfl rfl (by kernel_rfl) (Sub.refl _) (Qt.load (by kernel_rfl) rfl (flat_cell _ _ _ (by intros; rfl) _ _ (by omega) (by rfl))) ?_ | refine RW.q 4 rfl rfl (by kernel_rfl) (Sub.refl _) (Qt.load (by kernel_rfl) rfl (bytes_at _ _ (by omega))) ?_
    refine RW.q 5 rfl rfl (by kernel_rfl) (Sub.refl _) (Qt.add rfl rfl (wr64 (by omega) (by omega))) ?_
    refine RW.q 6 rfl rfl (by kernel_rfl) (Sub.refl _) (Qt.move rfl) ?_
    refine RW.q 7 rfl rfl (by kernel_rfl) (Sub.refl _) (Qt.nilCheck rfl) ?_
    refine RW.q 8 rfl rfl (by kernel_rfl) (Sub.refl _) (Qt.fieldAddr (off := 3) (by kernel_rfl) rfl) ?_
    first | refine RW.q 9 rfl rfl (by kernel_rfl) (Sub.refl _) (Qt.load (by kernel_rfl) rfl rfl) ?_ | refine RW.q 9 rfl rfl (by kernel_rfl) (Sub.refl _) (Qt.load (by kernel_rfl) rfl (map_at _ _ _ (by omega))) ?_ | refine RW.q 9 rfl rfl (by kernel_rfl) (Sub.refl _) (Qt.load (by kernel_rfl) rfl (flat_cell0 _ _ _ (by intros; rfl) _ (by omega) (by rfl))) ?_ | refine RW.q 9 rfl rfl (by kernel_rfl) (Sub.refl _) (Qt.load (by kernel_rfl) rfl (flat_cell _ _ _ (by intros; rfl) _ _ (by omega) (by rfl))) ?_ | refine RW.q 9 rfl rfl (by kernel_rfl) (Sub.refl _) (Qt.load (by kernel_rfl) rfl (bytes_at _ _ (by omega))) ?_
    refine RW.q 10 rfl rfl (by kernel_rfl) (Sub.refl _) (Qt.len (e := 103) (sz := 6) (by kernel_rfl) rfl) ?_
    refine RW.q 11 rfl rfl (by kernel_rfl) (Sub.refl _) (Qt.rem rfl rfl (by omega) (show (((0 : Nat) : Int) + 1).tmod ((1 : Nat) : Int) = ((0 : Nat) : Int) from rfl)) ?_
    refine RW.done (by rfl) ?_
    simp only [List.drop_succ_cons, List.drop_zero, List.drop_nil]
    refine LW.q rfl (Qt.nilCheck rfl) ?_
    refine LW.q rfl (Qt.fieldAddr (off := 4) (by kernel_rfl) rfl) ?_
    refine LW.e0 rfl (Ef.store1 (by kernel_rfl) rfl rfl rfl (by first | (simp; done) | (simp; omega)) ?_)
    try simp only [List.set_cons_zero, List.set_cons_succ]
    refine LW.done ?_
    refine T.block ?_
    refine T.seq ?_
    refine T.region ?_
    refine LW.q rfl (Qt.move rfl) ?_
    refine LW.q rfl (Qt.nilCheck rfl) ?_
    refine LW.q rfl (Qt.fieldAddr (off := 3) (by kernel_rfl) rfl) ?_
    refine LW.q rfl (Qt.load (v := .int .i64 x.pins) (by kernel_rfl) rfl (fm_at (hat u) 3 (by omega))) ?_
    refine LW.q rfl (Qt.gtr rfl rfl) ?_
    refine LW.q rfl (Qt.assign rfl) ?_
    refine LW.done ?_
    first | refine T.condF rfl ?_ | refine T.condPF rfl (by omega) ?_ | refine T.condBF rfl (by omega) ?_
    refine T.seq ?_
    refine T.region ?_
    refine LW.q rfl (Qt.move rfl) ?_
    refine LW.q rfl (Qt.nilCheck rfl) ?_
    refine LW.q rfl (Qt.fieldAddr (off := 5) (by kernel_rfl) rfl) ?_
    refine LW.q rfl (Qt.load (v := .bool u) (by kernel_rfl) rfl (fm_at (hat u) 5 (by omega))) ?_
    refine LW.q rfl (Qt.assign rfl) ?_
    refine LW.done ?_
    refine T.cond rfl (fun hu => ?_) (fun hu => ?_)
    ·
     subst hu
     obtain rfl : mm = 1 := of_decide_eq_true hmm.symm
     refine T.region ?_
     refine LW.q rfl (Qt.move rfl) ?_
     refine LW.q rfl (Qt.nilCheck rfl) ?_
     refine LW.q rfl (Qt.fieldAddr (off := 5) (by kernel_rfl) rfl) ?_
     refine LW.e0 rfl (Ef.store1 (by kernel_rfl) rfl rfl rfl (by simp) ?_)
     rw [fm_set (y := { x with used := false }) (hat true) 5 (by omega) _ rfl, List.set_cons_zero]
     refine LW.done ?_
     refine ⟨_, ?_, _, ⟨_, 0, false, rfl, rfl, (updS rfl rfl), rfl⟩, Sub.any⟩
     first | omega | (simp; omega)
    ·
     subst hu
     refine T.seq ?_
     refine T.seq ?_
     refine T.region ?_
     refine LW.q rfl (Qt.move rfl) ?_
     refine LW.q rfl (Qt.nilCheck rfl) ?_
     refine LW.q rfl (Qt.fieldAddr (off := 4) (by kernel_rfl) rfl) ?_
     refine LW.q rfl (Qt.load (v := .bool x.dirty) (by kernel_rfl) rfl (fm_at (hat false) 4 (by omega))) ?_
     refine LW.done ?_
     first | refine T.condT rfl ?_ | refine T.condPT rfl (hx3) ?_ | refine T.condBT rfl (hx3) ?_
     refine T.seq ?_
     refine T.region ?_
     refine LW.q rfl (Qt.move rfl) ?_
     refine LW.q rfl (Qt.move rfl) ?_
     refine LW.q rfl (Qt.nilCheck rfl) ?_
     refine LW.q rfl (Qt.fieldAddr (off := 2) (by kernel_rfl) rfl) ?_
     refine LW.q rfl (Qt.load (v := .int .i64 x.mark) (by kernel_rfl) rfl (fm_at (hat false) 2 (by omega))) ?_
     refine LW.e rfl (Ef.call (Bf.force1 B g b gf 1 first count 0 pl cl gl b W x.mark hdur hm) Tryz.func57 rfl rfl rfl ?_)
     rintro _ _ ⟨rfl, rfl⟩
     try simp only [List.cons_append, List.nil_append]
     refine LW.done ?_
     refine T.draw 20 ([poolB g b gf 1 first count 0 pl 1 cl, fmR gf 1 [{ x with used := false }]]) (by kernel_rfl) (Nat.le_of_ble_eq_true rfl) (by kernel_rfl) ?_
     refine RW.q 0 rfl rfl (by kernel_rfl) Sub.any (Qt.move rfl) ?_
     refine RW.q 1 rfl rfl (by kernel_rfl) Sub.any (Qt.nilCheck rfl) ?_
     refine RW.q 2 rfl rfl (by kernel_rfl) Sub.any (Qt.fieldAddr0 (by kernel_rfl) rfl) ?_
     refine RW.q 3 rfl rfl (by kernel_rfl) Sub.any (Qt.fieldAddr0 (by kernel_rfl) rfl) ?_
     first | refine RW.q 4 rfl rfl (by kernel_rfl) Sub.any (Qt.load (by kernel_rfl) rfl rfl) ?_ | refine RW.q 4 rfl rfl (by kernel_rfl) Sub.any (Qt.load (by kernel_rfl) rfl (map_at _ _ _ (by omega))) ?_ | refine RW.q 4 rfl rfl (by kernel_rfl) Sub.any (Qt.load (by kernel_rfl) rfl (flat_cell0 _ _ _ (by intros; rfl) _ (by omega) (by rfl))) ?_ | refine RW.q 4 rfl rfl (by kernel_rfl) Sub.any (Qt.load (by kernel_rfl) rfl (flat_cell _ _ _ (by intros; rfl) _ _ (by omega) (by rfl))) ?_ | refine RW.q 4 rfl rfl (by kernel_rfl) Sub.any (Qt.load (by kernel_rfl) rfl (bytes_at _ _ (by omega))) ?_
     refine RW.q 5 rfl rfl (by kernel_rfl) Sub.any (Qt.move rfl) ?_
     refine RW.q 6 rfl rfl (by kernel_rfl) Sub.any (Qt.nilCheck rfl) ?_
     refine RW.q 7 rfl rfl (by kernel_rfl) Sub.any (Qt.fieldAddr0 (by kernel_rfl) rfl) ?_
     refine RW.q 8 rfl rfl (by kernel_rfl) Sub.any (Qt.fieldAddr (off := 1) (by kernel_rfl) rfl) ?_
     first | refine RW.q 9 rfl rfl (by kernel_rfl) Sub.any (Qt.load (by kernel_rfl) rfl rfl) ?_ | refine RW.q 9 rfl rfl (by kernel_rfl) Sub.any (Qt.load (by kernel_rfl) rfl (map_at _ _ _ (by omega))) ?_ | refine RW.q 9 rfl rfl (by kernel_rfl) Sub.any (Qt.load (by kernel_rfl) rfl (flat_cell0 _ _ _ (by intros; rfl) _ (by omega) (by rfl))) ?_ | refine RW.q 9 rfl rfl (by kernel_rfl) Sub.any (Qt.load (by kernel_rfl) rfl (flat_cell _ _ _ (by intros; rfl) _ _ (by omega) (by rfl))) ?_ | refine RW.q 9 rfl rfl (by kernel_rfl) Sub.any (Qt.load (by kernel_rfl) rfl (bytes_at _ _ (by omega))) ?_
     refine RW.q 10 rfl rfl (by kernel_rfl) Sub.any (Qt.move rfl) ?_
     refine RW.q 11 rfl rfl (by kernel_rfl) Sub.any (Qt.nilCheck rfl) ?_
     refine RW.q 12 rfl rfl (by kernel_rfl) Sub.any (Qt.fieldAddr0 (by kernel_rfl) rfl) ?_
     refine RW.q 13 rfl rfl (by kernel_rfl) Sub.any (Qt.load (v := .int .i64 x.page) (by kernel_rfl) rfl (fm_at (hat false) 0 (by omega))) ?_
     refine RW.q 14 rfl rfl (by kernel_rfl) Sub.any (Qt.add rfl rfl (wr64 (by omega) (by omega))) ?_
     refine RW.q 15 rfl rfl (by kernel_rfl) Sub.any (Qt.move rfl) ?_
     refine RW.q 16 rfl rfl (by kernel_rfl) Sub.any (Qt.nilCheck rfl) ?_
     refine RW.q 17 rfl rfl (by kernel_rfl) Sub.any (Qt.fieldAddr (off := 1) (by kernel_rfl) rfl) ?_
     refine RW.q 18 rfl rfl (by kernel_rfl) Sub.any (Qt.load (v := .slice (some ⟨gx, 0, none⟩) 256 x.c) (by kernel_rfl) rfl (by simp [hgx, hx4])) ?_
     refine RW.one 19 (by kernel_rfl) ?_
     refine RO.eS rfl rfl (Ef.call (Dk.writeF B b D (rB (.slice (some ⟨gx, 0, none⟩) 256 x.c) 256 x.b) gx 0 x.c (first + j) _ (by omega) x.b (row_bytes (p := none)) hsec hx4 hroom) Tryz.func58 rfl rfl rfl ?_)
     rintro _ _ ⟨rfl, rfl⟩
     try simp only [List.cons_append, List.nil_append]
     refine ⟨Sub.any, ?_⟩
     refine RW.done (by rfl) ?_
     simp only [List.drop_succ_cons, List.drop_zero, List.drop_nil]
     refine LW.done ?_
     refine T.seq ?_
     refine T.region ?_
     refine LW.q rfl (Qt.move rfl) ?_
     refine LW.q rfl (Qt.assign rfl) ?_
     refine LW.done ?_
     refine T.ret ?_
     exact ⟨.inl rfl, _, _, res [_] rfl ⟨rvT rfl, trivial⟩, ⟨rfl, rfl⟩, Sub.any⟩

/-- Pin where the page is in no frame, by what victim answers. -/
abbrev fmNew (page : Int) (p : Option Addr) (c : Nat) (b : List UInt8) : Fm := ⟨page, 0, 1, false, true, p, c, b⟩
set_option maxHeartbeats 2000000 in
set_option maxRecDepth 100000 in
theorem Bf.pin_range (B : Base) (g b gf n first count hand : Nat) (pl : Option Addr) (nl cl : Nat) (page : Int) (h : page < 0 ∨ (count : Int) ≤ page) :
  Fn Tryz.prog B 12 #[.pointer (some ⟨g, 0, none⟩), .int .i64 page] [poolB g b gf n first count hand pl nl cl] (fun u l => u = .int .i64 1 ∧ l = [poolB g b gf n first count hand pl nl cl]) := by
 refine Fn.enter2 59 Tryz.func12 rfl rfl (Nat.le_of_ble_eq_true rfl) (fun F => ?_)
 try simp only [List.cons_append, List.nil_append]
 refine T.seq ?_
 refine T.region ?_
 refine LW.q rfl (Qt.assign rfl) ?_
 refine LW.done ?_
 refine T.seq ?_
 refine T.seq ?_
 refine T.region ?_
 refine LW.q rfl (Qt.move rfl) ?_
 refine LW.q rfl (Qt.lss rfl rfl) ?_
 refine LW.q rfl (Qt.move rfl) ?_
 refine LW.split (t := 10) rfl (fun h1 => ?_) (fun h1 => ?_)
 ·
  try replace h1 := of_decide_eq_true h1
  refine LW.s rfl ?_
  refine LW.s rfl ?_
  refine LW.s rfl ?_
  refine LW.s rfl ?_
  refine LW.s rfl ?_
  refine LW.s rfl ?_
  refine LW.s rfl ?_
  refine LW.q rfl (Qt.pick rfl rfl) ?_
  refine LW.done ?_
  first | refine T.condT rfl ?_ | refine T.condPT rfl (by omega) ?_ | refine T.condBT rfl (by omega) ?_
  refine T.seq ?_
  refine T.region ?_
  refine LW.q rfl (Qt.assign rfl) ?_
  refine LW.done ?_
  refine T.ret ?_
  exact ⟨.inl rfl, _, _, res [_] rfl ⟨rvT rfl, trivial⟩, ⟨rfl, rfl⟩, Sub.any⟩
 ·
  try replace h1 := of_decide_eq_false h1
  refine LW.q rfl (Qt.move rfl) ?_
  refine LW.q rfl (Qt.move rfl) ?_
  refine LW.q rfl (Qt.nilCheck rfl) ?_
  refine LW.q rfl (Qt.fieldAddr0 (by kernel_rfl) rfl) ?_
  refine LW.q rfl (Qt.fieldAddr (off := 2) (by kernel_rfl) rfl) ?_
  first | refine LW.q rfl (Qt.load (by kernel_rfl) rfl rfl) ?_ | refine LW.q rfl (Qt.load (by kernel_rfl) rfl (map_at _ _ _ (by omega))) ?_ | refine LW.q rfl (Qt.load (by kernel_rfl) rfl (flat_cell0 _ _ _ (by intros; rfl) _ (by omega) (by rfl))) ?_ | refine LW.q rfl (Qt.load (by kernel_rfl) rfl (flat_cell _ _ _ (by intros; rfl) _ _ (by omega) (by rfl))) ?_ | refine LW.q rfl (Qt.load (by kernel_rfl) rfl (bytes_at _ _ (by omega))) ?_
  refine LW.q rfl (Qt.geq rfl rfl) ?_
  refine LW.q rfl (Qt.pick rfl rfl) ?_
  refine LW.done ?_
  first | refine T.condT rfl ?_ | refine T.condPT rfl (by omega) ?_ | refine T.condBT rfl (by omega) ?_
  refine T.seq ?_
  refine T.region ?_
  refine LW.q rfl (Qt.assign rfl) ?_
  refine LW.done ?_
  refine T.ret ?_
  exact ⟨.inl rfl, _, _, res [_] rfl ⟨rvT rfl, trivial⟩, ⟨rfl, rfl⟩, Sub.any⟩
set_option maxHeartbeats 2000000 in
set_option maxRecDepth 100000 in
theorem Bf.pin_full (B : Base) (g b gf n first count hand : Nat) (pl : Option Addr) (nl cl : Nat) (Fs : List Fm) (page : Int) (h0 : 0 ≤ page) (hc : page < count) (hn : Fs.length = n) (hn2 : n ≤ 4096) (hno : ∀ (j : Nat) (y : Fm), Fs[j]? = some y → y.page ≠ page) (hall : ∀ (j : Nat) (y : Fm), Fs[j]? = some y → 0 ≤ y.page ∧ 0 < y.pins) :
    Fn Tryz.prog B 12 #[.pointer (some ⟨g, 0, none⟩), .int .i64 page] [poolB g b gf n first count hand pl nl cl, fmR gf n Fs] (fun u l => u = .int .i64 60 ∧ l = [poolB g b gf n first count hand pl nl cl, fmR gf n Fs]) := by
  refine Fn.enter2 59 Tryz.func12 rfl rfl (Nat.le_of_ble_eq_true rfl) (fun F => ?_)
  try simp only [List.cons_append, List.nil_append]
  refine T.seq ?_
  refine T.region ?_
  refine LW.q rfl (Qt.assign rfl) ?_
  refine LW.done ?_
  refine T.seq ?_
  refine T.seq ?_
  refine T.region ?_
  refine LW.q rfl (Qt.move rfl) ?_
  refine LW.q rfl (Qt.lss rfl rfl) ?_
  refine LW.q rfl (Qt.move rfl) ?_
  first | refine LW.gF (t := 10) rfl rfl ?_ | refine LW.gF (t := 10) rfl (decide_eq_false (by omega)) ?_ | refine LW.gF (t := 10) rfl (by omega) ?_
  refine LW.q rfl (Qt.move rfl) ?_
  refine LW.q rfl (Qt.move rfl) ?_
  refine LW.q rfl (Qt.nilCheck rfl) ?_
  refine LW.q rfl (Qt.fieldAddr0 (by kernel_rfl) rfl) ?_
  refine LW.q rfl (Qt.fieldAddr (off := 2) (by kernel_rfl) rfl) ?_
  first | refine LW.q rfl (Qt.load (by kernel_rfl) rfl rfl) ?_ | refine LW.q rfl (Qt.load (by kernel_rfl) rfl (map_at _ _ _ (by omega))) ?_ | refine LW.q rfl (Qt.load (by kernel_rfl) rfl (flat_cell0 _ _ _ (by intros; rfl) _ (by omega) (by rfl))) ?_ | refine LW.q rfl (Qt.load (by kernel_rfl) rfl (flat_cell _ _ _ (by intros; rfl) _ _ (by omega) (by rfl))) ?_ | refine LW.q rfl (Qt.load (by kernel_rfl) rfl (bytes_at _ _ (by omega))) ?_
  refine LW.q rfl (Qt.geq rfl rfl) ?_
  refine LW.q rfl (Qt.pick rfl rfl) ?_
  refine LW.done ?_
  first | refine T.condF rfl ?_ | refine T.condPF rfl (by omega) ?_ | refine T.condBF rfl (by omega) ?_
  refine T.skip ?_
  refine T.seq ?_
  refine T.region ?_
  refine LW.q rfl (Qt.move rfl) ?_
  refine LW.q rfl (Qt.move rfl) ?_
  refine LW.e rfl (Ef.call (Bf.find_none B g b gf n first count hand pl nl cl Fs page hn hn2 (fun j y hj e => absurd e (hno j y hj))) Tryz.func39 rfl rfl rfl ?_)
  rintro _ _ ⟨rfl, rfl⟩
  try simp only [List.cons_append, List.nil_append]
  refine LW.q rfl (Qt.assign rfl) ?_
  refine LW.done ?_
  refine T.seq ?_
  refine T.seq ?_
  refine T.region ?_
  refine LW.q rfl (Qt.move rfl) ?_
  first | refine LW.q rfl (Qt.eqlNil (by kernel_rfl) rfl rfl) ?_ | refine LW.q rfl (Qt.eqlNN (by kernel_rfl) rfl rfl) ?_
  refine LW.done ?_
  first | refine T.condT rfl ?_ | refine T.condPT rfl (by omega) ?_ | refine T.condBT rfl (by omega) ?_
  refine T.seq ?_
  refine T.region ?_
  refine LW.q rfl (Qt.move rfl) ?_
  refine LW.e rfl (Ef.call (Bf.victim_full B g b gf n first count hand pl nl cl Fs hn hn2 hall) Tryz.func40 rfl rfl rfl ?_)
  rintro _ _ ⟨rfl, rfl⟩
  try simp only [List.cons_append, List.nil_append]
  refine LW.q rfl (Qt.assign rfl) ?_
  refine LW.done ?_
  refine T.seq ?_
  refine T.seq ?_
  refine T.region ?_
  refine LW.q rfl (Qt.move rfl) ?_
  first | refine LW.q rfl (Qt.eqlNil (by kernel_rfl) rfl rfl) ?_ | refine LW.q rfl (Qt.eqlNN (by kernel_rfl) rfl rfl) ?_
  refine LW.done ?_
  first | refine T.condT rfl ?_ | refine T.condPT rfl (by omega) ?_ | refine T.condBT rfl (by omega) ?_
  refine T.seq ?_
  refine T.region ?_
  refine LW.q rfl (Qt.assign rfl) ?_
  refine LW.done ?_
  refine T.ret ?_
  exact ⟨.inl rfl, _, _, res [_] rfl ⟨rvT rfl, trivial⟩, ⟨rfl, rfl⟩, Sub.any⟩
set_option maxHeartbeats 4000000 in
set_option maxRecDepth 100000 in
theorem Bf.pin_free (B : Base) (g b gf n first count hand : Nat) (pl : Option Addr) (nl cl : Nat) (Fs : List Fm) (D : DD) (page : Int) (j : Nat) (hj : page = j) (hc : j < count) (hn : Fs.length = n) (hn2 : n ≤ 4096) (hno : ∀ (k : Nat) (y : Fm), Fs[k]? = some y → y.page ≠ page) (i : Nat) (x : Fm) (hx : Fs[i]? = some x) (hp : x.page < 0) (hfirst : ∀ (k : Nat), k < i → ∀ y : Fm, Fs[k]? = some y → 0 ≤ y.page) (hsec : first + count ≤ D.secs.length) (hmx : D.secs.length ≤ 4096) (hroom : D.pend.length < 2 ^ 32) (hrl : (D.read (first + j)).length = 256) :
    Fn Tryz.prog B 12 #[.pointer (some ⟨g, 0, none⟩), .int .i64 page] [poolB g b gf n first count hand pl nl cl, fmR gf n Fs, dskA b D] (fun u l => ∃ gx c, u = .int .i64 0 ∧ l = [rB (.slice (some ⟨gx, 0, none⟩) 256 c) 256 (D.read (first + j)), poolB g b gf n first count hand pl nl cl, fmR gf n (Fs.set i (fmNew page (some ⟨gx, 0, none⟩) c (D.read (first + j)))), dskA b D]) := by
  have hi : i < Fs.length := (List.getElem?_eq_some_iff.1 hx).1
  have hfl := fm_len Fs
  refine Fn.enter2 59 Tryz.func12 rfl rfl (Nat.le_of_ble_eq_true rfl) (fun F => ?_)
  try simp only [List.cons_append, List.nil_append]
  refine T.seq ?_
  refine T.region ?_
  refine LW.q rfl (Qt.assign rfl) ?_
  refine LW.done ?_
  refine T.seq ?_
  refine T.seq ?_
  refine T.region ?_
  refine LW.q rfl (Qt.move rfl) ?_
  refine LW.q rfl (Qt.lss rfl rfl) ?_
  refine LW.q rfl (Qt.move rfl) ?_
  first | refine LW.gF (t := 10) rfl rfl ?_ | refine LW.gF (t := 10) rfl (decide_eq_false (by omega)) ?_ | refine LW.gF (t := 10) rfl (by omega) ?_
  refine LW.q rfl (Qt.move rfl) ?_
  refine LW.q rfl (Qt.move rfl) ?_
  refine LW.q rfl (Qt.nilCheck rfl) ?_
  refine LW.q rfl (Qt.fieldAddr0 (by kernel_rfl) rfl) ?_
  refine LW.q rfl (Qt.fieldAddr (off := 2) (by kernel_rfl) rfl) ?_
  first | refine LW.q rfl (Qt.load (by kernel_rfl) rfl rfl) ?_ | refine LW.q rfl (Qt.load (by kernel_rfl) rfl (map_at _ _ _ (by omega))) ?_ | refine LW.q rfl (Qt.load (by kernel_rfl) rfl (flat_cell0 _ _ _ (by intros; rfl) _ (by omega) (by rfl))) ?_ | refine LW.q rfl (Qt.load (by kernel_rfl) rfl (flat_cell _ _ _ (by intros; rfl) _ _ (by omega) (by rfl))) ?_ | refine LW.q rfl (Qt.load (by kernel_rfl) rfl (bytes_at _ _ (by omega))) ?_
  refine LW.q rfl (Qt.geq rfl rfl) ?_
  refine LW.q rfl (Qt.pick rfl rfl) ?_
  refine LW.done ?_
  first | refine T.condF rfl ?_ | refine T.condPF rfl (by omega) ?_ | refine T.condBF rfl (by omega) ?_
  refine T.skip ?_
  refine T.seq ?_
  refine T.region ?_
  refine LW.q rfl (Qt.move rfl) ?_
  refine LW.q rfl (Qt.move rfl) ?_
  refine LW.e rfl (Ef.call (Bf.find_none B g b gf n first count hand pl nl cl Fs page hn hn2 (fun j y hj e => absurd e (hno j y hj))) Tryz.func39 rfl rfl rfl ?_)
  rintro _ _ ⟨rfl, rfl⟩
  try simp only [List.cons_append, List.nil_append]
  refine LW.q rfl (Qt.assign rfl) ?_
  refine LW.done ?_
  refine T.seq ?_
  refine T.seq ?_
  refine T.region ?_
  refine LW.q rfl (Qt.move rfl) ?_
  first | refine LW.q rfl (Qt.eqlNil (by kernel_rfl) rfl rfl) ?_ | refine LW.q rfl (Qt.eqlNN (by kernel_rfl) rfl rfl) ?_
  refine LW.done ?_
  first | refine T.condT rfl ?_ | refine T.condPT rfl (by omega) ?_ | refine T.condBT rfl (by omega) ?_
  refine T.seq ?_
  refine T.region ?_
  refine LW.q rfl (Qt.move rfl) ?_
  refine LW.e rfl (Ef.call (Bf.victim_free B g b gf n first count hand pl nl cl Fs i x hn hn2 hx hp hfirst) Tryz.func40 rfl rfl rfl ?_)
  rintro _ _ ⟨rfl, rfl⟩
  try simp only [List.cons_append, List.nil_append]
  refine LW.q rfl (Qt.assign rfl) ?_
  refine LW.done ?_
  refine T.seq ?_
  refine T.seq ?_
  refine T.region ?_
  refine LW.q rfl (Qt.move rfl) ?_
  first | refine LW.q rfl (Qt.eqlNil (by kernel_rfl) rfl rfl) ?_ | refine LW.q rfl (Qt.eqlNN (by kernel_rfl) rfl rfl) ?_
  refine LW.done ?_
  first | refine T.condF rfl ?_ | refine T.condPF rfl (by omega) ?_ | refine T.condBF rfl (by omega) ?_
  refine T.skip ?_
  refine T.seq ?_
  refine T.drawBl 17 none (by kernel_rfl) (Nat.le_of_ble_eq_true rfl) (by kernel_rfl) ?_
  refine RW.q 0 rfl rfl (by kernel_rfl) Sub.any (Qt.move rfl) ?_
  refine RW.q 1 rfl rfl (by kernel_rfl) Sub.any (Qt.nilCheck rfl) ?_
  refine RW.q 2 rfl rfl (by kernel_rfl) Sub.any (Qt.fieldAddr0 (by kernel_rfl) rfl) ?_
  refine RW.q 3 rfl rfl (by kernel_rfl) Sub.any (Qt.fieldAddr0 (by kernel_rfl) rfl) ?_
  first | refine RW.q 4 rfl rfl (by kernel_rfl) Sub.any (Qt.load (by kernel_rfl) rfl rfl) ?_ | refine RW.q 4 rfl rfl (by kernel_rfl) Sub.any (Qt.load (by kernel_rfl) rfl (map_at _ _ _ (by omega))) ?_ | refine RW.q 4 rfl rfl (by kernel_rfl) Sub.any (Qt.load (by kernel_rfl) rfl (flat_cell0 _ _ _ (by intros; rfl) _ (by omega) (by rfl))) ?_ | refine RW.q 4 rfl rfl (by kernel_rfl) Sub.any (Qt.load (by kernel_rfl) rfl (flat_cell _ _ _ (by intros; rfl) _ _ (by omega) (by rfl))) ?_ | refine RW.q 4 rfl rfl (by kernel_rfl) Sub.any (Qt.load (by kernel_rfl) rfl (bytes_at _ _ (by omega))) ?_
  refine RW.q 5 rfl rfl (by kernel_rfl) Sub.any (Qt.move rfl) ?_
  refine RW.q 6 rfl rfl (by kernel_rfl) Sub.any (Qt.nilCheck rfl) ?_
  refine RW.q 7 rfl rfl (by kernel_rfl) Sub.any (Qt.fieldAddr0 (by kernel_rfl) rfl) ?_
  refine RW.q 8 rfl rfl (by kernel_rfl) Sub.any (Qt.fieldAddr (off := 1) (by kernel_rfl) rfl) ?_
  first | refine RW.q 9 rfl rfl (by kernel_rfl) Sub.any (Qt.load (by kernel_rfl) rfl rfl) ?_ | refine RW.q 9 rfl rfl (by kernel_rfl) Sub.any (Qt.load (by kernel_rfl) rfl (map_at _ _ _ (by omega))) ?_ | refine RW.q 9 rfl rfl (by kernel_rfl) Sub.any (Qt.load (by kernel_rfl) rfl (flat_cell0 _ _ _ (by intros; rfl) _ (by omega) (by rfl))) ?_ | refine RW.q 9 rfl rfl (by kernel_rfl) Sub.any (Qt.load (by kernel_rfl) rfl (flat_cell _ _ _ (by intros; rfl) _ _ (by omega) (by rfl))) ?_ | refine RW.q 9 rfl rfl (by kernel_rfl) Sub.any (Qt.load (by kernel_rfl) rfl (bytes_at _ _ (by omega))) ?_
  refine RW.q 10 rfl rfl (by kernel_rfl) Sub.any (Qt.move rfl) ?_
  refine RW.q 11 rfl rfl (by kernel_rfl) Sub.any (Qt.add rfl rfl (wr64 (by omega) (by omega))) ?_
  refine RW.one 12 (by kernel_rfl) ?_
  refine RO.eS rfl rfl (Ef.call (Dk.readF B b D (first + j) _ (by omega) (by omega) hroom) Tryz.func16 rfl rfl rfl ?_)
  rintro _ _ ⟨gx, cx, rfl, rfl⟩
  try simp only [List.cons_append, List.nil_append]
  obtain ⟨dat, hdat⟩ : ∃ dat, D.read (first + j) = dat := ⟨_, rfl⟩
  rw [hdat] at hrl
  rw [hdat]
  refine ⟨Sub.any, ?_⟩
  refine RW.q 13 rfl rfl (by kernel_rfl) Sub.any (Qt.move rfl) ?_
  refine RW.q 14 rfl rfl (by kernel_rfl) Sub.any (Qt.extract rfl rfl) ?_
  refine RW.q 15 rfl rfl (by kernel_rfl) Sub.any (Qt.extract rfl rfl) ?_
  refine RW.q 16 rfl rfl (by kernel_rfl) Sub.any (Qt.assign rfl) ?_
  refine RW.done (by rfl) ?_
  simp only [List.drop_succ_cons, List.drop_zero, List.drop_nil]
  refine LW.q rfl (Qt.assign rfl) ?_
  refine LW.done ?_
  refine T.region ?_
  refine LW.q rfl (Qt.move rfl) ?_
  refine LW.q rfl (Qt.move rfl) ?_
  refine LW.q rfl (Qt.move rfl) ?_
  refine LW.q rfl (Qt.build [(0, 1), (1, 1), (2, 1), (3, 1), (4, 1), (5, 1)] [.int .i64 0, .slice none 0 0, .int .i64 0, .int .i64 0, .bool false, .bool false] [_, _, _, _, _, _] [(0, _), (1, _)] (by kernel_rfl) (by unfold zeroB; kernel_rfl) rfl rfl) ?_
  refine LW.q rfl (Qt.nilCheck rfl) ?_
  refine LW.e0 rfl (Ef.store (fmC ⟨page, 0, 0, false, false, some ⟨gx, 0, none⟩, cx, dat⟩) (by kernel_rfl) rfl rfl (by simp only [fmC, hrl]; rfl) rfl (by simp only [List.length_cons, List.length_nil]; omega) ?_)
  rw [fm_splice hi]
  have h2 : (Fs.set i ⟨page, 0, 0, false, false, some ⟨gx, 0, none⟩, cx, dat⟩)[i]? = some ⟨page, 0, 0, false, false, some ⟨gx, 0, none⟩, cx, dat⟩ := by rw [List.getElem?_set_self hi]
  have hfl2 := fm_len (Fs.set i ⟨page, 0, 0, false, false, some ⟨gx, 0, none⟩, cx, dat⟩)
  rw [List.length_set] at hfl2
  refine LW.done ?_
  refine T.seq ?_
  refine T.region ?_
  refine LW.q rfl (Qt.move rfl) ?_
  refine LW.q rfl (Qt.nilCheck rfl) ?_
  refine LW.q rfl (Qt.fieldAddr (off := 3) (by kernel_rfl) rfl) ?_
  refine LW.q rfl (Qt.load (v := .int .i64 0) (by kernel_rfl) rfl (fm_at h2 3 (by omega))) ?_
  refine LW.q rfl (Qt.add rfl rfl (wr64 (by omega) (by omega))) ?_
  refine LW.q rfl (Qt.nilCheck rfl) ?_
  refine LW.q rfl (Qt.fieldAddr (off := 3) (by kernel_rfl) rfl) ?_
  refine LW.e0 rfl (Ef.store1 (by kernel_rfl) rfl rfl rfl (by omega) ?_)
  rw [fm_set (y := ⟨page, 0, 1, false, false, some ⟨gx, 0, none⟩, cx, dat⟩) h2 3 (by omega) (.int .i64 (0 + 1)) rfl, List.set_set]
  have h3 : (Fs.set i ⟨page, 0, 1, false, false, some ⟨gx, 0, none⟩, cx, dat⟩)[i]? = some ⟨page, 0, 1, false, false, some ⟨gx, 0, none⟩, cx, dat⟩ := by rw [List.getElem?_set_self hi]
  have hfl3 := fm_len (Fs.set i ⟨page, 0, 1, false, false, some ⟨gx, 0, none⟩, cx, dat⟩)
  rw [List.length_set] at hfl3
  refine LW.done ?_
  refine T.seq ?_
  refine T.region ?_
  refine LW.q rfl (Qt.move rfl) ?_
  refine LW.q rfl (Qt.nilCheck rfl) ?_
  refine LW.q rfl (Qt.fieldAddr (off := 5) (by kernel_rfl) rfl) ?_
  refine LW.e0 rfl (Ef.store1 (by kernel_rfl) rfl rfl rfl (by omega) ?_)
  rw [fm_set (y := fmNew page (some ⟨gx, 0, none⟩) cx dat) h3 5 (by omega) _ rfl, List.set_set]
  refine LW.done ?_
  refine T.seq ?_
  refine T.region ?_
  refine LW.q rfl (Qt.assign rfl) ?_
  refine LW.done ?_
  refine T.ret ?_
  exact ⟨.inl rfl, _, _, res [_] rfl ⟨rvT rfl, trivial⟩, ⟨gx, cx, rfl, rfl⟩, Sub.any⟩
end Go.Proofs.YtegohgaccmkigaaGreatDoor

/- What a pool does, as plain functions on lists of frames; a pool's memory as one assertion. Conditions: none. -/
set_option linter.unusedSimpArgs false
set_option linter.unusedVariables false
namespace Go.Proofs.YtegohgaccmkigaaGreatDoor
open Go.RowKit

structure Fa where
  page : Int
  mark : Int
  pins : Int
  dirty : Bool
  used : Bool
  b : List UInt8
abbrev fa1 : Fa := ⟨-1, 0, 0, false, false, []⟩
def Fm.a (x : Fm) : Fa := ⟨x.page, x.mark, x.pins, x.dirty, x.used, x.b⟩
structure Pl where
  A : List Fa
  hand : Nat
  W : Wl
  D : DD

def findA (A : List Fa) (page : Int) : Option Nat := if page < 0 then none else A.findIdx? fun x => decide (x.page = page)
def upA (x : Fa) : Fa := { x with pins := x.pins + 1, used := true }
/-- The hand goes round: the frame that gives way, the frames and the hand then. -/
def clockA : Nat → List Fa → Nat → Option (Nat × List Fa × Nat)
  | 0, _, _ => none
  | f + 1, A, h => match A[h]? with
    | none => none
    | some x => if 0 < x.pins then clockA f A ((h + 1) % A.length) else if x.used = true then clockA f (A.set h { x with used := false }) ((h + 1) % A.length) else some (h, A, (h + 1) % A.length)
def forceP (W : Wl) (D : DD) (mark : Int) : Wl × DD := if mark ≤ W.dur then (W, D) else (W.flushed, flushE W D)
/-- A frame is written. -/
def giveP (first : Nat) (W : Wl) (D : DD) (x : Fa) : Wl × DD := if x.dirty = true then ((forceP W D x.mark).1, (forceP W D x.mark).2.write (first + x.page.toNat) x.b) else (W, D)
def victimP (first : Nat) (s : Pl) : Option (Nat × Pl) := match s.A.findIdx? fun x => decide (x.page < 0) with
  | some i => some (i, s)
  | none => if (s.A.all fun x => decide (0 < x.pins)) = true then none else match clockA (2 * s.A.length + 1) s.A s.hand with
    | none => none
    | some (i, A', h') => match A'[i]? with
      | none => none
      | some x => some (i, ⟨A', h', (giveP first s.W s.D x).1, (giveP first s.W s.D x).2⟩)
def newA (page : Int) (b : List UInt8) : Fa := ⟨page, 0, 1, false, true, b⟩
def pinP (first count : Nat) (s : Pl) (page : Int) : Pl × Int := if page < 0 ∨ (count : Int) ≤ page then (s, 1) else match findA s.A page with
  | some i => match s.A[i]? with
    | none => (s, 1)
    | some x => ({ s with A := s.A.set i (upA x) }, 0)
  | none => match victimP first s with
    | none => (s, 60)
    | some (i, s') => ({ s' with A := s'.A.set i (newA page (s'.D.read (first + page.toNat))) }, 0)
def pinnedA (A : List Fa) (page : Int) : Option (Nat × Fa) := match findA A page with
  | none => none
  | some i => match A[i]? with
    | none => none
    | some x => if 0 < x.pins then some (i, x) else none
def unpinA (A : List Fa) (page : Int) : List Fa × Int := match pinnedA A page with
  | none => (A, 61)
  | some (i, x) => (A.set i { x with pins := x.pins - 1 }, 0)
def putA (A : List Fa) (page : Int) (d : List UInt8) (mark : Int) : List Fa × Int := match pinnedA A page with
  | none => (A, 61)
  | some (i, x) => if d.length ≠ 256 then (A, 10) else (A.set i { x with mark := max x.mark mark, dirty := true, b := d }, 0)
def dirtyMark (A : List Fa) : Int := A.foldl (fun m x => if x.dirty = true then max m x.mark else m) 0
def writesP : DD → List (Nat × List UInt8) → DD
  | D, [] => D
  | D, p :: L => writesP (D.write p.1 p.2) L
/-- The changed pages: their sectors and bytes. -/
def dirtyL (first : Nat) (A : List Fa) : List (Nat × List UInt8) := A.filterMap fun x => if x.dirty = true then some (first + x.page.toNat, x.b) else none
def cleanA (A : List Fa) : List Fa := A.map fun x => { x with dirty := false }
def flushP (first : Nat) (s : Pl) : Pl := ⟨cleanA s.A, s.hand, (forceP s.W s.D (dirtyMark s.A)).1, (writesP (forceP s.W s.D (dirtyMark s.A)).2 (dirtyL first s.A)).sync⟩

/-- The frames are in order. -/
structure FOk (count n : Nat) (A : List Fa) : Prop where
  len : A.length = n
  n1 : 1 ≤ n
  n2 : n ≤ 4096
  fr : ∀ x ∈ A, x = fa1 ∨ (0 ≤ x.page ∧ x.page < count ∧ x.b.length = 256 ∧ 0 ≤ x.pins)
  mrk : ∀ x ∈ A, -(2 ^ 63) ≤ x.mark ∧ x.mark < 2 ^ 63
  one : ∀ (i j : Nat) (x y : Fa), A[i]? = some x → A[j]? = some y → x.page = y.page → 0 ≤ x.page → i = j

/-! memory -/
abbrev fmD (x : Fm) : Assn := rB (.slice x.p x.b.length x.c) x.b.length x.b
def daA (Fs : List Fm) : Assn := sepL (Fs.map fmD)
abbrev ifW (gl : Nat) : Value := .iface 52 (.pointer (some ⟨gl, 0, none⟩))
structure Pg3 where
  Fs : List Fm
  gf : Nat
  pl : Option Addr
  cl : Nat
abbrev plC (g b n first count hand gl : Nat) (q : Pg3) : List Assn := [poolB g b q.gf n first count hand q.pl 1 q.cl, fmR q.gf n q.Fs, lgR q.pl 1 q.cl [ifW gl], daA q.Fs]
/-- A pool over the disk at b, with the log at gl. -/
def plA (g b n first count hand gl : Nat) (A : List Fa) : Assn := exA fun q : Pg3 => sepL (pu (q.Fs.map Fm.a = A) :: plC g b n first count hand gl q)

theorem daA_at {Fs : List Fm} {i : Nat} {x : Fm} (h : Fs[i]? = some x) {k : Piece} (H : daA Fs k) : fmD x k := by
  have : ∀ (L : List Assn) (i : Nat) (A : Assn), L[i]? = some A → (∀ a b : Piece, Piece.le a b → A a → A b) → ∀ k, Has L k → A k := by
    intro L
    induction L with
    | nil => intro i A hi; simp at hi
    | cons C L ih =>
      intro i A hi hm k ⟨h1, h2, _, a1, a2, e1, e2⟩
      cases i with
      | zero => simp at hi; subst hi; exact hm _ _ a1 e1
      | succ i => exact hm _ _ a2 (ih i A (by simpa using hi) hm _ e2)
  refine this _ i (fmD x) (by simp [h]) ?_ k H
  intro a b hab ⟨e1, e2⟩
  refine ⟨e1, e2.imp id ?_⟩
  rintro ⟨g, cap, cur, q1, q2, q3⟩
  exact ⟨g, cap, cur, q1, hab.p _ _ q2, q3⟩
theorem Own.daAt {B : Base} {w : World} {l r : List Assn} {Fs : List Fm} {i : Nat} {x : Fm} (H : Own B w l) [k : TakeA (daA Fs) l r] (h : Fs[i]? = some x) : Own B w [fmD x] := H.map fun _ hk => by
  obtain ⟨h1, _, _, a, _, e, _⟩ := k.take _ hk
  refine ⟨h1, fun _ => none, ⟨fun _ => .inr rfl⟩, a, ⟨fun _ _ e => by cases e⟩, daA_at h e, trivial⟩
theorem Own.daPtr {B : Base} {w : World} {l r : List Assn} {Fs : List Fm} (H : Own B w l) [k : TakeA (daA Fs) l r] : ∀ (i : Nat) (x : Fm), Fs[i]? = some x → 0 < x.b.length → ∃ g, x.p = some ⟨g, 0, none⟩ := fun i x h h0 => by
  have := H.daAt (k := k) h
  exact (this.slice_at (p := x.p) (m := x.b.length) (c := x.c)).2.1 h0
theorem RdV.da {B : Base} {S r : List Assn} {Fs : List Fm} [k : TakeA (daA Fs) S r] {i : Nat} {x : Fm} (h : Fs[i]? = some x) (hp : 0 < x.b.length → ∃ g, x.p = some ⟨g, 0, none⟩) : RdV B S (.slice x.p x.b.length x.c) (bytesV x.b) :=
  RdV.ofRow (fun w ho => (ho.daAt (k := k) h).row_owns) (by simp) (by simpa using hp)
theorem da_same {Fs : List Fm} {i : Nat} {x y : Fm} (h : Fs[i]? = some x) (hp : y.p = x.p) (hc : y.c = x.c) (hb : y.b = x.b) : daA (Fs.set i y) = daA Fs := by
  have : (Fs.set i y).map fmD = Fs.map fmD := by
    apply List.ext_getElem?
    intro j
    rw [List.map_set, List.getElem?_set]
    split
    · rename_i e; subst e
      have hlt := (List.getElem?_eq_some_iff.1 h).1
      rw [List.getElem?_map, h, List.length_map, if_pos hlt]
      simp [fmD, hp, hc, hb]
    · rfl
  unfold daA
  rw [this]
theorem da_put {Fs : List Fm} {i : Nat} {y : Fm} (hi : i < Fs.length) {l : List Assn} : Sub (fmD y :: daA Fs :: l) (daA (Fs.set i y) :: l) := fun h H => by
  have key : ∀ (L : List Assn) (i : Nat) (A : Assn), i < L.length → ∀ h, Has (A :: L) h → Has (L.set i A) h := by
    intro L
    induction L with
    | nil => intro i A hi; simp at hi
    | cons C L ih =>
      intro i A hi h H
      cases i with
      | zero => exact Has.tail (Has.swap H)
      | succ i =>
        obtain ⟨h1, h2, d, a1, a2, e1, e2⟩ := Has.swap H
        exact ⟨h1, h2, d, a1, a2, e1, ih i A (by simpa using hi) _ e2⟩
  obtain ⟨h1, h2, d, a1, a2, e1, e2⟩ := Has.split (l := [fmD y, daA Fs]) (m := l) H
  refine ⟨h1, h2, d, a1, a2, ?_, e2⟩
  obtain ⟨k1, k2, d2, b1, b2, f1, f2⟩ := e1
  have f3 : Has (Fs.map fmD) k2 := by
    obtain ⟨m1, _, _, c1, _, q, _⟩ := f2
    exact Has.mono c1 q
  show Has ((Fs.set i y).map fmD) h1
  rw [List.map_set]
  exact key _ _ _ (by simpa using hi) _ ⟨k1, k2, d2, b1, b2, f1, f3⟩

theorem Fn.openPl {P : Program} {B : Base} {f : FuncId} {args : Array Value} {g b n first count hand gl : Nat} {A : List Fa} {S : List Assn} {R : Value → List Assn → Prop}
    (h : ∀ q : Pg3, q.Fs.map Fm.a = A → (∀ (i : Nat) (x : Fm), q.Fs[i]? = some x → 0 < x.b.length → ∃ g, x.p = some ⟨g, 0, none⟩) → (∃ gp, q.pl = some ⟨gp, 0, none⟩) → Fn P B f args (plC g b n first count hand gl q ++ S) R) : Fn P B f args (plA g b n first count hand gl A :: S) R := ⟨fun w F ho => by
  obtain ⟨hh, hd, hl, H⟩ := ho.has
  obtain ⟨q, H1⟩ := Has.open_ex H
  have H2 := Has.open_sepL H1
  obtain ⟨hA, H3⟩ := Has.open_pu H2
  have ho' : Own B w (plC g b n first count hand gl q ++ (S ++ F)) := ⟨ho.os, ho.tape, ho.output, ho.ro, hh, hd, hl, H3⟩
  simp only [List.cons_append, List.nil_append] at ho'
  refine (h q hA (ho'.daPtr (Fs := q.Fs)) ((ho'.slice_at (p := q.pl) (m := 1) (c := q.cl)).2.1 (by omega))).run w F ?_
  simpa using ho'⟩
theorem sub_pl {g b n first count hand gl : Nat} {A : List Fa} (q : Pg3) (hA : q.Fs.map Fm.a = A) {S : List Assn} : Sub (plC g b n first count hand gl q ++ S) (plA g b n first count hand gl A :: S) := fun h H => by
  refine Has.close_ex q ?_
  exact Has.close_sepL (Has.close_pu hA H)
end Go.Proofs.YtegohgaccmkigaaGreatDoor

/- The package buffer: force, victim, Pin in all cases. Conditions: sizes; the frames are in order. -/
set_option linter.unusedSimpArgs false
set_option linter.unusedVariables false
namespace Go.Proofs.YtegohgaccmkigaaGreatDoor
open Go.RowKit

/-- Room on the disk and in the log. -/
structure WOk (W : Wl) (D : DD) : Prop where
  fit : W.first + W.count ≤ D.secs.length
  max : D.secs.length ≤ 4096
  st : W.st.length ≤ W.count * 256
  dur : W.dur ≤ W.st.length
  room : D.pend.length + 16384 < 2 ^ 32

set_option maxHeartbeats 1000000 in
set_option maxRecDepth 100000 in
theorem Bp.force (B : Base) (g b gf n first count hand : Nat) (gp : Nat) (cl : Nat) (gl : Nat) (W : Wl) (D : DD) (mark : Int) (hw : WOk W D) :
  Fn Tryz.prog B 57 #[.pointer (some ⟨g, 0, none⟩), .int .i64 mark] [poolB g b gf n first count hand (some ⟨gp, 0, none⟩) 1 cl, lgR (some ⟨gp, 0, none⟩) 1 cl [ifW gl], wlA gl b W, dskA b D] (fun u l => u = .tuple #[] ∧ l = [poolB g b gf n first count hand (some ⟨gp, 0, none⟩) 1 cl, lgR (some ⟨gp, 0, none⟩) 1 cl [ifW gl], wlA gl b (forceP W D mark).1, dskA b (forceP W D mark).2]) := by
 obtain ⟨w1, w2, w3, w4, w5⟩ := hw
 refine Fn.enter2 19 Tryz.func57 rfl rfl (Nat.le_of_ble_eq_true rfl) (fun F => ?_)
 try simp only [List.cons_append, List.nil_append]
 refine T.seq ?_
 refine T.region ?_
 refine LW.q rfl (Qt.move rfl) ?_
 refine LW.q rfl (Qt.nilCheck rfl) ?_
 refine LW.q rfl (Qt.fieldAddr (off := 5) (by kernel_rfl) rfl) ?_
 first | refine LW.q rfl (Qt.load (by kernel_rfl) rfl rfl) ?_ | refine LW.q rfl (Qt.load (by kernel_rfl) rfl (map_at _ _ _ (by omega))) ?_ | refine LW.q rfl (Qt.load (by kernel_rfl) rfl (flat_cell0 _ _ _ (by intros; rfl) _ (by omega) (by rfl))) ?_ | refine LW.q rfl (Qt.load (by kernel_rfl) rfl (flat_cell _ _ _ (by intros; rfl) _ _ (by omega) (by rfl))) ?_ | refine LW.q rfl (Qt.load (by kernel_rfl) rfl (bytes_at _ _ (by omega))) ?_
 refine LW.q rfl (Qt.len (e := 128) (sz := 1) (by kernel_rfl) rfl) ?_
 refine LW.q rfl (Qt.move rfl) ?_
 refine LW.done ?_
 refine T.block ?_
 refine T.loop (fun mz fz lz => ∃ (f0 : Fr) (k : Nat) (W2 : Wl) (D2 : DD), (k ≤ 1 ∧ (k = 0 → W2 = W ∧ D2 = D) ∧ (k = 1 → W2 = (forceP W D mark).1 ∧ D2 = (forceP W D mark).2)) ∧ mz = 1 - k ∧ fz = (upd (upd (upd (upd f0 1 (.int .i64 mark)) 9 (.slice (some ⟨gp, 0, none⟩) 1 cl)) 10 (.int .i64 1)) 11 (.int .i64 k)) ∧ lz = poolB g b gf n first count hand (some ⟨gp, 0, none⟩) 1 cl :: lgR (some ⟨gp, 0, none⟩) 1 cl [ifW gl] :: wlA gl b W2 :: dskA b D2 :: F) ?_ ?_
 · refine ⟨_, _, ⟨_, 0, W, D, ⟨Nat.zero_le _, fun _ => ⟨rfl, rfl⟩, fun h => by omega⟩, rfl, (updS rfl (updS rfl (updS rfl (updS rfl rfl)))), rfl⟩, Sub.any⟩
 ·
  rintro mz fz lz ⟨f0, k, W2, D2, ⟨hk, hk0, hk1⟩, hmz, rfl, rfl⟩
  subst mz
  try simp only [List.cons_append, List.nil_append]
  refine T.seq ?_
  refine T.region ?_
  refine LW.q rfl (Qt.lss rfl rfl) ?_
  refine LW.done ?_
  refine T.seq ?_
  refine T.condP rfl (fun hlt => ?_) (fun hlt => ?_)
  ·
   obtain rfl : k = 0 := by omega
   obtain ⟨e1, e2⟩ := hk0 rfl
   subst W2
   subst D2
   by_cases hm : mark ≤ W.dur
   ·
    refine T.skip ?_
    refine T.seq ?_
    refine T.block ?_
    refine T.seq ?_
    refine T.region ?_
    refine LW.q rfl (Qt.index _ (e := 128) (sz := 1) (by kernel_rfl) rfl rfl rfl (by omega)) ?_
    refine LW.q rfl (Qt.load (v := ifW gl) (by kernel_rfl) rfl rfl) ?_
    refine LW.q rfl (Qt.assign rfl) ?_
    refine LW.done ?_
    refine T.region ?_
    refine LW.q rfl (Qt.move rfl) ?_
    refine LW.q rfl (Qt.move rfl) ?_
    refine LW.e rfl (Ef.callI (vs := [.int .i64 mark]) (Wl.forceNo B gl b W mark (by omega) hm) Tryz.func121 rfl rfl rfl (fun w => by kernel_rfl) rfl ?_)
    rintro _ _ ⟨rfl, rfl⟩
    try simp only [List.cons_append, List.nil_append]
    refine LW.done ?_
    refine T.region ?_
    refine LW.q rfl (Qt.add rfl rfl (wr64 (by omega) (by omega))) ?_
    refine LW.q rfl (Qt.move rfl) ?_
    refine LW.done ?_
    refine ⟨_, ?_, _, ⟨_, 1, W, D, ⟨Nat.le_refl _, fun h => by omega, fun _ => by unfold forceP; rw [if_pos hm]; exact ⟨rfl, rfl⟩⟩, rfl, (updS rfl (updS rfl (updS rfl (updS rfl rfl)))), rfl⟩, Sub.any⟩
    first | omega | (simp; omega)
   ·
    refine T.skip ?_
    refine T.seq ?_
    refine T.block ?_
    refine T.seq ?_
    refine T.region ?_
    refine LW.q rfl (Qt.index _ (e := 128) (sz := 1) (by kernel_rfl) rfl rfl rfl (by omega)) ?_
    refine LW.q rfl (Qt.load (v := ifW gl) (by kernel_rfl) rfl rfl) ?_
    refine LW.q rfl (Qt.assign rfl) ?_
    refine LW.done ?_
    refine T.region ?_
    refine LW.q rfl (Qt.move rfl) ?_
    refine LW.q rfl (Qt.move rfl) ?_
    refine LW.e rfl (Ef.callI (vs := [.int .i64 mark]) (Wl.forceYes B gl b W D mark w1 w2 w3 w4 (by omega) (by omega)) Tryz.func121 rfl rfl rfl (fun w => by kernel_rfl) rfl ?_)
    rintro _ _ ⟨rfl, rfl⟩
    try simp only [List.cons_append, List.nil_append]
    refine LW.done ?_
    refine T.region ?_
    refine LW.q rfl (Qt.add rfl rfl (wr64 (by omega) (by omega))) ?_
    refine LW.q rfl (Qt.move rfl) ?_
    refine LW.done ?_
    refine ⟨_, ?_, _, ⟨_, 1, W.flushed, flushE W D, ⟨Nat.le_refl _, fun h => by omega, fun _ => by unfold forceP; rw [if_neg hm]; exact ⟨rfl, rfl⟩⟩, rfl, (updS rfl (updS rfl (updS rfl (updS rfl rfl)))), rfl⟩, Sub.any⟩
    first | omega | (simp; omega)
  ·
   obtain rfl : k = 1 := by omega
   obtain ⟨e1, e2⟩ := hk1 rfl
   subst W2
   subst D2
   refine T.exit ?_
   exact ⟨.inr rfl, _, _, res [] rfl trivial, ⟨rfl, rfl⟩, Sub.any⟩

theorem flushE_pend (W : Wl) (D : DD) : (flushE W D).pend.length ≤ D.pend.length := by
  unfold flushE flushD
  split
  · exact Nat.le_refl _
  · simp [DD.sync]
theorem WOk.force {W : Wl} {D : DD} (h : WOk W D) (ho : D.Ok) (mark : Int) (hp : D.pend.length + 16384 < 2 ^ 32) : WOk (forceP W D mark).1 (forceP W D mark).2 ∧ (forceP W D mark).2.Ok ∧ (forceP W D mark).2.secs.length = D.secs.length ∧ (forceP W D mark).2.pend.length ≤ D.pend.length ∧ (forceP W D mark).1.first = W.first ∧ (forceP W D mark).1.count = W.count ∧ (forceP W D mark).1.st = W.st := by
  unfold forceP
  split
  · exact ⟨h, ho, rfl, Nat.le_refl _, rfl, rfl, rfl⟩
  · have hl : (flushE W D).Ok ∧ (flushE W D).secs.length = D.secs.length := by
      unfold flushE
      split
      · exact ⟨ho, rfl⟩
      · rename_i hne
        have hfit : W.first + (W.dur / 256 + flushN W) ≤ D.secs.length := by
          have := h.fit; have := h.st; have := h.dur
          unfold flushN
          omega
        have h1 := lays_ok (W := W) (k := flushN W) (n := W.dur / 256) ho hfit
        exact ⟨h1.1.sy, (DD.sync_len h1.1).trans h1.2⟩
    exact ⟨⟨by rw [hl.2]; exact h.fit, by rw [hl.2]; exact h.max, h.st, Nat.le_refl _, by have := flushE_pend W D; have := h.room; show (flushE W D).pend.length + 16384 < 2 ^ 32; omega⟩, hl.1, hl.2, flushE_pend W D, rfl, rfl, rfl⟩

theorem clock_len : ∀ {f : Nat} {A A' : List Fa} {h i h' : Nat}, clockA f A h = some (i, A', h') → A'.length = A.length ∧ i < A.length
  | 0, _, _, _, _, _, e => by cases e
  | f + 1, A, A', h, i, h', e => by
    unfold clockA at e
    split at e
    · cases e
    · rename_i x hx
      split at e
      · exact clock_len e
      · split at e
        · have := clock_len e; simpa using this
        · simp only [Option.some.injEq, Prod.mk.injEq] at e
          obtain ⟨rfl, rfl, _⟩ := e
          exact ⟨rfl, (List.getElem?_eq_some_iff.1 hx).1⟩

theorem map_a_at {Fs : List Fm} {A : List Fa} (h : Fs.map Fm.a = A) {i : Nat} {x : Fm} (hx : Fs[i]? = some x) : A[i]? = some x.a := by rw [← h, List.getElem?_map, hx]; rfl
theorem map_a_back {Fs : List Fm} {A : List Fa} (h : Fs.map Fm.a = A) {i : Nat} {y : Fa} (hx : A[i]? = some y) : ∃ x, Fs[i]? = some x ∧ x.a = y := by
  rw [← h, List.getElem?_map] at hx
  cases hf : Fs[i]? with
  | none => rw [hf] at hx; cases hx
  | some x => rw [hf] at hx; exact ⟨x, rfl, by simpa using hx⟩
theorem daA_cells {Fs : List Fm} {i : Nat} {x : Fm} (h : Fs[i]? = some x) {g : Nat} (hp : x.p = some ⟨g, 0, none⟩) (h0 : 0 < x.b.length) (k : Piece) (H : daA Fs k) : ∃ C t fr, k g = some (.cells C t fr) ∧ ∀ j v, (bytesV x.b)[j]? = some v → C[0 + j]? = some v := by
  obtain ⟨e1, e2⟩ := daA_at h H
  rcases e2 with ⟨_, e2⟩ | ⟨g', cap, cur, q1, q2, q3, q4, q5, q6⟩
  · omega
  · rw [hp] at q1
    injection q1 with q1 _ _
    injection q1 with q1
    injection q1 with q1
    subst q1
    refine ⟨_, _, _, q2, fun j v hv => ?_⟩
    rw [Nat.zero_add, ← Array.getElem?_toList]
    have hj : j < (bytesV x.b).length := (List.getElem?_eq_some_iff.1 hv).1
    rw [← q6, List.getElem?_take] at hv
    split at hv
    · exact hv
    · cases hv

theorem clock_succ {f : Nat} {A : List Fa} {h : Nat} {r : Nat × List Fa × Nat} (e : clockA f A h = some r) : ∃ f', f = f' + 1 := by
  cases f with
  | zero => cases e
  | succ f' => exact ⟨f', rfl⟩
theorem fm_unuse {Fs : List Fm} {h j : Nat} {y z : Fm} (hy : Fs[h]? = some y) (hz : (Fs.set h { y with used := false })[j]? = some z) : ∃ z', Fs[j]? = some z' ∧ z.page = z'.page ∧ z.b = z'.b ∧ z.p = z'.p := by
  rw [List.getElem?_set] at hz
  split at hz
  · rename_i e; subst e; rw [if_pos (List.getElem?_eq_some_iff.1 hy).1] at hz; simp at hz; subst hz; exact ⟨y, hy, rfl, rfl, rfl⟩
  · exact ⟨z, hz, rfl, rfl, rfl⟩
set_option maxHeartbeats 4000000 in
set_option maxRecDepth 100000 in
theorem Bp.victim_clock (B : Base) (g b gf n first count hand : Nat) (gp cl gl : Nat) (W : Wl) (D : DD) (Fs : List Fm) (hn : Fs.length = n) (hn2 : n ≤ 4096) (hh : hand < n)
  (hfr : ∀ (j : Nat) (x : Fm), Fs[j]? = some x → 0 ≤ x.page ∧ x.page < count ∧ x.b.length = 256) (hpt : ∀ (i : Nat) (x : Fm), Fs[i]? = some x → 0 < x.b.length → ∃ g, x.p = some ⟨g, 0, none⟩)
  (hun : (Fs.all fun x => decide (0 < x.pins)) = false) (hw : WOk W D) (ho : D.Ok) (hsec : first + count ≤ D.secs.length) (i h' : Nat) (A' : List Fa) (x' : Fa) (hc : clockA (2 * n + 1) (Fs.map Fm.a) hand = some (i, A', h')) (hx' : A'[i]? = some x') :
  Fn Tryz.prog B 40 #[.pointer (some ⟨g, 0, none⟩)] [poolB g b gf n first count hand (some ⟨gp, 0, none⟩) 1 cl, fmR gf n Fs, lgR (some ⟨gp, 0, none⟩) 1 cl [ifW gl], wlA gl b W, dskA b D, daA Fs]
   (fun u l => ∃ Fs', Fs'.map Fm.a = A' ∧ Fs'.length = n ∧ u = .pointer (some ⟨gf, 0 + i * 6, none⟩) ∧ l = [poolB g b gf n first count h' (some ⟨gp, 0, none⟩) 1 cl, fmR gf n Fs', lgR (some ⟨gp, 0, none⟩) 1 cl [ifW gl], wlA gl b (giveP first W D x').1, dskA b (giveP first W D x').2, daA Fs']) := by
 have hn0 : 0 < n := by omega
 refine Fn.enter1 105 Tryz.func40 rfl rfl (Nat.le_of_ble_eq_true rfl) (fun F => ?_)
 try simp only [List.cons_append, List.nil_append]
 refine T.seq ?_
 refine T.region ?_
 refine LW.q rfl (Qt.assign rfl) ?_
 refine LW.done ?_
 refine T.seq ?_
 refine T.region ?_
 refine LW.q rfl (Qt.assign rfl) ?_
 refine LW.done ?_
 refine T.seq ?_
 refine T.seq ?_
 refine T.region ?_
 refine LW.q rfl (Qt.move rfl) ?_
 refine LW.q rfl (Qt.nilCheck rfl) ?_
 refine LW.q rfl (Qt.fieldAddr (off := 3) (by kernel_rfl) rfl) ?_
 first | refine LW.q rfl (Qt.load (by kernel_rfl) rfl rfl) ?_ | refine LW.q rfl (Qt.load (by kernel_rfl) rfl (map_at _ _ _ (by omega))) ?_ | refine LW.q rfl (Qt.load (by kernel_rfl) rfl (flat_cell0 _ _ _ (by intros; rfl) _ (by omega) (by rfl))) ?_ | refine LW.q rfl (Qt.load (by kernel_rfl) rfl (flat_cell _ _ _ (by intros; rfl) _ _ (by omega) (by rfl))) ?_ | refine LW.q rfl (Qt.load (by kernel_rfl) rfl (bytes_at _ _ (by omega))) ?_
 refine LW.q rfl (Qt.len (e := 103) (sz := 6) (by kernel_rfl) rfl) ?_
 refine LW.q rfl (Qt.move rfl) ?_
 refine LW.done ?_
 refine T.block ?_
 refine T.loop (fun mz fz lz => ∃ (f0 : Fr) (k : Nat) (fb : Bool), (k ≤ n ∧ fb = (Fs.take k).all fun x => decide (0 < x.pins)) ∧ mz = n - k ∧ fz = (upd (upd (upd (upd f0 0 (.pointer (some ⟨g, 0, none⟩))) 3 (.bool fb)) 11 (.int .i64 n)) 12 (.int .i64 k)) ∧ lz = poolB g b gf n first count hand (some ⟨gp, 0, none⟩) 1 cl :: fmR gf n Fs :: lgR (some ⟨gp, 0, none⟩) 1 cl [ifW gl] :: wlA gl b W :: dskA b D :: daA Fs :: F) ?_ ?_
 · refine ⟨_, _, ⟨_, 0, true, ⟨Nat.zero_le _, rfl⟩, rfl, (updS rfl (updS rfl (updS rfl (updS rfl rfl)))), rfl⟩, Sub.any⟩
 ·
  rintro mz fz lz ⟨f0, k, fb, ⟨hk, hfb⟩, hmz, rfl, rfl⟩
  subst mz
  try simp only [List.cons_append, List.nil_append]
  refine T.seq ?_
  refine T.region ?_
  refine LW.q rfl (Qt.lss rfl rfl) ?_
  refine LW.done ?_
  refine T.seq ?_
  refine T.condP rfl (fun hlt => ?_) (fun hlt => ?_)
  ·
   obtain ⟨y, hy⟩ : ∃ y, Fs[k]? = some y := ⟨_, List.getElem?_eq_getElem (by omega)⟩
   have hpos := (hfr k y hy).1
   refine T.skip ?_
   refine T.seq ?_
   refine T.block ?_
   refine T.seq ?_
   refine T.region ?_
   refine LW.q rfl (Qt.move rfl) ?_
   refine LW.q rfl (Qt.assign rfl) ?_
   refine LW.done ?_
   refine T.seq ?_
   refine T.region ?_
   refine LW.q rfl (Qt.move rfl) ?_
   refine LW.q rfl (Qt.nilCheck rfl) ?_
   refine LW.q rfl (Qt.fieldAddr (off := 3) (by kernel_rfl) rfl) ?_
   first | refine LW.q rfl (Qt.load (by kernel_rfl) rfl rfl) ?_ | refine LW.q rfl (Qt.load (by kernel_rfl) rfl (map_at _ _ _ (by omega))) ?_ | refine LW.q rfl (Qt.load (by kernel_rfl) rfl (flat_cell0 _ _ _ (by intros; rfl) _ (by omega) (by rfl))) ?_ | refine LW.q rfl (Qt.load (by kernel_rfl) rfl (flat_cell _ _ _ (by intros; rfl) _ _ (by omega) (by rfl))) ?_ | refine LW.q rfl (Qt.load (by kernel_rfl) rfl (bytes_at _ _ (by omega))) ?_
   refine LW.q rfl (Qt.move rfl) ?_
   refine LW.q rfl (Qt.index _ (e := 103) (sz := 6) (by kernel_rfl) rfl rfl rfl (by omega)) ?_
   refine LW.q rfl (Qt.assign rfl) ?_
   refine LW.done ?_
   refine T.seq ?_
   refine T.seq ?_
   refine T.region ?_
   refine LW.q rfl (Qt.move rfl) ?_
   refine LW.q rfl (Qt.nilCheck rfl) ?_
   refine LW.q rfl (Qt.fieldAddr0 (by kernel_rfl) rfl) ?_
   refine LW.q rfl (Qt.load (v := .int .i64 y.page) (by kernel_rfl) rfl (fm_at hy 0 (by omega))) ?_
   refine LW.q rfl (Qt.lss rfl rfl) ?_
   refine LW.done ?_
   first | refine T.condF rfl ?_ | refine T.condPF rfl (by omega) ?_ | refine T.condBF rfl (by omega) ?_
   refine T.skip ?_
   refine T.region ?_
   refine LW.q rfl (Qt.move rfl) ?_
   refine LW.q rfl (Qt.move rfl) ?_
   refine LW.split (t := 28) rfl (fun hb => ?_) (fun hb => ?_)
   ·
    try replace hb := of_decide_eq_true hb
    refine LW.q rfl (Qt.move rfl) ?_
    refine LW.q rfl (Qt.nilCheck rfl) ?_
    refine LW.q rfl (Qt.fieldAddr (off := 3) (by kernel_rfl) rfl) ?_
    refine LW.q rfl (Qt.load (v := .int .i64 y.pins) (by kernel_rfl) rfl (fm_at hy 3 (by omega))) ?_
    refine LW.q rfl (Qt.gtr rfl rfl) ?_
    refine LW.q rfl (Qt.pick rfl rfl) ?_
    refine LW.q rfl (Qt.assign rfl) ?_
    refine LW.done ?_
    refine T.region ?_
    refine LW.q rfl (Qt.add rfl rfl (wr64 (by omega) (by omega))) ?_
    refine LW.q rfl (Qt.move rfl) ?_
    refine LW.done ?_
    refine ⟨_, ?_, _, ⟨_, k + 1, _, ⟨by omega, by rw [List.take_add_one, hy, List.all_append, ← hfb, hb]; simp⟩, rfl, (updS rfl (updS rfl (updS rfl (updS rfl rfl)))), rfl⟩, Sub.any⟩
    first | omega | (simp; omega)
   ·
    try replace hb := of_decide_eq_false hb
    refine LW.s rfl ?_
    refine LW.s rfl ?_
    refine LW.s rfl ?_
    refine LW.s rfl ?_
    refine LW.s rfl ?_
    refine LW.q rfl (Qt.pick rfl rfl) ?_
    refine LW.q rfl (Qt.assign rfl) ?_
    refine LW.done ?_
    refine T.region ?_
    refine LW.q rfl (Qt.add rfl rfl (wr64 (by omega) (by omega))) ?_
    refine LW.q rfl (Qt.move rfl) ?_
    refine LW.done ?_
    refine ⟨_, ?_, _, ⟨_, k + 1, _, ⟨by omega, by rw [List.take_add_one, hy, List.all_append, ← hfb, hb]; simp⟩, rfl, (updS rfl (updS rfl (updS rfl (updS rfl rfl)))), rfl⟩, Sub.any⟩
    first | omega | (simp; omega)
  ·
   obtain rfl : n = k := by omega
   rw [← hn, List.take_length, hun] at hfb
   subst hfb
   refine T.exit ?_
   refine T.seq ?_
   refine T.seq ?_
   refine T.region ?_
   refine LW.q rfl (Qt.move rfl) ?_
   refine LW.done ?_
   first | refine T.condF rfl ?_ | refine T.condPF rfl (by omega) ?_ | refine T.condBF rfl (by omega) ?_
   clear hlt hk
   refine T.skip ?_
   refine T.block ?_
   refine T.loop (fun mz fz lz => ∃ (f0 : Fr) (fu : Nat) (Fs2 : List Fm) (h2 : Nat), (Fs2.length = n ∧ h2 < n ∧ clockA fu (Fs2.map Fm.a) h2 = some (i, A', h') ∧ (∀ (j : Nat) (x : Fm), Fs2[j]? = some x → 0 ≤ x.page ∧ x.page < count ∧ x.b.length = 256) ∧ (∀ (i : Nat) (x : Fm), Fs2[i]? = some x → 0 < x.b.length → ∃ g, x.p = some ⟨g, 0, none⟩)) ∧ mz = fu ∧ fz = (upd f0 0 (.pointer (some ⟨g, 0, none⟩))) ∧ lz = poolB g b gf n first count h2 (some ⟨gp, 0, none⟩) 1 cl :: fmR gf n Fs2 :: lgR (some ⟨gp, 0, none⟩) 1 cl [ifW gl] :: wlA gl b W :: dskA b D :: daA Fs2 :: F) ?_ ?_
   · refine ⟨_, _, ⟨_, 2 * n + 1, Fs, hand, ⟨hn, hh, hc, hfr, hpt⟩, rfl, (updS rfl rfl), rfl⟩, Sub.any⟩
   ·
    rintro mz fz lz ⟨f0, fu, Fs2, h2, ⟨hl2, hh2, hc2, hfr2, hpt2⟩, hmz, rfl, rfl⟩
    subst mz
    try simp only [List.cons_append, List.nil_append]
    obtain ⟨y, hy⟩ : ∃ y, Fs2[h2]? = some y := ⟨_, List.getElem?_eq_getElem (by omega)⟩
    obtain ⟨y1, y2, y3⟩ := hfr2 h2 y hy
    obtain ⟨fu', rfl⟩ := clock_succ hc2
    have hstep := hc2
    unfold clockA at hstep
    rw [map_a_at rfl hy] at hstep
    dsimp only at hstep
    rw [List.length_map, hl2] at hstep
    have hmod : (h2 + 1) % n < n := Nat.mod_lt _ hn0
    refine T.block ?_
    refine T.seq ?_
    refine T.drawAll 9 (by kernel_rfl) (Nat.le_of_ble_eq_true rfl) (by kernel_rfl) ?_
    refine RW.q 0 rfl rfl (by kernel_rfl) (Sub.refl _) (Qt.move rfl) ?_
    refine RW.q 1 rfl rfl (by kernel_rfl) (Sub.refl _) (Qt.nilCheck rfl) ?_
    refine RW.q 2 rfl rfl (by kernel_rfl) (Sub.refl _) (Qt.fieldAddr (off := 3) (by kernel_rfl) rfl) ?_
    first | refine RW.q 3 rfl rfl (by kernel_rfl) (Sub.refl _) (Qt.load (by kernel_rfl) rfl rfl) ?_ | refine RW.q 3 rfl rfl (by kernel_rfl) (Sub.refl _) (Qt.load (by kernel_rfl) rfl (map_at _ _ _ (by omega))) ?_ | refine RW.q 3 rfl rfl (by kernel_rfl) (Sub.refl _) (Qt.load (by kernel_rfl) rfl (flat_cell0 _ _ _ (by intros; rfl) _ (by omega) (by rfl))) ?_ | refine RW.q 3 rfl rfl (by kernel_rfl) (Sub.refl _) (Qt.load (by kernel_rfl) rfl (flat_cell _ _ _ (by intros; rfl) _ _ (by omega) (by rfl))) ?_ | refine RW.q 3 rfl rfl (by kernel_rfl) (Sub.refl _) (Qt.load (by kernel_rfl) rfl (bytes_at _ _ (by omega))) ?_
    refine RW.q 4 rfl rfl (by kernel_rfl) (Sub.refl _) (Qt.move rfl) ?_
    refine RW.q 5 rfl rfl (by kernel_rfl) (Sub.refl _) (Qt.nilCheck rfl) ?_
    refine RW.q 6 rfl rfl (by kernel_rfl) (Sub.refl _) (Qt.fieldAddr (off := 4) (by kernel_rfl) rfl) ?_
    first | refine RW.q 7 rfl rfl (by kernel_rfl) (Sub.refl _) (Qt.load (by kernel_rfl) rfl rfl) ?_ | refine RW.q 7 rfl rfl (by kernel_rfl) (Sub.refl _) (Qt.load (by kernel_rfl) rfl (map_at _ _ _ (by omega))) ?_ | refine RW.q 7 rfl rfl (by kernel_rfl) (Sub.refl _) (Qt.load (by kernel_rfl) rfl (flat_cell0 _ _ _ (by intros; rfl) _ (by omega) (by rfl))) ?_ | refine RW.q 7 rfl rfl (by kernel_rfl) (Sub.refl _) (Qt.load (by kernel_rfl) rfl (flat_cell _ _ _ (by intros; rfl) _ _ (by omega) (by rfl))) ?_ | refine RW.q 7 rfl rfl (by kernel_rfl) (Sub.refl _) (Qt.load (by kernel_rfl) rfl (bytes_at _ _ (by omega))) ?_
    refine RW.q 8 rfl rfl (by kernel_rfl) (Sub.refl _) (Qt.index _ (e := 103) (sz := 6) (by kernel_rfl) rfl rfl rfl (by omega)) ?_
    refine RW.done (by rfl) ?_
    simp only [List.drop_succ_cons, List.drop_zero, List.drop_nil]
    refine LW.q rfl (Qt.assign rfl) ?_
    refine LW.done ?_
    refine T.seq ?_
    refine T.drawAll 12 (by kernel_rfl) (Nat.le_of_ble_eq_true rfl) (by kernel_rfl) ?_
    refine RW.q 0 rfl rfl (by kernel_rfl) (Sub.refl _) (Qt.move rfl) ?_
    refine RW.q 1 rfl rfl (by kernel_rfl) (Sub.refl _) (Qt.move rfl) ?_
    refine RW.q 2 rfl rfl (by kernel_rfl) (Sub.refl _) (Qt.nilCheck rfl) ?_
    refine RW.q 3 rfl rfl (by kernel_rfl) (Sub.refl _) (Qt.fieldAddr (off := 4) (by kernel_rfl) rfl) ?_
    first | refine RW.q 4 rfl rfl (by kernel_rfl) (Sub.refl _) (Qt.load (by kernel_rfl) rfl rfl) ?_ | refine RW.q 4 rfl rfl (by kernel_rfl) (Sub.refl _) (Qt.load (by kernel_rfl) rfl (map_at _ _ _ (by omega))) ?_ | refine RW.q 4 rfl rfl (by kernel_rfl) (Sub.refl _) (Qt.load (by kernel_rfl) rfl (flat_cell0 _ _ _ (by intros; rfl) _ (by omega) (by rfl))) ?_ | refine RW.q 4 rfl rfl (by kernel_rfl) (Sub.refl _) (Qt.load (by kernel_rfl) rfl (flat_cell _ _ _ (by intros; rfl) _ _ (by omega) (by rfl))) ?_ | refine RW.q 4 rfl rfl (by kernel_rfl) (Sub.refl _) (Qt.load (by kernel_rfl) rfl (bytes_at _ _ (by omega))) ?_
    refine RW.q 5 rfl rfl (by kernel_rfl) (Sub.refl _) (Qt.add rfl rfl (wr64 (by omega) (by omega))) ?_
    refine RW.q 6 rfl rfl (by kernel_rfl) (Sub.refl _) (Qt.move rfl) ?_
    refine RW.q 7 rfl rfl (by kernel_rfl) (Sub.refl _) (Qt.nilCheck rfl) ?_
    refine RW.q 8 rfl rfl (by kernel_rfl) (Sub.refl _) (Qt.fieldAddr (off := 3) (by kernel_rfl) rfl) ?_
    first | refine RW.q 9 rfl rfl (by kernel_rfl) (Sub.refl _) (Qt.load (by kernel_rfl) rfl rfl) ?_ | refine RW.q 9 rfl rfl (by kernel_rfl) (Sub.refl _) (Qt.load (by kernel_rfl) rfl (map_at _ _ _ (by omega))) ?_ | refine RW.q 9 rfl rfl (by kernel_rfl) (Sub.refl _) (Qt.load (by kernel_rfl) rfl (flat_cell0 _ _ _ (by intros; rfl) _ (by omega) (by rfl))) ?_ | refine RW.q 9 rfl rfl (by kernel_rfl) (Sub.refl _) (Qt.load (by kernel_rfl) rfl (flat_cell _ _ _ (by intros; rfl) _ _ (by omega) (by rfl))) ?_ | refine RW.q 9 rfl rfl (by kernel_rfl) (Sub.refl _) (Qt.load (by kernel_rfl) rfl (bytes_at _ _ (by omega))) ?_
    refine RW.q 10 rfl rfl (by kernel_rfl) (Sub.refl _) (Qt.len (e := 103) (sz := 6) (by kernel_rfl) rfl) ?_
    refine RW.q 11 rfl rfl (by kernel_rfl) (Sub.refl _) (Qt.rem rfl rfl (by omega) (show ((h2 : Int) + 1).tmod (n : Int) = (((h2 + 1) % n : Nat) : Int) by rw [Int.tmod_eq_emod_of_nonneg (by omega)]; norm_cast)) ?_
    refine RW.done (by rfl) ?_
    simp only [List.drop_succ_cons, List.drop_zero, List.drop_nil]
    refine LW.q rfl (Qt.nilCheck rfl) ?_
    refine LW.q rfl (Qt.fieldAddr (off := 4) (by kernel_rfl) rfl) ?_
    refine LW.e0 rfl (Ef.store1 (by kernel_rfl) rfl rfl rfl (by first | (simp; done) | (simp; omega)) ?_)
    try simp only [List.set_cons_zero, List.set_cons_succ]
    refine LW.done ?_
    refine T.block ?_
    refine T.seq ?_
    refine T.region ?_
    refine LW.q rfl (Qt.move rfl) ?_
    refine LW.q rfl (Qt.nilCheck rfl) ?_
    refine LW.q rfl (Qt.fieldAddr (off := 3) (by kernel_rfl) rfl) ?_
    refine LW.q rfl (Qt.load (v := .int .i64 y.pins) (by kernel_rfl) rfl (fm_at hy 3 (by omega))) ?_
    refine LW.q rfl (Qt.gtr rfl rfl) ?_
    refine LW.q rfl (Qt.assign rfl) ?_
    refine LW.done ?_
    refine T.condP rfl (fun hpin => ?_) (fun hpin => ?_)
    ·
     rw [if_pos (show 0 < y.a.pins from hpin)] at hstep
     refine T.skip ?_
     refine ⟨_, ?_, _, ⟨_, fu', Fs2, (h2 + 1) % n, ⟨hl2, hmod, hstep, hfr2, hpt2⟩, rfl, (updS rfl rfl), rfl⟩, Sub.any⟩
     first | omega | (simp; omega)
    ·
     rw [if_neg (show ¬ 0 < y.a.pins from hpin)] at hstep
     refine T.seq ?_
     refine T.region ?_
     refine LW.q rfl (Qt.move rfl) ?_
     refine LW.q rfl (Qt.nilCheck rfl) ?_
     refine LW.q rfl (Qt.fieldAddr (off := 5) (by kernel_rfl) rfl) ?_
     refine LW.q rfl (Qt.load (v := .bool y.used) (by kernel_rfl) rfl (fm_at hy 5 (by omega))) ?_
     refine LW.q rfl (Qt.assign rfl) ?_
     refine LW.done ?_
     refine T.cond rfl (fun hu => ?_) (fun hu => ?_)
     ·
      have hfl := fm_len Fs2
      rw [if_pos (show y.a.used = true from hu)] at hstep
      have hmem := fun j z => fm_unuse (Fs := Fs2) (j := j) (z := z) hy
      refine T.region ?_
      refine LW.q rfl (Qt.move rfl) ?_
      refine LW.q rfl (Qt.nilCheck rfl) ?_
      refine LW.q rfl (Qt.fieldAddr (off := 5) (by kernel_rfl) rfl) ?_
      refine LW.e0 rfl (Ef.store1 (by kernel_rfl) rfl rfl rfl (by omega) ?_)
      rw [fm_set (y := { y with used := false }) hy 5 (by omega) _ rfl, ← da_same (y := { y with used := false }) hy rfl rfl rfl]
      refine LW.done ?_
      refine ⟨_, ?_, _, ⟨_, fu', Fs2.set h2 { y with used := false }, (h2 + 1) % n, ⟨by rw [List.length_set]; exact hl2, hmod, by rw [List.map_set]; exact hstep, fun j z hz => by obtain ⟨z', q1, q2, q3, q4⟩ := hmem j z hz; rw [q2, q3]; exact hfr2 j z' q1, fun j z hz => by obtain ⟨z', q1, q2, q3, q4⟩ := hmem j z hz; rw [q3, q4]; exact hpt2 j z' q1⟩, rfl, (updS rfl rfl), rfl⟩, Sub.any⟩
      first | omega | (simp; omega)
     ·
      rw [if_neg (show ¬ y.a.used = true by rw [show y.a.used = y.used from rfl, hu]; simp)] at hstep
      simp only [Option.some.injEq, Prod.mk.injEq] at hstep
      obtain ⟨rfl, rfl, rfl⟩ := hstep
      obtain rfl : y.a = x' := by rw [map_a_at rfl hy] at hx'; exact Option.some.inj hx'
      refine T.seq ?_
      refine T.seq ?_
      refine T.region ?_
      refine LW.q rfl (Qt.move rfl) ?_
      refine LW.q rfl (Qt.nilCheck rfl) ?_
      refine LW.q rfl (Qt.fieldAddr (off := 4) (by kernel_rfl) rfl) ?_
      refine LW.q rfl (Qt.load (v := .bool y.dirty) (by kernel_rfl) rfl (fm_at hy 4 (by omega))) ?_
      refine LW.done ?_
      refine T.cond rfl (fun hd => ?_) (fun hd => ?_)
      ·
       obtain ⟨gx, hgx⟩ := hpt2 h2 y hy (by omega)
       obtain ⟨f1, f2, f3, f4, f5, f6, f7⟩ := hw.force ho y.mark hw.room
       have hroom := hw.room
       have hwmx := hw.max
       refine T.seq ?_
       refine T.region ?_
       refine LW.q rfl (Qt.move rfl) ?_
       refine LW.q rfl (Qt.move rfl) ?_
       refine LW.q rfl (Qt.nilCheck rfl) ?_
       refine LW.q rfl (Qt.fieldAddr (off := 2) (by kernel_rfl) rfl) ?_
       refine LW.q rfl (Qt.load (v := .int .i64 y.mark) (by kernel_rfl) rfl (fm_at hy 2 (by omega))) ?_
       refine LW.e rfl (Ef.call (Bp.force B g b gf n first count ((h2 + 1) % n) gp cl gl W D y.mark hw) Tryz.func57 rfl rfl rfl ?_)
       rintro _ _ ⟨rfl, rfl⟩
       try simp only [List.cons_append, List.nil_append]
       refine LW.done ?_
       refine T.draw 20 ([poolB g b gf n first count ((h2 + 1) % n) (some ⟨gp, 0, none⟩) 1 cl, fmR gf n Fs2]) (by kernel_rfl) (Nat.le_of_ble_eq_true rfl) (by kernel_rfl) ?_
       refine RW.q 0 rfl rfl (by kernel_rfl) Sub.any (Qt.move rfl) ?_
       refine RW.q 1 rfl rfl (by kernel_rfl) Sub.any (Qt.nilCheck rfl) ?_
       refine RW.q 2 rfl rfl (by kernel_rfl) Sub.any (Qt.fieldAddr0 (by kernel_rfl) rfl) ?_
       refine RW.q 3 rfl rfl (by kernel_rfl) Sub.any (Qt.fieldAddr0 (by kernel_rfl) rfl) ?_
       first | refine RW.q 4 rfl rfl (by kernel_rfl) Sub.any (Qt.load (by kernel_rfl) rfl rfl) ?_ | refine RW.q 4 rfl rfl (by kernel_rfl) Sub.any (Qt.load (by kernel_rfl) rfl (map_at _ _ _ (by omega))) ?_ | refine RW.q 4 rfl rfl (by kernel_rfl) Sub.any (Qt.load (by kernel_rfl) rfl (flat_cell0 _ _ _ (by intros; rfl) _ (by omega) (by rfl))) ?_ | refine RW.q 4 rfl rfl (by kernel_rfl) Sub.any (Qt.load (by kernel_rfl) rfl (flat_cell _ _ _ (by intros; rfl) _ _ (by omega) (by rfl))) ?_ | refine RW.q 4 rfl rfl (by kernel_rfl) Sub.any (Qt.load (by kernel_rfl) rfl (bytes_at _ _ (by omega))) ?_
       refine RW.q 5 rfl rfl (by kernel_rfl) Sub.any (Qt.move rfl) ?_
       refine RW.q 6 rfl rfl (by kernel_rfl) Sub.any (Qt.nilCheck rfl) ?_
       refine RW.q 7 rfl rfl (by kernel_rfl) Sub.any (Qt.fieldAddr0 (by kernel_rfl) rfl) ?_
       refine RW.q 8 rfl rfl (by kernel_rfl) Sub.any (Qt.fieldAddr (off := 1) (by kernel_rfl) rfl) ?_
       first | refine RW.q 9 rfl rfl (by kernel_rfl) Sub.any (Qt.load (by kernel_rfl) rfl rfl) ?_ | refine RW.q 9 rfl rfl (by kernel_rfl) Sub.any (Qt.load (by kernel_rfl) rfl (map_at _ _ _ (by omega))) ?_ | refine RW.q 9 rfl rfl (by kernel_rfl) Sub.any (Qt.load (by kernel_rfl) rfl (flat_cell0 _ _ _ (by intros; rfl) _ (by omega) (by rfl))) ?_ | refine RW.q 9 rfl rfl (by kernel_rfl) Sub.any (Qt.load (by kernel_rfl) rfl (flat_cell _ _ _ (by intros; rfl) _ _ (by omega) (by rfl))) ?_ | refine RW.q 9 rfl rfl (by kernel_rfl) Sub.any (Qt.load (by kernel_rfl) rfl (bytes_at _ _ (by omega))) ?_
       refine RW.q 10 rfl rfl (by kernel_rfl) Sub.any (Qt.move rfl) ?_
       refine RW.q 11 rfl rfl (by kernel_rfl) Sub.any (Qt.nilCheck rfl) ?_
       refine RW.q 12 rfl rfl (by kernel_rfl) Sub.any (Qt.fieldAddr0 (by kernel_rfl) rfl) ?_
       refine RW.q 13 rfl rfl (by kernel_rfl) Sub.any (Qt.load (v := .int .i64 y.page) (by kernel_rfl) rfl (fm_at hy 0 (by omega))) ?_
       refine RW.q 14 rfl rfl (by kernel_rfl) Sub.any (Qt.add rfl rfl (wr64 (by omega) (by omega))) ?_
       refine RW.q 15 rfl rfl (by kernel_rfl) Sub.any (Qt.move rfl) ?_
       refine RW.q 16 rfl rfl (by kernel_rfl) Sub.any (Qt.nilCheck rfl) ?_
       refine RW.q 17 rfl rfl (by kernel_rfl) Sub.any (Qt.fieldAddr (off := 1) (by kernel_rfl) rfl) ?_
       refine RW.q 18 rfl rfl (by kernel_rfl) Sub.any (Qt.load (v := .slice (some ⟨gx, 0, none⟩) 256 y.c) (by kernel_rfl) rfl (by rw [fm_at hy 1 (by omega)]; simp [hgx, y3])) ?_
       refine RW.one 19 (by kernel_rfl) ?_
       refine RO.eS rfl rfl (Ef.call (Dk.writeF B b (forceP W D y.mark).2 (daA Fs2) gx 0 y.c (first + y.page.toNat) _ (by omega) y.b (fun h H => daA_cells hy hgx (by omega) h H) (by omega) y3 (by omega)) Tryz.func58 rfl rfl rfl ?_)
       rintro _ _ ⟨rfl, rfl⟩
       try simp only [List.cons_append, List.nil_append]
       refine ⟨Sub.any, ?_⟩
       refine RW.done (by rfl) ?_
       simp only [List.drop_succ_cons, List.drop_zero, List.drop_nil]
       refine LW.done ?_
       refine T.seq ?_
       refine T.region ?_
       refine LW.q rfl (Qt.move rfl) ?_
       refine LW.q rfl (Qt.assign rfl) ?_
       refine LW.done ?_
       rw [show giveP first W D y.a = ((forceP W D y.mark).1, (forceP W D y.mark).2.write (first + y.page.toNat) y.b) by unfold giveP; rw [if_pos (show y.a.dirty = true from hd)]; rfl]
       refine T.ret ?_
       exact ⟨.inl rfl, _, _, res [_] rfl ⟨rvT rfl, trivial⟩, ⟨Fs2, rfl, hl2, rfl, rfl⟩, Sub.any⟩
      ·
       rw [show giveP first W D y.a = (W, D) by unfold giveP; rw [if_neg (show ¬ y.a.dirty = true by rw [show y.a.dirty = y.dirty from rfl, hd]; simp)]]
       refine T.skip ?_
       refine T.seq ?_
       refine T.region ?_
       refine LW.q rfl (Qt.move rfl) ?_
       refine LW.q rfl (Qt.assign rfl) ?_
       refine LW.done ?_
       refine T.ret ?_
       exact ⟨.inl rfl, _, _, res [_] rfl ⟨rvT rfl, trivial⟩, ⟨Fs2, rfl, hl2, rfl, rfl⟩, Sub.any⟩
end Go.Proofs.YtegohgaccmkigaaGreatDoor

/- The package buffer: the pool as a whole: Pages, Frames, Pin, Unpin, Bytes, Put. Conditions: sizes; the frames are in order. -/
set_option linter.unusedSimpArgs false
set_option linter.unusedVariables false
namespace Go.Proofs.YtegohgaccmkigaaGreatDoor
open Go.RowKit

/-- A contract used where there is more. -/
theorem Fn.wide {P : Program} {B : Base} {g : FuncId} {args : Array Value} {pre l F : List Assn} {R R' : Value → List Assn → Prop} (h : Fn P B g args pre R) [k : TakeL pre l F] (hr : ∀ v l', R v l' → ∃ l2, Sub (l' ++ F) l2 ∧ R' v l2) : Fn P B g args l R' := ⟨fun w F0 ho => by
  have ho' : Own B w (pre ++ (F ++ F0)) := ho.map fun hh H => by
    obtain ⟨h1, h2, d, a, b, e1, e2⟩ := Has.split H
    rw [← List.append_assoc]
    exact Has.join d a b (k.take _ e1) e2
  refine (h.run w (F ++ F0) ho').mono ?_
  rintro _ w' ⟨v, l', rfl, hR, ho2⟩
  obtain ⟨l2, hs, hR'⟩ := hr v l' hR
  refine ⟨v, l2, rfl, hR', ho2.map fun hh H => ?_⟩
  rw [← List.append_assoc] at H
  obtain ⟨h1, h2, d, a, b, e1, e2⟩ := Has.split H
  exact Has.join d a b (hs _ e1) e2⟩

theorem Bp.pages (B : Base) (g b n first count hand gl : Nat) (A : List Fa) : Fn Tryz.prog B 18 #[.pointer (some ⟨g, 0, none⟩)] [plA g b n first count hand gl A] (fun u l => u = .int .i64 count ∧ l = [plA g b n first count hand gl A]) := by
  refine Fn.openPl fun q hA hp ⟨gp, hgp⟩ => ?_
  simp only [plC, List.append_nil]
  refine Fn.wide (Bf.pages B g b q.gf n first count hand q.pl 1 q.cl) ?_
  rintro v l' ⟨rfl, rfl⟩
  exact ⟨_, sub_pl (S := []) q hA, rfl, rfl⟩
theorem Bp.frames (B : Base) (g b n first count hand gl : Nat) (A : List Fa) (hA : A.length = n) (hn2 : n ≤ 4096) : Fn Tryz.prog B 17 #[.pointer (some ⟨g, 0, none⟩)] [plA g b n first count hand gl A] (fun u l => ∃ p c, u = .slice p n c ∧ l = [row (.slice p n c) 3 1 n (A.map fun x => Value.int .i64 x.page), plA g b n first count hand gl A]) := by
  refine Fn.openPl fun q hA2 hp ⟨gp, hgp⟩ => ?_
  simp only [plC, List.append_nil]
  have hl : q.Fs.length = n := by rw [← hA, ← hA2, List.length_map]
  refine Fn.wide (Bf.frames B g b q.gf n first count hand q.pl 1 q.cl q.Fs hl hn2) ?_
  rintro v l' ⟨p, c, rfl, rfl⟩
  refine ⟨_, fun h H => ?_, p, c, rfl, rfl⟩
  have : (A.map fun x => Value.int .i64 x.page) = q.Fs.map fun x => Value.int .i64 x.page := by rw [← hA2, List.map_map]; rfl
  rw [this]
  exact Has.cons_imp (sub_pl (S := []) q hA2) H

/-! where a page is -/
theorem findA_some {A : List Fa} {page : Int} {i : Nat} (h : findA A page = some i) : 0 ≤ page ∧ ∃ x, A[i]? = some x ∧ x.page = page ∧ ∀ (j : Nat), j < i → ∀ y : Fa, A[j]? = some y → y.page ≠ page := by
  unfold findA at h
  split at h
  · cases h
  · rename_i h0
    obtain ⟨hi, h1, h2⟩ := List.findIdx?_eq_some_iff_getElem.1 h
    refine ⟨by omega, A[i], List.getElem?_eq_getElem hi, of_decide_eq_true h1, fun j hj y hy => ?_⟩
    have hjl := (List.getElem?_eq_some_iff.1 hy).1
    have := h2 j hj
    rw [List.getElem?_eq_getElem hjl] at hy
    cases hy
    simpa using this
theorem findA_none {A : List Fa} {page : Int} (h : findA A page = none) (h0 : 0 ≤ page) : ∀ (j : Nat) (y : Fa), A[j]? = some y → y.page ≠ page := by
  unfold findA at h
  rw [if_neg (by omega)] at h
  intro j y hy
  have := List.findIdx?_eq_none_iff.1 h y (List.mem_of_getElem? hy)
  simpa using this
theorem fd_of {Fs : List Fm} {A : List Fa} (hA : Fs.map Fm.a = A) {page : Int} {i : Nat} (h : findA A page = some i) : ∃ x, Fd Fs page i x := by
  obtain ⟨h0, y, h1, h2, h3⟩ := findA_some h
  obtain ⟨x, e1, rfl⟩ := map_a_back hA h1
  exact ⟨x, e1, h2, h0, fun j hj z hz => h3 j hj z.a (map_a_at hA hz)⟩
theorem nofd_of {Fs : List Fm} {A : List Fa} (hA : Fs.map Fm.a = A) {page : Int} (h : findA A page = none) (h0 : 0 ≤ page) : ∀ (j : Nat) (y : Fm), Fs[j]? = some y → y.page ≠ page := fun j y hy => findA_none h h0 j y.a (map_a_at hA hy)

/-! what gives way -/
theorem mod_succ {h n : Nat} (hh : h < n) : (h + 1 = n ∧ (h + 1) % n = 0) ∨ (h + 1 < n ∧ (h + 1) % n = h + 1) := by
  by_cases e : h + 1 = n
  · exact .inl ⟨e, by rw [e, Nat.mod_self]⟩
  · exact .inr ⟨by omega, Nat.mod_eq_of_lt (by omega)⟩
/-- How far from h round to i. -/
def far (n h i : Nat) : Nat := if h ≤ i then i - h else n + i - h
theorem far_succ {n h i : Nat} (hh : h < n) (hi : i < n) (hne : h ≠ i) : far n ((h + 1) % n) i + 1 = far n h i := by
  unfold far
  rcases mod_succ hh with ⟨e1, e2⟩ | ⟨e1, e2⟩ <;> rw [e2] <;> split <;> split <;> omega
theorem far_self {n h : Nat} (hh : h < n) : far n ((h + 1) % n) h < n := by
  unfold far
  rcases mod_succ hh with ⟨e1, e2⟩ | ⟨e1, e2⟩ <;> rw [e2] <;> split <;> omega
theorem clock_go : ∀ {f : Nat} {A : List Fa} {h i : Nat} {x : Fa}, A[i]? = some x → ¬ 0 < x.pins → h < A.length →
    far A.length h i + (if x.used = true then A.length else 0) < f → ∃ r, clockA f A h = some r
  | 0, _, _, _, _, _, _, _, hf => by omega
  | f + 1, A, h, i, x, hi, hx, hh, hf => by
    have hil := (List.getElem?_eq_some_iff.1 hi).1
    unfold clockA
    rw [List.getElem?_eq_getElem hh]
    dsimp only
    split
    · rename_i hp
      have hne : h ≠ i := fun e => by subst e; rw [List.getElem?_eq_getElem hh] at hi; cases hi; exact hx hp
      refine clock_go hi hx (Nat.mod_lt _ (by omega)) ?_
      have := far_succ hh hil hne
      omega
    · split
      · rename_i hp hu
        by_cases hne : h = i
        · subst hne
          rw [List.getElem?_eq_getElem hh] at hi
          cases hi
          refine clock_go (i := h) (x := { A[h] with used := false }) (by rw [List.getElem?_set_self (by omega)]) hp (by rw [List.length_set]; exact Nat.mod_lt _ (by omega)) ?_
          rw [List.length_set]
          rw [if_pos hu] at hf
          have := far_self hh
          simp
          omega
        · refine clock_go (i := i) (x := x) (by rw [List.getElem?_set_ne hne]; exact hi) hx (by rw [List.length_set]; exact Nat.mod_lt _ (by omega)) ?_
          rw [List.length_set]
          have := far_succ hh hil hne
          omega
      · exact ⟨_, rfl⟩
theorem clock_some {A : List Fa} {h : Nat} (hh : h < A.length) (hun : (A.all fun x => decide (0 < x.pins)) = false) : ∃ r, clockA (2 * A.length + 1) A h = some r := by
  have : ∃ x ∈ A, ¬ 0 < x.pins := by
    rcases Classical.em (∃ x ∈ A, ¬ 0 < x.pins) with h | h
    · exact h
    · exfalso
      have : (A.all fun x => decide (0 < x.pins)) = true := by
        rw [List.all_eq_true]
        intro x hx
        exact decide_eq_true (Classical.byContradiction fun hc => h ⟨x, hx, hc⟩)
      rw [this] at hun; cases hun
  obtain ⟨x, hx, hp⟩ := this
  obtain ⟨i, hi, rfl⟩ := List.getElem_of_mem hx
  refine clock_go (List.getElem?_eq_getElem hi) hp hh ?_
  have : far A.length h i ≤ A.length := by unfold far; split <;> omega
  split <;> omega
/-- What the frames have in common with those ahead. -/
theorem clock_fr : ∀ {f : Nat} {A A' : List Fa} {h i h' : Nat}, clockA f A h = some (i, A', h') → ∀ (j : Nat) (y : Fa), A'[j]? = some y → ∃ x, A[j]? = some x ∧ y.page = x.page ∧ y.mark = x.mark ∧ y.pins = x.pins ∧ y.dirty = x.dirty ∧ y.b = x.b
  | 0, _, _, _, _, _, e => by cases e
  | f + 1, A, A', h, i, h', e => by
    intro j y hy
    unfold clockA at e
    split at e
    · cases e
    · rename_i x hx
      split at e
      · exact clock_fr e j y hy
      · split at e
        · obtain ⟨z, hz, q1, q2, q3, q4, q5⟩ := clock_fr e j y hy
          rw [List.getElem?_set] at hz
          split at hz
          · rename_i e2
            subst e2
            rw [if_pos (List.getElem?_eq_some_iff.1 hx).1] at hz
            cases hz
            exact ⟨x, hx, q1, q2, q3, q4, q5⟩
          · exact ⟨z, hz, q1, q2, q3, q4, q5⟩
        · simp only [Option.some.injEq, Prod.mk.injEq] at e
          obtain ⟨_, rfl, _⟩ := e
          exact ⟨y, hy, rfl, rfl, rfl, rfl, rfl⟩
theorem clock_at : ∀ {f : Nat} {A A' : List Fa} {h i h' : Nat}, clockA f A h = some (i, A', h') → h < A.length → h' < A.length ∧ ∃ x, A'[i]? = some x ∧ ¬ 0 < x.pins
  | 0, _, _, _, _, _, e, _ => by cases e
  | f + 1, A, A', h, i, h', e, hh => by
    unfold clockA at e
    have hm : (h + 1) % A.length < A.length := Nat.mod_lt _ (by omega)
    split at e
    · cases e
    · rename_i x hx
      split at e
      · exact clock_at e hm
      · split at e
        · have := clock_at e (by rw [List.length_set]; exact hm); rwa [List.length_set] at this
        · rename_i hp _
          simp only [Option.some.injEq, Prod.mk.injEq] at e
          obtain ⟨rfl, rfl, rfl⟩ := e
          exact ⟨hm, x, hx, hp⟩
end Go.Proofs.YtegohgaccmkigaaGreatDoor
