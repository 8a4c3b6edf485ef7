/- The texts BhB, one behind the other: what the law leans on. Conditions: as each theorem says. -/
import Derived.Test.YtegohgaccmkigaaGreatDoorZBufferPlays8
/- The document's pool: Unpin, Put, victim, Pin. Conditions: sizes; the frames are in order. -/
set_option linter.unusedSimpArgs false
set_option linter.unusedVariables false
namespace Go.Proofs.YtegohgaccmkigaaGreatDoor
open Go.RowKit

theorem pinI_none {A : List Fa} {page : Int} (h : pinnedA A page = none) : pinI A page = -1 := by unfold pinI; rw [h]
theorem pinI_some {A : List Fa} {page : Int} {i : Nat} {x : Fa} (h : pinnedA A page = some (i, x)) : pinI A page = i := by unfold pinI; rw [h]
theorem findI_none {A : List Fa} {page : Int} (h : findA A page = none) : findI A page = -1 := by unfold findI; rw [h]
theorem findI_some {A : List Fa} {page : Int} {i : Nat} (h : findA A page = some i) : findI A page = i := by unfold findI; rw [h]

set_option maxHeartbeats 2000000 in
set_option maxRecDepth 100000 in
theorem Rp.unpin (B : Base) (p q : Option Addr) (a c N m : Nat) (W : Wl) (first count : Nat) (pf : Option Addr) (n cf hand : Nat) (A : List Fa) (hn : A.length = n) (hn2 : n ≤ 4096) (page : Int) (hpin : ∀ x ∈ A, x.pins < 2 ^ 62) :
  Fn Tryz.prog B 30 #[rqV p q a c N m W first count pf n cf hand, .int .i64 page] [raR pf n cf A] (fun v l => ∃ pf' cf', v = .tuple #[rqV p q a c N m W first count pf' n cf' hand, .int .i64 (unpinA A page).2] ∧ l = [raR pf' n cf' (unpinA A page).1]) := by
 refine Fn.enter2 25 Tryz.func30 rfl rfl (Nat.le_of_ble_eq_true rfl) (fun F => ?_)
 try simp only [List.cons_append, List.nil_append]
 refine T.seq ?_
 refine T.region ?_
 refine LW.e rfl (Ef.box [_, _, _, _, _, _, _, _, _, _, _] rfl rfl ?_)
 intro g2
 refine LW.e rfl (Ef.alloc [.slice none 0 0, .slice none 0 0, .string .empty, .int .u32 0, .int .i64 0, .int .i64 0, .int .i64 0, .int .i64 0, .int .i64 0, .slice none 0 0, .int .i64 0] (by unfold zeroB; kernel_rfl) ?_)
 intro g4
 refine LW.q rfl (Qt.assign rfl) ?_
 refine LW.done ?_
 refine T.seq ?_
 refine T.region ?_
 first | refine LW.q rfl (Qt.loadAgg [_, _, _, _, _, _, _, _, _, _, _] (by kernel_rfl) rfl ⟨rfl, rfl, rfl, rfl, rfl, rfl, rfl, rfl, rfl, rfl, rfl, trivial⟩) ?_ | refine LW.q rfl (Qt.loadAgg [_, _, _, _, _, _, _, _, _, _, _] (by kernel_rfl) rfl (by exact rdl_flat _ _ _ (by intros; rfl) _ (by omega))) ?_
 refine LW.q rfl (Qt.move rfl) ?_
 refine LW.e rfl (Ef.call (Rp.pinned B p q a c N m W first count pf n cf hand A hn hn2 page) Tryz.func33 rfl rfl rfl ?_)
 rintro _ _ ⟨rfl, rfl⟩
 try simp only [List.cons_append, List.nil_append]
 refine LW.q rfl (Qt.assign rfl) ?_
 refine LW.done ?_
 refine T.seq ?_
 refine T.seq ?_
 refine T.region ?_
 refine LW.q rfl (Qt.move rfl) ?_
 refine LW.q rfl (Qt.lss rfl rfl) ?_
 refine LW.done ?_
 by_cases hno : pinnedA A page = none
 ·
  rw [pinI_none hno]
  have hu : unpinA A page = (A, 61) := by unfold unpinA; rw [hno]
  rw [hu]
  first | refine T.condT rfl ?_ | refine T.condPT rfl (by omega) ?_ | refine T.condBT rfl (by omega) ?_
  refine T.seq ?_
  refine T.region ?_
  first | refine LW.q rfl (Qt.loadAgg [_, _, _, _, _, _, _, _, _, _, _] (by kernel_rfl) rfl ⟨rfl, rfl, rfl, rfl, rfl, rfl, rfl, rfl, rfl, rfl, rfl, trivial⟩) ?_ | refine LW.q rfl (Qt.loadAgg [_, _, _, _, _, _, _, _, _, _, _] (by kernel_rfl) rfl (by exact rdl_flat _ _ _ (by intros; rfl) _ (by omega))) ?_
  refine LW.e0 rfl (Ef.store [_, _, _, _, _, _, _, _, _, _, _] (by kernel_rfl) rfl rfl rfl rfl (by simp) ?_)
  try simp only [splice, List.length_cons, List.length_nil, List.drop_succ_cons, List.cons_append, List.take_succ_cons, List.take_zero, List.drop_zero, List.nil_append, List.append_nil]
  refine LW.q rfl (Qt.assign rfl) ?_
  refine LW.done ?_
  refine T.ret ?_
  exact ⟨.inl rfl, _, _, res [_, _] rfl ⟨rvA [_, _, _, _, _, _, _, _, _, _, _] (by kernel_rfl) rfl ⟨rfl, rfl, rfl, rfl, rfl, rfl, rfl, rfl, rfl, rfl, rfl, trivial⟩, rvT rfl, trivial⟩, ⟨pf, cf, rfl, rfl⟩, Sub.any⟩
 ·
  obtain ⟨⟨i, x⟩, hi⟩ := Option.ne_none_iff_exists'.1 hno
  obtain ⟨h1, hx, hp⟩ := pinnedA_some hi
  have hil := (List.getElem?_eq_some_iff.1 hx).1
  have hxp := hpin x (List.mem_of_getElem? hx)
  rw [pinI_some hi]
  have hu : unpinA A page = (A.set i { x with pins := x.pins - 1 }, 0) := by unfold unpinA; rw [hi]
  rw [hu]
  first | refine T.condF rfl ?_ | refine T.condPF rfl (by omega) ?_ | refine T.condBF rfl (by omega) ?_
  refine T.skip ?_
  refine T.seq ?_
  refine T.region ?_
  first | refine LW.q rfl (Qt.loadAgg [_, _, _, _, _, _, _, _, _, _, _] (by kernel_rfl) rfl ⟨rfl, rfl, rfl, rfl, rfl, rfl, rfl, rfl, rfl, rfl, rfl, trivial⟩) ?_ | refine LW.q rfl (Qt.loadAgg [_, _, _, _, _, _, _, _, _, _, _] (by kernel_rfl) rfl (by exact rdl_flat _ _ _ (by intros; rfl) _ (by omega))) ?_
  refine LW.e rfl (Ef.call (Rp.copied B p q a c N m W first count pf n cf hand A hn hn2) Tryz.func52 rfl rfl rfl ?_)
  rintro _ _ ⟨pf2, cf2, rfl, rfl⟩
  try simp only [List.cons_append, List.nil_append]
  refine LW.own (fun w ho => ?_)
  obtain ⟨gf, rfl⟩ : ∃ g, pf2 = some ⟨g, 0, none⟩ := (ho.slice_at (p := pf2) (m := n) (c := cf2)).2.1 (by omega)
  clear ho
  have hfl := ra_len A
  refine LW.e0 rfl (Ef.store [_, _, _, _, _, _, _, _, _, _, _] (by kernel_rfl) rfl rfl rfl rfl (by simp) ?_)
  try simp only [splice, List.length_cons, List.length_nil, List.drop_succ_cons, List.cons_append, List.take_succ_cons, List.take_zero, List.drop_zero, List.nil_append, List.append_nil]
  refine LW.done ?_
  refine T.seq ?_
  refine T.region ?_
  refine LW.q rfl (Qt.fieldAddr (off := 9) (by kernel_rfl) rfl) ?_
  first | refine LW.q rfl (Qt.load (by kernel_rfl) rfl rfl) ?_ | refine LW.q rfl (Qt.load (by kernel_rfl) rfl (map_at _ _ _ (by omega))) ?_ | refine LW.q rfl (Qt.load (by kernel_rfl) rfl (flat_cell0 _ _ _ (by intros; rfl) _ (by omega) (by rfl))) ?_ | refine LW.q rfl (Qt.load (by kernel_rfl) rfl (flat_cell _ _ _ (by intros; rfl) _ _ (by omega) (by rfl))) ?_ | refine LW.q rfl (Qt.load (by kernel_rfl) rfl (bytes_at _ _ (by omega))) ?_
  refine LW.q rfl (Qt.move rfl) ?_
  refine LW.q rfl (Qt.index _ (e := 90) (sz := 6) (by kernel_rfl) rfl rfl rfl (by omega)) ?_
  refine LW.q rfl (Qt.fieldAddr (off := 3) (by kernel_rfl) rfl) ?_
  refine LW.q rfl (Qt.load (v := .int .i64 x.pins) (by kernel_rfl) rfl (ra_at hx 3 (by omega))) ?_
  refine LW.q rfl (Qt.sub rfl rfl (wr64 (by omega) (by omega))) ?_
  refine LW.q rfl (Qt.index _ (e := 90) (sz := 6) (by kernel_rfl) rfl rfl rfl (by omega)) ?_
  refine LW.q rfl (Qt.fieldAddr (off := 3) (by kernel_rfl) rfl) ?_
  refine LW.e0 rfl (Ef.store1 (by kernel_rfl) rfl rfl rfl (by omega) ?_)
  rw [ra_set (y := { x with pins := x.pins - 1 }) hx 3 (by omega) _ rfl]
  refine LW.done ?_
  refine T.seq ?_
  refine T.region ?_
  first | refine LW.q rfl (Qt.loadAgg [_, _, _, _, _, _, _, _, _, _, _] (by kernel_rfl) rfl ⟨rfl, rfl, rfl, rfl, rfl, rfl, rfl, rfl, rfl, rfl, rfl, trivial⟩) ?_ | refine LW.q rfl (Qt.loadAgg [_, _, _, _, _, _, _, _, _, _, _] (by kernel_rfl) rfl (by exact rdl_flat _ _ _ (by intros; rfl) _ (by omega))) ?_
  refine LW.e0 rfl (Ef.store [_, _, _, _, _, _, _, _, _, _, _] (by kernel_rfl) rfl rfl rfl rfl (by simp) ?_)
  try simp only [splice, List.length_cons, List.length_nil, List.drop_succ_cons, List.cons_append, List.take_succ_cons, List.take_zero, List.drop_zero, List.nil_append, List.append_nil]
  refine LW.q rfl (Qt.assign rfl) ?_
  refine LW.done ?_
  refine T.ret ?_
  exact ⟨.inl rfl, _, _, res [_, _] rfl ⟨rvA [_, _, _, _, _, _, _, _, _, _, _] (by kernel_rfl) rfl ⟨rfl, rfl, rfl, rfl, rfl, rfl, rfl, rfl, rfl, rfl, rfl, trivial⟩, rvT rfl, trivial⟩, ⟨_, cf2, rfl, rfl⟩, Sub.any⟩
set_option maxHeartbeats 4000000 in
set_option maxRecDepth 100000 in
theorem Rp.put (B : Base) (p q : Option Addr) (a c N m : Nat) (W : Wl) (first count : Nat) (pf : Option Addr) (n cf hand : Nat) (A : List Fa) (hn : A.length = n) (hn2 : n ≤ 4096) (page : Int) (d : List UInt8) (mark : Int) :
  Fn Tryz.prog B 31 #[rqV p q a c N m W first count pf n cf hand, .int .i64 page, strW d, .int .i64 mark] [raR pf n cf A] (fun v l => ∃ pf' cf', v = .tuple #[rqV p q a c N m W first count pf' n cf' hand, .int .i64 (putA A page d mark).2] ∧ l = [raR pf' n cf' (putA A page d mark).1]) := by
 refine Fn.enter4 49 Tryz.func31 rfl rfl (Nat.le_of_ble_eq_true rfl) (fun F => ?_)
 try simp only [List.cons_append, List.nil_append]
 refine T.seq ?_
 refine T.region ?_
 refine LW.e rfl (Ef.box [_, _, _, _, _, _, _, _, _, _, _] rfl rfl ?_)
 intro g4
 refine LW.e rfl (Ef.alloc [.slice none 0 0, .slice none 0 0, .string .empty, .int .u32 0, .int .i64 0, .int .i64 0, .int .i64 0, .int .i64 0, .int .i64 0, .slice none 0 0, .int .i64 0] (by unfold zeroB; kernel_rfl) ?_)
 intro g8
 refine LW.q rfl (Qt.assign rfl) ?_
 refine LW.done ?_
 refine T.seq ?_
 refine T.region ?_
 first | refine LW.q rfl (Qt.loadAgg [_, _, _, _, _, _, _, _, _, _, _] (by kernel_rfl) rfl ⟨rfl, rfl, rfl, rfl, rfl, rfl, rfl, rfl, rfl, rfl, rfl, trivial⟩) ?_ | refine LW.q rfl (Qt.loadAgg [_, _, _, _, _, _, _, _, _, _, _] (by kernel_rfl) rfl (by exact rdl_flat _ _ _ (by intros; rfl) _ (by omega))) ?_
 refine LW.q rfl (Qt.move rfl) ?_
 refine LW.e rfl (Ef.call (Rp.pinned B p q a c N m W first count pf n cf hand A hn hn2 page) Tryz.func33 rfl rfl rfl ?_)
 rintro _ _ ⟨rfl, rfl⟩
 try simp only [List.cons_append, List.nil_append]
 refine LW.q rfl (Qt.assign rfl) ?_
 refine LW.done ?_
 refine T.seq ?_
 refine T.seq ?_
 refine T.region ?_
 refine LW.q rfl (Qt.move rfl) ?_
 refine LW.q rfl (Qt.lss rfl rfl) ?_
 refine LW.done ?_
 by_cases hno : pinnedA A page = none
 ·
  rw [pinI_none hno]
  have hu : putA A page d mark = (A, 61) := by unfold putA; rw [hno]
  rw [hu]
  first | refine T.condT rfl ?_ | refine T.condPT rfl (by omega) ?_ | refine T.condBT rfl (by omega) ?_
  refine T.seq ?_
  refine T.region ?_
  first | refine LW.q rfl (Qt.loadAgg [_, _, _, _, _, _, _, _, _, _, _] (by kernel_rfl) rfl ⟨rfl, rfl, rfl, rfl, rfl, rfl, rfl, rfl, rfl, rfl, rfl, trivial⟩) ?_ | refine LW.q rfl (Qt.loadAgg [_, _, _, _, _, _, _, _, _, _, _] (by kernel_rfl) rfl (by exact rdl_flat _ _ _ (by intros; rfl) _ (by omega))) ?_
  refine LW.e0 rfl (Ef.store [_, _, _, _, _, _, _, _, _, _, _] (by kernel_rfl) rfl rfl rfl rfl (by simp) ?_)
  try simp only [splice, List.length_cons, List.length_nil, List.drop_succ_cons, List.cons_append, List.take_succ_cons, List.take_zero, List.drop_zero, List.nil_append, List.append_nil]
  refine LW.q rfl (Qt.assign rfl) ?_
  refine LW.done ?_
  refine T.ret ?_
  exact ⟨.inl rfl, _, _, res [_, _] rfl ⟨rvA [_, _, _, _, _, _, _, _, _, _, _] (by kernel_rfl) rfl ⟨rfl, rfl, rfl, rfl, rfl, rfl, rfl, rfl, rfl, rfl, rfl, trivial⟩, rvT rfl, trivial⟩, ⟨pf, cf, rfl, rfl⟩, Sub.any⟩
 ·
  obtain ⟨⟨i, x⟩, hi⟩ := Option.ne_none_iff_exists'.1 hno
  obtain ⟨h1, hx, hp⟩ := pinnedA_some hi
  have hil := (List.getElem?_eq_some_iff.1 hx).1
  rw [pinI_some hi]
  first | refine T.condF rfl ?_ | refine T.condPF rfl (by omega) ?_ | refine T.condBF rfl (by omega) ?_
  refine T.skip ?_
  refine T.seq ?_
  refine T.seq ?_
  refine T.region ?_
  refine LW.q rfl (Qt.move rfl) ?_
  first | refine LW.q rfl (Qt.lenSt (by kernel_rfl) rfl) ?_ | refine LW.q rfl (Qt.lenS (by kernel_rfl) rfl) ?_
  refine LW.q rfl (Qt.neq rfl rfl) ?_
  refine LW.done ?_
  refine T.condP rfl (fun hd => ?_) (fun hd => ?_)
  ·
   have hu : putA A page d mark = (A, 10) := by unfold putA; rw [hi]; dsimp only; rw [if_pos (by omega)]
   rw [hu]
   refine T.seq ?_
   refine T.region ?_
   first | refine LW.q rfl (Qt.loadAgg [_, _, _, _, _, _, _, _, _, _, _] (by kernel_rfl) rfl ⟨rfl, rfl, rfl, rfl, rfl, rfl, rfl, rfl, rfl, rfl, rfl, trivial⟩) ?_ | refine LW.q rfl (Qt.loadAgg [_, _, _, _, _, _, _, _, _, _, _] (by kernel_rfl) rfl (by exact rdl_flat _ _ _ (by intros; rfl) _ (by omega))) ?_
   refine LW.e0 rfl (Ef.store [_, _, _, _, _, _, _, _, _, _, _] (by kernel_rfl) rfl rfl rfl rfl (by simp) ?_)
   try simp only [splice, List.length_cons, List.length_nil, List.drop_succ_cons, List.cons_append, List.take_succ_cons, List.take_zero, List.drop_zero, List.nil_append, List.append_nil]
   refine LW.q rfl (Qt.assign rfl) ?_
   refine LW.done ?_
   refine T.ret ?_
   exact ⟨.inl rfl, _, _, res [_, _] rfl ⟨rvA [_, _, _, _, _, _, _, _, _, _, _] (by kernel_rfl) rfl ⟨rfl, rfl, rfl, rfl, rfl, rfl, rfl, rfl, rfl, rfl, rfl, trivial⟩, rvT rfl, trivial⟩, ⟨pf, cf, rfl, rfl⟩, Sub.any⟩
  ·
   have hu : putA A page d mark = (A.set i { x with mark := max x.mark mark, dirty := true, b := d }, 0) := by unfold putA; rw [hi]; dsimp only; rw [if_neg (by omega)]
   rw [hu]
   refine T.skip ?_
   refine T.seq ?_
   refine T.region ?_
   first | refine LW.q rfl (Qt.loadAgg [_, _, _, _, _, _, _, _, _, _, _] (by kernel_rfl) rfl ⟨rfl, rfl, rfl, rfl, rfl, rfl, rfl, rfl, rfl, rfl, rfl, trivial⟩) ?_ | refine LW.q rfl (Qt.loadAgg [_, _, _, _, _, _, _, _, _, _, _] (by kernel_rfl) rfl (by exact rdl_flat _ _ _ (by intros; rfl) _ (by omega))) ?_
   refine LW.e rfl (Ef.call (Rp.copied B p q a c N m W first count pf n cf hand A hn hn2) Tryz.func52 rfl rfl rfl ?_)
   rintro _ _ ⟨pf2, cf2, rfl, rfl⟩
   try simp only [List.cons_append, List.nil_append]
   refine LW.own (fun w ho => ?_)
   obtain ⟨gf, rfl⟩ : ∃ g, pf2 = some ⟨g, 0, none⟩ := (ho.slice_at (p := pf2) (m := n) (c := cf2)).2.1 (by omega)
   clear ho
   have hfl := ra_len A
   refine LW.e0 rfl (Ef.store [_, _, _, _, _, _, _, _, _, _, _] (by kernel_rfl) rfl rfl rfl rfl (by simp) ?_)
   try simp only [splice, List.length_cons, List.length_nil, List.drop_succ_cons, List.cons_append, List.take_succ_cons, List.take_zero, List.drop_zero, List.nil_append, List.append_nil]
   refine LW.done ?_
   refine T.seq ?_
   refine T.region ?_
   refine LW.q rfl (Qt.fieldAddr (off := 9) (by kernel_rfl) rfl) ?_
   first | refine LW.q rfl (Qt.load (by kernel_rfl) rfl rfl) ?_ | refine LW.q rfl (Qt.load (by kernel_rfl) rfl (map_at _ _ _ (by omega))) ?_ | refine LW.q rfl (Qt.load (by kernel_rfl) rfl (flat_cell0 _ _ _ (by intros; rfl) _ (by omega) (by rfl))) ?_ | refine LW.q rfl (Qt.load (by kernel_rfl) rfl (flat_cell _ _ _ (by intros; rfl) _ _ (by omega) (by rfl))) ?_ | refine LW.q rfl (Qt.load (by kernel_rfl) rfl (bytes_at _ _ (by omega))) ?_
   refine LW.q rfl (Qt.move rfl) ?_
   refine LW.q rfl (Qt.move rfl) ?_
   refine LW.q rfl (Qt.index _ (e := 90) (sz := 6) (by kernel_rfl) rfl rfl rfl (by omega)) ?_
   refine LW.q rfl (Qt.fieldAddr (off := 1) (by kernel_rfl) rfl) ?_
   refine LW.e0 rfl (Ef.store1 (by kernel_rfl) rfl rfl rfl (by omega) ?_)
   rw [ra_set (y := { x with b := d }) hx 1 (by omega) _ rfl]
   have h2 : (A.set i { x with b := d })[i]? = some { x with b := d } := by rw [List.getElem?_set_self hil]
   have hfl2 := ra_len (A.set i { x with b := d })
   rw [List.length_set] at hfl2
   refine LW.done ?_
   refine T.seq ?_
   refine T.region ?_
   refine LW.q rfl (Qt.fieldAddr (off := 9) (by kernel_rfl) rfl) ?_
   first | refine LW.q rfl (Qt.load (by kernel_rfl) rfl rfl) ?_ | refine LW.q rfl (Qt.load (by kernel_rfl) rfl (map_at _ _ _ (by omega))) ?_ | refine LW.q rfl (Qt.load (by kernel_rfl) rfl (flat_cell0 _ _ _ (by intros; rfl) _ (by omega) (by rfl))) ?_ | refine LW.q rfl (Qt.load (by kernel_rfl) rfl (flat_cell _ _ _ (by intros; rfl) _ _ (by omega) (by rfl))) ?_ | refine LW.q rfl (Qt.load (by kernel_rfl) rfl (bytes_at _ _ (by omega))) ?_
   refine LW.q rfl (Qt.move rfl) ?_
   refine LW.q rfl (Qt.index _ (e := 90) (sz := 6) (by kernel_rfl) rfl rfl rfl (by omega)) ?_
   refine LW.q rfl (Qt.fieldAddr (off := 4) (by kernel_rfl) rfl) ?_
   refine LW.e0 rfl (Ef.store1 (by kernel_rfl) rfl rfl rfl (by omega) ?_)
   rw [ra_set (y := { x with b := d, dirty := true }) h2 4 (by omega) _ rfl, List.set_set]
   have h3 : (A.set i { x with b := d, dirty := true })[i]? = some { x with b := d, dirty := true } := by rw [List.getElem?_set_self hil]
   have hfl3 := ra_len (A.set i { x with b := d, dirty := true })
   rw [List.length_set] at hfl3
   refine LW.done ?_
   refine T.seq ?_
   refine T.seq ?_
   refine T.region ?_
   refine LW.q rfl (Qt.move rfl) ?_
   refine LW.q rfl (Qt.fieldAddr (off := 9) (by kernel_rfl) rfl) ?_
   first | refine LW.q rfl (Qt.load (by kernel_rfl) rfl rfl) ?_ | refine LW.q rfl (Qt.load (by kernel_rfl) rfl (map_at _ _ _ (by omega))) ?_ | refine LW.q rfl (Qt.load (by kernel_rfl) rfl (flat_cell0 _ _ _ (by intros; rfl) _ (by omega) (by rfl))) ?_ | refine LW.q rfl (Qt.load (by kernel_rfl) rfl (flat_cell _ _ _ (by intros; rfl) _ _ (by omega) (by rfl))) ?_ | refine LW.q rfl (Qt.load (by kernel_rfl) rfl (bytes_at _ _ (by omega))) ?_
   refine LW.q rfl (Qt.move rfl) ?_
   refine LW.q rfl (Qt.index _ (e := 90) (sz := 6) (by kernel_rfl) rfl rfl rfl (by omega)) ?_
   refine LW.q rfl (Qt.fieldAddr (off := 2) (by kernel_rfl) rfl) ?_
   refine LW.q rfl (Qt.load (v := .int .i64 x.mark) (by kernel_rfl) rfl (ra_at h3 2 (by omega))) ?_
   refine LW.q rfl (Qt.gtr rfl rfl) ?_
   refine LW.done ?_
   refine T.condP rfl (fun hm => ?_) (fun hm => ?_)
   ·
    rw [show max x.mark mark = mark by omega]
    refine T.region ?_
    refine LW.q rfl (Qt.fieldAddr (off := 9) (by kernel_rfl) rfl) ?_
    first | refine LW.q rfl (Qt.load (by kernel_rfl) rfl rfl) ?_ | refine LW.q rfl (Qt.load (by kernel_rfl) rfl (map_at _ _ _ (by omega))) ?_ | refine LW.q rfl (Qt.load (by kernel_rfl) rfl (flat_cell0 _ _ _ (by intros; rfl) _ (by omega) (by rfl))) ?_ | refine LW.q rfl (Qt.load (by kernel_rfl) rfl (flat_cell _ _ _ (by intros; rfl) _ _ (by omega) (by rfl))) ?_ | refine LW.q rfl (Qt.load (by kernel_rfl) rfl (bytes_at _ _ (by omega))) ?_
    refine LW.q rfl (Qt.move rfl) ?_
    refine LW.q rfl (Qt.move rfl) ?_
    refine LW.q rfl (Qt.index _ (e := 90) (sz := 6) (by kernel_rfl) rfl rfl rfl (by omega)) ?_
    refine LW.q rfl (Qt.fieldAddr (off := 2) (by kernel_rfl) rfl) ?_
    refine LW.e0 rfl (Ef.store1 (by kernel_rfl) rfl rfl rfl (by omega) ?_)
    rw [ra_set (y := { x with b := d, dirty := true, mark := mark }) h3 2 (by omega) _ rfl, List.set_set]
    refine LW.done ?_
    refine T.seq ?_
    refine T.region ?_
    first | refine LW.q rfl (Qt.loadAgg [_, _, _, _, _, _, _, _, _, _, _] (by kernel_rfl) rfl ⟨rfl, rfl, rfl, rfl, rfl, rfl, rfl, rfl, rfl, rfl, rfl, trivial⟩) ?_ | refine LW.q rfl (Qt.loadAgg [_, _, _, _, _, _, _, _, _, _, _] (by kernel_rfl) rfl (by exact rdl_flat _ _ _ (by intros; rfl) _ (by omega))) ?_
    refine LW.e0 rfl (Ef.store [_, _, _, _, _, _, _, _, _, _, _] (by kernel_rfl) rfl rfl rfl rfl (by simp) ?_)
    try simp only [splice, List.length_cons, List.length_nil, List.drop_succ_cons, List.cons_append, List.take_succ_cons, List.take_zero, List.drop_zero, List.nil_append, List.append_nil]
    refine LW.q rfl (Qt.assign rfl) ?_
    refine LW.done ?_
    refine T.ret ?_
    exact ⟨.inl rfl, _, _, res [_, _] rfl ⟨rvA [_, _, _, _, _, _, _, _, _, _, _] (by kernel_rfl) rfl ⟨rfl, rfl, rfl, rfl, rfl, rfl, rfl, rfl, rfl, rfl, rfl, trivial⟩, rvT rfl, trivial⟩, ⟨_, cf2, rfl, rfl⟩, Sub.any⟩
   ·
    rw [show max x.mark mark = x.mark by omega]
    refine T.skip ?_
    refine T.seq ?_
    refine T.region ?_
    first | refine LW.q rfl (Qt.loadAgg [_, _, _, _, _, _, _, _, _, _, _] (by kernel_rfl) rfl ⟨rfl, rfl, rfl, rfl, rfl, rfl, rfl, rfl, rfl, rfl, rfl, trivial⟩) ?_ | refine LW.q rfl (Qt.loadAgg [_, _, _, _, _, _, _, _, _, _, _] (by kernel_rfl) rfl (by exact rdl_flat _ _ _ (by intros; rfl) _ (by omega))) ?_
    refine LW.e0 rfl (Ef.store [_, _, _, _, _, _, _, _, _, _, _] (by kernel_rfl) rfl rfl rfl rfl (by simp) ?_)
    try simp only [splice, List.length_cons, List.length_nil, List.drop_succ_cons, List.cons_append, List.take_succ_cons, List.take_zero, List.drop_zero, List.nil_append, List.append_nil]
    refine LW.q rfl (Qt.assign rfl) ?_
    refine LW.done ?_
    refine T.ret ?_
    exact ⟨.inl rfl, _, _, res [_, _] rfl ⟨rvA [_, _, _, _, _, _, _, _, _, _, _] (by kernel_rfl) rfl ⟨rfl, rfl, rfl, rfl, rfl, rfl, rfl, rfl, rfl, rfl, rfl, trivial⟩, rvT rfl, trivial⟩, ⟨_, cf2, rfl, rfl⟩, Sub.any⟩

/-- What the document's victim answers. -/
def vicI (first : Nat) (s : Pl) : Pl × Int := match victimP first s with
  | none => (s, -1)
  | some (i, s') => (s', i)
/-- The cases of victim. -/
inductive VicC (first : Nat) (s : Pl) : Pl × Int → Prop
  | free (i : Nat) (x : Fa) (hi : s.A[i]? = some x) (hp : x.page < 0) (hfirst : ∀ (k : Nat), k < i → ∀ y : Fa, s.A[k]? = some y → 0 ≤ y.page) : VicC first s (s, i)
  | full (hx : ∀ (j : Nat) (y : Fa), s.A[j]? = some y → 0 ≤ y.page ∧ 0 < y.pins) : VicC first s (s, -1)
  | clock (i h' : Nat) (A' : List Fa) (x' : Fa) (hx : ∀ (j : Nat) (y : Fa), s.A[j]? = some y → 0 ≤ y.page) (ha : (s.A.all fun x => decide (0 < x.pins)) = false) (hc : clockA (2 * s.A.length + 1) s.A s.hand = some (i, A', h')) (hx' : A'[i]? = some x') (hup : ¬ 0 < x'.pins) :
      VicC first s (⟨A', h', (giveP first s.W s.D x').1, (giveP first s.W s.D x').2⟩, i)
theorem vic_cases {first : Nat} {s : Pl} (hh : s.hand < s.A.length) : VicC first s (vicI first s) := by
  unfold vicI victimP
  cases hx : s.A.findIdx? (fun x => decide (x.page < 0)) with
  | some i =>
    dsimp only
    obtain ⟨hi, h1, h2⟩ := List.findIdx?_eq_some_iff_getElem.1 hx
    refine .free i s.A[i] (List.getElem?_eq_getElem hi) (of_decide_eq_true h1) fun k hk y hy => ?_
    have hkl := (List.getElem?_eq_some_iff.1 hy).1
    have := h2 k hk
    rw [List.getElem?_eq_getElem hkl] at hy
    cases hy
    have := of_decide_eq_false (Bool.eq_false_iff.2 this)
    omega
  | none =>
    dsimp only
    have hge : ∀ (j : Nat) (y : Fa), s.A[j]? = some y → 0 ≤ y.page := fun j y hy => by
      have := List.findIdx?_eq_none_iff.1 hx y (List.mem_of_getElem? hy)
      have := of_decide_eq_false this
      omega
    cases ha : s.A.all fun x => decide (0 < x.pins) with
    | true =>
      rw [if_pos rfl]
      exact .full fun j y hy => ⟨hge j y hy, of_decide_eq_true (List.all_eq_true.1 ha y (List.mem_of_getElem? hy))⟩
    | false =>
      rw [if_neg (by simp)]
      obtain ⟨⟨i, A', h'⟩, hc⟩ := clock_some hh ha
      obtain ⟨_, x', hx', hup⟩ := clock_at hc hh
      rw [hc]
      dsimp only
      rw [hx']
      exact .clock i h' A' x' hge ha hc hx' hup

theorem all_of_count {A : List Fa} (h : A.countP (fun x => decide (0 < x.pins)) = A.length) : (A.all fun x => decide (0 < x.pins)) = true := by
  rw [List.all_eq_true]
  exact List.countP_eq_length.1 h
theorem count_of_all {A : List Fa} (h : ∀ x ∈ A, 0 < x.pins) : A.countP (fun x => decide (0 < x.pins)) = A.length := List.countP_eq_length.2 fun x hx => decide_eq_true (h x hx)
theorem count_all {A : List Fa} {k : Nat} {y : Fa} (hy : A[k]? = some y) : (A.take (k + 1)).countP (fun x => decide (0 < x.pins)) = (A.take k).countP (fun x => decide (0 < x.pins)) + if 0 < y.pins then 1 else 0 := by
  rw [List.take_add_one, hy, List.countP_append]
  simp [List.countP_cons]

set_option maxHeartbeats 8000000 in
set_option maxRecDepth 100000 in
theorem Rp.victim (B : Base) (p q : Option Addr) (a c N m : Nat) (W : Wl) (D : DD) (first count : Nat) (pf : Option Addr) (n cf hand : Nat) (A : List Fa) (hF : FOk count n A) (hh : hand < n) (hN : D.secs.length = N) (hm : D.pend.length = m) (hw : WOk W D) (ho : D.Ok) (hroom : m + 16384 + 1 < 2 ^ 32) (hsec : first + count ≤ N) :
  Fn Tryz.prog B 54 #[rqV p q a c N m W first count pf n cf hand] [rS (.slice p N a) N D.secs, rW (.slice q m c) m D.pend, raR pf n cf A]
   (fun v l => ∃ p' q' a' c' m', (vicI first ⟨A, hand, W, D⟩).1.D.pend.length = m' ∧ v = .tuple #[rqV p' q' a' c' N m' (vicI first ⟨A, hand, W, D⟩).1.W first count pf n cf (vicI first ⟨A, hand, W, D⟩).1.hand, .int .i64 (vicI first ⟨A, hand, W, D⟩).2] ∧ l = [rS (.slice p' N a') N (vicI first ⟨A, hand, W, D⟩).1.D.secs, rW (.slice q' m' c') m' (vicI first ⟨A, hand, W, D⟩).1.D.pend, raR pf n cf (vicI first ⟨A, hand, W, D⟩).1.A]) := by
 have hn := hF.len
 have hn2 := hF.n2
 have hn0 : 0 < n := by omega
 have hwm := hw.max
 have hvc := vic_cases (first := first) (s := ⟨A, hand, W, D⟩) (by rw [hF.len]; exact hh)
 generalize vicI first ⟨A, hand, W, D⟩ = res at hvc ⊢
 refine Fn.enter1 103 Tryz.func54 rfl rfl (Nat.le_of_ble_eq_true rfl) (fun F => ?_)
 try simp only [List.cons_append, List.nil_append]
 refine T.own (fun w ho => ?_)
 obtain ⟨gf, rfl⟩ : ∃ g, pf = some ⟨g, 0, none⟩ := (ho.slice_at (p := pf) (m := n) (c := cf)).2.1 hn0
 clear ho
 refine T.seq ?_
 refine T.region ?_
 refine LW.e rfl (Ef.box [_, _, _, _, _, _, _, _, _, _, _] rfl rfl ?_)
 intro g1
 refine LW.e rfl (Ef.alloc [.slice none 0 0, .slice none 0 0, .string .empty, .int .u32 0, .int .i64 0, .int .i64 0, .int .i64 0, .int .i64 0, .int .i64 0, .slice none 0 0, .int .i64 0] (by unfold zeroB; kernel_rfl) ?_)
 intro g2
 refine LW.q rfl (Qt.assign rfl) ?_
 refine LW.done ?_
 refine T.seq ?_
 refine T.region ?_
 refine LW.q rfl (Qt.assign rfl) ?_
 refine LW.done ?_
 refine T.seq ?_
 refine T.seq ?_
 refine T.region ?_
 refine LW.q rfl (Qt.assign rfl) ?_
 refine LW.done ?_
 refine T.block ?_
 refine T.loop (fun mz fz lz => ∃ (f0 : Fr) (k : Nat) (pn : Nat), (k ≤ n ∧ pn = (A.take k).countP (fun x => decide (0 < x.pins)) ∧ ∀ (j : Nat), j < k → ∀ y : Fa, A[j]? = some y → 0 ≤ y.page) ∧ mz = n - k ∧ fz = (upd (upd (upd (upd f0 1 (.pointer (some ⟨g1, 0, none⟩))) 2 (.pointer (some ⟨g2, 0, none⟩))) 4 (.int .i64 pn)) 5 (.int .i64 k)) ∧ lz = rS (.slice p N a) N D.secs :: rW (.slice q m c) m D.pend :: raR (some ⟨gf, 0, none⟩) n cf A :: blk g1 (rqC p q a c N m W first count (some ⟨gf, 0, none⟩) n cf hand) 41 :: blk g2 [.slice none 0 0, .slice none 0 0, .string ByteArray.empty, .int .u32 0, .int .i64 0, .int .i64 0, .int .i64 0, .int .i64 0, .int .i64 0, .slice none 0 0, .int .i64 0] 41 :: F) ?_ ?_
 · refine ⟨_, _, ⟨_, 0, 0, ⟨Nat.zero_le _, rfl, fun j hj => by omega⟩, rfl, (updS rfl (updS rfl (updS rfl (updS rfl rfl)))), rfl⟩, Sub.any⟩
 ·
  rintro mz fz lz ⟨f0, k, pn, ⟨hk, hpn, hge⟩, hmz, rfl, rfl⟩
  subst mz
  try simp only [List.cons_append, List.nil_append]
  refine T.seq ?_
  refine T.seq ?_
  refine T.region ?_
  refine LW.q rfl (Qt.move rfl) ?_
  refine LW.q rfl (Qt.fieldAddr (off := 9) (by kernel_rfl) rfl) ?_
  first | refine LW.q rfl (Qt.load (by kernel_rfl) rfl rfl) ?_ | refine LW.q rfl (Qt.load (by kernel_rfl) rfl (map_at _ _ _ (by omega))) ?_ | refine LW.q rfl (Qt.load (by kernel_rfl) rfl (flat_cell0 _ _ _ (by intros; rfl) _ (by omega) (by rfl))) ?_ | refine LW.q rfl (Qt.load (by kernel_rfl) rfl (flat_cell _ _ _ (by intros; rfl) _ _ (by omega) (by rfl))) ?_ | refine LW.q rfl (Qt.load (by kernel_rfl) rfl (bytes_at _ _ (by omega))) ?_
  refine LW.q rfl (Qt.len (e := 90) (sz := 6) (by kernel_rfl) rfl) ?_
  refine LW.q rfl (Qt.lss rfl rfl) ?_
  refine LW.done ?_
  refine T.condP rfl (fun hlt => ?_) (fun hlt => ?_)
  ·
   obtain ⟨y, hy⟩ : ∃ y, A[k]? = some y := ⟨_, List.getElem?_eq_getElem (by omega)⟩
   have hpc : pn ≤ k := by rw [hpn]; refine Nat.le_trans List.countP_le_length ?_; rw [List.length_take]; omega
   refine T.skip ?_
   refine T.seq ?_
   refine T.block ?_
   refine T.seq ?_
   refine T.seq ?_
   refine T.region ?_
   refine LW.q rfl (Qt.fieldAddr (off := 9) (by kernel_rfl) rfl) ?_
   first | refine LW.q rfl (Qt.load (by kernel_rfl) rfl rfl) ?_ | refine LW.q rfl (Qt.load (by kernel_rfl) rfl (map_at _ _ _ (by omega))) ?_ | refine LW.q rfl (Qt.load (by kernel_rfl) rfl (flat_cell0 _ _ _ (by intros; rfl) _ (by omega) (by rfl))) ?_ | refine LW.q rfl (Qt.load (by kernel_rfl) rfl (flat_cell _ _ _ (by intros; rfl) _ _ (by omega) (by rfl))) ?_ | refine LW.q rfl (Qt.load (by kernel_rfl) rfl (bytes_at _ _ (by omega))) ?_
   refine LW.q rfl (Qt.move rfl) ?_
   refine LW.q rfl (Qt.index _ (e := 90) (sz := 6) (by kernel_rfl) rfl rfl rfl (by omega)) ?_
   refine LW.q rfl (Qt.fieldAddr0 (by kernel_rfl) rfl) ?_
   refine LW.q rfl (Qt.load (v := .int .i64 y.page) (by kernel_rfl) rfl (ra_at hy 0 (by omega))) ?_
   refine LW.q rfl (Qt.lss rfl rfl) ?_
   refine LW.done ?_
   refine T.condP rfl (fun hneg => ?_) (fun hneg => ?_)
   ·
    cases hvc with
     | full hx => exact absurd (hx k y hy).1 (by omega)
     | clock i h' A' x' hx ha hc hx' hup => exact absurd (hx k y hy) (by omega)
     | free i x hi hp hfirst => ?_
    obtain rfl : i = k := by rcases Nat.lt_trichotomy i k with h | h | h; exact absurd (hge i h x hi) (by omega); exact h; exact absurd (hfirst k h y hy) (by omega)
    refine T.seq ?_
    refine T.region ?_
    first | refine LW.q rfl (Qt.loadAgg [_, _, _, _, _, _, _, _, _, _, _] (by kernel_rfl) rfl ⟨rfl, rfl, rfl, rfl, rfl, rfl, rfl, rfl, rfl, rfl, rfl, trivial⟩) ?_ | refine LW.q rfl (Qt.loadAgg [_, _, _, _, _, _, _, _, _, _, _] (by kernel_rfl) rfl (by exact rdl_flat _ _ _ (by intros; rfl) _ (by omega))) ?_
    refine LW.q rfl (Qt.move rfl) ?_
    refine LW.e0 rfl (Ef.store [_, _, _, _, _, _, _, _, _, _, _] (by kernel_rfl) rfl rfl rfl rfl (by simp) ?_)
    try simp only [splice, List.length_cons, List.length_nil, List.drop_succ_cons, List.cons_append, List.take_succ_cons, List.take_zero, List.drop_zero, List.nil_append, List.append_nil]
    refine LW.q rfl (Qt.assign rfl) ?_
    refine LW.done ?_
    refine T.ret ?_
    exact ⟨.inl rfl, _, _, res [_, _] rfl ⟨rvA [_, _, _, _, _, _, _, _, _, _, _] (by kernel_rfl) rfl ⟨rfl, rfl, rfl, rfl, rfl, rfl, rfl, rfl, rfl, rfl, rfl, trivial⟩, rvT rfl, trivial⟩, ⟨p, q, a, c, m, hm, rfl, rfl⟩, Sub.any⟩
   ·
    have hge2 : ∀ (j : Nat), j < k + 1 → ∀ y : Fa, A[j]? = some y → 0 ≤ y.page := fun j hj z hz => by rcases Nat.lt_or_ge j k with h | h; exact hge j h z hz; obtain rfl : j = k := (by omega); rw [hy] at hz; cases hz; omega
    refine T.skip ?_
    refine T.seq ?_
    refine T.region ?_
    refine LW.q rfl (Qt.fieldAddr (off := 9) (by kernel_rfl) rfl) ?_
    first | refine LW.q rfl (Qt.load (by kernel_rfl) rfl rfl) ?_ | refine LW.q rfl (Qt.load (by kernel_rfl) rfl (map_at _ _ _ (by omega))) ?_ | refine LW.q rfl (Qt.load (by kernel_rfl) rfl (flat_cell0 _ _ _ (by intros; rfl) _ (by omega) (by rfl))) ?_ | refine LW.q rfl (Qt.load (by kernel_rfl) rfl (flat_cell _ _ _ (by intros; rfl) _ _ (by omega) (by rfl))) ?_ | refine LW.q rfl (Qt.load (by kernel_rfl) rfl (bytes_at _ _ (by omega))) ?_
    refine LW.q rfl (Qt.move rfl) ?_
    refine LW.q rfl (Qt.index _ (e := 90) (sz := 6) (by kernel_rfl) rfl rfl rfl (by omega)) ?_
    refine LW.q rfl (Qt.fieldAddr (off := 3) (by kernel_rfl) rfl) ?_
    refine LW.q rfl (Qt.load (v := .int .i64 y.pins) (by kernel_rfl) rfl (ra_at hy 3 (by omega))) ?_
    refine LW.q rfl (Qt.gtr rfl rfl) ?_
    refine LW.done ?_
    refine T.condP rfl (fun hpin => ?_) (fun hpin => ?_)
    ·
     refine T.region ?_
     refine LW.q rfl (Qt.move rfl) ?_
     refine LW.q rfl (Qt.add rfl rfl (wr64 (by omega) (by omega))) ?_
     refine LW.q rfl (Qt.assign rfl) ?_
     refine LW.done ?_
     refine T.region ?_
     refine LW.q rfl (Qt.move rfl) ?_
     refine LW.q rfl (Qt.add rfl rfl (wr64 (by omega) (by omega))) ?_
     refine LW.q rfl (Qt.assign rfl) ?_
     refine LW.done ?_
     refine ⟨_, ?_, _, ⟨_, k + 1, pn + 1, ⟨by omega, by rw [count_all hy, if_pos hpin, hpn], hge2⟩, rfl, (updS rfl (updS rfl (updS rfl (updS rfl rfl)))), rfl⟩, Sub.any⟩
     first | omega | (simp; omega)
    ·
     refine T.skip ?_
     refine T.region ?_
     refine LW.q rfl (Qt.move rfl) ?_
     refine LW.q rfl (Qt.add rfl rfl (wr64 (by omega) (by omega))) ?_
     refine LW.q rfl (Qt.assign rfl) ?_
     refine LW.done ?_
     refine ⟨_, ?_, _, ⟨_, k + 1, pn, ⟨by omega, by rw [count_all hy, if_neg hpin, hpn]; rfl, hge2⟩, rfl, (updS rfl (updS rfl (updS rfl (updS rfl rfl)))), rfl⟩, Sub.any⟩
     first | omega | (simp; omega)
  ·
   obtain rfl : n = k := by omega
   rw [show A.take n = A by rw [← hn, List.take_length]] at hpn
   have hall : ∀ (j : Nat) (y : Fa), A[j]? = some y → 0 ≤ y.page := fun j y hy => hge j (by have := (List.getElem?_eq_some_iff.1 hy).1; omega) y hy
   refine T.exit ?_
   refine T.seq ?_
   refine T.seq ?_
   refine T.region ?_
   refine LW.q rfl (Qt.move rfl) ?_
   refine LW.q rfl (Qt.fieldAddr (off := 9) (by kernel_rfl) rfl) ?_
   first | refine LW.q rfl (Qt.load (by kernel_rfl) rfl rfl) ?_ | refine LW.q rfl (Qt.load (by kernel_rfl) rfl (map_at _ _ _ (by omega))) ?_ | refine LW.q rfl (Qt.load (by kernel_rfl) rfl (flat_cell0 _ _ _ (by intros; rfl) _ (by omega) (by rfl))) ?_ | refine LW.q rfl (Qt.load (by kernel_rfl) rfl (flat_cell _ _ _ (by intros; rfl) _ _ (by omega) (by rfl))) ?_ | refine LW.q rfl (Qt.load (by kernel_rfl) rfl (bytes_at _ _ (by omega))) ?_
   refine LW.q rfl (Qt.len (e := 90) (sz := 6) (by kernel_rfl) rfl) ?_
   refine LW.q rfl (Qt.eql rfl rfl) ?_
   refine LW.done ?_
   refine T.condP rfl (fun heq => ?_) (fun heq => ?_)
   ·
    cases hvc with
     | free i x hi hp hfirst => exact absurd (hall i x hi) (by omega)
     | clock i h' A' x' hx ha hc hx' hup => exact absurd (all_of_count (A := A) (by omega)) (by rw [show (A.all fun x => decide (0 < x.pins)) = false from ha]; simp)
     | full hx => ?_
    refine T.seq ?_
    refine T.region ?_
    first | refine LW.q rfl (Qt.loadAgg [_, _, _, _, _, _, _, _, _, _, _] (by kernel_rfl) rfl ⟨rfl, rfl, rfl, rfl, rfl, rfl, rfl, rfl, rfl, rfl, rfl, trivial⟩) ?_ | refine LW.q rfl (Qt.loadAgg [_, _, _, _, _, _, _, _, _, _, _] (by kernel_rfl) rfl (by exact rdl_flat _ _ _ (by intros; rfl) _ (by omega))) ?_
    refine LW.e0 rfl (Ef.store [_, _, _, _, _, _, _, _, _, _, _] (by kernel_rfl) rfl rfl rfl rfl (by simp) ?_)
    try simp only [splice, List.length_cons, List.length_nil, List.drop_succ_cons, List.cons_append, List.take_succ_cons, List.take_zero, List.drop_zero, List.nil_append, List.append_nil]
    refine LW.q rfl (Qt.assign rfl) ?_
    refine LW.done ?_
    refine T.ret ?_
    exact ⟨.inl rfl, _, _, res [_, _] rfl ⟨rvA [_, _, _, _, _, _, _, _, _, _, _] (by kernel_rfl) rfl ⟨rfl, rfl, rfl, rfl, rfl, rfl, rfl, rfl, rfl, rfl, rfl, trivial⟩, rvT rfl, trivial⟩, ⟨p, q, a, c, m, hm, rfl, rfl⟩, Sub.any⟩
   ·
    cases hvc with
     | free i x hi hp hfirst => exact absurd (hall i x hi) (by omega)
     | full hx => exact absurd (count_of_all (A := A) fun x hx2 => by obtain ⟨j, hj, rfl⟩ := List.getElem_of_mem hx2; exact (hx j _ (List.getElem?_eq_getElem hj)).2) (by omega)
     | clock i h' A' x' hx ha hc hx' hup => ?_
    dsimp only at hc
    rw [hn] at hc
    obtain ⟨ya, hya, q1, q2, q3, q4, q5⟩ := clock_fr hc i x' hx'
    have hyo := fr_ok hF hya (hall i ya hya)
    have hbl : x'.b.length = 256 := by rw [q5]; exact hyo.2.2.1
    refine T.skip ?_
    refine T.block ?_
    refine T.loop (fun mz fz lz => ∃ (f0 : Fr) (fu : Nat) (A2 : List Fa) (h2 : Nat), (A2.length = n ∧ h2 < n ∧ clockA fu A2 h2 = some (i, A', h')) ∧ mz = fu ∧ fz = (upd (upd f0 1 (.pointer (some ⟨g1, 0, none⟩))) 2 (.pointer (some ⟨g2, 0, none⟩))) ∧ lz = rS (.slice p N a) N D.secs :: rW (.slice q m c) m D.pend :: raR (some ⟨gf, 0, none⟩) n cf A2 :: blk g1 (rqC p q a c N m W first count (some ⟨gf, 0, none⟩) n cf h2) 41 :: blk g2 [.slice none 0 0, .slice none 0 0, .string ByteArray.empty, .int .u32 0, .int .i64 0, .int .i64 0, .int .i64 0, .int .i64 0, .int .i64 0, .slice none 0 0, .int .i64 0] 41 :: F) ?_ ?_
    · refine ⟨_, _, ⟨_, 2 * n + 1, A, hand, ⟨hn, hh, hc⟩, rfl, (updS rfl (updS rfl rfl)), rfl⟩, Sub.any⟩
    ·
     rintro mz fz lz ⟨f0, fu, A2, h2, ⟨hl2, hh2, hc2⟩, hmz, rfl, rfl⟩
     subst mz
     try simp only [List.cons_append, List.nil_append]
     obtain ⟨y, hy⟩ : ∃ y, A2[h2]? = some y := ⟨_, List.getElem?_eq_getElem (by omega)⟩
     obtain ⟨fu', rfl⟩ := clock_succ hc2
     have hstep := hc2
     unfold clockA at hstep
     rw [hy] at hstep
     dsimp only at hstep
     rw [hl2] at hstep
     have hmod : (h2 + 1) % n < n := Nat.mod_lt _ hn0
     have hfl := ra_len A2
     refine T.block ?_
     refine T.seq ?_
     refine T.region ?_
     refine LW.q rfl (Qt.fieldAddr (off := 10) (by kernel_rfl) rfl) ?_
     first | refine LW.q rfl (Qt.load (by kernel_rfl) rfl rfl) ?_ | refine LW.q rfl (Qt.load (by kernel_rfl) rfl (map_at _ _ _ (by omega))) ?_ | refine LW.q rfl (Qt.load (by kernel_rfl) rfl (flat_cell0 _ _ _ (by intros; rfl) _ (by omega) (by rfl))) ?_ | refine LW.q rfl (Qt.load (by kernel_rfl) rfl (flat_cell _ _ _ (by intros; rfl) _ _ (by omega) (by rfl))) ?_ | refine LW.q rfl (Qt.load (by kernel_rfl) rfl (bytes_at _ _ (by omega))) ?_
     refine LW.q rfl (Qt.assign rfl) ?_
     refine LW.done ?_
     refine T.seq ?_
     refine T.region ?_
     refine LW.q rfl (Qt.move rfl) ?_
     refine LW.q rfl (Qt.add rfl rfl (wr64 (by omega) (by omega))) ?_
     refine LW.q rfl (Qt.fieldAddr (off := 9) (by kernel_rfl) rfl) ?_
     first | refine LW.q rfl (Qt.load (by kernel_rfl) rfl rfl) ?_ | refine LW.q rfl (Qt.load (by kernel_rfl) rfl (map_at _ _ _ (by omega))) ?_ | refine LW.q rfl (Qt.load (by kernel_rfl) rfl (flat_cell0 _ _ _ (by intros; rfl) _ (by omega) (by rfl))) ?_ | refine LW.q rfl (Qt.load (by kernel_rfl) rfl (flat_cell _ _ _ (by intros; rfl) _ _ (by omega) (by rfl))) ?_ | refine LW.q rfl (Qt.load (by kernel_rfl) rfl (bytes_at _ _ (by omega))) ?_
     refine LW.q rfl (Qt.len (e := 90) (sz := 6) (by kernel_rfl) rfl) ?_
     refine LW.q rfl (Qt.rem rfl rfl (by omega) (show ((h2 : Int) + 1).tmod (n : Int) = (((h2 + 1) % n : Nat) : Int) by rw [Int.tmod_eq_emod_of_nonneg (by omega)]; norm_cast)) ?_
     refine LW.q rfl (Qt.fieldAddr (off := 10) (by kernel_rfl) rfl) ?_
     refine LW.e0 rfl (Ef.store1 (by kernel_rfl) rfl rfl rfl (by first | (simp; done) | (simp; omega)) ?_)
     try simp only [List.set_cons_zero, List.set_cons_succ]
     refine LW.done ?_
     refine T.seq ?_
     refine T.seq ?_
     refine T.region ?_
     refine LW.q rfl (Qt.fieldAddr (off := 9) (by kernel_rfl) rfl) ?_
     first | refine LW.q rfl (Qt.load (by kernel_rfl) rfl rfl) ?_ | refine LW.q rfl (Qt.load (by kernel_rfl) rfl (map_at _ _ _ (by omega))) ?_ | refine LW.q rfl (Qt.load (by kernel_rfl) rfl (flat_cell0 _ _ _ (by intros; rfl) _ (by omega) (by rfl))) ?_ | refine LW.q rfl (Qt.load (by kernel_rfl) rfl (flat_cell _ _ _ (by intros; rfl) _ _ (by omega) (by rfl))) ?_ | refine LW.q rfl (Qt.load (by kernel_rfl) rfl (bytes_at _ _ (by omega))) ?_
     refine LW.q rfl (Qt.move rfl) ?_
     refine LW.q rfl (Qt.index _ (e := 90) (sz := 6) (by kernel_rfl) rfl rfl rfl (by omega)) ?_
     refine LW.q rfl (Qt.fieldAddr (off := 3) (by kernel_rfl) rfl) ?_
     refine LW.q rfl (Qt.load (v := .int .i64 y.pins) (by kernel_rfl) rfl (ra_at hy 3 (by omega))) ?_
     refine LW.q rfl (Qt.gtr rfl rfl) ?_
     refine LW.done ?_
     refine T.condP rfl (fun hpin => ?_) (fun hpin => ?_)
     ·
      rw [if_pos hpin] at hstep
      refine T.exit ?_
      refine ⟨_, ?_, _, ⟨_, fu', A2, (h2 + 1) % n, ⟨hl2, hmod, hstep⟩, rfl, (updS rfl (updS rfl rfl)), rfl⟩, Sub.any⟩
      first | omega | (simp; omega)
     ·
      rw [if_neg hpin] at hstep
      refine T.skip ?_
      refine T.seq ?_
      refine T.seq ?_
      refine T.region ?_
      refine LW.q rfl (Qt.fieldAddr (off := 9) (by kernel_rfl) rfl) ?_
      first | refine LW.q rfl (Qt.load (by kernel_rfl) rfl rfl) ?_ | refine LW.q rfl (Qt.load (by kernel_rfl) rfl (map_at _ _ _ (by omega))) ?_ | refine LW.q rfl (Qt.load (by kernel_rfl) rfl (flat_cell0 _ _ _ (by intros; rfl) _ (by omega) (by rfl))) ?_ | refine LW.q rfl (Qt.load (by kernel_rfl) rfl (flat_cell _ _ _ (by intros; rfl) _ _ (by omega) (by rfl))) ?_ | refine LW.q rfl (Qt.load (by kernel_rfl) rfl (bytes_at _ _ (by omega))) ?_
      refine LW.q rfl (Qt.move rfl) ?_
      refine LW.q rfl (Qt.index _ (e := 90) (sz := 6) (by kernel_rfl) rfl rfl rfl (by omega)) ?_
      refine LW.q rfl (Qt.fieldAddr (off := 5) (by kernel_rfl) rfl) ?_
      refine LW.q rfl (Qt.load (v := .bool y.used) (by kernel_rfl) rfl (ra_at hy 5 (by omega))) ?_
      refine LW.done ?_
      refine T.cond rfl (fun hu => ?_) (fun hu => ?_)
      ·
       rw [if_pos hu] at hstep
       refine T.seq ?_
       refine T.region ?_
       refine LW.q rfl (Qt.fieldAddr (off := 9) (by kernel_rfl) rfl) ?_
       first | refine LW.q rfl (Qt.load (by kernel_rfl) rfl rfl) ?_ | refine LW.q rfl (Qt.load (by kernel_rfl) rfl (map_at _ _ _ (by omega))) ?_ | refine LW.q rfl (Qt.load (by kernel_rfl) rfl (flat_cell0 _ _ _ (by intros; rfl) _ (by omega) (by rfl))) ?_ | refine LW.q rfl (Qt.load (by kernel_rfl) rfl (flat_cell _ _ _ (by intros; rfl) _ _ (by omega) (by rfl))) ?_ | refine LW.q rfl (Qt.load (by kernel_rfl) rfl (bytes_at _ _ (by omega))) ?_
       refine LW.q rfl (Qt.move rfl) ?_
       refine LW.q rfl (Qt.index _ (e := 90) (sz := 6) (by kernel_rfl) rfl rfl rfl (by omega)) ?_
       refine LW.q rfl (Qt.fieldAddr (off := 5) (by kernel_rfl) rfl) ?_
       refine LW.e0 rfl (Ef.store1 (by kernel_rfl) rfl rfl rfl (by omega) ?_)
       rw [ra_set (y := { y with used := false }) hy 5 (by omega) _ rfl]
       refine LW.done ?_
       refine T.exit ?_
       refine ⟨_, ?_, _, ⟨_, fu', A2.set h2 { y with used := false }, (h2 + 1) % n, ⟨by rw [List.length_set]; exact hl2, hmod, hstep⟩, rfl, (updS rfl (updS rfl rfl)), rfl⟩, Sub.any⟩
       first | omega | (simp; omega)
      ·
       rw [if_neg (by rw [hu]; simp)] at hstep
       simp only [Option.some.injEq, Prod.mk.injEq] at hstep
       obtain ⟨rfl, rfl, rfl⟩ := hstep
       obtain rfl : y = x' := by rw [hy] at hx'; exact Option.some.inj hx'
       refine T.skip ?_
       refine T.seq ?_
       refine T.seq ?_
       refine T.region ?_
       refine LW.q rfl (Qt.fieldAddr (off := 9) (by kernel_rfl) rfl) ?_
       first | refine LW.q rfl (Qt.load (by kernel_rfl) rfl rfl) ?_ | refine LW.q rfl (Qt.load (by kernel_rfl) rfl (map_at _ _ _ (by omega))) ?_ | refine LW.q rfl (Qt.load (by kernel_rfl) rfl (flat_cell0 _ _ _ (by intros; rfl) _ (by omega) (by rfl))) ?_ | refine LW.q rfl (Qt.load (by kernel_rfl) rfl (flat_cell _ _ _ (by intros; rfl) _ _ (by omega) (by rfl))) ?_ | refine LW.q rfl (Qt.load (by kernel_rfl) rfl (bytes_at _ _ (by omega))) ?_
       refine LW.q rfl (Qt.move rfl) ?_
       refine LW.q rfl (Qt.index _ (e := 90) (sz := 6) (by kernel_rfl) rfl rfl rfl (by omega)) ?_
       refine LW.q rfl (Qt.fieldAddr (off := 4) (by kernel_rfl) rfl) ?_
       refine LW.q rfl (Qt.load (v := .bool y.dirty) (by kernel_rfl) rfl (ra_at hy 4 (by omega))) ?_
       refine LW.done ?_
       refine T.cond rfl (fun hd => ?_) (fun hd => ?_)
       ·
        obtain ⟨f1, f2, f3, f4, f5, f6, f7⟩ := hw.force ho y.mark hw.room
        rw [show giveP first W D y = ((forceP W D y.mark).1, ⟨(forceP W D y.mark).2.secs, (forceP W D y.mark).2.pend ++ [(first + y.page.toNat, y.b)]⟩) by unfold giveP; rw [if_pos hd]; rfl]
        refine T.seq ?_
        refine T.draw 8 ([blk g1 (rqC p q a c N m W first count (some ⟨gf, 0, none⟩) n cf ((h2 + 1) % n)) 41, raR (some ⟨gf, 0, none⟩) n cf A2]) (by kernel_rfl) (Nat.le_of_ble_eq_true rfl) (by kernel_rfl) ?_
        first | refine RW.q 0 rfl rfl (by kernel_rfl) Sub.any (Qt.loadAgg [_, _, _, _, _, _, _, _, _, _, _] (by kernel_rfl) rfl ⟨rfl, rfl, rfl, rfl, rfl, rfl, rfl, rfl, rfl, rfl, rfl, trivial⟩) ?_ | refine RW.q 0 rfl rfl (by kernel_rfl) Sub.any (Qt.loadAgg [_, _, _, _, _, _, _, _, _, _, _] (by kernel_rfl) rfl (by exact rdl_flat _ _ _ (by intros; rfl) _ (by omega))) ?_
        refine RW.q 1 rfl rfl (by kernel_rfl) Sub.any (Qt.fieldAddr (off := 9) (by kernel_rfl) rfl) ?_
        first | refine RW.q 2 rfl rfl (by kernel_rfl) Sub.any (Qt.load (by kernel_rfl) rfl rfl) ?_ | refine RW.q 2 rfl rfl (by kernel_rfl) Sub.any (Qt.load (by kernel_rfl) rfl (map_at _ _ _ (by omega))) ?_ | refine RW.q 2 rfl rfl (by kernel_rfl) Sub.any (Qt.load (by kernel_rfl) rfl (flat_cell0 _ _ _ (by intros; rfl) _ (by omega) (by rfl))) ?_ | refine RW.q 2 rfl rfl (by kernel_rfl) Sub.any (Qt.load (by kernel_rfl) rfl (flat_cell _ _ _ (by intros; rfl) _ _ (by omega) (by rfl))) ?_ | refine RW.q 2 rfl rfl (by kernel_rfl) Sub.any (Qt.load (by kernel_rfl) rfl (bytes_at _ _ (by omega))) ?_
        refine RW.q 3 rfl rfl (by kernel_rfl) Sub.any (Qt.move rfl) ?_
        refine RW.q 4 rfl rfl (by kernel_rfl) Sub.any (Qt.index _ (e := 90) (sz := 6) (by kernel_rfl) rfl rfl rfl (by omega)) ?_
        refine RW.q 5 rfl rfl (by kernel_rfl) Sub.any (Qt.fieldAddr (off := 2) (by kernel_rfl) rfl) ?_
        refine RW.q 6 rfl rfl (by kernel_rfl) Sub.any (Qt.load (v := .int .i64 y.mark) (by kernel_rfl) rfl (ra_at hy 2 (by omega))) ?_
        refine RW.one 7 (by kernel_rfl) ?_
        refine RO.eS rfl rfl (Ef.call (Rp.force B p q a c N m W D first count (some ⟨gf, 0, none⟩) n cf ((h2 + 1) % n) y.mark hN hm ho hw) Tryz.func60 rfl rfl rfl ?_)
        rintro _ _ ⟨p3, q3, a3, c3, m3, hm3, rfl, rfl⟩
        try simp only [List.cons_append, List.nil_append]
        refine ⟨Sub.any, ?_⟩
        refine RW.done (by rfl) ?_
        simp only [List.drop_succ_cons, List.drop_zero, List.drop_nil]
        refine LW.e0 rfl (Ef.store [_, _, _, _, _, _, _, _, _, _, _] (by kernel_rfl) rfl rfl rfl rfl (by simp) ?_)
        try simp only [splice, List.length_cons, List.length_nil, List.drop_succ_cons, List.cons_append, List.take_succ_cons, List.take_zero, List.drop_zero, List.nil_append, List.append_nil]
        refine LW.done ?_
        refine T.draw 23 ([raR (some ⟨gf, 0, none⟩) n cf A2]) (by kernel_rfl) (Nat.le_of_ble_eq_true rfl) (by kernel_rfl) ?_
        refine RW.q 0 rfl rfl (by kernel_rfl) Sub.any (Qt.fieldAddr0 (by kernel_rfl) rfl) ?_
        refine RW.q 2 rfl rfl (by kernel_rfl) Sub.any (Qt.fieldAddr (off := 7) (by kernel_rfl) rfl) ?_
        refine RW.q 4 rfl rfl (by kernel_rfl) Sub.any (Qt.fieldAddr (off := 9) (by kernel_rfl) rfl) ?_
        refine RW.q 6 rfl rfl (by kernel_rfl) Sub.any (Qt.move rfl) ?_
        refine RW.q 11 rfl rfl (by kernel_rfl) Sub.any (Qt.fieldAddr (off := 9) (by kernel_rfl) rfl) ?_
        refine RW.q 13 rfl rfl (by kernel_rfl) Sub.any (Qt.move rfl) ?_
        refine RW.all [1, 3, 5, 12] (by kernel_rfl) (List.forall_mem_cons.2 ⟨?_, List.forall_mem_cons.2 ⟨?_, List.forall_mem_cons.2 ⟨?_, List.forall_mem_cons.2 ⟨?_, List.forall_mem_nil _⟩⟩⟩⟩)
        ·
         first | refine RO.eS rfl rfl (Ef.qt (Qt.loadAgg [_, _] (by kernel_rfl) rfl ⟨rfl, rfl, trivial⟩) ?_) | refine RO.eS rfl rfl (Ef.qt (Qt.loadAgg [_, _] (by kernel_rfl) rfl (by exact rdl_flat _ _ _ (by intros; rfl) _ (by omega))) ?_)
         refine ⟨Sub.any, ?_⟩
         refine RW.all [3, 5, 12] (by kernel_rfl) (List.forall_mem_cons.2 ⟨?_, List.forall_mem_cons.2 ⟨?_, List.forall_mem_cons.2 ⟨?_, List.forall_mem_nil _⟩⟩⟩)
         ·
          first | refine RO.eS rfl rfl (Ef.qt (Qt.load (by kernel_rfl) rfl rfl) ?_) | refine RO.eS rfl rfl (Ef.qt (Qt.load (by kernel_rfl) rfl (map_at _ _ _ (by omega))) ?_) | refine RO.eS rfl rfl (Ef.qt (Qt.load (by kernel_rfl) rfl (flat_cell0 _ _ _ (by intros; rfl) _ (by omega) (by rfl))) ?_) | refine RO.eS rfl rfl (Ef.qt (Qt.load (by kernel_rfl) rfl (flat_cell _ _ _ (by intros; rfl) _ _ (by omega) (by rfl))) ?_) | refine RO.eS rfl rfl (Ef.qt (Qt.load (by kernel_rfl) rfl (bytes_at _ _ (by omega))) ?_)
          refine ⟨Sub.any, ?_⟩
          refine RW.all [5, 12] (by kernel_rfl) (List.forall_mem_cons.2 ⟨?_, List.forall_mem_cons.2 ⟨?_, List.forall_mem_nil _⟩⟩)
          ·
           first | refine RO.eS rfl rfl (Ef.qt (Qt.load (by kernel_rfl) rfl rfl) ?_) | refine RO.eS rfl rfl (Ef.qt (Qt.load (by kernel_rfl) rfl (map_at _ _ _ (by omega))) ?_) | refine RO.eS rfl rfl (Ef.qt (Qt.load (by kernel_rfl) rfl (flat_cell0 _ _ _ (by intros; rfl) _ (by omega) (by rfl))) ?_) | refine RO.eS rfl rfl (Ef.qt (Qt.load (by kernel_rfl) rfl (flat_cell _ _ _ (by intros; rfl) _ _ (by omega) (by rfl))) ?_) | refine RO.eS rfl rfl (Ef.qt (Qt.load (by kernel_rfl) rfl (bytes_at _ _ (by omega))) ?_)
           refine ⟨Sub.any, ?_⟩
           refine RW.q 7 rfl rfl (by kernel_rfl) Sub.any (Qt.index _ (e := 90) (sz := 6) (by kernel_rfl) rfl rfl rfl (by omega)) ?_
           refine RW.q 8 rfl rfl (by kernel_rfl) Sub.any (Qt.fieldAddr0 (by kernel_rfl) rfl) ?_
           refine RW.q 9 rfl rfl (by kernel_rfl) Sub.any (Qt.load (v := .int .i64 y.page) (by kernel_rfl) rfl (ra_at hy 0 (by omega))) ?_
           refine RW.q 10 rfl rfl (by kernel_rfl) Sub.any (Qt.add rfl rfl (wr64 (by omega) (by omega))) ?_
           refine RW.one 12 (by kernel_rfl) ?_
           first | refine RO.eS rfl rfl (Ef.qt (Qt.load (by kernel_rfl) rfl rfl) ?_) | refine RO.eS rfl rfl (Ef.qt (Qt.load (by kernel_rfl) rfl (map_at _ _ _ (by omega))) ?_) | refine RO.eS rfl rfl (Ef.qt (Qt.load (by kernel_rfl) rfl (flat_cell0 _ _ _ (by intros; rfl) _ (by omega) (by rfl))) ?_) | refine RO.eS rfl rfl (Ef.qt (Qt.load (by kernel_rfl) rfl (flat_cell _ _ _ (by intros; rfl) _ _ (by omega) (by rfl))) ?_) | refine RO.eS rfl rfl (Ef.qt (Qt.load (by kernel_rfl) rfl (bytes_at _ _ (by omega))) ?_)
           refine ⟨Sub.any, ?_⟩
           refine RW.q 14 rfl rfl (by kernel_rfl) Sub.any (Qt.index _ (e := 90) (sz := 6) (by kernel_rfl) rfl rfl rfl (by omega)) ?_
           refine RW.q 15 rfl rfl (by kernel_rfl) Sub.any (Qt.fieldAddr (off := 1) (by kernel_rfl) rfl) ?_
           refine RW.q 16 rfl rfl (by kernel_rfl) Sub.any (Qt.load (v := strW y.b) (by kernel_rfl) rfl (ra_at hy 1 (by omega))) ?_
           refine RW.one 17 (by kernel_rfl) ?_
           refine RO.eS rfl rfl (Ef.call (Rf.put B p3 q3 a3 c3 N m3 (first + y.page) (first + y.page.toNat) (by omega) y.b (forceP W D y.mark).2.secs (forceP W D y.mark).2.pend (by omega) (by omega) (by omega) hbl) Tryz.func27 rfl rfl rfl ?_)
           rintro _ _ ⟨p4, a4, q4, c4, rfl, rfl⟩
           try simp only [List.cons_append, List.nil_append]
           refine ⟨Sub.any, ?_⟩
           refine RW.q 18 rfl rfl (by kernel_rfl) Sub.any (Qt.move rfl) ?_
           refine RW.q 19 rfl rfl (by kernel_rfl) Sub.any (Qt.extract rfl rfl) ?_
           refine RW.q 20 rfl rfl (by kernel_rfl) Sub.any (Qt.extract rfl rfl) ?_
           refine RW.q 21 rfl rfl (by kernel_rfl) Sub.any (Qt.fieldAddr0 (by kernel_rfl) rfl) ?_
           refine RW.one 22 (by kernel_rfl) ?_
           refine RO.eS0 rfl rfl (Ef.store [_, _] (by kernel_rfl) rfl rfl rfl rfl (by simp) ?_)
           try simp only [splice, List.length_cons, List.length_nil, List.drop_succ_cons, List.cons_append, List.take_succ_cons, List.take_zero, List.drop_zero, List.nil_append, List.append_nil]
           refine ⟨Sub.any, ?_⟩
           refine RW.done (by rfl) ?_
           simp only [List.drop_succ_cons, List.drop_zero, List.drop_nil]
           refine LW.done ?_
           refine T.seq ?_
           refine T.region ?_
           first | refine LW.q rfl (Qt.loadAgg [_, _, _, _, _, _, _, _, _, _, _] (by kernel_rfl) rfl ⟨rfl, rfl, rfl, rfl, rfl, rfl, rfl, rfl, rfl, rfl, rfl, trivial⟩) ?_ | refine LW.q rfl (Qt.loadAgg [_, _, _, _, _, _, _, _, _, _, _] (by kernel_rfl) rfl (by exact rdl_flat _ _ _ (by intros; rfl) _ (by omega))) ?_
           refine LW.q rfl (Qt.move rfl) ?_
           refine LW.e0 rfl (Ef.store [_, _, _, _, _, _, _, _, _, _, _] (by kernel_rfl) rfl rfl rfl rfl (by simp) ?_)
           try simp only [splice, List.length_cons, List.length_nil, List.drop_succ_cons, List.cons_append, List.take_succ_cons, List.take_zero, List.drop_zero, List.nil_append, List.append_nil]
           refine LW.q rfl (Qt.assign rfl) ?_
           refine LW.done ?_
           refine T.ret ?_
           exact ⟨.inl rfl, _, _, res [_, _] rfl ⟨rvA [_, _, _, _, _, _, _, _, _, _, _] (by kernel_rfl) rfl ⟨rfl, rfl, rfl, rfl, rfl, rfl, rfl, rfl, rfl, rfl, rfl, trivial⟩, rvT rfl, trivial⟩, ⟨p4, q4, a4, c4, m3 + 1, by simp [hm3], rfl, rfl⟩, Sub.any⟩
          ·
           first | refine RO.eS rfl rfl (Ef.qt (Qt.load (by kernel_rfl) rfl rfl) ?_) | refine RO.eS rfl rfl (Ef.qt (Qt.load (by kernel_rfl) rfl (map_at _ _ _ (by omega))) ?_) | refine RO.eS rfl rfl (Ef.qt (Qt.load (by kernel_rfl) rfl (flat_cell0 _ _ _ (by intros; rfl) _ (by omega) (by rfl))) ?_) | refine RO.eS rfl rfl (Ef.qt (Qt.load (by kernel_rfl) rfl (flat_cell _ _ _ (by intros; rfl) _ _ (by omega) (by rfl))) ?_) | refine RO.eS rfl rfl (Ef.qt (Qt.load (by kernel_rfl) rfl (bytes_at _ _ (by omega))) ?_)
           refine ⟨Sub.any, ?_⟩
           refine RW.q 14 rfl rfl (by kernel_rfl) Sub.any (Qt.index _ (e := 90) (sz := 6) (by kernel_rfl) rfl rfl rfl (by omega)) ?_
           refine RW.q 15 rfl rfl (by kernel_rfl) Sub.any (Qt.fieldAddr (off := 1) (by kernel_rfl) rfl) ?_
           refine RW.q 16 rfl rfl (by kernel_rfl) Sub.any (Qt.load (v := strW y.b) (by kernel_rfl) rfl (ra_at hy 1 (by omega))) ?_
           refine RW.one 5 (by kernel_rfl) ?_
           first | refine RO.eS rfl rfl (Ef.qt (Qt.load (by kernel_rfl) rfl rfl) ?_) | refine RO.eS rfl rfl (Ef.qt (Qt.load (by kernel_rfl) rfl (map_at _ _ _ (by omega))) ?_) | refine RO.eS rfl rfl (Ef.qt (Qt.load (by kernel_rfl) rfl (flat_cell0 _ _ _ (by intros; rfl) _ (by omega) (by rfl))) ?_) | refine RO.eS rfl rfl (Ef.qt (Qt.load (by kernel_rfl) rfl (flat_cell _ _ _ (by intros; rfl) _ _ (by omega) (by rfl))) ?_) | refine RO.eS rfl rfl (Ef.qt (Qt.load (by kernel_rfl) rfl (bytes_at _ _ (by omega))) ?_)
           refine ⟨Sub.any, ?_⟩
           refine RW.q 7 rfl rfl (by kernel_rfl) Sub.any (Qt.index _ (e := 90) (sz := 6) (by kernel_rfl) rfl rfl rfl (by omega)) ?_
           refine RW.q 8 rfl rfl (by kernel_rfl) Sub.any (Qt.fieldAddr0 (by kernel_rfl) rfl) ?_
           refine RW.q 9 rfl rfl (by kernel_rfl) Sub.any (Qt.load (v := .int .i64 y.page) (by kernel_rfl) rfl (ra_at hy 0 (by omega))) ?_
           refine RW.q 10 rfl rfl (by kernel_rfl) Sub.any (Qt.add rfl rfl (wr64 (by omega) (by omega))) ?_
           refine RW.one 17 (by kernel_rfl) ?_
           refine RO.eS rfl rfl (Ef.call (Rf.put B p3 q3 a3 c3 N m3 (first + y.page) (first + y.page.toNat) (by omega) y.b (forceP W D y.mark).2.secs (forceP W D y.mark).2.pend (by omega) (by omega) (by omega) hbl) Tryz.func27 rfl rfl rfl ?_)
           rintro _ _ ⟨p4, a4, q4, c4, rfl, rfl⟩
           try simp only [List.cons_append, List.nil_append]
           refine ⟨Sub.any, ?_⟩
           refine RW.q 18 rfl rfl (by kernel_rfl) Sub.any (Qt.move rfl) ?_
           refine RW.q 19 rfl rfl (by kernel_rfl) Sub.any (Qt.extract rfl rfl) ?_
           refine RW.q 20 rfl rfl (by kernel_rfl) Sub.any (Qt.extract rfl rfl) ?_
           refine RW.q 21 rfl rfl (by kernel_rfl) Sub.any (Qt.fieldAddr0 (by kernel_rfl) rfl) ?_
           refine RW.one 22 (by kernel_rfl) ?_
           refine RO.eS0 rfl rfl (Ef.store [_, _] (by kernel_rfl) rfl rfl rfl rfl (by simp) ?_)
           try simp only [splice, List.length_cons, List.length_nil, List.drop_succ_cons, List.cons_append, List.take_succ_cons, List.take_zero, List.drop_zero, List.nil_append, List.append_nil]
           refine ⟨Sub.any, ?_⟩
           refine RW.done (by rfl) ?_
           simp only [List.drop_succ_cons, List.drop_zero, List.drop_nil]
           refine LW.done ?_
           refine T.seq ?_
           refine T.region ?_
           first | refine LW.q rfl (Qt.loadAgg [_, _, _, _, _, _, _, _, _, _, _] (by kernel_rfl) rfl ⟨rfl, rfl, rfl, rfl, rfl, rfl, rfl, rfl, rfl, rfl, rfl, trivial⟩) ?_ | refine LW.q rfl (Qt.loadAgg [_, _, _, _, _, _, _, _, _, _, _] (by kernel_rfl) rfl (by exact rdl_flat _ _ _ (by intros; rfl) _ (by omega))) ?_
           refine LW.q rfl (Qt.move rfl) ?_
           refine LW.e0 rfl (Ef.store [_, _, _, _, _, _, _, _, _, _, _] (by kernel_rfl) rfl rfl rfl rfl (by simp) ?_)
           try simp only [splice, List.length_cons, List.length_nil, List.drop_succ_cons, List.cons_append, List.take_succ_cons, List.take_zero, List.drop_zero, List.nil_append, List.append_nil]
           refine LW.q rfl (Qt.assign rfl) ?_
           refine LW.done ?_
           refine T.ret ?_
           exact ⟨.inl rfl, _, _, res [_, _] rfl ⟨rvA [_, _, _, _, _, _, _, _, _, _, _] (by kernel_rfl) rfl ⟨rfl, rfl, rfl, rfl, rfl, rfl, rfl, rfl, rfl, rfl, rfl, trivial⟩, rvT rfl, trivial⟩, ⟨p4, q4, a4, c4, m3 + 1, by simp [hm3], rfl, rfl⟩, Sub.any⟩
         ·
          first | refine RO.eS rfl rfl (Ef.qt (Qt.load (by kernel_rfl) rfl rfl) ?_) | refine RO.eS rfl rfl (Ef.qt (Qt.load (by kernel_rfl) rfl (map_at _ _ _ (by omega))) ?_) | refine RO.eS rfl rfl (Ef.qt (Qt.load (by kernel_rfl) rfl (flat_cell0 _ _ _ (by intros; rfl) _ (by omega) (by rfl))) ?_) | refine RO.eS rfl rfl (Ef.qt (Qt.load (by kernel_rfl) rfl (flat_cell _ _ _ (by intros; rfl) _ _ (by omega) (by rfl))) ?_) | refine RO.eS rfl rfl (Ef.qt (Qt.load (by kernel_rfl) rfl (bytes_at _ _ (by omega))) ?_)
          refine ⟨Sub.any, ?_⟩
          refine RW.q 7 rfl rfl (by kernel_rfl) Sub.any (Qt.index _ (e := 90) (sz := 6) (by kernel_rfl) rfl rfl rfl (by omega)) ?_
          refine RW.q 8 rfl rfl (by kernel_rfl) Sub.any (Qt.fieldAddr0 (by kernel_rfl) rfl) ?_
          refine RW.q 9 rfl rfl (by kernel_rfl) Sub.any (Qt.load (v := .int .i64 y.page) (by kernel_rfl) rfl (ra_at hy 0 (by omega))) ?_
          refine RW.all [3, 12] (by kernel_rfl) (List.forall_mem_cons.2 ⟨?_, List.forall_mem_cons.2 ⟨?_, List.forall_mem_nil _⟩⟩)
          ·
           first | refine RO.eS rfl rfl (Ef.qt (Qt.load (by kernel_rfl) rfl rfl) ?_) | refine RO.eS rfl rfl (Ef.qt (Qt.load (by kernel_rfl) rfl (map_at _ _ _ (by omega))) ?_) | refine RO.eS rfl rfl (Ef.qt (Qt.load (by kernel_rfl) rfl (flat_cell0 _ _ _ (by intros; rfl) _ (by omega) (by rfl))) ?_) | refine RO.eS rfl rfl (Ef.qt (Qt.load (by kernel_rfl) rfl (flat_cell _ _ _ (by intros; rfl) _ _ (by omega) (by rfl))) ?_) | refine RO.eS rfl rfl (Ef.qt (Qt.load (by kernel_rfl) rfl (bytes_at _ _ (by omega))) ?_)
           refine ⟨Sub.any, ?_⟩
           refine RW.q 10 rfl rfl (by kernel_rfl) Sub.any (Qt.add rfl rfl (wr64 (by omega) (by omega))) ?_
           refine RW.one 12 (by kernel_rfl) ?_
           first | refine RO.eS rfl rfl (Ef.qt (Qt.load (by kernel_rfl) rfl rfl) ?_) | refine RO.eS rfl rfl (Ef.qt (Qt.load (by kernel_rfl) rfl (map_at _ _ _ (by omega))) ?_) | refine RO.eS rfl rfl (Ef.qt (Qt.load (by kernel_rfl) rfl (flat_cell0 _ _ _ (by intros; rfl) _ (by omega) (by rfl))) ?_) | refine RO.eS rfl rfl (Ef.qt (Qt.load (by kernel_rfl) rfl (flat_cell _ _ _ (by intros; rfl) _ _ (by omega) (by rfl))) ?_) | refine RO.eS rfl rfl (Ef.qt (Qt.load (by kernel_rfl) rfl (bytes_at _ _ (by omega))) ?_)
           refine ⟨Sub.any, ?_⟩
           refine RW.q 14 rfl rfl (by kernel_rfl) Sub.any (Qt.index _ (e := 90) (sz := 6) (by kernel_rfl) rfl rfl rfl (by omega)) ?_
           refine RW.q 15 rfl rfl (by kernel_rfl) Sub.any (Qt.fieldAddr (off := 1) (by kernel_rfl) rfl) ?_
           refine RW.q 16 rfl rfl (by kernel_rfl) Sub.any (Qt.load (v := strW y.b) (by kernel_rfl) rfl (ra_at hy 1 (by omega))) ?_
           refine RW.one 17 (by kernel_rfl) ?_
           refine RO.eS rfl rfl (Ef.call (Rf.put B p3 q3 a3 c3 N m3 (first + y.page) (first + y.page.toNat) (by omega) y.b (forceP W D y.mark).2.secs (forceP W D y.mark).2.pend (by omega) (by omega) (by omega) hbl) Tryz.func27 rfl rfl rfl ?_)
           rintro _ _ ⟨p4, a4, q4, c4, rfl, rfl⟩
           try simp only [List.cons_append, List.nil_append]
           refine ⟨Sub.any, ?_⟩
           refine RW.q 18 rfl rfl (by kernel_rfl) Sub.any (Qt.move rfl) ?_
           refine RW.q 19 rfl rfl (by kernel_rfl) Sub.any (Qt.extract rfl rfl) ?_
           refine RW.q 20 rfl rfl (by kernel_rfl) Sub.any (Qt.extract rfl rfl) ?_
           refine RW.q 21 rfl rfl (by kernel_rfl) Sub.any (Qt.fieldAddr0 (by kernel_rfl) rfl) ?_
           refine RW.one 22 (by kernel_rfl) ?_
           refine RO.eS0 rfl rfl (Ef.store [_, _] (by kernel_rfl) rfl rfl rfl rfl (by simp) ?_)
           try simp only [splice, List.length_cons, List.length_nil, List.drop_succ_cons, List.cons_append, List.take_succ_cons, List.take_zero, List.drop_zero, List.nil_append, List.append_nil]
           refine ⟨Sub.any, ?_⟩
           refine RW.done (by rfl) ?_
           simp only [List.drop_succ_cons, List.drop_zero, List.drop_nil]
           refine LW.done ?_
           refine T.seq ?_
           refine T.region ?_
           first | refine LW.q rfl (Qt.loadAgg [_, _, _, _, _, _, _, _, _, _, _] (by kernel_rfl) rfl ⟨rfl, rfl, rfl, rfl, rfl, rfl, rfl, rfl, rfl, rfl, rfl, trivial⟩) ?_ | refine LW.q rfl (Qt.loadAgg [_, _, _, _, _, _, _, _, _, _, _] (by kernel_rfl) rfl (by exact rdl_flat _ _ _ (by intros; rfl) _ (by omega))) ?_
           refine LW.q rfl (Qt.move rfl) ?_
           refine LW.e0 rfl (Ef.store [_, _, _, _, _, _, _, _, _, _, _] (by kernel_rfl) rfl rfl rfl rfl (by simp) ?_)
           try simp only [splice, List.length_cons, List.length_nil, List.drop_succ_cons, List.cons_append, List.take_succ_cons, List.take_zero, List.drop_zero, List.nil_append, List.append_nil]
           refine LW.q rfl (Qt.assign rfl) ?_
           refine LW.done ?_
           refine T.ret ?_
           exact ⟨.inl rfl, _, _, res [_, _] rfl ⟨rvA [_, _, _, _, _, _, _, _, _, _, _] (by kernel_rfl) rfl ⟨rfl, rfl, rfl, rfl, rfl, rfl, rfl, rfl, rfl, rfl, rfl, trivial⟩, rvT rfl, trivial⟩, ⟨p4, q4, a4, c4, m3 + 1, by simp [hm3], rfl, rfl⟩, Sub.any⟩
          ·
           first | refine RO.eS rfl rfl (Ef.qt (Qt.load (by kernel_rfl) rfl rfl) ?_) | refine RO.eS rfl rfl (Ef.qt (Qt.load (by kernel_rfl) rfl (map_at _ _ _ (by omega))) ?_) | refine RO.eS rfl rfl (Ef.qt (Qt.load (by kernel_rfl) rfl (flat_cell0 _ _ _ (by intros; rfl) _ (by omega) (by rfl))) ?_) | refine RO.eS rfl rfl (Ef.qt (Qt.load (by kernel_rfl) rfl (flat_cell _ _ _ (by intros; rfl) _ _ (by omega) (by rfl))) ?_) | refine RO.eS rfl rfl (Ef.qt (Qt.load (by kernel_rfl) rfl (bytes_at _ _ (by omega))) ?_)
           refine ⟨Sub.any, ?_⟩
           refine RW.q 14 rfl rfl (by kernel_rfl) Sub.any (Qt.index _ (e := 90) (sz := 6) (by kernel_rfl) rfl rfl rfl (by omega)) ?_
           refine RW.q 15 rfl rfl (by kernel_rfl) Sub.any (Qt.fieldAddr (off := 1) (by kernel_rfl) rfl) ?_
           refine RW.q 16 rfl rfl (by kernel_rfl) Sub.any (Qt.load (v := strW y.b) (by kernel_rfl) rfl (ra_at hy 1 (by omega))) ?_
           refine RW.one 3 (by kernel_rfl) ?_
           first | refine RO.eS rfl rfl (Ef.qt (Qt.load (by kernel_rfl) rfl rfl) ?_) | refine RO.eS rfl rfl (Ef.qt (Qt.load (by kernel_rfl) rfl (map_at _ _ _ (by omega))) ?_) | refine RO.eS rfl rfl (Ef.qt (Qt.load (by kernel_rfl) rfl (flat_cell0 _ _ _ (by intros; rfl) _ (by omega) (by rfl))) ?_) | refine RO.eS rfl rfl (Ef.qt (Qt.load (by kernel_rfl) rfl (flat_cell _ _ _ (by intros; rfl) _ _ (by omega) (by rfl))) ?_) | refine RO.eS rfl rfl (Ef.qt (Qt.load (by kernel_rfl) rfl (bytes_at _ _ (by omega))) ?_)
           refine ⟨Sub.any, ?_⟩
           refine RW.q 10 rfl rfl (by kernel_rfl) Sub.any (Qt.add rfl rfl (wr64 (by omega) (by omega))) ?_
           refine RW.one 17 (by kernel_rfl) ?_
           refine RO.eS rfl rfl (Ef.call (Rf.put B p3 q3 a3 c3 N m3 (first + y.page) (first + y.page.toNat) (by omega) y.b (forceP W D y.mark).2.secs (forceP W D y.mark).2.pend (by omega) (by omega) (by omega) hbl) Tryz.func27 rfl rfl rfl ?_)
           rintro _ _ ⟨p4, a4, q4, c4, rfl, rfl⟩
           try simp only [List.cons_append, List.nil_append]
           refine ⟨Sub.any, ?_⟩
           refine RW.q 18 rfl rfl (by kernel_rfl) Sub.any (Qt.move rfl) ?_
           refine RW.q 19 rfl rfl (by kernel_rfl) Sub.any (Qt.extract rfl rfl) ?_
           refine RW.q 20 rfl rfl (by kernel_rfl) Sub.any (Qt.extract rfl rfl) ?_
           refine RW.q 21 rfl rfl (by kernel_rfl) Sub.any (Qt.fieldAddr0 (by kernel_rfl) rfl) ?_
           refine RW.one 22 (by kernel_rfl) ?_
           refine RO.eS0 rfl rfl (Ef.store [_, _] (by kernel_rfl) rfl rfl rfl rfl (by simp) ?_)
           try simp only [splice, List.length_cons, List.length_nil, List.drop_succ_cons, List.cons_append, List.take_succ_cons, List.take_zero, List.drop_zero, List.nil_append, List.append_nil]
           refine ⟨Sub.any, ?_⟩
           refine RW.done (by rfl) ?_
           simp only [List.drop_succ_cons, List.drop_zero, List.drop_nil]
           refine LW.done ?_
           refine T.seq ?_
           refine T.region ?_
           first | refine LW.q rfl (Qt.loadAgg [_, _, _, _, _, _, _, _, _, _, _] (by kernel_rfl) rfl ⟨rfl, rfl, rfl, rfl, rfl, rfl, rfl, rfl, rfl, rfl, rfl, trivial⟩) ?_ | refine LW.q rfl (Qt.loadAgg [_, _, _, _, _, _, _, _, _, _, _] (by kernel_rfl) rfl (by exact rdl_flat _ _ _ (by intros; rfl) _ (by omega))) ?_
           refine LW.q rfl (Qt.move rfl) ?_
           refine LW.e0 rfl (Ef.store [_, _, _, _, _, _, _, _, _, _, _] (by kernel_rfl) rfl rfl rfl rfl (by simp) ?_)
           try simp only [splice, List.length_cons, List.length_nil, List.drop_succ_cons, List.cons_append, List.take_succ_cons, List.take_zero, List.drop_zero, List.nil_append, List.append_nil]
           refine LW.q rfl (Qt.assign rfl) ?_
           refine LW.done ?_
           refine T.ret ?_
           exact ⟨.inl rfl, _, _, res [_, _] rfl ⟨rvA [_, _, _, _, _, _, _, _, _, _, _] (by kernel_rfl) rfl ⟨rfl, rfl, rfl, rfl, rfl, rfl, rfl, rfl, rfl, rfl, rfl, trivial⟩, rvT rfl, trivial⟩, ⟨p4, q4, a4, c4, m3 + 1, by simp [hm3], rfl, rfl⟩, Sub.any⟩
         ·
          first | refine RO.eS rfl rfl (Ef.qt (Qt.load (by kernel_rfl) rfl rfl) ?_) | refine RO.eS rfl rfl (Ef.qt (Qt.load (by kernel_rfl) rfl (map_at _ _ _ (by omega))) ?_) | refine RO.eS rfl rfl (Ef.qt (Qt.load (by kernel_rfl) rfl (flat_cell0 _ _ _ (by intros; rfl) _ (by omega) (by rfl))) ?_) | refine RO.eS rfl rfl (Ef.qt (Qt.load (by kernel_rfl) rfl (flat_cell _ _ _ (by intros; rfl) _ _ (by omega) (by rfl))) ?_) | refine RO.eS rfl rfl (Ef.qt (Qt.load (by kernel_rfl) rfl (bytes_at _ _ (by omega))) ?_)
          refine ⟨Sub.any, ?_⟩
          refine RW.q 14 rfl rfl (by kernel_rfl) Sub.any (Qt.index _ (e := 90) (sz := 6) (by kernel_rfl) rfl rfl rfl (by omega)) ?_
          refine RW.q 15 rfl rfl (by kernel_rfl) Sub.any (Qt.fieldAddr (off := 1) (by kernel_rfl) rfl) ?_
          refine RW.q 16 rfl rfl (by kernel_rfl) Sub.any (Qt.load (v := strW y.b) (by kernel_rfl) rfl (ra_at hy 1 (by omega))) ?_
          refine RW.all [3, 5] (by kernel_rfl) (List.forall_mem_cons.2 ⟨?_, List.forall_mem_cons.2 ⟨?_, List.forall_mem_nil _⟩⟩)
          ·
           first | refine RO.eS rfl rfl (Ef.qt (Qt.load (by kernel_rfl) rfl rfl) ?_) | refine RO.eS rfl rfl (Ef.qt (Qt.load (by kernel_rfl) rfl (map_at _ _ _ (by omega))) ?_) | refine RO.eS rfl rfl (Ef.qt (Qt.load (by kernel_rfl) rfl (flat_cell0 _ _ _ (by intros; rfl) _ (by omega) (by rfl))) ?_) | refine RO.eS rfl rfl (Ef.qt (Qt.load (by kernel_rfl) rfl (flat_cell _ _ _ (by intros; rfl) _ _ (by omega) (by rfl))) ?_) | refine RO.eS rfl rfl (Ef.qt (Qt.load (by kernel_rfl) rfl (bytes_at _ _ (by omega))) ?_)
           refine ⟨Sub.any, ?_⟩
           refine RW.one 5 (by kernel_rfl) ?_
           first | refine RO.eS rfl rfl (Ef.qt (Qt.load (by kernel_rfl) rfl rfl) ?_) | refine RO.eS rfl rfl (Ef.qt (Qt.load (by kernel_rfl) rfl (map_at _ _ _ (by omega))) ?_) | refine RO.eS rfl rfl (Ef.qt (Qt.load (by kernel_rfl) rfl (flat_cell0 _ _ _ (by intros; rfl) _ (by omega) (by rfl))) ?_) | refine RO.eS rfl rfl (Ef.qt (Qt.load (by kernel_rfl) rfl (flat_cell _ _ _ (by intros; rfl) _ _ (by omega) (by rfl))) ?_) | refine RO.eS rfl rfl (Ef.qt (Qt.load (by kernel_rfl) rfl (bytes_at _ _ (by omega))) ?_)
           refine ⟨Sub.any, ?_⟩
           refine RW.q 7 rfl rfl (by kernel_rfl) Sub.any (Qt.index _ (e := 90) (sz := 6) (by kernel_rfl) rfl rfl rfl (by omega)) ?_
           refine RW.q 8 rfl rfl (by kernel_rfl) Sub.any (Qt.fieldAddr0 (by kernel_rfl) rfl) ?_
           refine RW.q 9 rfl rfl (by kernel_rfl) Sub.any (Qt.load (v := .int .i64 y.page) (by kernel_rfl) rfl (ra_at hy 0 (by omega))) ?_
           refine RW.q 10 rfl rfl (by kernel_rfl) Sub.any (Qt.add rfl rfl (wr64 (by omega) (by omega))) ?_
           refine RW.one 17 (by kernel_rfl) ?_
           refine RO.eS rfl rfl (Ef.call (Rf.put B p3 q3 a3 c3 N m3 (first + y.page) (first + y.page.toNat) (by omega) y.b (forceP W D y.mark).2.secs (forceP W D y.mark).2.pend (by omega) (by omega) (by omega) hbl) Tryz.func27 rfl rfl rfl ?_)
           rintro _ _ ⟨p4, a4, q4, c4, rfl, rfl⟩
           try simp only [List.cons_append, List.nil_append]
           refine ⟨Sub.any, ?_⟩
           refine RW.q 18 rfl rfl (by kernel_rfl) Sub.any (Qt.move rfl) ?_
           refine RW.q 19 rfl rfl (by kernel_rfl) Sub.any (Qt.extract rfl rfl) ?_
           refine RW.q 20 rfl rfl (by kernel_rfl) Sub.any (Qt.extract rfl rfl) ?_
           refine RW.q 21 rfl rfl (by kernel_rfl) Sub.any (Qt.fieldAddr0 (by kernel_rfl) rfl) ?_
           refine RW.one 22 (by kernel_rfl) ?_
           refine RO.eS0 rfl rfl (Ef.store [_, _] (by kernel_rfl) rfl rfl rfl rfl (by simp) ?_)
           try simp only [splice, List.length_cons, List.length_nil, List.drop_succ_cons, List.cons_append, List.take_succ_cons, List.take_zero, List.drop_zero, List.nil_append, List.append_nil]
           refine ⟨Sub.any, ?_⟩
           refine RW.done (by rfl) ?_
           simp only [List.drop_succ_cons, List.drop_zero, List.drop_nil]
           refine LW.done ?_
           refine T.seq ?_
           refine T.region ?_
           first | refine LW.q rfl (Qt.loadAgg [_, _, _, _, _, _, _, _, _, _, _] (by kernel_rfl) rfl ⟨rfl, rfl, rfl, rfl, rfl, rfl, rfl, rfl, rfl, rfl, rfl, trivial⟩) ?_ | refine LW.q rfl (Qt.loadAgg [_, _, _, _, _, _, _, _, _, _, _] (by kernel_rfl) rfl (by exact rdl_flat _ _ _ (by intros; rfl) _ (by omega))) ?_
           refine LW.q rfl (Qt.move rfl) ?_
           refine LW.e0 rfl (Ef.store [_, _, _, _, _, _, _, _, _, _, _] (by kernel_rfl) rfl rfl rfl rfl (by simp) ?_)
           try simp only [splice, List.length_cons, List.length_nil, List.drop_succ_cons, List.cons_append, List.take_succ_cons, List.take_zero, List.drop_zero, List.nil_append, List.append_nil]
           refine LW.q rfl (Qt.assign rfl) ?_
           refine LW.done ?_
           refine T.ret ?_
           exact ⟨.inl rfl, _, _, res [_, _] rfl ⟨rvA [_, _, _, _, _, _, _, _, _, _, _] (by kernel_rfl) rfl ⟨rfl, rfl, rfl, rfl, rfl, rfl, rfl, rfl, rfl, rfl, rfl, trivial⟩, rvT rfl, trivial⟩, ⟨p4, q4, a4, c4, m3 + 1, by simp [hm3], rfl, rfl⟩, Sub.any⟩
          ·
           first | refine RO.eS rfl rfl (Ef.qt (Qt.load (by kernel_rfl) rfl rfl) ?_) | refine RO.eS rfl rfl (Ef.qt (Qt.load (by kernel_rfl) rfl (map_at _ _ _ (by omega))) ?_) | refine RO.eS rfl rfl (Ef.qt (Qt.load (by kernel_rfl) rfl (flat_cell0 _ _ _ (by intros; rfl) _ (by omega) (by rfl))) ?_) | refine RO.eS rfl rfl (Ef.qt (Qt.load (by kernel_rfl) rfl (flat_cell _ _ _ (by intros; rfl) _ _ (by omega) (by rfl))) ?_) | refine RO.eS rfl rfl (Ef.qt (Qt.load (by kernel_rfl) rfl (bytes_at _ _ (by omega))) ?_)
           refine ⟨Sub.any, ?_⟩
           refine RW.q 7 rfl rfl (by kernel_rfl) Sub.any (Qt.index _ (e := 90) (sz := 6) (by kernel_rfl) rfl rfl rfl (by omega)) ?_
           refine RW.q 8 rfl rfl (by kernel_rfl) Sub.any (Qt.fieldAddr0 (by kernel_rfl) rfl) ?_
           refine RW.q 9 rfl rfl (by kernel_rfl) Sub.any (Qt.load (v := .int .i64 y.page) (by kernel_rfl) rfl (ra_at hy 0 (by omega))) ?_
           refine RW.one 3 (by kernel_rfl) ?_
           first | refine RO.eS rfl rfl (Ef.qt (Qt.load (by kernel_rfl) rfl rfl) ?_) | refine RO.eS rfl rfl (Ef.qt (Qt.load (by kernel_rfl) rfl (map_at _ _ _ (by omega))) ?_) | refine RO.eS rfl rfl (Ef.qt (Qt.load (by kernel_rfl) rfl (flat_cell0 _ _ _ (by intros; rfl) _ (by omega) (by rfl))) ?_) | refine RO.eS rfl rfl (Ef.qt (Qt.load (by kernel_rfl) rfl (flat_cell _ _ _ (by intros; rfl) _ _ (by omega) (by rfl))) ?_) | refine RO.eS rfl rfl (Ef.qt (Qt.load (by kernel_rfl) rfl (bytes_at _ _ (by omega))) ?_)
           refine ⟨Sub.any, ?_⟩
           refine RW.q 10 rfl rfl (by kernel_rfl) Sub.any (Qt.add rfl rfl (wr64 (by omega) (by omega))) ?_
           refine RW.one 17 (by kernel_rfl) ?_
           refine RO.eS rfl rfl (Ef.call (Rf.put B p3 q3 a3 c3 N m3 (first + y.page) (first + y.page.toNat) (by omega) y.b (forceP W D y.mark).2.secs (forceP W D y.mark).2.pend (by omega) (by omega) (by omega) hbl) Tryz.func27 rfl rfl rfl ?_)
           rintro _ _ ⟨p4, a4, q4, c4, rfl, rfl⟩
           try simp only [List.cons_append, List.nil_append]
           refine ⟨Sub.any, ?_⟩
           refine RW.q 18 rfl rfl (by kernel_rfl) Sub.any (Qt.move rfl) ?_
           refine RW.q 19 rfl rfl (by kernel_rfl) Sub.any (Qt.extract rfl rfl) ?_
           refine RW.q 20 rfl rfl (by kernel_rfl) Sub.any (Qt.extract rfl rfl) ?_
           refine RW.q 21 rfl rfl (by kernel_rfl) Sub.any (Qt.fieldAddr0 (by kernel_rfl) rfl) ?_
           refine RW.one 22 (by kernel_rfl) ?_
           refine RO.eS0 rfl rfl (Ef.store [_, _] (by kernel_rfl) rfl rfl rfl rfl (by simp) ?_)
           try simp only [splice, List.length_cons, List.length_nil, List.drop_succ_cons, List.cons_append, List.take_succ_cons, List.take_zero, List.drop_zero, List.nil_append, List.append_nil]
           refine ⟨Sub.any, ?_⟩
           refine RW.done (by rfl) ?_
           simp only [List.drop_succ_cons, List.drop_zero, List.drop_nil]
           refine LW.done ?_
           refine T.seq ?_
           refine T.region ?_
           first | refine LW.q rfl (Qt.loadAgg [_, _, _, _, _, _, _, _, _, _, _] (by kernel_rfl) rfl ⟨rfl, rfl, rfl, rfl, rfl, rfl, rfl, rfl, rfl, rfl, rfl, trivial⟩) ?_ | refine LW.q rfl (Qt.loadAgg [_, _, _, _, _, _, _, _, _, _, _] (by kernel_rfl) rfl (by exact rdl_flat _ _ _ (by intros; rfl) _ (by omega))) ?_
           refine LW.q rfl (Qt.move rfl) ?_
           refine LW.e0 rfl (Ef.store [_, _, _, _, _, _, _, _, _, _, _] (by kernel_rfl) rfl rfl rfl rfl (by simp) ?_)
           try simp only [splice, List.length_cons, List.length_nil, List.drop_succ_cons, List.cons_append, List.take_succ_cons, List.take_zero, List.drop_zero, List.nil_append, List.append_nil]
           refine LW.q rfl (Qt.assign rfl) ?_
           refine LW.done ?_
           refine T.ret ?_
           exact ⟨.inl rfl, _, _, res [_, _] rfl ⟨rvA [_, _, _, _, _, _, _, _, _, _, _] (by kernel_rfl) rfl ⟨rfl, rfl, rfl, rfl, rfl, rfl, rfl, rfl, rfl, rfl, rfl, trivial⟩, rvT rfl, trivial⟩, ⟨p4, q4, a4, c4, m3 + 1, by simp [hm3], rfl, rfl⟩, Sub.any⟩
        ·
         first | refine RO.eS rfl rfl (Ef.qt (Qt.load (by kernel_rfl) rfl rfl) ?_) | refine RO.eS rfl rfl (Ef.qt (Qt.load (by kernel_rfl) rfl (map_at _ _ _ (by omega))) ?_) | refine RO.eS rfl rfl (Ef.qt (Qt.load (by kernel_rfl) rfl (flat_cell0 _ _ _ (by intros; rfl) _ (by omega) (by rfl))) ?_) | refine RO.eS rfl rfl (Ef.qt (Qt.load (by kernel_rfl) rfl (flat_cell _ _ _ (by intros; rfl) _ _ (by omega) (by rfl))) ?_) | refine RO.eS rfl rfl (Ef.qt (Qt.load (by kernel_rfl) rfl (bytes_at _ _ (by omega))) ?_)
         refine ⟨Sub.any, ?_⟩
         refine RW.all [1, 5, 12] (by kernel_rfl) (List.forall_mem_cons.2 ⟨?_, List.forall_mem_cons.2 ⟨?_, List.forall_mem_cons.2 ⟨?_, List.forall_mem_nil _⟩⟩⟩)
         ·
          first | refine RO.eS rfl rfl (Ef.qt (Qt.loadAgg [_, _] (by kernel_rfl) rfl ⟨rfl, rfl, trivial⟩) ?_) | refine RO.eS rfl rfl (Ef.qt (Qt.loadAgg [_, _] (by kernel_rfl) rfl (by exact rdl_flat _ _ _ (by intros; rfl) _ (by omega))) ?_)
          refine ⟨Sub.any, ?_⟩
          refine RW.all [5, 12] (by kernel_rfl) (List.forall_mem_cons.2 ⟨?_, List.forall_mem_cons.2 ⟨?_, List.forall_mem_nil _⟩⟩)
          ·
           first | refine RO.eS rfl rfl (Ef.qt (Qt.load (by kernel_rfl) rfl rfl) ?_) | refine RO.eS rfl rfl (Ef.qt (Qt.load (by kernel_rfl) rfl (map_at _ _ _ (by omega))) ?_) | refine RO.eS rfl rfl (Ef.qt (Qt.load (by kernel_rfl) rfl (flat_cell0 _ _ _ (by intros; rfl) _ (by omega) (by rfl))) ?_) | refine RO.eS rfl rfl (Ef.qt (Qt.load (by kernel_rfl) rfl (flat_cell _ _ _ (by intros; rfl) _ _ (by omega) (by rfl))) ?_) | refine RO.eS rfl rfl (Ef.qt (Qt.load (by kernel_rfl) rfl (bytes_at _ _ (by omega))) ?_)
           refine ⟨Sub.any, ?_⟩
           refine RW.q 7 rfl rfl (by kernel_rfl) Sub.any (Qt.index _ (e := 90) (sz := 6) (by kernel_rfl) rfl rfl rfl (by omega)) ?_
           refine RW.q 8 rfl rfl (by kernel_rfl) Sub.any (Qt.fieldAddr0 (by kernel_rfl) rfl) ?_
           refine RW.q 9 rfl rfl (by kernel_rfl) Sub.any (Qt.load (v := .int .i64 y.page) (by kernel_rfl) rfl (ra_at hy 0 (by omega))) ?_
           refine RW.q 10 rfl rfl (by kernel_rfl) Sub.any (Qt.add rfl rfl (wr64 (by omega) (by omega))) ?_
           refine RW.one 12 (by kernel_rfl) ?_
           first | refine RO.eS rfl rfl (Ef.qt (Qt.load (by kernel_rfl) rfl rfl) ?_) | refine RO.eS rfl rfl (Ef.qt (Qt.load (by kernel_rfl) rfl (map_at _ _ _ (by omega))) ?_) | refine RO.eS rfl rfl (Ef.qt (Qt.load (by kernel_rfl) rfl (flat_cell0 _ _ _ (by intros; rfl) _ (by omega) (by rfl))) ?_) | refine RO.eS rfl rfl (Ef.qt (Qt.load (by kernel_rfl) rfl (flat_cell _ _ _ (by intros; rfl) _ _ (by omega) (by rfl))) ?_) | refine RO.eS rfl rfl (Ef.qt (Qt.load (by kernel_rfl) rfl (bytes_at _ _ (by omega))) ?_)
           refine ⟨Sub.any, ?_⟩
           refine RW.q 14 rfl rfl (by kernel_rfl) Sub.any (Qt.index _ (e := 90) (sz := 6) (by kernel_rfl) rfl rfl rfl (by omega)) ?_
           refine RW.q 15 rfl rfl (by kernel_rfl) Sub.any (Qt.fieldAddr (off := 1) (by kernel_rfl) rfl) ?_
           refine RW.q 16 rfl rfl (by kernel_rfl) Sub.any (Qt.load (v := strW y.b) (by kernel_rfl) rfl (ra_at hy 1 (by omega))) ?_
           refine RW.one 17 (by kernel_rfl) ?_
           refine RO.eS rfl rfl (Ef.call (Rf.put B p3 q3 a3 c3 N m3 (first + y.page) (first + y.page.toNat) (by omega) y.b (forceP W D y.mark).2.secs (forceP W D y.mark).2.pend (by omega) (by omega) (by omega) hbl) Tryz.func27 rfl rfl rfl ?_)
           rintro _ _ ⟨p4, a4, q4, c4, rfl, rfl⟩
           try simp only [List.cons_append, List.nil_append]
           refine ⟨Sub.any, ?_⟩
           refine RW.q 18 rfl rfl (by kernel_rfl) Sub.any (Qt.move rfl) ?_
           refine RW.q 19 rfl rfl (by kernel_rfl) Sub.any (Qt.extract rfl rfl) ?_
           refine RW.q 20 rfl rfl (by kernel_rfl) Sub.any (Qt.extract rfl rfl) ?_
           refine RW.q 21 rfl rfl (by kernel_rfl) Sub.any (Qt.fieldAddr0 (by kernel_rfl) rfl) ?_
           refine RW.one 22 (by kernel_rfl) ?_
           refine RO.eS0 rfl rfl (Ef.store [_, _] (by kernel_rfl) rfl rfl rfl rfl (by simp) ?_)
           try simp only [splice, List.length_cons, List.length_nil, List.drop_succ_cons, List.cons_append, List.take_succ_cons, List.take_zero, List.drop_zero, List.nil_append, List.append_nil]
           refine ⟨Sub.any, ?_⟩
           refine RW.done (by rfl) ?_
           simp only [List.drop_succ_cons, List.drop_zero, List.drop_nil]
           refine LW.done ?_
           refine T.seq ?_
           refine T.region ?_
           first | refine LW.q rfl (Qt.loadAgg [_, _, _, _, _, _, _, _, _, _, _] (by kernel_rfl) rfl ⟨rfl, rfl, rfl, rfl, rfl, rfl, rfl, rfl, rfl, rfl, rfl, trivial⟩) ?_ | refine LW.q rfl (Qt.loadAgg [_, _, _, _, _, _, _, _, _, _, _] (by kernel_rfl) rfl (by exact rdl_flat _ _ _ (by intros; rfl) _ (by omega))) ?_
           refine LW.q rfl (Qt.move rfl) ?_
           refine LW.e0 rfl (Ef.store [_, _, _, _, _, _, _, _, _, _, _] (by kernel_rfl) rfl rfl rfl rfl (by simp) ?_)
           try simp only [splice, List.length_cons, List.length_nil, List.drop_succ_cons, List.cons_append, List.take_succ_cons, List.take_zero, List.drop_zero, List.nil_append, List.append_nil]
           refine LW.q rfl (Qt.assign rfl) ?_
           refine LW.done ?_
           refine T.ret ?_
           exact ⟨.inl rfl, _, _, res [_, _] rfl ⟨rvA [_, _, _, _, _, _, _, _, _, _, _] (by kernel_rfl) rfl ⟨rfl, rfl, rfl, rfl, rfl, rfl, rfl, rfl, rfl, rfl, rfl, trivial⟩, rvT rfl, trivial⟩, ⟨p4, q4, a4, c4, m3 + 1, by simp [hm3], rfl, rfl⟩, Sub.any⟩
          ·
           first | refine RO.eS rfl rfl (Ef.qt (Qt.load (by kernel_rfl) rfl rfl) ?_) | refine RO.eS rfl rfl (Ef.qt (Qt.load (by kernel_rfl) rfl (map_at _ _ _ (by omega))) ?_) | refine RO.eS rfl rfl (Ef.qt (Qt.load (by kernel_rfl) rfl (flat_cell0 _ _ _ (by intros; rfl) _ (by omega) (by rfl))) ?_) | refine RO.eS rfl rfl (Ef.qt (Qt.load (by kernel_rfl) rfl (flat_cell _ _ _ (by intros; rfl) _ _ (by omega) (by rfl))) ?_) | refine RO.eS rfl rfl (Ef.qt (Qt.load (by kernel_rfl) rfl (bytes_at _ _ (by omega))) ?_)
           refine ⟨Sub.any, ?_⟩
           refine RW.q 14 rfl rfl (by kernel_rfl) Sub.any (Qt.index _ (e := 90) (sz := 6) (by kernel_rfl) rfl rfl rfl (by omega)) ?_
           refine RW.q 15 rfl rfl (by kernel_rfl) Sub.any (Qt.fieldAddr (off := 1) (by kernel_rfl) rfl) ?_
           refine RW.q 16 rfl rfl (by kernel_rfl) Sub.any (Qt.load (v := strW y.b) (by kernel_rfl) rfl (ra_at hy 1 (by omega))) ?_
           refine RW.one 5 (by kernel_rfl) ?_
           first | refine RO.eS rfl rfl (Ef.qt (Qt.load (by kernel_rfl) rfl rfl) ?_) | refine RO.eS rfl rfl (Ef.qt (Qt.load (by kernel_rfl) rfl (map_at _ _ _ (by omega))) ?_) | refine RO.eS rfl rfl (Ef.qt (Qt.load (by kernel_rfl) rfl (flat_cell0 _ _ _ (by intros; rfl) _ (by omega) (by rfl))) ?_) | refine RO.eS rfl rfl (Ef.qt (Qt.load (by kernel_rfl) rfl (flat_cell _ _ _ (by intros; rfl) _ _ (by omega) (by rfl))) ?_) | refine RO.eS rfl rfl (Ef.qt (Qt.load (by kernel_rfl) rfl (bytes_at _ _ (by omega))) ?_)
           refine ⟨Sub.any, ?_⟩
           refine RW.q 7 rfl rfl (by kernel_rfl) Sub.any (Qt.index _ (e := 90) (sz := 6) (by kernel_rfl) rfl rfl rfl (by omega)) ?_
           refine RW.q 8 rfl rfl (by kernel_rfl) Sub.any (Qt.fieldAddr0 (by kernel_rfl) rfl) ?_
           refine RW.q 9 rfl rfl (by kernel_rfl) Sub.any (Qt.load (v := .int .i64 y.page) (by kernel_rfl) rfl (ra_at hy 0 (by omega))) ?_
           refine RW.q 10 rfl rfl (by kernel_rfl) Sub.any (Qt.add rfl rfl (wr64 (by omega) (by omega))) ?_
           refine RW.one 17 (by kernel_rfl) ?_
           refine RO.eS rfl rfl (Ef.call (Rf.put B p3 q3 a3 c3 N m3 (first + y.page) (first + y.page.toNat) (by omega) y.b (forceP W D y.mark).2.secs (forceP W D y.mark).2.pend (by omega) (by omega) (by omega) hbl) Tryz.func27 rfl rfl rfl ?_)
           rintro _ _ ⟨p4, a4, q4, c4, rfl, rfl⟩
           try simp only [List.cons_append, List.nil_append]
           refine ⟨Sub.any, ?_⟩
           refine RW.q 18 rfl rfl (by kernel_rfl) Sub.any (Qt.move rfl) ?_
           refine RW.q 19 rfl rfl (by kernel_rfl) Sub.any (Qt.extract rfl rfl) ?_
           refine RW.q 20 rfl rfl (by kernel_rfl) Sub.any (Qt.extract rfl rfl) ?_
           refine RW.q 21 rfl rfl (by kernel_rfl) Sub.any (Qt.fieldAddr0 (by kernel_rfl) rfl) ?_
           refine RW.one 22 (by kernel_rfl) ?_
           refine RO.eS0 rfl rfl (Ef.store [_, _] (by kernel_rfl) rfl rfl rfl rfl (by simp) ?_)
           try simp only [splice, List.length_cons, List.length_nil, List.drop_succ_cons, List.cons_append, List.take_succ_cons, List.take_zero, List.drop_zero, List.nil_append, List.append_nil]
           refine ⟨Sub.any, ?_⟩
           refine RW.done (by rfl) ?_
           simp only [List.drop_succ_cons, List.drop_zero, List.drop_nil]
           refine LW.done ?_
           refine T.seq ?_
           refine T.region ?_
           first | refine LW.q rfl (Qt.loadAgg [_, _, _, _, _, _, _, _, _, _, _] (by kernel_rfl) rfl ⟨rfl, rfl, rfl, rfl, rfl, rfl, rfl, rfl, rfl, rfl, rfl, trivial⟩) ?_ | refine LW.q rfl (Qt.loadAgg [_, _, _, _, _, _, _, _, _, _, _] (by kernel_rfl) rfl (by exact rdl_flat _ _ _ (by intros; rfl) _ (by omega))) ?_
           refine LW.q rfl (Qt.move rfl) ?_
           refine LW.e0 rfl (Ef.store [_, _, _, _, _, _, _, _, _, _, _] (by kernel_rfl) rfl rfl rfl rfl (by simp) ?_)
           try simp only [splice, List.length_cons, List.length_nil, List.drop_succ_cons, List.cons_append, List.take_succ_cons, List.take_zero, List.drop_zero, List.nil_append, List.append_nil]
           refine LW.q rfl (Qt.assign rfl) ?_
           refine LW.done ?_
           refine T.ret ?_
           exact ⟨.inl rfl, _, _, res [_, _] rfl ⟨rvA [_, _, _, _, _, _, _, _, _, _, _] (by kernel_rfl) rfl ⟨rfl, rfl, rfl, rfl, rfl, rfl, rfl, rfl, rfl, rfl, rfl, trivial⟩, rvT rfl, trivial⟩, ⟨p4, q4, a4, c4, m3 + 1, by simp [hm3], rfl, rfl⟩, Sub.any⟩
         ·
          first | refine RO.eS rfl rfl (Ef.qt (Qt.load (by kernel_rfl) rfl rfl) ?_) | refine RO.eS rfl rfl (Ef.qt (Qt.load (by kernel_rfl) rfl (map_at _ _ _ (by omega))) ?_) | refine RO.eS rfl rfl (Ef.qt (Qt.load (by kernel_rfl) rfl (flat_cell0 _ _ _ (by intros; rfl) _ (by omega) (by rfl))) ?_) | refine RO.eS rfl rfl (Ef.qt (Qt.load (by kernel_rfl) rfl (flat_cell _ _ _ (by intros; rfl) _ _ (by omega) (by rfl))) ?_) | refine RO.eS rfl rfl (Ef.qt (Qt.load (by kernel_rfl) rfl (bytes_at _ _ (by omega))) ?_)
          refine ⟨Sub.any, ?_⟩
          refine RW.q 7 rfl rfl (by kernel_rfl) Sub.any (Qt.index _ (e := 90) (sz := 6) (by kernel_rfl) rfl rfl rfl (by omega)) ?_
          refine RW.q 8 rfl rfl (by kernel_rfl) Sub.any (Qt.fieldAddr0 (by kernel_rfl) rfl) ?_
          refine RW.q 9 rfl rfl (by kernel_rfl) Sub.any (Qt.load (v := .int .i64 y.page) (by kernel_rfl) rfl (ra_at hy 0 (by omega))) ?_
          refine RW.q 10 rfl rfl (by kernel_rfl) Sub.any (Qt.add rfl rfl (wr64 (by omega) (by omega))) ?_
          refine RW.all [1, 12] (by kernel_rfl) (List.forall_mem_cons.2 ⟨?_, List.forall_mem_cons.2 ⟨?_, List.forall_mem_nil _⟩⟩)
          ·
           first | refine RO.eS rfl rfl (Ef.qt (Qt.loadAgg [_, _] (by kernel_rfl) rfl ⟨rfl, rfl, trivial⟩) ?_) | refine RO.eS rfl rfl (Ef.qt (Qt.loadAgg [_, _] (by kernel_rfl) rfl (by exact rdl_flat _ _ _ (by intros; rfl) _ (by omega))) ?_)
           refine ⟨Sub.any, ?_⟩
           refine RW.one 12 (by kernel_rfl) ?_
           first | refine RO.eS rfl rfl (Ef.qt (Qt.load (by kernel_rfl) rfl rfl) ?_) | refine RO.eS rfl rfl (Ef.qt (Qt.load (by kernel_rfl) rfl (map_at _ _ _ (by omega))) ?_) | refine RO.eS rfl rfl (Ef.qt (Qt.load (by kernel_rfl) rfl (flat_cell0 _ _ _ (by intros; rfl) _ (by omega) (by rfl))) ?_) | refine RO.eS rfl rfl (Ef.qt (Qt.load (by kernel_rfl) rfl (flat_cell _ _ _ (by intros; rfl) _ _ (by omega) (by rfl))) ?_) | refine RO.eS rfl rfl (Ef.qt (Qt.load (by kernel_rfl) rfl (bytes_at _ _ (by omega))) ?_)
           refine ⟨Sub.any, ?_⟩
           refine RW.q 14 rfl rfl (by kernel_rfl) Sub.any (Qt.index _ (e := 90) (sz := 6) (by kernel_rfl) rfl rfl rfl (by omega)) ?_
           refine RW.q 15 rfl rfl (by kernel_rfl) Sub.any (Qt.fieldAddr (off := 1) (by kernel_rfl) rfl) ?_
           refine RW.q 16 rfl rfl (by kernel_rfl) Sub.any (Qt.load (v := strW y.b) (by kernel_rfl) rfl (ra_at hy 1 (by omega))) ?_
           refine RW.one 17 (by kernel_rfl) ?_
           refine RO.eS rfl rfl (Ef.call (Rf.put B p3 q3 a3 c3 N m3 (first + y.page) (first + y.page.toNat) (by omega) y.b (forceP W D y.mark).2.secs (forceP W D y.mark).2.pend (by omega) (by omega) (by omega) hbl) Tryz.func27 rfl rfl rfl ?_)
           rintro _ _ ⟨p4, a4, q4, c4, rfl, rfl⟩
           try simp only [List.cons_append, List.nil_append]
           refine ⟨Sub.any, ?_⟩
           refine RW.q 18 rfl rfl (by kernel_rfl) Sub.any (Qt.move rfl) ?_
           refine RW.q 19 rfl rfl (by kernel_rfl) Sub.any (Qt.extract rfl rfl) ?_
           refine RW.q 20 rfl rfl (by kernel_rfl) Sub.any (Qt.extract rfl rfl) ?_
           refine RW.q 21 rfl rfl (by kernel_rfl) Sub.any (Qt.fieldAddr0 (by kernel_rfl) rfl) ?_
           refine RW.one 22 (by kernel_rfl) ?_
           refine RO.eS0 rfl rfl (Ef.store [_, _] (by kernel_rfl) rfl rfl rfl rfl (by simp) ?_)
           try simp only [splice, List.length_cons, List.length_nil, List.drop_succ_cons, List.cons_append, List.take_succ_cons, List.take_zero, List.drop_zero, List.nil_append, List.append_nil]
           refine ⟨Sub.any, ?_⟩
           refine RW.done (by rfl) ?_
           simp only [List.drop_succ_cons, List.drop_zero, List.drop_nil]
           refine LW.done ?_
           refine T.seq ?_
           refine T.region ?_
           first | refine LW.q rfl (Qt.loadAgg [_, _, _, _, _, _, _, _, _, _, _] (by kernel_rfl) rfl ⟨rfl, rfl, rfl, rfl, rfl, rfl, rfl, rfl, rfl, rfl, rfl, trivial⟩) ?_ | refine LW.q rfl (Qt.loadAgg [_, _, _, _, _, _, _, _, _, _, _] (by kernel_rfl) rfl (by exact rdl_flat _ _ _ (by intros; rfl) _ (by omega))) ?_
           refine LW.q rfl (Qt.move rfl) ?_
           refine LW.e0 rfl (Ef.store [_, _, _, _, _, _, _, _, _, _, _] (by kernel_rfl) rfl rfl rfl rfl (by simp) ?_)
           try simp only [splice, List.length_cons, List.length_nil, List.drop_succ_cons, List.cons_append, List.take_succ_cons, List.take_zero, List.drop_zero, List.nil_append, List.append_nil]
           refine LW.q rfl (Qt.assign rfl) ?_
           refine LW.done ?_
           refine T.ret ?_
           exact ⟨.inl rfl, _, _, res [_, _] rfl ⟨rvA [_, _, _, _, _, _, _, _, _, _, _] (by kernel_rfl) rfl ⟨rfl, rfl, rfl, rfl, rfl, rfl, rfl, rfl, rfl, rfl, rfl, trivial⟩, rvT rfl, trivial⟩, ⟨p4, q4, a4, c4, m3 + 1, by simp [hm3], rfl, rfl⟩, Sub.any⟩
          ·
           first | refine RO.eS rfl rfl (Ef.qt (Qt.load (by kernel_rfl) rfl rfl) ?_) | refine RO.eS rfl rfl (Ef.qt (Qt.load (by kernel_rfl) rfl (map_at _ _ _ (by omega))) ?_) | refine RO.eS rfl rfl (Ef.qt (Qt.load (by kernel_rfl) rfl (flat_cell0 _ _ _ (by intros; rfl) _ (by omega) (by rfl))) ?_) | refine RO.eS rfl rfl (Ef.qt (Qt.load (by kernel_rfl) rfl (flat_cell _ _ _ (by intros; rfl) _ _ (by omega) (by rfl))) ?_) | refine RO.eS rfl rfl (Ef.qt (Qt.load (by kernel_rfl) rfl (bytes_at _ _ (by omega))) ?_)
           refine ⟨Sub.any, ?_⟩
           refine RW.q 14 rfl rfl (by kernel_rfl) Sub.any (Qt.index _ (e := 90) (sz := 6) (by kernel_rfl) rfl rfl rfl (by omega)) ?_
           refine RW.q 15 rfl rfl (by kernel_rfl) Sub.any (Qt.fieldAddr (off := 1) (by kernel_rfl) rfl) ?_
           refine RW.q 16 rfl rfl (by kernel_rfl) Sub.any (Qt.load (v := strW y.b) (by kernel_rfl) rfl (ra_at hy 1 (by omega))) ?_
           refine RW.one 1 (by kernel_rfl) ?_
           first | refine RO.eS rfl rfl (Ef.qt (Qt.loadAgg [_, _] (by kernel_rfl) rfl ⟨rfl, rfl, trivial⟩) ?_) | refine RO.eS rfl rfl (Ef.qt (Qt.loadAgg [_, _] (by kernel_rfl) rfl (by exact rdl_flat _ _ _ (by intros; rfl) _ (by omega))) ?_)
           refine ⟨Sub.any, ?_⟩
           refine RW.one 17 (by kernel_rfl) ?_
           refine RO.eS rfl rfl (Ef.call (Rf.put B p3 q3 a3 c3 N m3 (first + y.page) (first + y.page.toNat) (by omega) y.b (forceP W D y.mark).2.secs (forceP W D y.mark).2.pend (by omega) (by omega) (by omega) hbl) Tryz.func27 rfl rfl rfl ?_)
           rintro _ _ ⟨p4, a4, q4, c4, rfl, rfl⟩
           try simp only [List.cons_append, List.nil_append]
           refine ⟨Sub.any, ?_⟩
           refine RW.q 18 rfl rfl (by kernel_rfl) Sub.any (Qt.move rfl) ?_
           refine RW.q 19 rfl rfl (by kernel_rfl) Sub.any (Qt.extract rfl rfl) ?_
           refine RW.q 20 rfl rfl (by kernel_rfl) Sub.any (Qt.extract rfl rfl) ?_
           refine RW.q 21 rfl rfl (by kernel_rfl) Sub.any (Qt.fieldAddr0 (by kernel_rfl) rfl) ?_
           refine RW.one 22 (by kernel_rfl) ?_
           refine RO.eS0 rfl rfl (Ef.store [_, _] (by kernel_rfl) rfl rfl rfl rfl (by simp) ?_)
           try simp only [splice, List.length_cons, List.length_nil, List.drop_succ_cons, List.cons_append, List.take_succ_cons, List.take_zero, List.drop_zero, List.nil_append, List.append_nil]
           refine ⟨Sub.any, ?_⟩
           refine RW.done (by rfl) ?_
           simp only [List.drop_succ_cons, List.drop_zero, List.drop_nil]
           refine LW.done ?_
           refine T.seq ?_
           refine T.region ?_
           first | refine LW.q rfl (Qt.loadAgg [_, _, _, _, _, _, _, _, _, _, _] (by kernel_rfl) rfl ⟨rfl, rfl, rfl, rfl, rfl, rfl, rfl, rfl, rfl, rfl, rfl, trivial⟩) ?_ | refine LW.q rfl (Qt.loadAgg [_, _, _, _, _, _, _, _, _, _, _] (by kernel_rfl) rfl (by exact rdl_flat _ _ _ (by intros; rfl) _ (by omega))) ?_
           refine LW.q rfl (Qt.move rfl) ?_
           refine LW.e0 rfl (Ef.store [_, _, _, _, _, _, _, _, _, _, _] (by kernel_rfl) rfl rfl rfl rfl (by simp) ?_)
           try simp only [splice, List.length_cons, List.length_nil, List.drop_succ_cons, List.cons_append, List.take_succ_cons, List.take_zero, List.drop_zero, List.nil_append, List.append_nil]
           refine LW.q rfl (Qt.assign rfl) ?_
           refine LW.done ?_
           refine T.ret ?_
           exact ⟨.inl rfl, _, _, res [_, _] rfl ⟨rvA [_, _, _, _, _, _, _, _, _, _, _] (by kernel_rfl) rfl ⟨rfl, rfl, rfl, rfl, rfl, rfl, rfl, rfl, rfl, rfl, rfl, trivial⟩, rvT rfl, trivial⟩, ⟨p4, q4, a4, c4, m3 + 1, by simp [hm3], rfl, rfl⟩, Sub.any⟩
         ·
          first | refine RO.eS rfl rfl (Ef.qt (Qt.load (by kernel_rfl) rfl rfl) ?_) | refine RO.eS rfl rfl (Ef.qt (Qt.load (by kernel_rfl) rfl (map_at _ _ _ (by omega))) ?_) | refine RO.eS rfl rfl (Ef.qt (Qt.load (by kernel_rfl) rfl (flat_cell0 _ _ _ (by intros; rfl) _ (by omega) (by rfl))) ?_) | refine RO.eS rfl rfl (Ef.qt (Qt.load (by kernel_rfl) rfl (flat_cell _ _ _ (by intros; rfl) _ _ (by omega) (by rfl))) ?_) | refine RO.eS rfl rfl (Ef.qt (Qt.load (by kernel_rfl) rfl (bytes_at _ _ (by omega))) ?_)
          refine ⟨Sub.any, ?_⟩
          refine RW.q 14 rfl rfl (by kernel_rfl) Sub.any (Qt.index _ (e := 90) (sz := 6) (by kernel_rfl) rfl rfl rfl (by omega)) ?_
          refine RW.q 15 rfl rfl (by kernel_rfl) Sub.any (Qt.fieldAddr (off := 1) (by kernel_rfl) rfl) ?_
          refine RW.q 16 rfl rfl (by kernel_rfl) Sub.any (Qt.load (v := strW y.b) (by kernel_rfl) rfl (ra_at hy 1 (by omega))) ?_
          refine RW.all [1, 5] (by kernel_rfl) (List.forall_mem_cons.2 ⟨?_, List.forall_mem_cons.2 ⟨?_, List.forall_mem_nil _⟩⟩)
          ·
           first | refine RO.eS rfl rfl (Ef.qt (Qt.loadAgg [_, _] (by kernel_rfl) rfl ⟨rfl, rfl, trivial⟩) ?_) | refine RO.eS rfl rfl (Ef.qt (Qt.loadAgg [_, _] (by kernel_rfl) rfl (by exact rdl_flat _ _ _ (by intros; rfl) _ (by omega))) ?_)
           refine ⟨Sub.any, ?_⟩
           refine RW.one 5 (by kernel_rfl) ?_
           first | refine RO.eS rfl rfl (Ef.qt (Qt.load (by kernel_rfl) rfl rfl) ?_) | refine RO.eS rfl rfl (Ef.qt (Qt.load (by kernel_rfl) rfl (map_at _ _ _ (by omega))) ?_) | refine RO.eS rfl rfl (Ef.qt (Qt.load (by kernel_rfl) rfl (flat_cell0 _ _ _ (by intros; rfl) _ (by omega) (by rfl))) ?_) | refine RO.eS rfl rfl (Ef.qt (Qt.load (by kernel_rfl) rfl (flat_cell _ _ _ (by intros; rfl) _ _ (by omega) (by rfl))) ?_) | refine RO.eS rfl rfl (Ef.qt (Qt.load (by kernel_rfl) rfl (bytes_at _ _ (by omega))) ?_)
           refine ⟨Sub.any, ?_⟩
           refine RW.q 7 rfl rfl (by kernel_rfl) Sub.any (Qt.index _ (e := 90) (sz := 6) (by kernel_rfl) rfl rfl rfl (by omega)) ?_
           refine RW.q 8 rfl rfl (by kernel_rfl) Sub.any (Qt.fieldAddr0 (by kernel_rfl) rfl) ?_
           refine RW.q 9 rfl rfl (by kernel_rfl) Sub.any (Qt.load (v := .int .i64 y.page) (by kernel_rfl) rfl (ra_at hy 0 (by omega))) ?_
           refine RW.q 10 rfl rfl (by kernel_rfl) Sub.any (Qt.add rfl rfl (wr64 (by omega) (by omega))) ?_
           refine RW.one 17 (by kernel_rfl) ?_
           refine RO.eS rfl rfl (Ef.call (Rf.put B p3 q3 a3 c3 N m3 (first + y.page) (first + y.page.toNat) (by omega) y.b (forceP W D y.mark).2.secs (forceP W D y.mark).2.pend (by omega) (by omega) (by omega) hbl) Tryz.func27 rfl rfl rfl ?_)
           rintro _ _ ⟨p4, a4, q4, c4, rfl, rfl⟩
           try simp only [List.cons_append, List.nil_append]
           refine ⟨Sub.any, ?_⟩
           refine RW.q 18 rfl rfl (by kernel_rfl) Sub.any (Qt.move rfl) ?_
           refine RW.q 19 rfl rfl (by kernel_rfl) Sub.any (Qt.extract rfl rfl) ?_
           refine RW.q 20 rfl rfl (by kernel_rfl) Sub.any (Qt.extract rfl rfl) ?_
           refine RW.q 21 rfl rfl (by kernel_rfl) Sub.any (Qt.fieldAddr0 (by kernel_rfl) rfl) ?_
           refine RW.one 22 (by kernel_rfl) ?_
           refine RO.eS0 rfl rfl (Ef.store [_, _] (by kernel_rfl) rfl rfl rfl rfl (by simp) ?_)
           try simp only [splice, List.length_cons, List.length_nil, List.drop_succ_cons, List.cons_append, List.take_succ_cons, List.take_zero, List.drop_zero, List.nil_append, List.append_nil]
           refine ⟨Sub.any, ?_⟩
           refine RW.done (by rfl) ?_
           simp only [List.drop_succ_cons, List.drop_zero, List.drop_nil]
           refine LW.done ?_
           refine T.seq ?_
           refine T.region ?_
           first | refine LW.q rfl (Qt.loadAgg [_, _, _, _, _, _, _, _, _, _, _] (by kernel_rfl) rfl ⟨rfl, rfl, rfl, rfl, rfl, rfl, rfl, rfl, rfl, rfl, rfl, trivial⟩) ?_ | refine LW.q rfl (Qt.loadAgg [_, _, _, _, _, _, _, _, _, _, _] (by kernel_rfl) rfl (by exact rdl_flat _ _ _ (by intros; rfl) _ (by omega))) ?_
           refine LW.q rfl (Qt.move rfl) ?_
           refine LW.e0 rfl (Ef.store [_, _, _, _, _, _, _, _, _, _, _] (by kernel_rfl) rfl rfl rfl rfl (by simp) ?_)
           try simp only [splice, List.length_cons, List.length_nil, List.drop_succ_cons, List.cons_append, List.take_succ_cons, List.take_zero, List.drop_zero, List.nil_append, List.append_nil]
           refine LW.q rfl (Qt.assign rfl) ?_
           refine LW.done ?_
           refine T.ret ?_
           exact ⟨.inl rfl, _, _, res [_, _] rfl ⟨rvA [_, _, _, _, _, _, _, _, _, _, _] (by kernel_rfl) rfl ⟨rfl, rfl, rfl, rfl, rfl, rfl, rfl, rfl, rfl, rfl, rfl, trivial⟩, rvT rfl, trivial⟩, ⟨p4, q4, a4, c4, m3 + 1, by simp [hm3], rfl, rfl⟩, Sub.any⟩
          ·
           first | refine RO.eS rfl rfl (Ef.qt (Qt.load (by kernel_rfl) rfl rfl) ?_) | refine RO.eS rfl rfl (Ef.qt (Qt.load (by kernel_rfl) rfl (map_at _ _ _ (by omega))) ?_) | refine RO.eS rfl rfl (Ef.qt (Qt.load (by kernel_rfl) rfl (flat_cell0 _ _ _ (by intros; rfl) _ (by omega) (by rfl))) ?_) | refine RO.eS rfl rfl (Ef.qt (Qt.load (by kernel_rfl) rfl (flat_cell _ _ _ (by intros; rfl) _ _ (by omega) (by rfl))) ?_) | refine RO.eS rfl rfl (Ef.qt (Qt.load (by kernel_rfl) rfl (bytes_at _ _ (by omega))) ?_)
           refine ⟨Sub.any, ?_⟩
           refine RW.q 7 rfl rfl (by kernel_rfl) Sub.any (Qt.index _ (e := 90) (sz := 6) (by kernel_rfl) rfl rfl rfl (by omega)) ?_
           refine RW.q 8 rfl rfl (by kernel_rfl) Sub.any (Qt.fieldAddr0 (by kernel_rfl) rfl) ?_
           refine RW.q 9 rfl rfl (by kernel_rfl) Sub.any (Qt.load (v := .int .i64 y.page) (by kernel_rfl) rfl (ra_at hy 0 (by omega))) ?_
           refine RW.q 10 rfl rfl (by kernel_rfl) Sub.any (Qt.add rfl rfl (wr64 (by omega) (by omega))) ?_
           refine RW.one 1 (by kernel_rfl) ?_
           first | refine RO.eS rfl rfl (Ef.qt (Qt.loadAgg [_, _] (by kernel_rfl) rfl ⟨rfl, rfl, trivial⟩) ?_) | refine RO.eS rfl rfl (Ef.qt (Qt.loadAgg [_, _] (by kernel_rfl) rfl (by exact rdl_flat _ _ _ (by intros; rfl) _ (by omega))) ?_)
           refine ⟨Sub.any, ?_⟩
           refine RW.one 17 (by kernel_rfl) ?_
           refine RO.eS rfl rfl (Ef.call (Rf.put B p3 q3 a3 c3 N m3 (first + y.page) (first + y.page.toNat) (by omega) y.b (forceP W D y.mark).2.secs (forceP W D y.mark).2.pend (by omega) (by omega) (by omega) hbl) Tryz.func27 rfl rfl rfl ?_)
           rintro _ _ ⟨p4, a4, q4, c4, rfl, rfl⟩
           try simp only [List.cons_append, List.nil_append]
           refine ⟨Sub.any, ?_⟩
           refine RW.q 18 rfl rfl (by kernel_rfl) Sub.any (Qt.move rfl) ?_
           refine RW.q 19 rfl rfl (by kernel_rfl) Sub.any (Qt.extract rfl rfl) ?_
           refine RW.q 20 rfl rfl (by kernel_rfl) Sub.any (Qt.extract rfl rfl) ?_
           refine RW.q 21 rfl rfl (by kernel_rfl) Sub.any (Qt.fieldAddr0 (by kernel_rfl) rfl) ?_
           refine RW.one 22 (by kernel_rfl) ?_
           refine RO.eS0 rfl rfl (Ef.store [_, _] (by kernel_rfl) rfl rfl rfl rfl (by simp) ?_)
           try simp only [splice, List.length_cons, List.length_nil, List.drop_succ_cons, List.cons_append, List.take_succ_cons, List.take_zero, List.drop_zero, List.nil_append, List.append_nil]
           refine ⟨Sub.any, ?_⟩
           refine RW.done (by rfl) ?_
           simp only [List.drop_succ_cons, List.drop_zero, List.drop_nil]
           refine LW.done ?_
           refine T.seq ?_
           refine T.region ?_
           first | refine LW.q rfl (Qt.loadAgg [_, _, _, _, _, _, _, _, _, _, _] (by kernel_rfl) rfl ⟨rfl, rfl, rfl, rfl, rfl, rfl, rfl, rfl, rfl, rfl, rfl, trivial⟩) ?_ | refine LW.q rfl (Qt.loadAgg [_, _, _, _, _, _, _, _, _, _, _] (by kernel_rfl) rfl (by exact rdl_flat _ _ _ (by intros; rfl) _ (by omega))) ?_
           refine LW.q rfl (Qt.move rfl) ?_
           refine LW.e0 rfl (Ef.store [_, _, _, _, _, _, _, _, _, _, _] (by kernel_rfl) rfl rfl rfl rfl (by simp) ?_)
           try simp only [splice, List.length_cons, List.length_nil, List.drop_succ_cons, List.cons_append, List.take_succ_cons, List.take_zero, List.drop_zero, List.nil_append, List.append_nil]
           refine LW.q rfl (Qt.assign rfl) ?_
           refine LW.done ?_
           refine T.ret ?_
           exact ⟨.inl rfl, _, _, res [_, _] rfl ⟨rvA [_, _, _, _, _, _, _, _, _, _, _] (by kernel_rfl) rfl ⟨rfl, rfl, rfl, rfl, rfl, rfl, rfl, rfl, rfl, rfl, rfl, trivial⟩, rvT rfl, trivial⟩, ⟨p4, q4, a4, c4, m3 + 1, by simp [hm3], rfl, rfl⟩, Sub.any⟩
        ·
         first | refine RO.eS rfl rfl (Ef.qt (Qt.load (by kernel_rfl) rfl rfl) ?_) | refine RO.eS rfl rfl (Ef.qt (Qt.load (by kernel_rfl) rfl (map_at _ _ _ (by omega))) ?_) | refine RO.eS rfl rfl (Ef.qt (Qt.load (by kernel_rfl) rfl (flat_cell0 _ _ _ (by intros; rfl) _ (by omega) (by rfl))) ?_) | refine RO.eS rfl rfl (Ef.qt (Qt.load (by kernel_rfl) rfl (flat_cell _ _ _ (by intros; rfl) _ _ (by omega) (by rfl))) ?_) | refine RO.eS rfl rfl (Ef.qt (Qt.load (by kernel_rfl) rfl (bytes_at _ _ (by omega))) ?_)
         refine ⟨Sub.any, ?_⟩
         refine RW.q 7 rfl rfl (by kernel_rfl) Sub.any (Qt.index _ (e := 90) (sz := 6) (by kernel_rfl) rfl rfl rfl (by omega)) ?_
         refine RW.q 8 rfl rfl (by kernel_rfl) Sub.any (Qt.fieldAddr0 (by kernel_rfl) rfl) ?_
         refine RW.q 9 rfl rfl (by kernel_rfl) Sub.any (Qt.load (v := .int .i64 y.page) (by kernel_rfl) rfl (ra_at hy 0 (by omega))) ?_
         refine RW.all [1, 3, 12] (by kernel_rfl) (List.forall_mem_cons.2 ⟨?_, List.forall_mem_cons.2 ⟨?_, List.forall_mem_cons.2 ⟨?_, List.forall_mem_nil _⟩⟩⟩)
         ·
          first | refine RO.eS rfl rfl (Ef.qt (Qt.loadAgg [_, _] (by kernel_rfl) rfl ⟨rfl, rfl, trivial⟩) ?_) | refine RO.eS rfl rfl (Ef.qt (Qt.loadAgg [_, _] (by kernel_rfl) rfl (by exact rdl_flat _ _ _ (by intros; rfl) _ (by omega))) ?_)
          refine ⟨Sub.any, ?_⟩
          refine RW.all [3, 12] (by kernel_rfl) (List.forall_mem_cons.2 ⟨?_, List.forall_mem_cons.2 ⟨?_, List.forall_mem_nil _⟩⟩)
          ·
           first | refine RO.eS rfl rfl (Ef.qt (Qt.load (by kernel_rfl) rfl rfl) ?_) | refine RO.eS rfl rfl (Ef.qt (Qt.load (by kernel_rfl) rfl (map_at _ _ _ (by omega))) ?_) | refine RO.eS rfl rfl (Ef.qt (Qt.load (by kernel_rfl) rfl (flat_cell0 _ _ _ (by intros; rfl) _ (by omega) (by rfl))) ?_) | refine RO.eS rfl rfl (Ef.qt (Qt.load (by kernel_rfl) rfl (flat_cell _ _ _ (by intros; rfl) _ _ (by omega) (by rfl))) ?_) | refine RO.eS rfl rfl (Ef.qt (Qt.load (by kernel_rfl) rfl (bytes_at _ _ (by omega))) ?_)
           refine ⟨Sub.any, ?_⟩
           refine RW.q 10 rfl rfl (by kernel_rfl) Sub.any (Qt.add rfl rfl (wr64 (by omega) (by omega))) ?_
           refine RW.one 12 (by kernel_rfl) ?_
           first | refine RO.eS rfl rfl (Ef.qt (Qt.load (by kernel_rfl) rfl rfl) ?_) | refine RO.eS rfl rfl (Ef.qt (Qt.load (by kernel_rfl) rfl (map_at _ _ _ (by omega))) ?_) | refine RO.eS rfl rfl (Ef.qt (Qt.load (by kernel_rfl) rfl (flat_cell0 _ _ _ (by intros; rfl) _ (by omega) (by rfl))) ?_) | refine RO.eS rfl rfl (Ef.qt (Qt.load (by kernel_rfl) rfl (flat_cell _ _ _ (by intros; rfl) _ _ (by omega) (by rfl))) ?_) | refine RO.eS rfl rfl (Ef.qt (Qt.load (by kernel_rfl) rfl (bytes_at _ _ (by omega))) ?_)
           refine ⟨Sub.any, ?_⟩
           refine RW.q 14 rfl rfl (by kernel_rfl) Sub.any (Qt.index _ (e := 90) (sz := 6) (by kernel_rfl) rfl rfl rfl (by omega)) ?_
           refine RW.q 15 rfl rfl (by kernel_rfl) Sub.any (Qt.fieldAddr (off := 1) (by kernel_rfl) rfl) ?_
           refine RW.q 16 rfl rfl (by kernel_rfl) Sub.any (Qt.load (v := strW y.b) (by kernel_rfl) rfl (ra_at hy 1 (by omega))) ?_
           refine RW.one 17 (by kernel_rfl) ?_
           refine RO.eS rfl rfl (Ef.call (Rf.put B p3 q3 a3 c3 N m3 (first + y.page) (first + y.page.toNat) (by omega) y.b (forceP W D y.mark).2.secs (forceP W D y.mark).2.pend (by omega) (by omega) (by omega) hbl) Tryz.func27 rfl rfl rfl ?_)
           rintro _ _ ⟨p4, a4, q4, c4, rfl, rfl⟩
           try simp only [List.cons_append, List.nil_append]
           refine ⟨Sub.any, ?_⟩
           refine RW.q 18 rfl rfl (by kernel_rfl) Sub.any (Qt.move rfl) ?_
           refine RW.q 19 rfl rfl (by kernel_rfl) Sub.any (Qt.extract rfl rfl) ?_
           refine RW.q 20 rfl rfl (by kernel_rfl) Sub.any (Qt.extract rfl rfl) ?_
           refine RW.q 21 rfl rfl (by kernel_rfl) Sub.any (Qt.fieldAddr0 (by kernel_rfl) rfl) ?_
           refine RW.one 22 (by kernel_rfl) ?_
           refine RO.eS0 rfl rfl (Ef.store [_, _] (by kernel_rfl) rfl rfl rfl rfl (by simp) ?_)
           try simp only [splice, List.length_cons, List.length_nil, List.drop_succ_cons, List.cons_append, List.take_succ_cons, List.take_zero, List.drop_zero, List.nil_append, List.append_nil]
           refine ⟨Sub.any, ?_⟩
           refine RW.done (by rfl) ?_
           simp only [List.drop_succ_cons, List.drop_zero, List.drop_nil]
           refine LW.done ?_
           refine T.seq ?_
           refine T.region ?_
           first | refine LW.q rfl (Qt.loadAgg [_, _, _, _, _, _, _, _, _, _, _] (by kernel_rfl) rfl ⟨rfl, rfl, rfl, rfl, rfl, rfl, rfl, rfl, rfl, rfl, rfl, trivial⟩) ?_ | refine LW.q rfl (Qt.loadAgg [_, _, _, _, _, _, _, _, _, _, _] (by kernel_rfl) rfl (by exact rdl_flat _ _ _ (by intros; rfl) _ (by omega))) ?_
           refine LW.q rfl (Qt.move rfl) ?_
           refine LW.e0 rfl (Ef.store [_, _, _, _, _, _, _, _, _, _, _] (by kernel_rfl) rfl rfl rfl rfl (by simp) ?_)
           try simp only [splice, List.length_cons, List.length_nil, List.drop_succ_cons, List.cons_append, List.take_succ_cons, List.take_zero, List.drop_zero, List.nil_append, List.append_nil]
           refine LW.q rfl (Qt.assign rfl) ?_
           refine LW.done ?_
           refine T.ret ?_
           exact ⟨.inl rfl, _, _, res [_, _] rfl ⟨rvA [_, _, _, _, _, _, _, _, _, _, _] (by kernel_rfl) rfl ⟨rfl, rfl, rfl, rfl, rfl, rfl, rfl, rfl, rfl, rfl, rfl, trivial⟩, rvT rfl, trivial⟩, ⟨p4, q4, a4, c4, m3 + 1, by simp [hm3], rfl, rfl⟩, Sub.any⟩
          ·
           first | refine RO.eS rfl rfl (Ef.qt (Qt.load (by kernel_rfl) rfl rfl) ?_) | refine RO.eS rfl rfl (Ef.qt (Qt.load (by kernel_rfl) rfl (map_at _ _ _ (by omega))) ?_) | refine RO.eS rfl rfl (Ef.qt (Qt.load (by kernel_rfl) rfl (flat_cell0 _ _ _ (by intros; rfl) _ (by omega) (by rfl))) ?_) | refine RO.eS rfl rfl (Ef.qt (Qt.load (by kernel_rfl) rfl (flat_cell _ _ _ (by intros; rfl) _ _ (by omega) (by rfl))) ?_) | refine RO.eS rfl rfl (Ef.qt (Qt.load (by kernel_rfl) rfl (bytes_at _ _ (by omega))) ?_)
           refine ⟨Sub.any, ?_⟩
           refine RW.q 14 rfl rfl (by kernel_rfl) Sub.any (Qt.index _ (e := 90) (sz := 6) (by kernel_rfl) rfl rfl rfl (by omega)) ?_
           refine RW.q 15 rfl rfl (by kernel_rfl) Sub.any (Qt.fieldAddr (off := 1) (by kernel_rfl) rfl) ?_
           refine RW.q 16 rfl rfl (by kernel_rfl) Sub.any (Qt.load (v := strW y.b) (by kernel_rfl) rfl (ra_at hy 1 (by omega))) ?_
           refine RW.one 3 (by kernel_rfl) ?_
           first | refine RO.eS rfl rfl (Ef.qt (Qt.load (by kernel_rfl) rfl rfl) ?_) | refine RO.eS rfl rfl (Ef.qt (Qt.load (by kernel_rfl) rfl (map_at _ _ _ (by omega))) ?_) | refine RO.eS rfl rfl (Ef.qt (Qt.load (by kernel_rfl) rfl (flat_cell0 _ _ _ (by intros; rfl) _ (by omega) (by rfl))) ?_) | refine RO.eS rfl rfl (Ef.qt (Qt.load (by kernel_rfl) rfl (flat_cell _ _ _ (by intros; rfl) _ _ (by omega) (by rfl))) ?_) | refine RO.eS rfl rfl (Ef.qt (Qt.load (by kernel_rfl) rfl (bytes_at _ _ (by omega))) ?_)
           refine ⟨Sub.any, ?_⟩
           refine RW.q 10 rfl rfl (by kernel_rfl) Sub.any (Qt.add rfl rfl (wr64 (by omega) (by omega))) ?_
           refine RW.one 17 (by kernel_rfl) ?_
           refine RO.eS rfl rfl (Ef.call (Rf.put B p3 q3 a3 c3 N m3 (first + y.page) (first + y.page.toNat) (by omega) y.b (forceP W D y.mark).2.secs (forceP W D y.mark).2.pend (by omega) (by omega) (by omega) hbl) Tryz.func27 rfl rfl rfl ?_)
           rintro _ _ ⟨p4, a4, q4, c4, rfl, rfl⟩
           try simp only [List.cons_append, List.nil_append]
           refine ⟨Sub.any, ?_⟩
           refine RW.q 18 rfl rfl (by kernel_rfl) Sub.any (Qt.move rfl) ?_
           refine RW.q 19 rfl rfl (by kernel_rfl) Sub.any (Qt.extract rfl rfl) ?_
           refine RW.q 20 rfl rfl (by kernel_rfl) Sub.any (Qt.extract rfl rfl) ?_
           refine RW.q 21 rfl rfl (by kernel_rfl) Sub.any (Qt.fieldAddr0 (by kernel_rfl) rfl) ?_
           refine RW.one 22 (by kernel_rfl) ?_
           refine RO.eS0 rfl rfl (Ef.store [_, _] (by kernel_rfl) rfl rfl rfl rfl (by simp) ?_)
           try simp only [splice, List.length_cons, List.length_nil, List.drop_succ_cons, List.cons_append, List.take_succ_cons, List.take_zero, List.drop_zero, List.nil_append, List.append_nil]
           refine ⟨Sub.any, ?_⟩
           refine RW.done (by rfl) ?_
           simp only [List.drop_succ_cons, List.drop_zero, List.drop_nil]
           refine LW.done ?_
           refine T.seq ?_
           refine T.region ?_
           first | refine LW.q rfl (Qt.loadAgg [_, _, _, _, _, _, _, _, _, _, _] (by kernel_rfl) rfl ⟨rfl, rfl, rfl, rfl, rfl, rfl, rfl, rfl, rfl, rfl, rfl, trivial⟩) ?_ | refine LW.q rfl (Qt.loadAgg [_, _, _, _, _, _, _, _, _, _, _] (by kernel_rfl) rfl (by exact rdl_flat _ _ _ (by intros; rfl) _ (by omega))) ?_
           refine LW.q rfl (Qt.move rfl) ?_
           refine LW.e0 rfl (Ef.store [_, _, _, _, _, _, _, _, _, _, _] (by kernel_rfl) rfl rfl rfl rfl (by simp) ?_)
           try simp only [splice, List.length_cons, List.length_nil, List.drop_succ_cons, List.cons_append, List.take_succ_cons, List.take_zero, List.drop_zero, List.nil_append, List.append_nil]
           refine LW.q rfl (Qt.assign rfl) ?_
           refine LW.done ?_
           refine T.ret ?_
           exact ⟨.inl rfl, _, _, res [_, _] rfl ⟨rvA [_, _, _, _, _, _, _, _, _, _, _] (by kernel_rfl) rfl ⟨rfl, rfl, rfl, rfl, rfl, rfl, rfl, rfl, rfl, rfl, rfl, trivial⟩, rvT rfl, trivial⟩, ⟨p4, q4, a4, c4, m3 + 1, by simp [hm3], rfl, rfl⟩, Sub.any⟩
         ·
          first | refine RO.eS rfl rfl (Ef.qt (Qt.load (by kernel_rfl) rfl rfl) ?_) | refine RO.eS rfl rfl (Ef.qt (Qt.load (by kernel_rfl) rfl (map_at _ _ _ (by omega))) ?_) | refine RO.eS rfl rfl (Ef.qt (Qt.load (by kernel_rfl) rfl (flat_cell0 _ _ _ (by intros; rfl) _ (by omega) (by rfl))) ?_) | refine RO.eS rfl rfl (Ef.qt (Qt.load (by kernel_rfl) rfl (flat_cell _ _ _ (by intros; rfl) _ _ (by omega) (by rfl))) ?_) | refine RO.eS rfl rfl (Ef.qt (Qt.load (by kernel_rfl) rfl (bytes_at _ _ (by omega))) ?_)
          refine ⟨Sub.any, ?_⟩
          refine RW.q 10 rfl rfl (by kernel_rfl) Sub.any (Qt.add rfl rfl (wr64 (by omega) (by omega))) ?_
          refine RW.all [1, 12] (by kernel_rfl) (List.forall_mem_cons.2 ⟨?_, List.forall_mem_cons.2 ⟨?_, List.forall_mem_nil _⟩⟩)
          ·
           first | refine RO.eS rfl rfl (Ef.qt (Qt.loadAgg [_, _] (by kernel_rfl) rfl ⟨rfl, rfl, trivial⟩) ?_) | refine RO.eS rfl rfl (Ef.qt (Qt.loadAgg [_, _] (by kernel_rfl) rfl (by exact rdl_flat _ _ _ (by intros; rfl) _ (by omega))) ?_)
           refine ⟨Sub.any, ?_⟩
           refine RW.one 12 (by kernel_rfl) ?_
           first | refine RO.eS rfl rfl (Ef.qt (Qt.load (by kernel_rfl) rfl rfl) ?_) | refine RO.eS rfl rfl (Ef.qt (Qt.load (by kernel_rfl) rfl (map_at _ _ _ (by omega))) ?_) | refine RO.eS rfl rfl (Ef.qt (Qt.load (by kernel_rfl) rfl (flat_cell0 _ _ _ (by intros; rfl) _ (by omega) (by rfl))) ?_) | refine RO.eS rfl rfl (Ef.qt (Qt.load (by kernel_rfl) rfl (flat_cell _ _ _ (by intros; rfl) _ _ (by omega) (by rfl))) ?_) | refine RO.eS rfl rfl (Ef.qt (Qt.load (by kernel_rfl) rfl (bytes_at _ _ (by omega))) ?_)
           refine ⟨Sub.any, ?_⟩
           refine RW.q 14 rfl rfl (by kernel_rfl) Sub.any (Qt.index _ (e := 90) (sz := 6) (by kernel_rfl) rfl rfl rfl (by omega)) ?_
           refine RW.q 15 rfl rfl (by kernel_rfl) Sub.any (Qt.fieldAddr (off := 1) (by kernel_rfl) rfl) ?_
           refine RW.q 16 rfl rfl (by kernel_rfl) Sub.any (Qt.load (v := strW y.b) (by kernel_rfl) rfl (ra_at hy 1 (by omega))) ?_
           refine RW.one 17 (by kernel_rfl) ?_
           refine RO.eS rfl rfl (Ef.call (Rf.put B p3 q3 a3 c3 N m3 (first + y.page) (first + y.page.toNat) (by omega) y.b (forceP W D y.mark).2.secs (forceP W D y.mark).2.pend (by omega) (by omega) (by omega) hbl) Tryz.func27 rfl rfl rfl ?_)
           rintro _ _ ⟨p4, a4, q4, c4, rfl, rfl⟩
           try simp only [List.cons_append, List.nil_append]
           refine ⟨Sub.any, ?_⟩
           refine RW.q 18 rfl rfl (by kernel_rfl) Sub.any (Qt.move rfl) ?_
           refine RW.q 19 rfl rfl (by kernel_rfl) Sub.any (Qt.extract rfl rfl) ?_
           refine RW.q 20 rfl rfl (by kernel_rfl) Sub.any (Qt.extract rfl rfl) ?_
           refine RW.q 21 rfl rfl (by kernel_rfl) Sub.any (Qt.fieldAddr0 (by kernel_rfl) rfl) ?_
           refine RW.one 22 (by kernel_rfl) ?_
           refine RO.eS0 rfl rfl (Ef.store [_, _] (by kernel_rfl) rfl rfl rfl rfl (by simp) ?_)
           try simp only [splice, List.length_cons, List.length_nil, List.drop_succ_cons, List.cons_append, List.take_succ_cons, List.take_zero, List.drop_zero, List.nil_append, List.append_nil]
           refine ⟨Sub.any, ?_⟩
           refine RW.done (by rfl) ?_
           simp only [List.drop_succ_cons, List.drop_zero, List.drop_nil]
           refine LW.done ?_
           refine T.seq ?_
           refine T.region ?_
           first | refine LW.q rfl (Qt.loadAgg [_, _, _, _, _, _, _, _, _, _, _] (by kernel_rfl) rfl ⟨rfl, rfl, rfl, rfl, rfl, rfl, rfl, rfl, rfl, rfl, rfl, trivial⟩) ?_ | refine LW.q rfl (Qt.loadAgg [_, _, _, _, _, _, _, _, _, _, _] (by kernel_rfl) rfl (by exact rdl_flat _ _ _ (by intros; rfl) _ (by omega))) ?_
           refine LW.q rfl (Qt.move rfl) ?_
           refine LW.e0 rfl (Ef.store [_, _, _, _, _, _, _, _, _, _, _] (by kernel_rfl) rfl rfl rfl rfl (by simp) ?_)
           try simp only [splice, List.length_cons, List.length_nil, List.drop_succ_cons, List.cons_append, List.take_succ_cons, List.take_zero, List.drop_zero, List.nil_append, List.append_nil]
           refine LW.q rfl (Qt.assign rfl) ?_
           refine LW.done ?_
           refine T.ret ?_
           exact ⟨.inl rfl, _, _, res [_, _] rfl ⟨rvA [_, _, _, _, _, _, _, _, _, _, _] (by kernel_rfl) rfl ⟨rfl, rfl, rfl, rfl, rfl, rfl, rfl, rfl, rfl, rfl, rfl, trivial⟩, rvT rfl, trivial⟩, ⟨p4, q4, a4, c4, m3 + 1, by simp [hm3], rfl, rfl⟩, Sub.any⟩
          ·
           first | refine RO.eS rfl rfl (Ef.qt (Qt.load (by kernel_rfl) rfl rfl) ?_) | refine RO.eS rfl rfl (Ef.qt (Qt.load (by kernel_rfl) rfl (map_at _ _ _ (by omega))) ?_) | refine RO.eS rfl rfl (Ef.qt (Qt.load (by kernel_rfl) rfl (flat_cell0 _ _ _ (by intros; rfl) _ (by omega) (by rfl))) ?_) | refine RO.eS rfl rfl (Ef.qt (Qt.load (by kernel_rfl) rfl (flat_cell _ _ _ (by intros; rfl) _ _ (by omega) (by rfl))) ?_) | refine RO.eS rfl rfl (Ef.qt (Qt.load (by kernel_rfl) rfl (bytes_at _ _ (by omega))) ?_)
           refine ⟨Sub.any, ?_⟩
           refine RW.q 14 rfl rfl (by kernel_rfl) Sub.any (Qt.index _ (e := 90) (sz := 6) (by kernel_rfl) rfl rfl rfl (by omega)) ?_
           refine RW.q 15 rfl rfl (by kernel_rfl) Sub.any (Qt.fieldAddr (off := 1) (by kernel_rfl) rfl) ?_
           refine RW.q 16 rfl rfl (by kernel_rfl) Sub.any (Qt.load (v := strW y.b) (by kernel_rfl) rfl (ra_at hy 1 (by omega))) ?_
           refine RW.one 1 (by kernel_rfl) ?_
           first | refine RO.eS rfl rfl (Ef.qt (Qt.loadAgg [_, _] (by kernel_rfl) rfl ⟨rfl, rfl, trivial⟩) ?_) | refine RO.eS rfl rfl (Ef.qt (Qt.loadAgg [_, _] (by kernel_rfl) rfl (by exact rdl_flat _ _ _ (by intros; rfl) _ (by omega))) ?_)
           refine ⟨Sub.any, ?_⟩
           refine RW.one 17 (by kernel_rfl) ?_
           refine RO.eS rfl rfl (Ef.call (Rf.put B p3 q3 a3 c3 N m3 (first + y.page) (first + y.page.toNat) (by omega) y.b (forceP W D y.mark).2.secs (forceP W D y.mark).2.pend (by omega) (by omega) (by omega) hbl) Tryz.func27 rfl rfl rfl ?_)
           rintro _ _ ⟨p4, a4, q4, c4, rfl, rfl⟩
           try simp only [List.cons_append, List.nil_append]
           refine ⟨Sub.any, ?_⟩
           refine RW.q 18 rfl rfl (by kernel_rfl) Sub.any (Qt.move rfl) ?_
           refine RW.q 19 rfl rfl (by kernel_rfl) Sub.any (Qt.extract rfl rfl) ?_
           refine RW.q 20 rfl rfl (by kernel_rfl) Sub.any (Qt.extract rfl rfl) ?_
           refine RW.q 21 rfl rfl (by kernel_rfl) Sub.any (Qt.fieldAddr0 (by kernel_rfl) rfl) ?_
           refine RW.one 22 (by kernel_rfl) ?_
           refine RO.eS0 rfl rfl (Ef.store [_, _] (by kernel_rfl) rfl rfl rfl rfl (by simp) ?_)
           try simp only [splice, List.length_cons, List.length_nil, List.drop_succ_cons, List.cons_append, List.take_succ_cons, List.take_zero, List.drop_zero, List.nil_append, List.append_nil]
           refine ⟨Sub.any, ?_⟩
           refine RW.done (by rfl) ?_
           simp only [List.drop_succ_cons, List.drop_zero, List.drop_nil]
           refine LW.done ?_
           refine T.seq ?_
           refine T.region ?_
           first | refine LW.q rfl (Qt.loadAgg [_, _, _, _, _, _, _, _, _, _, _] (by kernel_rfl) rfl ⟨rfl, rfl, rfl, rfl, rfl, rfl, rfl, rfl, rfl, rfl, rfl, trivial⟩) ?_ | refine LW.q rfl (Qt.loadAgg [_, _, _, _, _, _, _, _, _, _, _] (by kernel_rfl) rfl (by exact rdl_flat _ _ _ (by intros; rfl) _ (by omega))) ?_
           refine LW.q rfl (Qt.move rfl) ?_
           refine LW.e0 rfl (Ef.store [_, _, _, _, _, _, _, _, _, _, _] (by kernel_rfl) rfl rfl rfl rfl (by simp) ?_)
           try simp only [splice, List.length_cons, List.length_nil, List.drop_succ_cons, List.cons_append, List.take_succ_cons, List.take_zero, List.drop_zero, List.nil_append, List.append_nil]
           refine LW.q rfl (Qt.assign rfl) ?_
           refine LW.done ?_
           refine T.ret ?_
           exact ⟨.inl rfl, _, _, res [_, _] rfl ⟨rvA [_, _, _, _, _, _, _, _, _, _, _] (by kernel_rfl) rfl ⟨rfl, rfl, rfl, rfl, rfl, rfl, rfl, rfl, rfl, rfl, rfl, trivial⟩, rvT rfl, trivial⟩, ⟨p4, q4, a4, c4, m3 + 1, by simp [hm3], rfl, rfl⟩, Sub.any⟩
         ·
          first | refine RO.eS rfl rfl (Ef.qt (Qt.load (by kernel_rfl) rfl rfl) ?_) | refine RO.eS rfl rfl (Ef.qt (Qt.load (by kernel_rfl) rfl (map_at _ _ _ (by omega))) ?_) | refine RO.eS rfl rfl (Ef.qt (Qt.load (by kernel_rfl) rfl (flat_cell0 _ _ _ (by intros; rfl) _ (by omega) (by rfl))) ?_) | refine RO.eS rfl rfl (Ef.qt (Qt.load (by kernel_rfl) rfl (flat_cell _ _ _ (by intros; rfl) _ _ (by omega) (by rfl))) ?_) | refine RO.eS rfl rfl (Ef.qt (Qt.load (by kernel_rfl) rfl (bytes_at _ _ (by omega))) ?_)
          refine ⟨Sub.any, ?_⟩
          refine RW.q 14 rfl rfl (by kernel_rfl) Sub.any (Qt.index _ (e := 90) (sz := 6) (by kernel_rfl) rfl rfl rfl (by omega)) ?_
          refine RW.q 15 rfl rfl (by kernel_rfl) Sub.any (Qt.fieldAddr (off := 1) (by kernel_rfl) rfl) ?_
          refine RW.q 16 rfl rfl (by kernel_rfl) Sub.any (Qt.load (v := strW y.b) (by kernel_rfl) rfl (ra_at hy 1 (by omega))) ?_
          refine RW.all [1, 3] (by kernel_rfl) (List.forall_mem_cons.2 ⟨?_, List.forall_mem_cons.2 ⟨?_, List.forall_mem_nil _⟩⟩)
          ·
           first | refine RO.eS rfl rfl (Ef.qt (Qt.loadAgg [_, _] (by kernel_rfl) rfl ⟨rfl, rfl, trivial⟩) ?_) | refine RO.eS rfl rfl (Ef.qt (Qt.loadAgg [_, _] (by kernel_rfl) rfl (by exact rdl_flat _ _ _ (by intros; rfl) _ (by omega))) ?_)
           refine ⟨Sub.any, ?_⟩
           refine RW.one 3 (by kernel_rfl) ?_
           first | refine RO.eS rfl rfl (Ef.qt (Qt.load (by kernel_rfl) rfl rfl) ?_) | refine RO.eS rfl rfl (Ef.qt (Qt.load (by kernel_rfl) rfl (map_at _ _ _ (by omega))) ?_) | refine RO.eS rfl rfl (Ef.qt (Qt.load (by kernel_rfl) rfl (flat_cell0 _ _ _ (by intros; rfl) _ (by omega) (by rfl))) ?_) | refine RO.eS rfl rfl (Ef.qt (Qt.load (by kernel_rfl) rfl (flat_cell _ _ _ (by intros; rfl) _ _ (by omega) (by rfl))) ?_) | refine RO.eS rfl rfl (Ef.qt (Qt.load (by kernel_rfl) rfl (bytes_at _ _ (by omega))) ?_)
           refine ⟨Sub.any, ?_⟩
           refine RW.q 10 rfl rfl (by kernel_rfl) Sub.any (Qt.add rfl rfl (wr64 (by omega) (by omega))) ?_
           refine RW.one 17 (by kernel_rfl) ?_
           refine RO.eS rfl rfl (Ef.call (Rf.put B p3 q3 a3 c3 N m3 (first + y.page) (first + y.page.toNat) (by omega) y.b (forceP W D y.mark).2.secs (forceP W D y.mark).2.pend (by omega) (by omega) (by omega) hbl) Tryz.func27 rfl rfl rfl ?_)
           rintro _ _ ⟨p4, a4, q4, c4, rfl, rfl⟩
           try simp only [List.cons_append, List.nil_append]
           refine ⟨Sub.any, ?_⟩
           refine RW.q 18 rfl rfl (by kernel_rfl) Sub.any (Qt.move rfl) ?_
           refine RW.q 19 rfl rfl (by kernel_rfl) Sub.any (Qt.extract rfl rfl) ?_
           refine RW.q 20 rfl rfl (by kernel_rfl) Sub.any (Qt.extract rfl rfl) ?_
           refine RW.q 21 rfl rfl (by kernel_rfl) Sub.any (Qt.fieldAddr0 (by kernel_rfl) rfl) ?_
           refine RW.one 22 (by kernel_rfl) ?_
           refine RO.eS0 rfl rfl (Ef.store [_, _] (by kernel_rfl) rfl rfl rfl rfl (by simp) ?_)
           try simp only [splice, List.length_cons, List.length_nil, List.drop_succ_cons, List.cons_append, List.take_succ_cons, List.take_zero, List.drop_zero, List.nil_append, List.append_nil]
           refine ⟨Sub.any, ?_⟩
           refine RW.done (by rfl) ?_
           simp only [List.drop_succ_cons, List.drop_zero, List.drop_nil]
           refine LW.done ?_
           refine T.seq ?_
           refine T.region ?_
           first | refine LW.q rfl (Qt.loadAgg [_, _, _, _, _, _, _, _, _, _, _] (by kernel_rfl) rfl ⟨rfl, rfl, rfl, rfl, rfl, rfl, rfl, rfl, rfl, rfl, rfl, trivial⟩) ?_ | refine LW.q rfl (Qt.loadAgg [_, _, _, _, _, _, _, _, _, _, _] (by kernel_rfl) rfl (by exact rdl_flat _ _ _ (by intros; rfl) _ (by omega))) ?_
           refine LW.q rfl (Qt.move rfl) ?_
           refine LW.e0 rfl (Ef.store [_, _, _, _, _, _, _, _, _, _, _] (by kernel_rfl) rfl rfl rfl rfl (by simp) ?_)
           try simp only [splice, List.length_cons, List.length_nil, List.drop_succ_cons, List.cons_append, List.take_succ_cons, List.take_zero, List.drop_zero, List.nil_append, List.append_nil]
           refine LW.q rfl (Qt.assign rfl) ?_
           refine LW.done ?_
           refine T.ret ?_
           exact ⟨.inl rfl, _, _, res [_, _] rfl ⟨rvA [_, _, _, _, _, _, _, _, _, _, _] (by kernel_rfl) rfl ⟨rfl, rfl, rfl, rfl, rfl, rfl, rfl, rfl, rfl, rfl, rfl, trivial⟩, rvT rfl, trivial⟩, ⟨p4, q4, a4, c4, m3 + 1, by simp [hm3], rfl, rfl⟩, Sub.any⟩
          ·
           first | refine RO.eS rfl rfl (Ef.qt (Qt.load (by kernel_rfl) rfl rfl) ?_) | refine RO.eS rfl rfl (Ef.qt (Qt.load (by kernel_rfl) rfl (map_at _ _ _ (by omega))) ?_) | refine RO.eS rfl rfl (Ef.qt (Qt.load (by kernel_rfl) rfl (flat_cell0 _ _ _ (by intros; rfl) _ (by omega) (by rfl))) ?_) | refine RO.eS rfl rfl (Ef.qt (Qt.load (by kernel_rfl) rfl (flat_cell _ _ _ (by intros; rfl) _ _ (by omega) (by rfl))) ?_) | refine RO.eS rfl rfl (Ef.qt (Qt.load (by kernel_rfl) rfl (bytes_at _ _ (by omega))) ?_)
           refine ⟨Sub.any, ?_⟩
           refine RW.q 10 rfl rfl (by kernel_rfl) Sub.any (Qt.add rfl rfl (wr64 (by omega) (by omega))) ?_
           refine RW.one 1 (by kernel_rfl) ?_
           first | refine RO.eS rfl rfl (Ef.qt (Qt.loadAgg [_, _] (by kernel_rfl) rfl ⟨rfl, rfl, trivial⟩) ?_) | refine RO.eS rfl rfl (Ef.qt (Qt.loadAgg [_, _] (by kernel_rfl) rfl (by exact rdl_flat _ _ _ (by intros; rfl) _ (by omega))) ?_)
           refine ⟨Sub.any, ?_⟩
           refine RW.one 17 (by kernel_rfl) ?_
           refine RO.eS rfl rfl (Ef.call (Rf.put B p3 q3 a3 c3 N m3 (first + y.page) (first + y.page.toNat) (by omega) y.b (forceP W D y.mark).2.secs (forceP W D y.mark).2.pend (by omega) (by omega) (by omega) hbl) Tryz.func27 rfl rfl rfl ?_)
           rintro _ _ ⟨p4, a4, q4, c4, rfl, rfl⟩
           try simp only [List.cons_append, List.nil_append]
           refine ⟨Sub.any, ?_⟩
           refine RW.q 18 rfl rfl (by kernel_rfl) Sub.any (Qt.move rfl) ?_
           refine RW.q 19 rfl rfl (by kernel_rfl) Sub.any (Qt.extract rfl rfl) ?_
           refine RW.q 20 rfl rfl (by kernel_rfl) Sub.any (Qt.extract rfl rfl) ?_
           refine RW.q 21 rfl rfl (by kernel_rfl) Sub.any (Qt.fieldAddr0 (by kernel_rfl) rfl) ?_
           refine RW.one 22 (by kernel_rfl) ?_
           refine RO.eS0 rfl rfl (Ef.store [_, _] (by kernel_rfl) rfl rfl rfl rfl (by simp) ?_)
           try simp only [splice, List.length_cons, List.length_nil, List.drop_succ_cons, List.cons_append, List.take_succ_cons, List.take_zero, List.drop_zero, List.nil_append, List.append_nil]
           refine ⟨Sub.any, ?_⟩
           refine RW.done (by rfl) ?_
           simp only [List.drop_succ_cons, List.drop_zero, List.drop_nil]
           refine LW.done ?_
           refine T.seq ?_
           refine T.region ?_
           first | refine LW.q rfl (Qt.loadAgg [_, _, _, _, _, _, _, _, _, _, _] (by kernel_rfl) rfl ⟨rfl, rfl, rfl, rfl, rfl, rfl, rfl, rfl, rfl, rfl, rfl, trivial⟩) ?_ | refine LW.q rfl (Qt.loadAgg [_, _, _, _, _, _, _, _, _, _, _] (by kernel_rfl) rfl (by exact rdl_flat _ _ _ (by intros; rfl) _ (by omega))) ?_
           refine LW.q rfl (Qt.move rfl) ?_
           refine LW.e0 rfl (Ef.store [_, _, _, _, _, _, _, _, _, _, _] (by kernel_rfl) rfl rfl rfl rfl (by simp) ?_)
           try simp only [splice, List.length_cons, List.length_nil, List.drop_succ_cons, List.cons_append, List.take_succ_cons, List.take_zero, List.drop_zero, List.nil_append, List.append_nil]
           refine LW.q rfl (Qt.assign rfl) ?_
           refine LW.done ?_
           refine T.ret ?_
           exact ⟨.inl rfl, _, _, res [_, _] rfl ⟨rvA [_, _, _, _, _, _, _, _, _, _, _] (by kernel_rfl) rfl ⟨rfl, rfl, rfl, rfl, rfl, rfl, rfl, rfl, rfl, rfl, rfl, trivial⟩, rvT rfl, trivial⟩, ⟨p4, q4, a4, c4, m3 + 1, by simp [hm3], rfl, rfl⟩, Sub.any⟩
        ·
         first | refine RO.eS rfl rfl (Ef.qt (Qt.load (by kernel_rfl) rfl rfl) ?_) | refine RO.eS rfl rfl (Ef.qt (Qt.load (by kernel_rfl) rfl (map_at _ _ _ (by omega))) ?_) | refine RO.eS rfl rfl (Ef.qt (Qt.load (by kernel_rfl) rfl (flat_cell0 _ _ _ (by intros; rfl) _ (by omega) (by rfl))) ?_) | refine RO.eS rfl rfl (Ef.qt (Qt.load (by kernel_rfl) rfl (flat_cell _ _ _ (by intros; rfl) _ _ (by omega) (by rfl))) ?_) | refine RO.eS rfl rfl (Ef.qt (Qt.load (by kernel_rfl) rfl (bytes_at _ _ (by omega))) ?_)
         refine ⟨Sub.any, ?_⟩
         refine RW.q 14 rfl rfl (by kernel_rfl) Sub.any (Qt.index _ (e := 90) (sz := 6) (by kernel_rfl) rfl rfl rfl (by omega)) ?_
         refine RW.q 15 rfl rfl (by kernel_rfl) Sub.any (Qt.fieldAddr (off := 1) (by kernel_rfl) rfl) ?_
         refine RW.q 16 rfl rfl (by kernel_rfl) Sub.any (Qt.load (v := strW y.b) (by kernel_rfl) rfl (ra_at hy 1 (by omega))) ?_
         refine RW.all [1, 3, 5] (by kernel_rfl) (List.forall_mem_cons.2 ⟨?_, List.forall_mem_cons.2 ⟨?_, List.forall_mem_cons.2 ⟨?_, List.forall_mem_nil _⟩⟩⟩)
         ·
          first | refine RO.eS rfl rfl (Ef.qt (Qt.loadAgg [_, _] (by kernel_rfl) rfl ⟨rfl, rfl, trivial⟩) ?_) | refine RO.eS rfl rfl (Ef.qt (Qt.loadAgg [_, _] (by kernel_rfl) rfl (by exact rdl_flat _ _ _ (by intros; rfl) _ (by omega))) ?_)
          refine ⟨Sub.any, ?_⟩
          refine RW.all [3, 5] (by kernel_rfl) (List.forall_mem_cons.2 ⟨?_, List.forall_mem_cons.2 ⟨?_, List.forall_mem_nil _⟩⟩)
          ·
           first | refine RO.eS rfl rfl (Ef.qt (Qt.load (by kernel_rfl) rfl rfl) ?_) | refine RO.eS rfl rfl (Ef.qt (Qt.load (by kernel_rfl) rfl (map_at _ _ _ (by omega))) ?_) | refine RO.eS rfl rfl (Ef.qt (Qt.load (by kernel_rfl) rfl (flat_cell0 _ _ _ (by intros; rfl) _ (by omega) (by rfl))) ?_) | refine RO.eS rfl rfl (Ef.qt (Qt.load (by kernel_rfl) rfl (flat_cell _ _ _ (by intros; rfl) _ _ (by omega) (by rfl))) ?_) | refine RO.eS rfl rfl (Ef.qt (Qt.load (by kernel_rfl) rfl (bytes_at _ _ (by omega))) ?_)
           refine ⟨Sub.any, ?_⟩
           refine RW.one 5 (by kernel_rfl) ?_
           first | refine RO.eS rfl rfl (Ef.qt (Qt.load (by kernel_rfl) rfl rfl) ?_) | refine RO.eS rfl rfl (Ef.qt (Qt.load (by kernel_rfl) rfl (map_at _ _ _ (by omega))) ?_) | refine RO.eS rfl rfl (Ef.qt (Qt.load (by kernel_rfl) rfl (flat_cell0 _ _ _ (by intros; rfl) _ (by omega) (by rfl))) ?_) | refine RO.eS rfl rfl (Ef.qt (Qt.load (by kernel_rfl) rfl (flat_cell _ _ _ (by intros; rfl) _ _ (by omega) (by rfl))) ?_) | refine RO.eS rfl rfl (Ef.qt (Qt.load (by kernel_rfl) rfl (bytes_at _ _ (by omega))) ?_)
           refine ⟨Sub.any, ?_⟩
           refine RW.q 7 rfl rfl (by kernel_rfl) Sub.any (Qt.index _ (e := 90) (sz := 6) (by kernel_rfl) rfl rfl rfl (by omega)) ?_
           refine RW.q 8 rfl rfl (by kernel_rfl) Sub.any (Qt.fieldAddr0 (by kernel_rfl) rfl) ?_
           refine RW.q 9 rfl rfl (by kernel_rfl) Sub.any (Qt.load (v := .int .i64 y.page) (by kernel_rfl) rfl (ra_at hy 0 (by omega))) ?_
           refine RW.q 10 rfl rfl (by kernel_rfl) Sub.any (Qt.add rfl rfl (wr64 (by omega) (by omega))) ?_
           refine RW.one 17 (by kernel_rfl) ?_
           refine RO.eS rfl rfl (Ef.call (Rf.put B p3 q3 a3 c3 N m3 (first + y.page) (first + y.page.toNat) (by omega) y.b (forceP W D y.mark).2.secs (forceP W D y.mark).2.pend (by omega) (by omega) (by omega) hbl) Tryz.func27 rfl rfl rfl ?_)
           rintro _ _ ⟨p4, a4, q4, c4, rfl, rfl⟩
           try simp only [List.cons_append, List.nil_append]
           refine ⟨Sub.any, ?_⟩
           refine RW.q 18 rfl rfl (by kernel_rfl) Sub.any (Qt.move rfl) ?_
           refine RW.q 19 rfl rfl (by kernel_rfl) Sub.any (Qt.extract rfl rfl) ?_
           refine RW.q 20 rfl rfl (by kernel_rfl) Sub.any (Qt.extract rfl rfl) ?_
           refine RW.q 21 rfl rfl (by kernel_rfl) Sub.any (Qt.fieldAddr0 (by kernel_rfl) rfl) ?_
           refine RW.one 22 (by kernel_rfl) ?_
           refine RO.eS0 rfl rfl (Ef.store [_, _] (by kernel_rfl) rfl rfl rfl rfl (by simp) ?_)
           try simp only [splice, List.length_cons, List.length_nil, List.drop_succ_cons, List.cons_append, List.take_succ_cons, List.take_zero, List.drop_zero, List.nil_append, List.append_nil]
           refine ⟨Sub.any, ?_⟩
           refine RW.done (by rfl) ?_
           simp only [List.drop_succ_cons, List.drop_zero, List.drop_nil]
           refine LW.done ?_
           refine T.seq ?_
           refine T.region ?_
           first | refine LW.q rfl (Qt.loadAgg [_, _, _, _, _, _, _, _, _, _, _] (by kernel_rfl) rfl ⟨rfl, rfl, rfl, rfl, rfl, rfl, rfl, rfl, rfl, rfl, rfl, trivial⟩) ?_ | refine LW.q rfl (Qt.loadAgg [_, _, _, _, _, _, _, _, _, _, _] (by kernel_rfl) rfl (by exact rdl_flat _ _ _ (by intros; rfl) _ (by omega))) ?_
           refine LW.q rfl (Qt.move rfl) ?_
           refine LW.e0 rfl (Ef.store [_, _, _, _, _, _, _, _, _, _, _] (by kernel_rfl) rfl rfl rfl rfl (by simp) ?_)
           try simp only [splice, List.length_cons, List.length_nil, List.drop_succ_cons, List.cons_append, List.take_succ_cons, List.take_zero, List.drop_zero, List.nil_append, List.append_nil]
           refine LW.q rfl (Qt.assign rfl) ?_
           refine LW.done ?_
           refine T.ret ?_
           exact ⟨.inl rfl, _, _, res [_, _] rfl ⟨rvA [_, _, _, _, _, _, _, _, _, _, _] (by kernel_rfl) rfl ⟨rfl, rfl, rfl, rfl, rfl, rfl, rfl, rfl, rfl, rfl, rfl, trivial⟩, rvT rfl, trivial⟩, ⟨p4, q4, a4, c4, m3 + 1, by simp [hm3], rfl, rfl⟩, Sub.any⟩
          ·
           first | refine RO.eS rfl rfl (Ef.qt (Qt.load (by kernel_rfl) rfl rfl) ?_) | refine RO.eS rfl rfl (Ef.qt (Qt.load (by kernel_rfl) rfl (map_at _ _ _ (by omega))) ?_) | refine RO.eS rfl rfl (Ef.qt (Qt.load (by kernel_rfl) rfl (flat_cell0 _ _ _ (by intros; rfl) _ (by omega) (by rfl))) ?_) | refine RO.eS rfl rfl (Ef.qt (Qt.load (by kernel_rfl) rfl (flat_cell _ _ _ (by intros; rfl) _ _ (by omega) (by rfl))) ?_) | refine RO.eS rfl rfl (Ef.qt (Qt.load (by kernel_rfl) rfl (bytes_at _ _ (by omega))) ?_)
           refine ⟨Sub.any, ?_⟩
           refine RW.q 7 rfl rfl (by kernel_rfl) Sub.any (Qt.index _ (e := 90) (sz := 6) (by kernel_rfl) rfl rfl rfl (by omega)) ?_
           refine RW.q 8 rfl rfl (by kernel_rfl) Sub.any (Qt.fieldAddr0 (by kernel_rfl) rfl) ?_
           refine RW.q 9 rfl rfl (by kernel_rfl) Sub.any (Qt.load (v := .int .i64 y.page) (by kernel_rfl) rfl (ra_at hy 0 (by omega))) ?_
           refine RW.one 3 (by kernel_rfl) ?_
           first | refine RO.eS rfl rfl (Ef.qt (Qt.load (by kernel_rfl) rfl rfl) ?_) | refine RO.eS rfl rfl (Ef.qt (Qt.load (by kernel_rfl) rfl (map_at _ _ _ (by omega))) ?_) | refine RO.eS rfl rfl (Ef.qt (Qt.load (by kernel_rfl) rfl (flat_cell0 _ _ _ (by intros; rfl) _ (by omega) (by rfl))) ?_) | refine RO.eS rfl rfl (Ef.qt (Qt.load (by kernel_rfl) rfl (flat_cell _ _ _ (by intros; rfl) _ _ (by omega) (by rfl))) ?_) | refine RO.eS rfl rfl (Ef.qt (Qt.load (by kernel_rfl) rfl (bytes_at _ _ (by omega))) ?_)
           refine ⟨Sub.any, ?_⟩
           refine RW.q 10 rfl rfl (by kernel_rfl) Sub.any (Qt.add rfl rfl (wr64 (by omega) (by omega))) ?_
           refine RW.one 17 (by kernel_rfl) ?_
           refine RO.eS rfl rfl (Ef.call (Rf.put B p3 q3 a3 c3 N m3 (first + y.page) (first + y.page.toNat) (by omega) y.b (forceP W D y.mark).2.secs (forceP W D y.mark).2.pend (by omega) (by omega) (by omega) hbl) Tryz.func27 rfl rfl rfl ?_)
           rintro _ _ ⟨p4, a4, q4, c4, rfl, rfl⟩
           try simp only [List.cons_append, List.nil_append]
           refine ⟨Sub.any, ?_⟩
           refine RW.q 18 rfl rfl (by kernel_rfl) Sub.any (Qt.move rfl) ?_
           refine RW.q 19 rfl rfl (by kernel_rfl) Sub.any (Qt.extract rfl rfl) ?_
           refine RW.q 20 rfl rfl (by kernel_rfl) Sub.any (Qt.extract rfl rfl) ?_
           refine RW.q 21 rfl rfl (by kernel_rfl) Sub.any (Qt.fieldAddr0 (by kernel_rfl) rfl) ?_
           refine RW.one 22 (by kernel_rfl) ?_
           refine RO.eS0 rfl rfl (Ef.store [_, _] (by kernel_rfl) rfl rfl rfl rfl (by simp) ?_)
           try simp only [splice, List.length_cons, List.length_nil, List.drop_succ_cons, List.cons_append, List.take_succ_cons, List.take_zero, List.drop_zero, List.nil_append, List.append_nil]
           refine ⟨Sub.any, ?_⟩
           refine RW.done (by rfl) ?_
           simp only [List.drop_succ_cons, List.drop_zero, List.drop_nil]
           refine LW.done ?_
           refine T.seq ?_
           refine T.region ?_
           first | refine LW.q rfl (Qt.loadAgg [_, _, _, _, _, _, _, _, _, _, _] (by kernel_rfl) rfl ⟨rfl, rfl, rfl, rfl, rfl, rfl, rfl, rfl, rfl, rfl, rfl, trivial⟩) ?_ | refine LW.q rfl (Qt.loadAgg [_, _, _, _, _, _, _, _, _, _, _] (by kernel_rfl) rfl (by exact rdl_flat _ _ _ (by intros; rfl) _ (by omega))) ?_
           refine LW.q rfl (Qt.move rfl) ?_
           refine LW.e0 rfl (Ef.store [_, _, _, _, _, _, _, _, _, _, _] (by kernel_rfl) rfl rfl rfl rfl (by simp) ?_)
           try simp only [splice, List.length_cons, List.length_nil, List.drop_succ_cons, List.cons_append, List.take_succ_cons, List.take_zero, List.drop_zero, List.nil_append, List.append_nil]
           refine LW.q rfl (Qt.assign rfl) ?_
           refine LW.done ?_
           refine T.ret ?_
           exact ⟨.inl rfl, _, _, res [_, _] rfl ⟨rvA [_, _, _, _, _, _, _, _, _, _, _] (by kernel_rfl) rfl ⟨rfl, rfl, rfl, rfl, rfl, rfl, rfl, rfl, rfl, rfl, rfl, trivial⟩, rvT rfl, trivial⟩, ⟨p4, q4, a4, c4, m3 + 1, by simp [hm3], rfl, rfl⟩, Sub.any⟩
         ·
          first | refine RO.eS rfl rfl (Ef.qt (Qt.load (by kernel_rfl) rfl rfl) ?_) | refine RO.eS rfl rfl (Ef.qt (Qt.load (by kernel_rfl) rfl (map_at _ _ _ (by omega))) ?_) | refine RO.eS rfl rfl (Ef.qt (Qt.load (by kernel_rfl) rfl (flat_cell0 _ _ _ (by intros; rfl) _ (by omega) (by rfl))) ?_) | refine RO.eS rfl rfl (Ef.qt (Qt.load (by kernel_rfl) rfl (flat_cell _ _ _ (by intros; rfl) _ _ (by omega) (by rfl))) ?_) | refine RO.eS rfl rfl (Ef.qt (Qt.load (by kernel_rfl) rfl (bytes_at _ _ (by omega))) ?_)
          refine ⟨Sub.any, ?_⟩
          refine RW.all [1, 5] (by kernel_rfl) (List.forall_mem_cons.2 ⟨?_, List.forall_mem_cons.2 ⟨?_, List.forall_mem_nil _⟩⟩)
          ·
           first | refine RO.eS rfl rfl (Ef.qt (Qt.loadAgg [_, _] (by kernel_rfl) rfl ⟨rfl, rfl, trivial⟩) ?_) | refine RO.eS rfl rfl (Ef.qt (Qt.loadAgg [_, _] (by kernel_rfl) rfl (by exact rdl_flat _ _ _ (by intros; rfl) _ (by omega))) ?_)
           refine ⟨Sub.any, ?_⟩
           refine RW.one 5 (by kernel_rfl) ?_
           first | refine RO.eS rfl rfl (Ef.qt (Qt.load (by kernel_rfl) rfl rfl) ?_) | refine RO.eS rfl rfl (Ef.qt (Qt.load (by kernel_rfl) rfl (map_at _ _ _ (by omega))) ?_) | refine RO.eS rfl rfl (Ef.qt (Qt.load (by kernel_rfl) rfl (flat_cell0 _ _ _ (by intros; rfl) _ (by omega) (by rfl))) ?_) | refine RO.eS rfl rfl (Ef.qt (Qt.load (by kernel_rfl) rfl (flat_cell _ _ _ (by intros; rfl) _ _ (by omega) (by rfl))) ?_) | refine RO.eS rfl rfl (Ef.qt (Qt.load (by kernel_rfl) rfl (bytes_at _ _ (by omega))) ?_)
           refine ⟨Sub.any, ?_⟩
           refine RW.q 7 rfl rfl (by kernel_rfl) Sub.any (Qt.index _ (e := 90) (sz := 6) (by kernel_rfl) rfl rfl rfl (by omega)) ?_
           refine RW.q 8 rfl rfl (by kernel_rfl) Sub.any (Qt.fieldAddr0 (by kernel_rfl) rfl) ?_
           refine RW.q 9 rfl rfl (by kernel_rfl) Sub.any (Qt.load (v := .int .i64 y.page) (by kernel_rfl) rfl (ra_at hy 0 (by omega))) ?_
           refine RW.q 10 rfl rfl (by kernel_rfl) Sub.any (Qt.add rfl rfl (wr64 (by omega) (by omega))) ?_
           refine RW.one 17 (by kernel_rfl) ?_
           refine RO.eS rfl rfl (Ef.call (Rf.put B p3 q3 a3 c3 N m3 (first + y.page) (first + y.page.toNat) (by omega) y.b (forceP W D y.mark).2.secs (forceP W D y.mark).2.pend (by omega) (by omega) (by omega) hbl) Tryz.func27 rfl rfl rfl ?_)
           rintro _ _ ⟨p4, a4, q4, c4, rfl, rfl⟩
           try simp only [List.cons_append, List.nil_append]
           refine ⟨Sub.any, ?_⟩
           refine RW.q 18 rfl rfl (by kernel_rfl) Sub.any (Qt.move rfl) ?_
           refine RW.q 19 rfl rfl (by kernel_rfl) Sub.any (Qt.extract rfl rfl) ?_
           refine RW.q 20 rfl rfl (by kernel_rfl) Sub.any (Qt.extract rfl rfl) ?_
           refine RW.q 21 rfl rfl (by kernel_rfl) Sub.any (Qt.fieldAddr0 (by kernel_rfl) rfl) ?_
           refine RW.one 22 (by kernel_rfl) ?_
           refine RO.eS0 rfl rfl (Ef.store [_, _] (by kernel_rfl) rfl rfl rfl rfl (by simp) ?_)
           try simp only [splice, List.length_cons, List.length_nil, List.drop_succ_cons, List.cons_append, List.take_succ_cons, List.take_zero, List.drop_zero, List.nil_append, List.append_nil]
           refine ⟨Sub.any, ?_⟩
           refine RW.done (by rfl) ?_
           simp only [List.drop_succ_cons, List.drop_zero, List.drop_nil]
           refine LW.done ?_
           refine T.seq ?_
           refine T.region ?_
           first | refine LW.q rfl (Qt.loadAgg [_, _, _, _, _, _, _, _, _, _, _] (by kernel_rfl) rfl ⟨rfl, rfl, rfl, rfl, rfl, rfl, rfl, rfl, rfl, rfl, rfl, trivial⟩) ?_ | refine LW.q rfl (Qt.loadAgg [_, _, _, _, _, _, _, _, _, _, _] (by kernel_rfl) rfl (by exact rdl_flat _ _ _ (by intros; rfl) _ (by omega))) ?_
           refine LW.q rfl (Qt.move rfl) ?_
           refine LW.e0 rfl (Ef.store [_, _, _, _, _, _, _, _, _, _, _] (by kernel_rfl) rfl rfl rfl rfl (by simp) ?_)
           try simp only [splice, List.length_cons, List.length_nil, List.drop_succ_cons, List.cons_append, List.take_succ_cons, List.take_zero, List.drop_zero, List.nil_append, List.append_nil]
           refine LW.q rfl (Qt.assign rfl) ?_
           refine LW.done ?_
           refine T.ret ?_
           exact ⟨.inl rfl, _, _, res [_, _] rfl ⟨rvA [_, _, _, _, _, _, _, _, _, _, _] (by kernel_rfl) rfl ⟨rfl, rfl, rfl, rfl, rfl, rfl, rfl, rfl, rfl, rfl, rfl, trivial⟩, rvT rfl, trivial⟩, ⟨p4, q4, a4, c4, m3 + 1, by simp [hm3], rfl, rfl⟩, Sub.any⟩
          ·
           first | refine RO.eS rfl rfl (Ef.qt (Qt.load (by kernel_rfl) rfl rfl) ?_) | refine RO.eS rfl rfl (Ef.qt (Qt.load (by kernel_rfl) rfl (map_at _ _ _ (by omega))) ?_) | refine RO.eS rfl rfl (Ef.qt (Qt.load (by kernel_rfl) rfl (flat_cell0 _ _ _ (by intros; rfl) _ (by omega) (by rfl))) ?_) | refine RO.eS rfl rfl (Ef.qt (Qt.load (by kernel_rfl) rfl (flat_cell _ _ _ (by intros; rfl) _ _ (by omega) (by rfl))) ?_) | refine RO.eS rfl rfl (Ef.qt (Qt.load (by kernel_rfl) rfl (bytes_at _ _ (by omega))) ?_)
           refine ⟨Sub.any, ?_⟩
           refine RW.q 7 rfl rfl (by kernel_rfl) Sub.any (Qt.index _ (e := 90) (sz := 6) (by kernel_rfl) rfl rfl rfl (by omega)) ?_
           refine RW.q 8 rfl rfl (by kernel_rfl) Sub.any (Qt.fieldAddr0 (by kernel_rfl) rfl) ?_
           refine RW.q 9 rfl rfl (by kernel_rfl) Sub.any (Qt.load (v := .int .i64 y.page) (by kernel_rfl) rfl (ra_at hy 0 (by omega))) ?_
           refine RW.q 10 rfl rfl (by kernel_rfl) Sub.any (Qt.add rfl rfl (wr64 (by omega) (by omega))) ?_
           refine RW.one 1 (by kernel_rfl) ?_
           first | refine RO.eS rfl rfl (Ef.qt (Qt.loadAgg [_, _] (by kernel_rfl) rfl ⟨rfl, rfl, trivial⟩) ?_) | refine RO.eS rfl rfl (Ef.qt (Qt.loadAgg [_, _] (by kernel_rfl) rfl (by exact rdl_flat _ _ _ (by intros; rfl) _ (by omega))) ?_)
           refine ⟨Sub.any, ?_⟩
           refine RW.one 17 (by kernel_rfl) ?_
           refine RO.eS rfl rfl (Ef.call (Rf.put B p3 q3 a3 c3 N m3 (first + y.page) (first + y.page.toNat) (by omega) y.b (forceP W D y.mark).2.secs (forceP W D y.mark).2.pend (by omega) (by omega) (by omega) hbl) Tryz.func27 rfl rfl rfl ?_)
           rintro _ _ ⟨p4, a4, q4, c4, rfl, rfl⟩
           try simp only [List.cons_append, List.nil_append]
           refine ⟨Sub.any, ?_⟩
           refine RW.q 18 rfl rfl (by kernel_rfl) Sub.any (Qt.move rfl) ?_
           refine RW.q 19 rfl rfl (by kernel_rfl) Sub.any (Qt.extract rfl rfl) ?_
           refine RW.q 20 rfl rfl (by kernel_rfl) Sub.any (Qt.extract rfl rfl) ?_
           refine RW.q 21 rfl rfl (by kernel_rfl) Sub.any (Qt.fieldAddr0 (by kernel_rfl) rfl) ?_
           refine RW.one 22 (by kernel_rfl) ?_
           refine RO.eS0 rfl rfl (Ef.store [_, _] (by kernel_rfl) rfl rfl rfl rfl (by simp) ?_)
           try simp only [splice, List.length_cons, List.length_nil, List.drop_succ_cons, List.cons_append, List.take_succ_cons, List.take_zero, List.drop_zero, List.nil_append, List.append_nil]
           refine ⟨Sub.any, ?_⟩
           refine RW.done (by rfl) ?_
           simp only [List.drop_succ_cons, List.drop_zero, List.drop_nil]
           refine LW.done ?_
           refine T.seq ?_
           refine T.region ?_
           first | refine LW.q rfl (Qt.loadAgg [_, _, _, _, _, _, _, _, _, _, _] (by kernel_rfl) rfl ⟨rfl, rfl, rfl, rfl, rfl, rfl, rfl, rfl, rfl, rfl, rfl, trivial⟩) ?_ | refine LW.q rfl (Qt.loadAgg [_, _, _, _, _, _, _, _, _, _, _] (by kernel_rfl) rfl (by exact rdl_flat _ _ _ (by intros; rfl) _ (by omega))) ?_
           refine LW.q rfl (Qt.move rfl) ?_
           refine LW.e0 rfl (Ef.store [_, _, _, _, _, _, _, _, _, _, _] (by kernel_rfl) rfl rfl rfl rfl (by simp) ?_)
           try simp only [splice, List.length_cons, List.length_nil, List.drop_succ_cons, List.cons_append, List.take_succ_cons, List.take_zero, List.drop_zero, List.nil_append, List.append_nil]
           refine LW.q rfl (Qt.assign rfl) ?_
           refine LW.done ?_
           refine T.ret ?_
           exact ⟨.inl rfl, _, _, res [_, _] rfl ⟨rvA [_, _, _, _, _, _, _, _, _, _, _] (by kernel_rfl) rfl ⟨rfl, rfl, rfl, rfl, rfl, rfl, rfl, rfl, rfl, rfl, rfl, trivial⟩, rvT rfl, trivial⟩, ⟨p4, q4, a4, c4, m3 + 1, by simp [hm3], rfl, rfl⟩, Sub.any⟩
         ·
          first | refine RO.eS rfl rfl (Ef.qt (Qt.load (by kernel_rfl) rfl rfl) ?_) | refine RO.eS rfl rfl (Ef.qt (Qt.load (by kernel_rfl) rfl (map_at _ _ _ (by omega))) ?_) | refine RO.eS rfl rfl (Ef.qt (Qt.load (by kernel_rfl) rfl (flat_cell0 _ _ _ (by intros; rfl) _ (by omega) (by rfl))) ?_) | refine RO.eS rfl rfl (Ef.qt (Qt.load (by kernel_rfl) rfl (flat_cell _ _ _ (by intros; rfl) _ _ (by omega) (by rfl))) ?_) | refine RO.eS rfl rfl (Ef.qt (Qt.load (by kernel_rfl) rfl (bytes_at _ _ (by omega))) ?_)
          refine ⟨Sub.any, ?_⟩
          refine RW.q 7 rfl rfl (by kernel_rfl) Sub.any (Qt.index _ (e := 90) (sz := 6) (by kernel_rfl) rfl rfl rfl (by omega)) ?_
          refine RW.q 8 rfl rfl (by kernel_rfl) Sub.any (Qt.fieldAddr0 (by kernel_rfl) rfl) ?_
          refine RW.q 9 rfl rfl (by kernel_rfl) Sub.any (Qt.load (v := .int .i64 y.page) (by kernel_rfl) rfl (ra_at hy 0 (by omega))) ?_
          refine RW.all [1, 3] (by kernel_rfl) (List.forall_mem_cons.2 ⟨?_, List.forall_mem_cons.2 ⟨?_, List.forall_mem_nil _⟩⟩)
          ·
           first | refine RO.eS rfl rfl (Ef.qt (Qt.loadAgg [_, _] (by kernel_rfl) rfl ⟨rfl, rfl, trivial⟩) ?_) | refine RO.eS rfl rfl (Ef.qt (Qt.loadAgg [_, _] (by kernel_rfl) rfl (by exact rdl_flat _ _ _ (by intros; rfl) _ (by omega))) ?_)
           refine ⟨Sub.any, ?_⟩
           refine RW.one 3 (by kernel_rfl) ?_
           first | refine RO.eS rfl rfl (Ef.qt (Qt.load (by kernel_rfl) rfl rfl) ?_) | refine RO.eS rfl rfl (Ef.qt (Qt.load (by kernel_rfl) rfl (map_at _ _ _ (by omega))) ?_) | refine RO.eS rfl rfl (Ef.qt (Qt.load (by kernel_rfl) rfl (flat_cell0 _ _ _ (by intros; rfl) _ (by omega) (by rfl))) ?_) | refine RO.eS rfl rfl (Ef.qt (Qt.load (by kernel_rfl) rfl (flat_cell _ _ _ (by intros; rfl) _ _ (by omega) (by rfl))) ?_) | refine RO.eS rfl rfl (Ef.qt (Qt.load (by kernel_rfl) rfl (bytes_at _ _ (by omega))) ?_)
           refine ⟨Sub.any, ?_⟩
           refine RW.q 10 rfl rfl (by kernel_rfl) Sub.any (Qt.add rfl rfl (wr64 (by omega) (by omega))) ?_
           refine RW.one 17 (by kernel_rfl) ?_
           refine RO.eS rfl rfl (Ef.call (Rf.put B p3 q3 a3 c3 N m3 (first + y.page) (first + y.page.toNat) (by omega) y.b (forceP W D y.mark).2.secs (forceP W D y.mark).2.pend (by omega) (by omega) (by omega) hbl) Tryz.func27 rfl rfl rfl ?_)
           rintro _ _ ⟨p4, a4, q4, c4, rfl, rfl⟩
           try simp only [List.cons_append, List.nil_append]
           refine ⟨Sub.any, ?_⟩
           refine RW.q 18 rfl rfl (by kernel_rfl) Sub.any (Qt.move rfl) ?_
           refine RW.q 19 rfl rfl (by kernel_rfl) Sub.any (Qt.extract rfl rfl) ?_
           refine RW.q 20 rfl rfl (by kernel_rfl) Sub.any (Qt.extract rfl rfl) ?_
           refine RW.q 21 rfl rfl (by kernel_rfl) Sub.any (Qt.fieldAddr0 (by kernel_rfl) rfl) ?_
           refine RW.one 22 (by kernel_rfl) ?_
           refine RO.eS0 rfl rfl (Ef.store [_, _] (by kernel_rfl) rfl rfl rfl rfl (by simp) ?_)
           try simp only [splice, List.length_cons, List.length_nil, List.drop_succ_cons, List.cons_append, List.take_succ_cons, List.take_zero, List.drop_zero, List.nil_append, List.append_nil]
           refine ⟨Sub.any, ?_⟩
           refine RW.done (by rfl) ?_
           simp only [List.drop_succ_cons, List.drop_zero, List.drop_nil]
           refine LW.done ?_
           refine T.seq ?_
           refine T.region ?_
           first | refine LW.q rfl (Qt.loadAgg [_, _, _, _, _, _, _, _, _, _, _] (by kernel_rfl) rfl ⟨rfl, rfl, rfl, rfl, rfl, rfl, rfl, rfl, rfl, rfl, rfl, trivial⟩) ?_ | refine LW.q rfl (Qt.loadAgg [_, _, _, _, _, _, _, _, _, _, _] (by kernel_rfl) rfl (by exact rdl_flat _ _ _ (by intros; rfl) _ (by omega))) ?_
           refine LW.q rfl (Qt.move rfl) ?_
           refine LW.e0 rfl (Ef.store [_, _, _, _, _, _, _, _, _, _, _] (by kernel_rfl) rfl rfl rfl rfl (by simp) ?_)
           try simp only [splice, List.length_cons, List.length_nil, List.drop_succ_cons, List.cons_append, List.take_succ_cons, List.take_zero, List.drop_zero, List.nil_append, List.append_nil]
           refine LW.q rfl (Qt.assign rfl) ?_
           refine LW.done ?_
           refine T.ret ?_
           exact ⟨.inl rfl, _, _, res [_, _] rfl ⟨rvA [_, _, _, _, _, _, _, _, _, _, _] (by kernel_rfl) rfl ⟨rfl, rfl, rfl, rfl, rfl, rfl, rfl, rfl, rfl, rfl, rfl, trivial⟩, rvT rfl, trivial⟩, ⟨p4, q4, a4, c4, m3 + 1, by simp [hm3], rfl, rfl⟩, Sub.any⟩
          ·
           first | refine RO.eS rfl rfl (Ef.qt (Qt.load (by kernel_rfl) rfl rfl) ?_) | refine RO.eS rfl rfl (Ef.qt (Qt.load (by kernel_rfl) rfl (map_at _ _ _ (by omega))) ?_) | refine RO.eS rfl rfl (Ef.qt (Qt.load (by kernel_rfl) rfl (flat_cell0 _ _ _ (by intros; rfl) _ (by omega) (by rfl))) ?_) | refine RO.eS rfl rfl (Ef.qt (Qt.load (by kernel_rfl) rfl (flat_cell _ _ _ (by intros; rfl) _ _ (by omega) (by rfl))) ?_) | refine RO.eS rfl rfl (Ef.qt (Qt.load (by kernel_rfl) rfl (bytes_at _ _ (by omega))) ?_)
           refine ⟨Sub.any, ?_⟩
           refine RW.q 10 rfl rfl (by kernel_rfl) Sub.any (Qt.add rfl rfl (wr64 (by omega) (by omega))) ?_
           refine RW.one 1 (by kernel_rfl) ?_
           first | refine RO.eS rfl rfl (Ef.qt (Qt.loadAgg [_, _] (by kernel_rfl) rfl ⟨rfl, rfl, trivial⟩) ?_) | refine RO.eS rfl rfl (Ef.qt (Qt.loadAgg [_, _] (by kernel_rfl) rfl (by exact rdl_flat _ _ _ (by intros; rfl) _ (by omega))) ?_)
           refine ⟨Sub.any, ?_⟩
           refine RW.one 17 (by kernel_rfl) ?_
           refine RO.eS rfl rfl (Ef.call (Rf.put B p3 q3 a3 c3 N m3 (first + y.page) (first + y.page.toNat) (by omega) y.b (forceP W D y.mark).2.secs (forceP W D y.mark).2.pend (by omega) (by omega) (by omega) hbl) Tryz.func27 rfl rfl rfl ?_)
           rintro _ _ ⟨p4, a4, q4, c4, rfl, rfl⟩
           try simp only [List.cons_append, List.nil_append]
           refine ⟨Sub.any, ?_⟩
           refine RW.q 18 rfl rfl (by kernel_rfl) Sub.any (Qt.move rfl) ?_
           refine RW.q 19 rfl rfl (by kernel_rfl) Sub.any (Qt.extract rfl rfl) ?_
           refine RW.q 20 rfl rfl (by kernel_rfl) Sub.any (Qt.extract rfl rfl) ?_
           refine RW.q 21 rfl rfl (by kernel_rfl) Sub.any (Qt.fieldAddr0 (by kernel_rfl) rfl) ?_
           refine RW.one 22 (by kernel_rfl) ?_
           refine RO.eS0 rfl rfl (Ef.store [_, _] (by kernel_rfl) rfl rfl rfl rfl (by simp) ?_)
           try simp only [splice, List.length_cons, List.length_nil, List.drop_succ_cons, List.cons_append, List.take_succ_cons, List.take_zero, List.drop_zero, List.nil_append, List.append_nil]
           refine ⟨Sub.any, ?_⟩
           refine RW.done (by rfl) ?_
           simp only [List.drop_succ_cons, List.drop_zero, List.drop_nil]
           refine LW.done ?_
           refine T.seq ?_
           refine T.region ?_
           first | refine LW.q rfl (Qt.loadAgg [_, _, _, _, _, _, _, _, _, _, _] (by kernel_rfl) rfl ⟨rfl, rfl, rfl, rfl, rfl, rfl, rfl, rfl, rfl, rfl, rfl, trivial⟩) ?_ | refine LW.q rfl (Qt.loadAgg [_, _, _, _, _, _, _, _, _, _, _] (by kernel_rfl) rfl (by exact rdl_flat _ _ _ (by intros; rfl) _ (by omega))) ?_
           refine LW.q rfl (Qt.move rfl) ?_
           refine LW.e0 rfl (Ef.store [_, _, _, _, _, _, _, _, _, _, _] (by kernel_rfl) rfl rfl rfl rfl (by simp) ?_)
           try simp only [splice, List.length_cons, List.length_nil, List.drop_succ_cons, List.cons_append, List.take_succ_cons, List.take_zero, List.drop_zero, List.nil_append, List.append_nil]
           refine LW.q rfl (Qt.assign rfl) ?_
           refine LW.done ?_
           refine T.ret ?_
           exact ⟨.inl rfl, _, _, res [_, _] rfl ⟨rvA [_, _, _, _, _, _, _, _, _, _, _] (by kernel_rfl) rfl ⟨rfl, rfl, rfl, rfl, rfl, rfl, rfl, rfl, rfl, rfl, rfl, trivial⟩, rvT rfl, trivial⟩, ⟨p4, q4, a4, c4, m3 + 1, by simp [hm3], rfl, rfl⟩, Sub.any⟩
       ·
        rw [show giveP first W D y = (W, D) by unfold giveP; rw [if_neg (by rw [hd]; simp)]]
        refine T.skip ?_
        refine T.seq ?_
        refine T.region ?_
        first | refine LW.q rfl (Qt.loadAgg [_, _, _, _, _, _, _, _, _, _, _] (by kernel_rfl) rfl ⟨rfl, rfl, rfl, rfl, rfl, rfl, rfl, rfl, rfl, rfl, rfl, trivial⟩) ?_ | refine LW.q rfl (Qt.loadAgg [_, _, _, _, _, _, _, _, _, _, _] (by kernel_rfl) rfl (by exact rdl_flat _ _ _ (by intros; rfl) _ (by omega))) ?_
        refine LW.q rfl (Qt.move rfl) ?_
        refine LW.e0 rfl (Ef.store [_, _, _, _, _, _, _, _, _, _, _] (by kernel_rfl) rfl rfl rfl rfl (by simp) ?_)
        try simp only [splice, List.length_cons, List.length_nil, List.drop_succ_cons, List.cons_append, List.take_succ_cons, List.take_zero, List.drop_zero, List.nil_append, List.append_nil]
        refine LW.q rfl (Qt.assign rfl) ?_
        refine LW.done ?_
        refine T.ret ?_
        exact ⟨.inl rfl, _, _, res [_, _] rfl ⟨rvA [_, _, _, _, _, _, _, _, _, _, _] (by kernel_rfl) rfl ⟨rfl, rfl, rfl, rfl, rfl, rfl, rfl, rfl, rfl, rfl, rfl, trivial⟩, rvT rfl, trivial⟩, ⟨p, q, a, c, m, hm, rfl, rfl⟩, Sub.any⟩
end Go.Proofs.YtegohgaccmkigaaGreatDoor
