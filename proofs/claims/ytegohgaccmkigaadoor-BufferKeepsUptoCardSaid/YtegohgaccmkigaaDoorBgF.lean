/- The statement BufferKeeps. Conditions: that what is handed in can be read; sizes. -/
import Derived.Test.YtegohgaccmkigaaDoorBgE
set_option linter.unusedSimpArgs false
set_option linter.unusedVariables false
namespace Go.Proofs.YtegohgaccmkigaaDoor
open Go.RowKit

theorem Bp.put_any (B : Base) (S : List Assn) (g b n first count hand gl : Nat) (A : List Fa) (page : Int) (hl : A.length = n) (hn2 : n ≤ 4096) (a : Option Addr) (m ca : Nat) (d : List UInt8) (mark : Int) (hd : d.length = m) (hv : RdV B S (.slice a m ca) (bytesV d)) :
    Fn Tryd.prog B 16 #[.pointer (some ⟨g, 0, none⟩), .int .i64 page, .slice a m ca, .int .i64 mark] (plA g b n first count hand gl A :: S) (fun u l => u = .int .i64 (putA A page d mark).2 ∧ l = plA g b n first count hand gl (putA A page d mark).1 :: S) := by
  cases h : pinnedA A page with
  | none =>
    refine Fn.wide (Bp.put_no B g b n first count hand gl A page hl hn2 a m ca d hd mark (.inl h)) ?_
    rintro v l' ⟨rfl, e, rfl⟩
    exact ⟨_, fun k K => K, rfl, by rw [e]; rfl⟩
  | some r =>
    by_cases h2 : d.length = 256
    · obtain rfl : m = 256 := by omega
      exact Bp.put B S g b n first count hand gl A page hl hn2 r.1 r.2 h a ca d mark h2 hv
    · refine Fn.wide (Bp.put_no B g b n first count hand gl A page hl hn2 a m ca d hd mark (.inr h2)) ?_
      rintro v l' ⟨rfl, e, rfl⟩
      exact ⟨_, fun k K => K, rfl, by rw [e]; rfl⟩
theorem pin_new (n first count : Nat) (W : Wl) (D : DD) (page : Int) (hn : ¬ (page < 0 ∨ (count : Int) ≤ page)) : pinP first count ⟨List.replicate (n + 1) fa1, 0, W, D⟩ page = (⟨newA page (D.read (first + page.toNat)) :: List.replicate n fa1, 0, W, D⟩, 0) := by
  rw [pinP_free (i := 0) hn ?_ ?_]
  · simp [List.replicate_succ]
  · dsimp only
    unfold findA
    rw [if_neg (by omega), List.findIdx?_eq_none_iff]
    intro x hx
    rw [(List.mem_replicate.1 hx).2]
    simp
    omega
  · simp [List.replicate_succ, List.findIdx?_cons]
theorem pinned_head {x : Fa} {L : List Fa} {page : Int} (h : x.page = page) (h0 : 0 ≤ page) (hp : 0 < x.pins) : pinnedA (x :: L) page = some (0, x) := by
  unfold pinnedA findA
  rw [if_neg (by omega)]
  simp [List.findIdx?_cons, h, hp]
theorem put_head {x : Fa} {L : List Fa} {page : Int} {d : List UInt8} (h : x.page = page) (h0 : 0 ≤ page) (hp : 0 < x.pins) (hx : x.b.length = 256) : ∃ y code, putA (x :: L) page d 0 = (y :: L, code) ∧ y.page = page ∧ 0 < y.pins ∧ y.b.length = 256 ∧ (code = 0 → y.b = d) := by
  unfold putA
  rw [pinned_head h h0 hp]
  dsimp only
  by_cases hd : d.length = 256
  · rw [if_neg (by simp [hd])]
    exact ⟨_, _, rfl, h, hp, hd, fun _ => rfl⟩
  · rw [if_pos hd]
    exact ⟨x, 10, rfl, h, hp, hx, fun h => by cases h⟩

set_option maxHeartbeats 8000000 in
set_option maxRecDepth 100000 in
theorem Bp.keeps (B : Base) (vb : Value) (dat : List UInt8) (hb : RoS B vb (bytesV dat)) (hlb : dat.length ≤ 1048576) (n : Int) (hn : -(2 ^ 63) ≤ n ∧ n < 2 ^ 63) : Fn Tryd.prog B 4 #[vb, .int .i64 n] [] (fun v l => v = .bool true ∧ l = []) := by
  obtain ⟨ba, bc, rfl⟩ := (hb.rd []).form (m := dat.length) (by simp)
  refine Fn.enter2 145 Tryd.func4 rfl rfl (Nat.le_of_ble_eq_true rfl) (fun F => ?_)
  try simp only [List.cons_append, List.nil_append]
  refine T.seq ?_
  refine T.region ?_
  refine LW.q rfl (Qt.assign rfl) ?_
  refine LW.done ?_
  refine T.seq ?_
  refine T.seq ?_
  refine T.region ?_
  refine LW.e rfl (Ef.call (Bf.awake B) Tryd.func8 rfl rfl rfl ?_)
  rintro _ _ ⟨rfl, rfl⟩
  try simp only [List.cons_append, List.nil_append]
  first | refine LW.q rfl (Qt.notP rfl) ?_ | refine LW.q rfl (Qt.notB rfl) ?_
  refine LW.done ?_
  first | refine T.condF rfl ?_ | refine T.condPF rfl (by omega) ?_ | refine T.condBF rfl (by omega) ?_
  refine T.skip ?_
  refine T.seq ?_
  refine T.region ?_
  refine LW.e rfl (Ef.call (Bp.laid B 2 2 rfl (by omega) (by omega)) Tryd.func14 rfl rfl rfl ?_)
  rintro _ _ ⟨gb, b, gl, g, D, rfl, ho, hl, hp, hz, rfl⟩
  try simp only [List.cons_append, List.nil_append]
  refine LW.q rfl (Qt.assign rfl) ?_
  refine LW.done ?_
  refine T.seq ?_
  refine T.seq ?_
  refine T.region ?_
  refine LW.q rfl (Qt.move rfl) ?_
  first | refine LW.q rfl (Qt.eqlNil (by kernel_rfl) rfl rfl) ?_ | refine LW.q rfl (Qt.eqlNN (by kernel_rfl) rfl rfl) ?_
  refine LW.q rfl (Qt.move rfl) ?_
  have hw : WOk (mkW 0 4 [] 0) D := ⟨by show 0 + 4 ≤ _; omega, by omega, by simp [mkW, logB], by simp [mkW, logB], by rw [hp]; simp⟩
  first | refine LW.gF (t := 20) rfl rfl ?_ | refine LW.gF (t := 20) rfl (decide_eq_false (by omega)) ?_ | refine LW.gF (t := 20) rfl (by omega) ?_
  refine LW.q rfl (Qt.move rfl) ?_
  refine LW.q rfl (Qt.nilCheck rfl) ?_
  refine LW.q rfl (Qt.fieldAddr (off := 2) (by kernel_rfl) rfl) ?_
  first | refine LW.q rfl (Qt.load (by kernel_rfl) rfl rfl) ?_ | refine LW.q rfl (Qt.load (by kernel_rfl) rfl (map_at _ _ _ (by omega))) ?_ | refine LW.q rfl (Qt.load (by kernel_rfl) rfl (flat_cell0 _ _ _ (by intros; rfl) _ (by omega) (by rfl))) ?_ | refine LW.q rfl (Qt.load (by kernel_rfl) rfl (flat_cell _ _ _ (by intros; rfl) _ _ (by omega) (by rfl))) ?_ | refine LW.q rfl (Qt.load (by kernel_rfl) rfl (bytes_at _ _ (by omega))) ?_
  refine LW.q rfl (Qt.move rfl) ?_
  refine LW.e rfl (Ef.call (Bp.pin B g b 2 4 8 0 gl (List.replicate 2 fa1) (mkW 0 4 [] 0) D n (FOk.new 8 2 (by omega) (by omega)) (by simp) (by omega) hw ho (by rw [hp]; simp) (by omega)) Tryd.func15 rfl rfl rfl ?_)
  rintro _ _ ⟨rfl, rfl⟩
  try simp only [List.cons_append, List.nil_append]
  refine LW.q rfl (Qt.neq rfl rfl) ?_
  refine LW.q rfl (Qt.pick rfl rfl) ?_
  refine LW.done ?_
  by_cases hr : n < 0 ∨ ((8 : Nat) : Int) ≤ n
  · skip
    rw [pinP_range hr]
    first | refine T.condT rfl ?_ | refine T.condPT rfl (by omega) ?_ | refine T.condBT rfl (by omega) ?_
    refine T.seq ?_
    refine T.region ?_
    refine LW.q rfl (Qt.move rfl) ?_
    first | refine LW.q rfl (Qt.neqNil (by kernel_rfl) rfl rfl) ?_ | refine LW.q rfl (Qt.neqNN (by kernel_rfl) rfl rfl) ?_
    refine LW.q rfl (Qt.move rfl) ?_
    first | refine LW.gT (t := 31) rfl rfl ?_ | refine LW.gT (t := 31) rfl (decide_eq_true (by omega)) ?_ | refine LW.gT (t := 31) rfl (by omega) ?_
    refine LW.q rfl (Qt.move rfl) ?_
    refine LW.q rfl (Qt.lss rfl rfl) ?_
    refine LW.q rfl (Qt.move rfl) ?_
    refine LW.split (t := 34) rfl (fun h1 => ?_) (fun h1 => ?_)
    · skip
      try replace h1 := of_decide_eq_true h1
      refine LW.s rfl ?_
      refine LW.s rfl ?_
      refine LW.q rfl (Qt.pick rfl rfl) ?_
      refine LW.q rfl (Qt.pick rfl rfl) ?_
      refine LW.q rfl (Qt.assign rfl) ?_
      refine LW.done ?_
      refine T.ret ?_
      exact ⟨.inl rfl, _, _, res [_] rfl ⟨rvT rfl, trivial⟩, ⟨rfl, rfl⟩, Sub.any⟩
    · skip
      try replace h1 := of_decide_eq_false h1
      refine LW.q rfl (Qt.move rfl) ?_
      refine LW.q rfl (Qt.geq rfl rfl) ?_
      refine LW.q rfl (Qt.pick rfl rfl) ?_
      refine LW.q rfl (Qt.pick rfl rfl) ?_
      refine LW.q rfl (Qt.assign rfl) ?_
      refine LW.done ?_
      refine T.ret ?_
      exact ⟨.inl rfl, _, _, res [_] rfl ⟨rvT rfl, trivial⟩, ⟨by simp [outV]; omega, rfl⟩, Sub.any⟩
  · skip
    rw [pin_new 1 4 8 _ _ n hr]
    have hzr : D.read (4 + n.toNat) = List.replicate 256 0 := hz _ (by omega) (by omega)
    rw [hzr]
    first | refine T.condF rfl ?_ | refine T.condPF rfl (by omega) ?_ | refine T.condBF rfl (by omega) ?_
    refine T.skip ?_
    refine T.seq ?_
    refine T.region ?_
    refine LW.e rfl (Ef.empty Cd.elemB ?_)
    rintro g32
    try simp only [List.cons_append, List.nil_append]
    refine LW.q rfl (Qt.move rfl) ?_
    refine LW.e rfl (Ef.append Cd.elemB rfl rfl (SrcOf.rd (m := dat.length) (hb.rd _) (by kernel_rfl) (by simp) one_bytesV) (by unfold maxLen; omega) (by omega) ?_)
    rintro p1 c1 hp1
    try simp only [List.cons_append, List.nil_append]
    simp only [Nat.zero_add, List.nil_append]
    refine LW.e rfl (Ef.one [_] (e := 5) (sz := 1) (by kernel_rfl) ⟨.int .u8 0, by kernel_rfl, rfl⟩ rfl rfl rfl (by omega) (by omega) ?_)
    intro g42
    refine LW.e rfl (Ef.append Cd.elemB rfl rfl (SrcOf.blk (by kernel_rfl) rfl (by simp [Value.oneCell'])) (by unfold maxLen; omega) (by omega) ?_)
    rintro p2 c2 hp2
    try simp only [List.cons_append, List.nil_append]
    obtain ⟨g2, rfl⟩ := hp2 (by omega)
    rw [show bytesV dat ++ [Value.int .u8 77] = bytesV (dat ++ [77]) by simp [bytesV]]
    refine LW.own (fun w ho => ?_)
    have hc2 := ho.cap_at (p := some ⟨g2, 0, none⟩) (m := dat.length + 1) (c := c2)
    clear ho
    refine LW.q rfl (Qt.move rfl) ?_
    refine LW.q rfl (Qt.len (e := 5) (sz := 1) (by kernel_rfl) rfl) ?_
    refine LW.q rfl (Qt.slice_nsn dat.length (e := 5) (sz := 1) (by kernel_rfl) rfl rfl rfl (by omega)) ?_
    refine LW.q rfl (Qt.assign rfl) ?_
    refine LW.done ?_
    refine T.seq ?_
    refine T.region ?_
    refine LW.q rfl (Qt.move rfl) ?_
    refine LW.q rfl (Qt.nilCheck rfl) ?_
    refine LW.q rfl (Qt.fieldAddr (off := 2) (by kernel_rfl) rfl) ?_
    first | refine LW.q rfl (Qt.load (by kernel_rfl) rfl rfl) ?_ | refine LW.q rfl (Qt.load (by kernel_rfl) rfl (map_at _ _ _ (by omega))) ?_ | refine LW.q rfl (Qt.load (by kernel_rfl) rfl (flat_cell0 _ _ _ (by intros; rfl) _ (by omega) (by rfl))) ?_ | refine LW.q rfl (Qt.load (by kernel_rfl) rfl (flat_cell _ _ _ (by intros; rfl) _ _ (by omega) (by rfl))) ?_ | refine LW.q rfl (Qt.load (by kernel_rfl) rfl (bytes_at _ _ (by omega))) ?_
    refine LW.q rfl (Qt.move rfl) ?_
    refine LW.q rfl (Qt.move rfl) ?_
    have hmine : RdV B [rB (.slice (some ⟨g2, 0, none⟩) (dat.length + 1) c2) (dat.length + 1) (dat ++ [77])] (.slice (some ⟨g2, 0, none⟩) dat.length c2) (bytesV dat) := by have := (RdV.rB (p := some ⟨g2, 0, none⟩) (c := c2) (b := dat ++ [77]) (m := dat.length + 1) (by simp) (fun _ => ⟨_, rfl⟩)).takeB (B := B) dat.length c2 (by simp); rwa [List.take_left'  rfl] at this
    obtain ⟨y, code, hput, y1, y2, y3, y4⟩ := put_head (x := newA n (List.replicate 256 0)) (L := List.replicate 1 fa1) (page := n) (d := dat) rfl (by omega) (by show (0 : Int) < 1; omega) (List.length_replicate ..)
    refine LW.e rfl (Ef.call (Bp.put_any B [rB (.slice (some ⟨g2, 0, none⟩) (dat.length + 1) c2) (dat.length + 1) (dat ++ [77])] g b 2 4 8 0 gl (newA n (List.replicate 256 0) :: List.replicate 1 fa1) n (by simp) (by omega) (some ⟨g2, 0, none⟩) dat.length c2 dat 0 rfl hmine) Tryd.func16 rfl rfl rfl ?_)
    rintro _ _ ⟨rfl, rfl⟩
    try simp only [List.cons_append, List.nil_append]
    rw [hput]
    refine LW.q rfl (Qt.assign rfl) ?_
    refine LW.done ?_
    refine T.seq ?_
    refine T.seq ?_
    refine T.region ?_
    refine LW.q rfl (Qt.move rfl) ?_
    refine LW.q rfl (Qt.str dat (by kernel_rfl) (by kernel_rfl) rfl (hmine.mono (fun w ho => ho.map Sub.any)).str) ?_
    refine LW.q rfl (Qt.move rfl) ?_
    refine LW.q rfl (Qt.str dat (by kernel_rfl) (by kernel_rfl) rfl (hb.rd _).str) ?_
    refine LW.q rfl (Qt.neqS rfl rfl) ?_
    refine LW.q rfl (Qt.move rfl) ?_
    first | refine LW.gF (t := 59) rfl rfl ?_ | refine LW.gF (t := 59) rfl (decide_eq_false ((by simp))) ?_ | refine LW.gF (t := 59) rfl ((by simp)) ?_
    refine LW.q rfl (Qt.move rfl) ?_
    refine LW.q rfl (Qt.move rfl) ?_
    refine LW.q rfl (Qt.len (e := 5) (sz := 1) (by kernel_rfl) rfl) ?_
    refine LW.q rfl (Qt.add rfl rfl (wr64 (by omega) (by omega))) ?_
    refine LW.q rfl (Qt.slice_nsn (dat.length + 1) (e := 5) (sz := 1) (by kernel_rfl) rfl rfl (by omega) (by omega)) ?_
    refine LW.q rfl (Qt.move rfl) ?_
    refine LW.q rfl (Qt.len (e := 5) (sz := 1) (by kernel_rfl) rfl) ?_
    refine LW.q rfl (Qt.index _ (e := 5) (sz := 1) (by kernel_rfl) rfl rfl rfl (by omega)) ?_
    refine LW.q rfl (Qt.load (v := .int .u8 77) (by kernel_rfl) rfl (bytes_get (x := 77) (by simp))) ?_
    refine LW.q rfl (Qt.neq rfl rfl) ?_
    refine LW.q rfl (Qt.pick rfl rfl) ?_
    refine LW.done ?_
    first | refine T.condF rfl ?_ | refine T.condPF rfl (by omega) ?_ | refine T.condBF rfl (by omega) ?_
    refine T.skip ?_
    refine T.seq ?_
    refine T.seq ?_
    refine T.region ?_
    refine LW.q rfl (Qt.move rfl) ?_
    refine LW.q rfl (Qt.len (e := 5) (sz := 1) (by kernel_rfl) rfl) ?_
    refine LW.q rfl (Qt.move rfl) ?_
    refine LW.done ?_
    refine T.block ?_
    refine T.loop (fun mz fz lz => ∃ (f0 : Fr) (i : Nat) (acc : List UInt8), (i ≤ dat.length ∧ acc.length = dat.length + 1) ∧ mz = dat.length - i ∧ fz = (upd (upd (upd (upd (upd (upd (upd f0 0 (.slice ba dat.length bc)) 1 (.int .i64 n)) 5 (.pointer (some ⟨gb, 0, none⟩))) 6 (.slice (some ⟨g2, 0, none⟩) dat.length c2)) 7 (.int .i64 code)) 72 (.int .i64 dat.length)) 73 (.int .i64 i)) ∧ lz = plA g b 2 4 8 0 gl (y :: List.replicate 1 fa1) :: benchB gb b gl g :: rB (.slice (some ⟨g2, 0, none⟩) (dat.length + 1) c2) (dat.length + 1) acc :: F) ?_ ?_
    · refine ⟨_, _, ⟨_, 0, dat ++ [77], ⟨Nat.zero_le _, by simp⟩, rfl, (updS rfl (updS rfl (updS rfl (updS rfl (updS rfl (updS rfl (updS rfl rfl))))))), rfl⟩, Sub.any⟩
    · skip
      rintro mz fz lz ⟨f0, i, acc, ⟨hi, hacc⟩, hmz, rfl, rfl⟩
      subst mz
      try simp only [List.cons_append, List.nil_append]
      refine T.seq ?_
      refine T.region ?_
      refine LW.q rfl (Qt.lss rfl rfl) ?_
      refine LW.done ?_
      refine T.seq ?_
      refine T.condP rfl (fun hlt => ?_) (fun hlt => ?_)
      · skip
        obtain ⟨x, hx⟩ : ∃ x, acc[i]? = some x := ⟨_, List.getElem?_eq_getElem (by omega)⟩
        refine T.skip ?_
        refine T.seq ?_
        refine T.block ?_
        refine T.seq ?_
        refine T.region ?_
        refine LW.q rfl (Qt.move rfl) ?_
        refine LW.q rfl (Qt.assign rfl) ?_
        refine LW.done ?_
        refine T.region ?_
        refine LW.q rfl (Qt.move rfl) ?_
        refine LW.q rfl (Qt.move rfl) ?_
        refine LW.q rfl (Qt.index _ (e := 5) (sz := 1) (by kernel_rfl) rfl rfl rfl (by omega)) ?_
        refine LW.q rfl (Qt.load (v := .int .u8 x.toNat) (by kernel_rfl) rfl (bytes_get hx)) ?_
        refine LW.q rfl (Qt.add rfl rfl (wr8_inc x)) ?_
        refine LW.q rfl (Qt.index _ (e := 5) (sz := 1) (by kernel_rfl) rfl rfl rfl (by omega)) ?_
        refine LW.e0 rfl (Ef.store1 (by kernel_rfl) rfl rfl rfl (by first | (simp; done) | (simp; omega)) ?_)
        try simp only [List.set_cons_zero, List.set_cons_succ]
        rw [bytes_set acc i (x + 1)]
        refine LW.done ?_
        refine T.region ?_
        refine LW.q rfl (Qt.add rfl rfl (wr64 (by omega) (by omega))) ?_
        refine LW.q rfl (Qt.move rfl) ?_
        refine LW.done ?_
        refine ⟨_, ?_, _, ⟨_, i + 1, acc.set i (x + 1), ⟨by omega, by simp [hacc]⟩, rfl, (updS rfl (updS rfl (updS rfl (updS rfl (updS rfl (updS rfl (updS rfl rfl))))))), rfl⟩, Sub.any⟩
        first | omega | (simp; omega)
      · skip
        clear hlt
        have hpy := pinned_head (L := List.replicate 1 fa1) y1 (by omega) y2
        refine T.exit ?_
        refine T.seq ?_
        refine T.region ?_
        refine LW.q rfl (Qt.move rfl) ?_
        refine LW.q rfl (Qt.nilCheck rfl) ?_
        refine LW.q rfl (Qt.fieldAddr (off := 2) (by kernel_rfl) rfl) ?_
        first | refine LW.q rfl (Qt.load (by kernel_rfl) rfl rfl) ?_ | refine LW.q rfl (Qt.load (by kernel_rfl) rfl (map_at _ _ _ (by omega))) ?_ | refine LW.q rfl (Qt.load (by kernel_rfl) rfl (flat_cell0 _ _ _ (by intros; rfl) _ (by omega) (by rfl))) ?_ | refine LW.q rfl (Qt.load (by kernel_rfl) rfl (flat_cell _ _ _ (by intros; rfl) _ _ (by omega) (by rfl))) ?_ | refine LW.q rfl (Qt.load (by kernel_rfl) rfl (bytes_at _ _ (by omega))) ?_
        refine LW.q rfl (Qt.move rfl) ?_
        refine LW.e rfl (Ef.call (Bp.bytes B g b 2 4 8 0 gl (y :: List.replicate 1 fa1) n (by simp) (by omega) 0 y hpy 256 y3 (by omega)) Tryd.func17 rfl rfl rfl ?_)
        rintro _ _ ⟨p5, c5, rfl, hp5, rfl⟩
        try simp only [List.cons_append, List.nil_append]
        obtain ⟨g5, rfl⟩ := hp5 (by omega)
        refine LW.q rfl (Qt.move rfl) ?_
        refine LW.q rfl (Qt.extract rfl rfl) ?_
        refine LW.q rfl (Qt.extract rfl rfl) ?_
        refine LW.q rfl (Qt.assign rfl) ?_
        refine LW.q rfl (Qt.assign rfl) ?_
        refine LW.done ?_
        refine T.cut (fun fz lz => ∃ (f0 : Fr), (True) ∧ fz = (upd (upd (upd (upd f0 0 (.slice ba dat.length bc)) 1 (.int .i64 n)) 5 (.pointer (some ⟨gb, 0, none⟩))) 9 (.slice (some ⟨g5, 0, none⟩) 256 c5)) ∧ lz = plA g b 2 4 8 0 gl (y :: List.replicate 1 fa1) :: benchB gb b gl g :: rB (.slice (some ⟨g5, 0, none⟩) 256 c5) 256 y.b :: F) ?_ ?_
        · skip
          refine T.seq ?_
          refine T.region ?_
          refine LW.q rfl (Qt.move rfl) ?_
          refine LW.q rfl (Qt.eql rfl rfl) ?_
          refine LW.q rfl (Qt.move rfl) ?_
          refine LW.split (t := 94) rfl (fun h1 => ?_) (fun h1 => ?_)
          · skip
            try replace h1 := of_decide_eq_true h1
            have hyd := y4 h1
            refine LW.q rfl (Qt.move rfl) ?_
            refine LW.q rfl (Qt.str y.b (by kernel_rfl) (by kernel_rfl) rfl (fun _ ho => ho.reads_row y3)) ?_
            refine LW.q rfl (Qt.move rfl) ?_
            refine LW.q rfl (Qt.str dat (by kernel_rfl) (by kernel_rfl) rfl (hb.rd _).str) ?_
            refine LW.q rfl (Qt.neqS rfl rfl) ?_
            refine LW.q rfl (Qt.pick rfl rfl) ?_
            refine LW.done ?_
            first | refine T.condF rfl ?_ | refine T.condPF rfl ((by simp [hyd])) ?_ | refine T.condBF rfl ((by simp [hyd])) ?_
            refine T.skip ?_
            exact ⟨_, ⟨_, trivial, (updS rfl (updS rfl (updS rfl (updS rfl rfl)))), rfl⟩, Sub.any⟩
          · skip
            try replace h1 := of_decide_eq_false h1
            refine LW.s rfl ?_
            refine LW.s rfl ?_
            refine LW.s rfl ?_
            refine LW.s rfl ?_
            refine LW.s rfl ?_
            refine LW.q rfl (Qt.pick rfl rfl) ?_
            refine LW.done ?_
            first | refine T.condF rfl ?_ | refine T.condPF rfl (by omega) ?_ | refine T.condBF rfl (by omega) ?_
            refine T.skip ?_
            exact ⟨_, ⟨_, trivial, (updS rfl (updS rfl (updS rfl (updS rfl rfl)))), rfl⟩, Sub.any⟩
        rintro fz lz ⟨f0, _, rfl, rfl⟩
        try simp only [List.cons_append, List.nil_append]
        refine T.seq ?_
        refine T.region ?_
        refine LW.q rfl (Qt.move rfl) ?_
        refine LW.q rfl (Qt.str y.b (by kernel_rfl) (by kernel_rfl) rfl (fun _ ho => ho.reads_row y3)) ?_
        refine LW.q rfl (Qt.assign rfl) ?_
        refine LW.done ?_
        refine T.seq ?_
        refine T.seq ?_
        refine T.region ?_
        refine LW.q rfl (Qt.move rfl) ?_
        refine LW.q rfl (Qt.len (e := 5) (sz := 1) (by kernel_rfl) rfl) ?_
        refine LW.q rfl (Qt.move rfl) ?_
        refine LW.done ?_
        refine T.block ?_
        refine T.loop (fun mz fz lz => ∃ (f0 : Fr) (i : Nat) (X : List UInt8), (i ≤ 256 ∧ X.length = 256) ∧ mz = 256 - i ∧ fz = (upd (upd (upd (upd (upd (upd f0 1 (.int .i64 n)) 5 (.pointer (some ⟨gb, 0, none⟩))) 9 (.slice (some ⟨g5, 0, none⟩) 256 c5)) 11 (.string (strOf y.b))) 104 (.int .i64 (256 : Nat))) 105 (.int .i64 i)) ∧ lz = plA g b 2 4 8 0 gl (y :: List.replicate 1 fa1) :: benchB gb b gl g :: rB (.slice (some ⟨g5, 0, none⟩) 256 c5) 256 X :: F) ?_ ?_
        · refine ⟨_, _, ⟨_, 0, y.b, ⟨Nat.zero_le _, y3⟩, rfl, (updS rfl (updS rfl (updS rfl (updS rfl (updS rfl (updS rfl rfl)))))), rfl⟩, Sub.any⟩
        · skip
          rintro mz fz lz ⟨f0, i, X, ⟨hi2, hX⟩, hmz, rfl, rfl⟩
          subst mz
          try simp only [List.cons_append, List.nil_append]
          refine T.seq ?_
          refine T.region ?_
          refine LW.q rfl (Qt.lss rfl rfl) ?_
          refine LW.done ?_
          refine T.seq ?_
          refine T.condP rfl (fun hlt => ?_) (fun hlt => ?_)
          · skip
            obtain ⟨x, hx⟩ : ∃ x, X[i]? = some x := ⟨_, List.getElem?_eq_getElem (by omega)⟩
            refine T.skip ?_
            refine T.seq ?_
            refine T.block ?_
            refine T.seq ?_
            refine T.region ?_
            refine LW.q rfl (Qt.move rfl) ?_
            refine LW.q rfl (Qt.assign rfl) ?_
            refine LW.done ?_
            refine T.region ?_
            refine LW.q rfl (Qt.move rfl) ?_
            refine LW.q rfl (Qt.move rfl) ?_
            refine LW.q rfl (Qt.index _ (e := 5) (sz := 1) (by kernel_rfl) rfl rfl rfl (by omega)) ?_
            refine LW.q rfl (Qt.load (v := .int .u8 x.toNat) (by kernel_rfl) rfl (bytes_get hx)) ?_
            refine LW.q rfl (Qt.add rfl rfl (wr8_inc x)) ?_
            refine LW.q rfl (Qt.index _ (e := 5) (sz := 1) (by kernel_rfl) rfl rfl rfl (by omega)) ?_
            refine LW.e0 rfl (Ef.store1 (by kernel_rfl) rfl rfl rfl (by first | (simp; done) | (simp; omega)) ?_)
            try simp only [List.set_cons_zero, List.set_cons_succ]
            rw [bytes_set X i (x + 1)]
            refine LW.done ?_
            refine T.region ?_
            refine LW.q rfl (Qt.add rfl rfl (wr64 (by omega) (by omega))) ?_
            refine LW.q rfl (Qt.move rfl) ?_
            refine LW.done ?_
            refine ⟨_, ?_, _, ⟨_, i + 1, X.set i (x + 1), ⟨by omega, by simp [hX]⟩, rfl, (updS rfl (updS rfl (updS rfl (updS rfl (updS rfl (updS rfl rfl)))))), rfl⟩, Sub.any⟩
            first | omega | (simp; omega)
          · skip
            refine T.exit ?_
            refine T.seq ?_
            refine T.region ?_
            refine LW.q rfl (Qt.move rfl) ?_
            refine LW.q rfl (Qt.nilCheck rfl) ?_
            refine LW.q rfl (Qt.fieldAddr (off := 2) (by kernel_rfl) rfl) ?_
            first | refine LW.q rfl (Qt.load (by kernel_rfl) rfl rfl) ?_ | refine LW.q rfl (Qt.load (by kernel_rfl) rfl (map_at _ _ _ (by omega))) ?_ | refine LW.q rfl (Qt.load (by kernel_rfl) rfl (flat_cell0 _ _ _ (by intros; rfl) _ (by omega) (by rfl))) ?_ | refine LW.q rfl (Qt.load (by kernel_rfl) rfl (flat_cell _ _ _ (by intros; rfl) _ _ (by omega) (by rfl))) ?_ | refine LW.q rfl (Qt.load (by kernel_rfl) rfl (bytes_at _ _ (by omega))) ?_
            refine LW.q rfl (Qt.move rfl) ?_
            refine LW.e rfl (Ef.call (Bp.bytes B g b 2 4 8 0 gl (y :: List.replicate 1 fa1) n (by simp) (by omega) 0 y hpy 256 y3 (by omega)) Tryd.func17 rfl rfl rfl ?_)
            rintro _ _ ⟨p6, c6, rfl, hp6, rfl⟩
            try simp only [List.cons_append, List.nil_append]
            refine LW.q rfl (Qt.move rfl) ?_
            refine LW.q rfl (Qt.extract rfl rfl) ?_
            refine LW.q rfl (Qt.extract rfl rfl) ?_
            refine LW.q rfl (Qt.assign rfl) ?_
            refine LW.q rfl (Qt.assign rfl) ?_
            refine LW.done ?_
            refine T.seq ?_
            refine T.region ?_
            refine LW.q rfl (Qt.move rfl) ?_
            refine LW.q rfl (Qt.nilCheck rfl) ?_
            refine LW.q rfl (Qt.fieldAddr (off := 2) (by kernel_rfl) rfl) ?_
            first | refine LW.q rfl (Qt.load (by kernel_rfl) rfl rfl) ?_ | refine LW.q rfl (Qt.load (by kernel_rfl) rfl (map_at _ _ _ (by omega))) ?_ | refine LW.q rfl (Qt.load (by kernel_rfl) rfl (flat_cell0 _ _ _ (by intros; rfl) _ (by omega) (by rfl))) ?_ | refine LW.q rfl (Qt.load (by kernel_rfl) rfl (flat_cell _ _ _ (by intros; rfl) _ _ (by omega) (by rfl))) ?_ | refine LW.q rfl (Qt.load (by kernel_rfl) rfl (bytes_at _ _ (by omega))) ?_
            refine LW.e rfl (Ef.call (Bp.frames B g b 2 4 8 0 gl (y :: List.replicate 1 fa1) (by simp) (by omega)) Tryd.func13 rfl rfl rfl ?_)
            rintro _ _ ⟨p7, c7, rfl, rfl⟩
            try simp only [List.cons_append, List.nil_append]
            refine LW.own (fun w ho => ?_)
            obtain ⟨g7, rfl⟩ : ∃ g7, p7 = some ⟨g7, 0, none⟩ := (ho.slice_at (p := p7) (m := 2) (c := c7)).2.1 (by omega)
            clear ho
            refine LW.q rfl (Qt.index 0 (e := 3) (sz := 1) (by kernel_rfl) rfl rfl rfl (by omega)) ?_
            refine LW.e0 rfl (Ef.store1 (by kernel_rfl) rfl rfl rfl (by first | (simp; done) | (simp; omega)) ?_)
            try simp only [List.set_cons_zero, List.set_cons_succ]
            refine LW.done ?_
            refine T.seq ?_
            refine T.region ?_
            refine LW.q rfl (Qt.move rfl) ?_
            refine LW.q rfl (Qt.str y.b (by kernel_rfl) (by kernel_rfl) rfl (fun _ ho => ho.reads_row y3)) ?_
            refine LW.q rfl (Qt.move rfl) ?_
            refine LW.q rfl (Qt.eqlS rfl rfl) ?_
            refine LW.q rfl (Qt.move rfl) ?_
            first | refine LW.gT (t := 134) rfl rfl ?_ | refine LW.gT (t := 134) rfl (decide_eq_true (rfl)) ?_ | refine LW.gT (t := 134) rfl (rfl) ?_
            refine LW.q rfl (Qt.move rfl) ?_
            refine LW.q rfl (Qt.nilCheck rfl) ?_
            refine LW.q rfl (Qt.fieldAddr (off := 2) (by kernel_rfl) rfl) ?_
            first | refine LW.q rfl (Qt.load (by kernel_rfl) rfl rfl) ?_ | refine LW.q rfl (Qt.load (by kernel_rfl) rfl (map_at _ _ _ (by omega))) ?_ | refine LW.q rfl (Qt.load (by kernel_rfl) rfl (flat_cell0 _ _ _ (by intros; rfl) _ (by omega) (by rfl))) ?_ | refine LW.q rfl (Qt.load (by kernel_rfl) rfl (flat_cell _ _ _ (by intros; rfl) _ _ (by omega) (by rfl))) ?_ | refine LW.q rfl (Qt.load (by kernel_rfl) rfl (bytes_at _ _ (by omega))) ?_
            refine LW.e rfl (Ef.call (Bp.frames B g b 2 4 8 0 gl (y :: List.replicate 1 fa1) (by simp) (by omega)) Tryd.func13 rfl rfl rfl ?_)
            rintro _ _ ⟨p8, c8, rfl, rfl⟩
            try simp only [List.cons_append, List.nil_append]
            refine LW.own (fun w ho => ?_)
            obtain ⟨g8, rfl⟩ : ∃ g8, p8 = some ⟨g8, 0, none⟩ := (ho.slice_at (p := p8) (m := 2) (c := c8)).2.1 (by omega)
            clear ho
            refine LW.q rfl (Qt.index 0 (e := 3) (sz := 1) (by kernel_rfl) rfl rfl rfl (by omega)) ?_
            refine LW.q rfl (Qt.load (v := .int .i64 n) (by kernel_rfl) rfl (by simp [y1])) ?_
            refine LW.q rfl (Qt.move rfl) ?_
            refine LW.q rfl (Qt.eql rfl rfl) ?_
            refine LW.q rfl (Qt.pick rfl rfl) ?_
            refine LW.q rfl (Qt.assign rfl) ?_
            refine LW.done ?_
            refine T.ret ?_
            exact ⟨.inl rfl, _, _, res [_] rfl ⟨rvT rfl, trivial⟩, ⟨by simp [outV], rfl⟩, Sub.any⟩
end Go.Proofs.YtegohgaccmkigaaDoor
