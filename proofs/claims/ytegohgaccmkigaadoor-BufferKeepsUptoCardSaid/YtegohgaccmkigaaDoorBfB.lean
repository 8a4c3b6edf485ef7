/- The package buffer: pinned, Unpin, Bytes, Put, Frames, Pages. Conditions: sizes; that what is handed in can be read. -/
import Derived.Test.YtegohgaccmkigaaDoorBfA
set_option linter.unusedSimpArgs false
set_option linter.unusedVariables false
namespace Go.Proofs.YtegohgaccmkigaaDoor
open Go.RowKit

theorem Bf.elemI : ElemOk Tryd.prog 38 3 1 8 := .mk' (.int .i64 0) Tryd.underlying38 (by kernel_rfl) rfl (by omega)
/-- Frame i is the first with this page. -/
structure Fd (Fs : List Fm) (page : Int) (i : Nat) (x : Fm) : Prop where
  at_ : Fs[i]? = some x
  pg : x.page = page
  pos : 0 ≤ page
  first : ∀ (j : Nat), j < i → ∀ y : Fm, Fs[j]? = some y → y.page ≠ page

set_option maxHeartbeats 1000000 in
set_option maxRecDepth 100000 in
theorem Bf.pinned_some (B : Base) (g b gf n first count hand : Nat) (pl : Option Addr) (nl cl : Nat) (Fs : List Fm) (page : Int) (i : Nat) (x : Fm) (hn : Fs.length = n) (hn2 : n ≤ 4096) (hx : Fd Fs page i x) (hpin : 0 < x.pins) :
    Fn Tryd.prog B 36 #[.pointer (some ⟨g, 0, none⟩), .int .i64 page] [poolB g b gf n first count hand pl nl cl, fmR gf n Fs] (fun u l => u = .pointer (some ⟨gf, 0 + i * 6, none⟩) ∧ l = [poolB g b gf n first count hand pl nl cl, fmR gf n Fs]) := by
  refine Fn.enter2 19 Tryd.func36 rfl rfl (Nat.le_of_ble_eq_true rfl) (fun F => ?_)
  try simp only [List.cons_append, List.nil_append]
  refine T.seq ?_
  refine T.region ?_
  refine LW.q rfl (Qt.assign rfl) ?_
  refine LW.done ?_
  refine T.seq ?_
  refine T.seq ?_
  refine T.region ?_
  refine LW.q rfl (Qt.move rfl) ?_
  refine LW.q rfl (Qt.move rfl) ?_
  refine LW.e rfl (Ef.call (Bf.find_some B g b gf n first count hand pl nl cl Fs page i x hn hn2 hx.at_ hx.pg hx.pos hx.first) Tryd.func34 rfl rfl rfl ?_)
  rintro _ _ ⟨rfl, rfl⟩
  try simp only [List.cons_append, List.nil_append]
  refine LW.q rfl (Qt.assign rfl) ?_
  refine LW.done ?_
  refine T.seq ?_
  refine T.region ?_
  refine LW.q rfl (Qt.move rfl) ?_
  first | refine LW.q rfl (Qt.neqNil (by kernel_rfl) rfl rfl) ?_ | refine LW.q rfl (Qt.neqNN (by kernel_rfl) rfl rfl) ?_
  refine LW.q rfl (Qt.move rfl) ?_
  first | refine LW.gT (t := 11) rfl rfl ?_ | refine LW.gT (t := 11) rfl (decide_eq_true (by omega)) ?_ | refine LW.gT (t := 11) rfl (by omega) ?_
  refine LW.q rfl (Qt.move rfl) ?_
  refine LW.q rfl (Qt.nilCheck rfl) ?_
  refine LW.q rfl (Qt.fieldAddr (off := 3) (by kernel_rfl) rfl) ?_
  refine LW.q rfl (Qt.load (v := .int .i64 x.pins) (by kernel_rfl) rfl (fm_at hx.at_ 3 (by omega))) ?_
  refine LW.q rfl (Qt.gtr rfl rfl) ?_
  refine LW.q rfl (Qt.pick rfl rfl) ?_
  refine LW.done ?_
  first | refine T.condT rfl ?_ | refine T.condPT rfl (by omega) ?_ | refine T.condBT rfl (by omega) ?_
  refine T.seq ?_
  refine T.region ?_
  refine LW.q rfl (Qt.move rfl) ?_
  refine LW.q rfl (Qt.assign rfl) ?_
  refine LW.done ?_
  refine T.ret ?_
  exact ⟨.inl rfl, _, _, res [_] rfl ⟨rvT rfl, trivial⟩, ⟨rfl, rfl⟩, Sub.any⟩
set_option maxHeartbeats 1000000 in
set_option maxRecDepth 100000 in
theorem Bf.unpin (B : Base) (g b gf n first count hand : Nat) (pl : Option Addr) (nl cl : Nat) (Fs : List Fm) (page : Int) (i : Nat) (x : Fm) (hn : Fs.length = n) (hn2 : n ≤ 4096) (hx : Fd Fs page i x) (hpin : 0 < x.pins) (hpin2 : x.pins < 2 ^ 62) :
    Fn Tryd.prog B 22 #[.pointer (some ⟨g, 0, none⟩), .int .i64 page] [poolB g b gf n first count hand pl nl cl, fmR gf n Fs] (fun u l => u = .int .i64 0 ∧ l = [poolB g b gf n first count hand pl nl cl, fmR gf n (Fs.set i { x with pins := x.pins - 1 })]) := by
  have hi : i < Fs.length := (List.getElem?_eq_some_iff.1 hx.at_).1
  have hfl := fm_len Fs
  refine Fn.enter2 18 Tryd.func22 rfl rfl (Nat.le_of_ble_eq_true rfl) (fun F => ?_)
  try simp only [List.cons_append, List.nil_append]
  refine T.seq ?_
  refine T.region ?_
  refine LW.q rfl (Qt.assign rfl) ?_
  refine LW.done ?_
  refine T.seq ?_
  refine T.region ?_
  refine LW.q rfl (Qt.move rfl) ?_
  refine LW.q rfl (Qt.move rfl) ?_
  refine LW.e rfl (Ef.call (Bf.pinned_some B g b gf n first count hand pl nl cl Fs page i x hn hn2 hx hpin) Tryd.func36 rfl rfl rfl ?_)
  rintro _ _ ⟨rfl, rfl⟩
  try simp only [List.cons_append, List.nil_append]
  refine LW.q rfl (Qt.assign rfl) ?_
  refine LW.done ?_
  refine T.seq ?_
  refine T.seq ?_
  refine T.region ?_
  refine LW.q rfl (Qt.move rfl) ?_
  first | refine LW.q rfl (Qt.eqlNil (by kernel_rfl) rfl rfl) ?_ | refine LW.q rfl (Qt.eqlNN (by kernel_rfl) rfl rfl) ?_
  refine LW.done ?_
  first | refine T.condF rfl ?_ | refine T.condPF rfl (by omega) ?_ | refine T.condBF rfl (by omega) ?_
  refine T.skip ?_
  refine T.seq ?_
  refine T.region ?_
  refine LW.q rfl (Qt.move rfl) ?_
  refine LW.q rfl (Qt.nilCheck rfl) ?_
  refine LW.q rfl (Qt.fieldAddr (off := 3) (by kernel_rfl) rfl) ?_
  refine LW.q rfl (Qt.load (v := .int .i64 x.pins) (by kernel_rfl) rfl (fm_at hx.at_ 3 (by omega))) ?_
  refine LW.q rfl (Qt.sub rfl rfl (wr64 (by omega) (by omega))) ?_
  refine LW.q rfl (Qt.nilCheck rfl) ?_
  refine LW.q rfl (Qt.fieldAddr (off := 3) (by kernel_rfl) rfl) ?_
  refine LW.e0 rfl (Ef.store1 (by kernel_rfl) rfl rfl rfl (by omega) ?_)
  rw [fm_set (y := { x with pins := x.pins - 1 }) hx.at_ 3 (by omega) _ rfl]
  refine LW.done ?_
  refine T.seq ?_
  refine T.region ?_
  refine LW.q rfl (Qt.assign rfl) ?_
  refine LW.done ?_
  refine T.ret ?_
  exact ⟨.inl rfl, _, _, res [_] rfl ⟨rvT rfl, trivial⟩, ⟨rfl, rfl⟩, Sub.any⟩
set_option maxHeartbeats 1000000 in
set_option maxRecDepth 100000 in
theorem Bf.bytes (B : Base) (S : List Assn) (g b gf n first count hand : Nat) (pl : Option Addr) (nl cl : Nat) (Fs : List Fm) (page : Int) (i : Nat) (x : Fm) (hn : Fs.length = n) (hn2 : n ≤ 4096) (hx : Fd Fs page i x) (hpin : 0 < x.pins) (hv : RdV B S (.slice x.p x.b.length x.c) (bytesV x.b)) (hb : x.b.length < 2 ^ 40) :
    Fn Tryd.prog B 17 #[.pointer (some ⟨g, 0, none⟩), .int .i64 page] (poolB g b gf n first count hand pl nl cl :: fmR gf n Fs :: S) (fun u l => ∃ p c, u = .tuple #[.slice p x.b.length c, .int .i64 0] ∧ (0 < x.b.length → ∃ g, p = some ⟨g, 0, none⟩) ∧ l = rB (.slice p x.b.length c) x.b.length x.b :: poolB g b gf n first count hand pl nl cl :: fmR gf n Fs :: S) := by
  refine Fn.enter2 17 Tryd.func17 rfl rfl (Nat.le_of_ble_eq_true rfl) (fun F => ?_)
  try simp only [List.cons_append, List.nil_append]
  refine T.seq ?_
  refine T.region ?_
  refine LW.q rfl (Qt.assign rfl) ?_
  refine LW.q rfl (Qt.assign rfl) ?_
  refine LW.done ?_
  refine T.seq ?_
  refine T.region ?_
  refine LW.q rfl (Qt.move rfl) ?_
  refine LW.q rfl (Qt.move rfl) ?_
  refine LW.e rfl (Ef.call (Bf.pinned_some B g b gf n first count hand pl nl cl Fs page i x hn hn2 hx hpin) Tryd.func36 rfl rfl rfl ?_)
  rintro _ _ ⟨rfl, rfl⟩
  try simp only [List.cons_append, List.nil_append]
  refine LW.q rfl (Qt.assign rfl) ?_
  refine LW.done ?_
  refine T.seq ?_
  refine T.seq ?_
  refine T.region ?_
  refine LW.q rfl (Qt.move rfl) ?_
  first | refine LW.q rfl (Qt.eqlNil (by kernel_rfl) rfl rfl) ?_ | refine LW.q rfl (Qt.eqlNN (by kernel_rfl) rfl rfl) ?_
  refine LW.done ?_
  first | refine T.condF rfl ?_ | refine T.condPF rfl (by omega) ?_ | refine T.condBF rfl (by omega) ?_
  refine T.skip ?_
  refine T.seq ?_
  refine T.region ?_
  refine LW.q rfl (Qt.move rfl) ?_
  refine LW.q rfl (Qt.nilCheck rfl) ?_
  refine LW.q rfl (Qt.fieldAddr (off := 1) (by kernel_rfl) rfl) ?_
  refine LW.q rfl (Qt.load (v := .slice x.p x.b.length x.c) (by kernel_rfl) rfl (fm_at hx.at_ 1 (by omega))) ?_
  refine LW.e rfl (Ef.call (Bc.clone B S (.slice x.p x.b.length x.c) x.b x.b.length rfl hv hb) Tryd.func37 rfl rfl rfl ?_)
  rintro _ _ ⟨p5, c5, rfl, hp5, rfl⟩
  try simp only [List.cons_append, List.nil_append]
  refine LW.q rfl (Qt.assign rfl) ?_
  refine LW.q rfl (Qt.assign rfl) ?_
  refine LW.done ?_
  refine T.ret ?_
  exact ⟨.inl rfl, _, _, res [_, _] rfl ⟨rvT rfl, rvT rfl, trivial⟩, ⟨_, _, rfl, hp5, rfl⟩, Sub.any⟩
set_option maxHeartbeats 1000000 in
set_option maxRecDepth 100000 in
theorem Bf.put_length (B : Base) (g b gf n first count hand : Nat) (pl : Option Addr) (nl cl : Nat) (Fs : List Fm) (page : Int) (i : Nat) (x : Fm) (hn : Fs.length = n) (hn2 : n ≤ 4096) (hx : Fd Fs page i x) (hpin : 0 < x.pins) (a : Option Addr) (m ca : Nat) (mark : Int) (hm : m ≠ 256) :
    Fn Tryd.prog B 16 #[.pointer (some ⟨g, 0, none⟩), .int .i64 page, .slice a m ca, .int .i64 mark] [poolB g b gf n first count hand pl nl cl, fmR gf n Fs] (fun u l => u = .int .i64 10 ∧ l = [poolB g b gf n first count hand pl nl cl, fmR gf n Fs]) := by
  refine Fn.enter4 37 Tryd.func16 rfl rfl (Nat.le_of_ble_eq_true rfl) (fun F => ?_)
  try simp only [List.cons_append, List.nil_append]
  refine T.seq ?_
  refine T.region ?_
  refine LW.q rfl (Qt.assign rfl) ?_
  refine LW.done ?_
  refine T.seq ?_
  refine T.region ?_
  refine LW.q rfl (Qt.move rfl) ?_
  refine LW.q rfl (Qt.move rfl) ?_
  refine LW.e rfl (Ef.call (Bf.pinned_some B g b gf n first count hand pl nl cl Fs page i x hn hn2 hx hpin) Tryd.func36 rfl rfl rfl ?_)
  rintro _ _ ⟨rfl, rfl⟩
  try simp only [List.cons_append, List.nil_append]
  refine LW.q rfl (Qt.assign rfl) ?_
  refine LW.done ?_
  refine T.seq ?_
  refine T.block ?_
  refine T.seq ?_
  refine T.region ?_
  refine LW.q rfl (Qt.move rfl) ?_
  first | refine LW.q rfl (Qt.eqlNil (by kernel_rfl) rfl rfl) ?_ | refine LW.q rfl (Qt.eqlNN (by kernel_rfl) rfl rfl) ?_
  refine LW.q rfl (Qt.assign rfl) ?_
  refine LW.done ?_
  first | refine T.condF rfl ?_ | refine T.condPF rfl (by omega) ?_ | refine T.condBF rfl (by omega) ?_
  refine T.seq ?_
  refine T.region ?_
  refine LW.q rfl (Qt.move rfl) ?_
  refine LW.q rfl (Qt.len (e := 5) (sz := 1) (by kernel_rfl) rfl) ?_
  refine LW.q rfl (Qt.neq rfl rfl) ?_
  refine LW.q rfl (Qt.assign rfl) ?_
  refine LW.done ?_
  first | refine T.condT rfl ?_ | refine T.condPT rfl (by omega) ?_ | refine T.condBT rfl (by omega) ?_
  refine T.seq ?_
  refine T.region ?_
  refine LW.q rfl (Qt.assign rfl) ?_
  refine LW.done ?_
  refine T.ret ?_
  exact ⟨.inl rfl, _, _, res [_] rfl ⟨rvT rfl, trivial⟩, ⟨rfl, rfl⟩, Sub.any⟩
set_option maxHeartbeats 2000000 in
set_option maxRecDepth 100000 in
theorem Bf.put (B : Base) (S : List Assn) (g b gf n first count hand : Nat) (pl : Option Addr) (nl cl : Nat) (Fs : List Fm) (page : Int) (i : Nat) (x : Fm) (hn : Fs.length = n) (hn2 : n ≤ 4096) (hx : Fd Fs page i x) (hpin : 0 < x.pins) (a : Option Addr) (ca : Nat) (d : List UInt8) (mark : Int) (hd : d.length = 256) (hv : RdV B S (.slice a 256 ca) (bytesV d)) :
    Fn Tryd.prog B 16 #[.pointer (some ⟨g, 0, none⟩), .int .i64 page, .slice a 256 ca, .int .i64 mark] (poolB g b gf n first count hand pl nl cl :: fmR gf n Fs :: S)
      (fun u l => ∃ p c, u = .int .i64 0 ∧ (∃ g, p = some ⟨g, 0, none⟩) ∧ l = rB (.slice p 256 c) 256 d :: poolB g b gf n first count hand pl nl cl :: fmR gf n (Fs.set i { x with mark := max x.mark mark, dirty := true, p := p, c := c, b := d }) :: S) := by
  have hi : i < Fs.length := (List.getElem?_eq_some_iff.1 hx.at_).1
  have hfl := fm_len Fs
  refine Fn.enter4 37 Tryd.func16 rfl rfl (Nat.le_of_ble_eq_true rfl) (fun F => ?_)
  try simp only [List.cons_append, List.nil_append]
  refine T.seq ?_
  refine T.region ?_
  refine LW.q rfl (Qt.assign rfl) ?_
  refine LW.done ?_
  refine T.seq ?_
  refine T.region ?_
  refine LW.q rfl (Qt.move rfl) ?_
  refine LW.q rfl (Qt.move rfl) ?_
  refine LW.e rfl (Ef.call (Bf.pinned_some B g b gf n first count hand pl nl cl Fs page i x hn hn2 hx hpin) Tryd.func36 rfl rfl rfl ?_)
  rintro _ _ ⟨rfl, rfl⟩
  try simp only [List.cons_append, List.nil_append]
  refine LW.q rfl (Qt.assign rfl) ?_
  refine LW.done ?_
  refine T.seq ?_
  refine T.block ?_
  refine T.seq ?_
  refine T.region ?_
  refine LW.q rfl (Qt.move rfl) ?_
  first | refine LW.q rfl (Qt.eqlNil (by kernel_rfl) rfl rfl) ?_ | refine LW.q rfl (Qt.eqlNN (by kernel_rfl) rfl rfl) ?_
  refine LW.q rfl (Qt.assign rfl) ?_
  refine LW.done ?_
  first | refine T.condF rfl ?_ | refine T.condPF rfl (by omega) ?_ | refine T.condBF rfl (by omega) ?_
  refine T.seq ?_
  refine T.region ?_
  refine LW.q rfl (Qt.move rfl) ?_
  refine LW.q rfl (Qt.len (e := 5) (sz := 1) (by kernel_rfl) rfl) ?_
  refine LW.q rfl (Qt.neq rfl rfl) ?_
  refine LW.q rfl (Qt.assign rfl) ?_
  refine LW.done ?_
  first | refine T.condF rfl ?_ | refine T.condPF rfl (by omega) ?_ | refine T.condBF rfl (by omega) ?_
  refine T.skip ?_
  refine T.seq ?_
  refine T.region ?_
  refine LW.q rfl (Qt.move rfl) ?_
  refine LW.q rfl (Qt.move rfl) ?_
  refine LW.q rfl (Qt.move rfl) ?_
  refine LW.e rfl (Ef.call (Bc.clone B S (.slice a 256 ca) d 256 hd hv (by omega)) Tryd.func37 rfl rfl rfl ?_)
  rintro _ _ ⟨p5, c5, rfl, hp5, rfl⟩
  try simp only [List.cons_append, List.nil_append]
  have hg5 := hp5 (by omega)
  refine LW.q rfl (Qt.nilCheck rfl) ?_
  refine LW.q rfl (Qt.fieldAddr (off := 1) (by kernel_rfl) rfl) ?_
  refine LW.e0 rfl (Ef.store1 (by kernel_rfl) rfl rfl rfl (by omega) ?_)
  rw [fm_set (y := { x with p := p5, c := c5, b := d }) hx.at_ 1 (by omega) _ (by simp only [fmC, List.set_cons_zero, List.set_cons_succ, hd])]
  have h2 : (Fs.set i { x with p := p5, c := c5, b := d })[i]? = some { x with p := p5, c := c5, b := d } := by rw [List.getElem?_set_self hi]
  have hfl2 := fm_len (Fs.set i { x with p := p5, c := c5, b := d })
  rw [List.length_set] at hfl2
  refine LW.q rfl (Qt.nilCheck rfl) ?_
  refine LW.q rfl (Qt.fieldAddr (off := 4) (by kernel_rfl) rfl) ?_
  refine LW.e0 rfl (Ef.store1 (by kernel_rfl) rfl rfl rfl (by omega) ?_)
  rw [fm_set (y := { x with p := p5, c := c5, b := d, dirty := true }) h2 4 (by omega) _ rfl, List.set_set]
  have h3 : (Fs.set i { x with p := p5, c := c5, b := d, dirty := true })[i]? = some { x with p := p5, c := c5, b := d, dirty := true } := by rw [List.getElem?_set_self hi]
  have hfl3 := fm_len (Fs.set i { x with p := p5, c := c5, b := d, dirty := true })
  rw [List.length_set] at hfl3
  refine LW.done ?_
  refine T.seq ?_
  refine T.region ?_
  refine LW.q rfl (Qt.move rfl) ?_
  refine LW.q rfl (Qt.move rfl) ?_
  refine LW.q rfl (Qt.nilCheck rfl) ?_
  refine LW.q rfl (Qt.fieldAddr (off := 2) (by kernel_rfl) rfl) ?_
  refine LW.q rfl (Qt.load (v := .int .i64 x.mark) (by kernel_rfl) rfl (fm_at h3 2 (by omega))) ?_
  refine LW.q rfl (Qt.move rfl) ?_
  refine LW.q rfl (Qt.max rfl rfl) ?_
  refine LW.q rfl (Qt.nilCheck rfl) ?_
  refine LW.q rfl (Qt.fieldAddr (off := 2) (by kernel_rfl) rfl) ?_
  refine LW.e0 rfl (Ef.store1 (by kernel_rfl) rfl rfl rfl (by omega) ?_)
  rw [fm_set (y := { x with p := p5, c := c5, b := d, dirty := true, mark := max x.mark mark }) h3 2 (by omega) _ rfl, List.set_set]
  refine LW.done ?_
  refine T.seq ?_
  refine T.region ?_
  refine LW.q rfl (Qt.assign rfl) ?_
  refine LW.done ?_
  refine T.ret ?_
  exact ⟨.inl rfl, _, _, res [_] rfl ⟨rvT rfl, trivial⟩, ⟨p5, c5, rfl, hg5, rfl⟩, Sub.any⟩
set_option maxHeartbeats 1000000 in
set_option maxRecDepth 100000 in
theorem Bf.frames (B : Base) (g b gf n first count hand : Nat) (pl : Option Addr) (nl cl : Nat) (Fs : List Fm) (hn : Fs.length = n) (hn2 : n ≤ 4096) :
    Fn Tryd.prog B 13 #[.pointer (some ⟨g, 0, none⟩)] [poolB g b gf n first count hand pl nl cl, fmR gf n Fs] (fun u l => ∃ p c, u = .slice p n c ∧ l = [row (.slice p n c) 3 1 n (Fs.map fun x => Value.int .i64 x.page), poolB g b gf n first count hand pl nl cl, fmR gf n Fs]) := by
  refine Fn.enter1 22 Tryd.func13 rfl rfl (Nat.le_of_ble_eq_true rfl) (fun F => ?_)
  try simp only [List.cons_append, List.nil_append]
  refine T.seq ?_
  refine T.region ?_
  refine LW.q rfl (Qt.assign rfl) ?_
  refine LW.done ?_
  refine T.seq ?_
  refine T.region ?_
  refine LW.q rfl (Qt.assign rfl) ?_
  refine LW.done ?_
  refine T.seq ?_
  refine T.seq ?_
  refine T.region ?_
  refine LW.q rfl (Qt.move rfl) ?_
  refine LW.q rfl (Qt.nilCheck rfl) ?_
  refine LW.q rfl (Qt.fieldAddr (off := 3) (by kernel_rfl) rfl) ?_
  first | refine LW.q rfl (Qt.load (by kernel_rfl) rfl rfl) ?_ | refine LW.q rfl (Qt.load (by kernel_rfl) rfl (map_at _ _ _ (by omega))) ?_ | refine LW.q rfl (Qt.load (by kernel_rfl) rfl (flat_cell0 _ _ _ (by intros; rfl) _ (by omega) (by rfl))) ?_ | refine LW.q rfl (Qt.load (by kernel_rfl) rfl (flat_cell _ _ _ (by intros; rfl) _ _ (by omega) (by rfl))) ?_ | refine LW.q rfl (Qt.load (by kernel_rfl) rfl (bytes_at _ _ (by omega))) ?_
  refine LW.q rfl (Qt.len (e := 81) (sz := 6) (by kernel_rfl) rfl) ?_
  refine LW.q rfl (Qt.move rfl) ?_
  refine LW.done ?_
  refine T.block ?_
  refine T.conv (l' := row (.slice none 0 0) 3 1 0 ((Fs.take 0).map fun x => Value.int .i64 x.page) :: poolB g b gf n first count hand pl nl cl :: fmR gf n Fs :: F) (fun w ho => ho.row_nil _ _) ?_
  refine T.loop (fun mz fz lz => ∃ (f0 : Fr) (k : Nat) (p : Option Addr) (c : Nat), (k ≤ n) ∧ mz = n - k ∧ fz = (upd (upd (upd (upd (upd f0 0 (.pointer (some ⟨g, 0, none⟩))) 3 (.slice p k c)) 9 (.slice (some ⟨gf, 0, none⟩) n n)) 11 (.int .i64 k)) 10 (.int .i64 n)) ∧ lz = row (.slice p k c) 3 1 k ((Fs.take k).map fun x => Value.int .i64 x.page) :: poolB g b gf n first count hand pl nl cl :: fmR gf n Fs :: F) ?_ ?_
  · refine ⟨_, _, ⟨_, 0, none, 0, Nat.zero_le _, rfl, (updS rfl (updS rfl (updS rfl (updS rfl (updS rfl rfl))))), rfl⟩, Sub.any⟩
  · skip
    rintro mz fz lz ⟨f0, k, p, c, hk, hmz, rfl, rfl⟩
    subst mz
    try simp only [List.cons_append, List.nil_append]
    refine T.seq ?_
    refine T.region ?_
    refine LW.q rfl (Qt.lss rfl rfl) ?_
    refine LW.done ?_
    refine T.seq ?_
    refine T.condP rfl (fun hlt => ?_) (fun hlt => ?_)
    · skip
      obtain ⟨y, hy⟩ : ∃ y, Fs[k]? = some y := ⟨_, List.getElem?_eq_getElem (by omega)⟩
      refine T.skip ?_
      refine T.seq ?_
      refine T.block ?_
      refine T.seq ?_
      refine T.region ?_
      refine LW.q rfl (Qt.index _ (e := 81) (sz := 6) (by kernel_rfl) rfl rfl rfl (by omega)) ?_
      refine LW.q rfl (Qt.loadAgg (fmC y) (by kernel_rfl) rfl (rdl_of fun j u hu => by have := fm_at hy j (by have := (List.getElem?_eq_some_iff.1 hu).1; simpa using this); rw [this]; exact hu)) ?_
      refine LW.e rfl (Ef.alloc [.int .i64 0, .slice none 0 0, .int .i64 0, .int .i64 0, .bool false, .bool false] (by unfold zeroB; kernel_rfl) ?_)
      intro g5
      refine LW.e0 rfl (Ef.store [_, _, _, _, _, _] (by kernel_rfl) rfl rfl rfl rfl (by simp) ?_)
      try simp only [splice, List.length_cons, List.length_nil, List.drop_succ_cons, List.cons_append, List.take_succ_cons, List.take_zero, List.drop_zero, List.nil_append, List.append_nil]
      refine LW.done ?_
      refine T.region ?_
      refine LW.q rfl (Qt.move rfl) ?_
      refine LW.q rfl (Qt.fieldAddr0 (by kernel_rfl) rfl) ?_
      first | refine LW.q rfl (Qt.load (by kernel_rfl) rfl rfl) ?_ | refine LW.q rfl (Qt.load (by kernel_rfl) rfl (map_at _ _ _ (by omega))) ?_ | refine LW.q rfl (Qt.load (by kernel_rfl) rfl (flat_cell0 _ _ _ (by intros; rfl) _ (by omega) (by rfl))) ?_ | refine LW.q rfl (Qt.load (by kernel_rfl) rfl (flat_cell _ _ _ (by intros; rfl) _ _ (by omega) (by rfl))) ?_ | refine LW.q rfl (Qt.load (by kernel_rfl) rfl (bytes_at _ _ (by omega))) ?_
      refine LW.e rfl (Ef.one [_] (e := 3) (sz := 1) (by kernel_rfl) ⟨.int .i64 0, by kernel_rfl, rfl⟩ rfl rfl rfl (by omega) (by omega) ?_)
      intro g18
      refine LW.e rfl (Ef.append Bf.elemI rfl rfl (SrcOf.blk (by kernel_rfl) rfl (by simp [Value.oneCell'])) (by unfold maxLen; omega) (by omega) ?_)
      rintro p2 c2 hp2
      try simp only [List.cons_append, List.nil_append]
      rw [show (Fs.take k).map (fun x => Value.int .i64 x.page) ++ [Value.int .i64 y.page] = (Fs.take (k + 1)).map (fun x => Value.int .i64 x.page) by rw [List.take_add_one, hy]; simp]
      refine LW.q rfl (Qt.assign rfl) ?_
      refine LW.done ?_
      refine T.region ?_
      refine LW.q rfl (Qt.add rfl rfl (wr64 (by omega) (by omega))) ?_
      refine LW.q rfl (Qt.move rfl) ?_
      refine LW.done ?_
      refine ⟨_, ?_, _, ⟨_, k + 1, p2, c2, by omega, rfl, (updS rfl (updS rfl (updS rfl (updS rfl (updS rfl rfl))))), rfl⟩, Sub.any⟩
      first | omega | (simp; omega)
    · skip
      obtain rfl : k = n := by omega
      rw [← hn, List.take_length, hn]
      refine T.exit ?_
      refine T.seq ?_
      refine T.region ?_
      refine LW.q rfl (Qt.move rfl) ?_
      refine LW.q rfl (Qt.assign rfl) ?_
      refine LW.done ?_
      refine T.ret ?_
      exact ⟨.inl rfl, _, _, res [_] rfl ⟨rvT rfl, trivial⟩, ⟨_, _, rfl, rfl⟩, Sub.any⟩
theorem Bf.pages (B : Base) (g b gf n first count hand : Nat) (pl : Option Addr) (nl cl : Nat) :
    Fn Tryd.prog B 12 #[.pointer (some ⟨g, 0, none⟩)] [poolB g b gf n first count hand pl nl cl] (fun u l => u = .int .i64 count ∧ l = [poolB g b gf n first count hand pl nl cl]) := by
  refine Fn.enter1 7 Tryd.func12 rfl rfl (Nat.le_of_ble_eq_true rfl) (fun F => ?_)
  try simp only [List.cons_append, List.nil_append]
  refine T.seq ?_
  refine T.region ?_
  refine LW.q rfl (Qt.assign rfl) ?_
  refine LW.done ?_
  refine T.seq ?_
  refine T.region ?_
  refine LW.q rfl (Qt.move rfl) ?_
  refine LW.q rfl (Qt.nilCheck rfl) ?_
  refine LW.q rfl (Qt.fieldAddr (off := 2) (by kernel_rfl) rfl) ?_
  first | refine LW.q rfl (Qt.load (by kernel_rfl) rfl rfl) ?_ | refine LW.q rfl (Qt.load (by kernel_rfl) rfl (map_at _ _ _ (by omega))) ?_ | refine LW.q rfl (Qt.load (by kernel_rfl) rfl (flat_cell0 _ _ _ (by intros; rfl) _ (by omega) (by rfl))) ?_ | refine LW.q rfl (Qt.load (by kernel_rfl) rfl (flat_cell _ _ _ (by intros; rfl) _ _ (by omega) (by rfl))) ?_ | refine LW.q rfl (Qt.load (by kernel_rfl) rfl (bytes_at _ _ (by omega))) ?_
  refine LW.q rfl (Qt.assign rfl) ?_
  refine LW.done ?_
  refine T.ret ?_
  exact ⟨.inl rfl, _, _, res [_] rfl ⟨rvT rfl, trivial⟩, ⟨rfl, rfl⟩, Sub.any⟩
end Go.Proofs.YtegohgaccmkigaaDoor
