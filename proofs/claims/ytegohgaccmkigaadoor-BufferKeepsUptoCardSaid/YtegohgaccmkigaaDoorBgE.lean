/- The package buffer: Unpin, Bytes, Put over a pool as a whole; a new pool; the statements' laid. Conditions: sizes; the frames are in order. -/
import Derived.Test.YtegohgaccmkigaaDoorBfE
set_option linter.unusedSimpArgs false
set_option linter.unusedVariables false
namespace Go.Proofs.YtegohgaccmkigaaDoor
open Go.RowKit

theorem pinnedA_some {A : List Fa} {page : Int} {i : Nat} {x : Fa} (h : pinnedA A page = some (i, x)) : findA A page = some i ∧ A[i]? = some x ∧ 0 < x.pins := by
  unfold pinnedA at h
  split at h
  · cases h
  · rename_i j hj
    split at h
    · cases h
    · rename_i y hy
      split at h
      · simp only [Option.some.injEq, Prod.mk.injEq] at h
        obtain ⟨rfl, rfl⟩ := h
        exact ⟨hj, hy, by assumption⟩
      · cases h
theorem pinnedA_none {A : List Fa} {page : Int} (h : pinnedA A page = none) : findA A page = none ∨ ∃ i x, findA A page = some i ∧ A[i]? = some x ∧ ¬ 0 < x.pins := by
  unfold pinnedA at h
  split at h
  · rename_i hj; exact .inl hj
  · rename_i j hj
    obtain ⟨_, x, hx, _⟩ := findA_some hj
    rw [hx] at h
    dsimp only at h
    split at h
    · cases h
    · rename_i hp; exact .inr ⟨j, x, hj, hx, hp⟩

set_option maxHeartbeats 1000000 in
set_option maxRecDepth 100000 in
theorem Bf.pinned_low (B : Base) (g b gf n first count hand : Nat) (pl : Option Addr) (nl cl : Nat) (Fs : List Fm) (page : Int) (i : Nat) (x : Fm) (hn : Fs.length = n) (hn2 : n ≤ 4096) (hx : Fd Fs page i x) (hpin : ¬ 0 < x.pins) :
    Fn Tryd.prog B 36 #[.pointer (some ⟨g, 0, none⟩), .int .i64 page] [poolB g b gf n first count hand pl nl cl, fmR gf n Fs] (fun u l => u = .pointer none ∧ l = [poolB g b gf n first count hand pl nl cl, fmR gf n Fs]) := by
  refine Fn.enter2 19 Tryd.func36 rfl rfl (Nat.le_of_ble_eq_true rfl) (fun F => ?_)
  try simp only [List.cons_append, List.nil_append]
  refine T.seq ?_
  refine T.region ?_
  refine LW.q rfl (Qt.assign rfl) ?_
  refine LW.done ?_
  refine T.seq ?_
  refine T.seq ?_
  refine T.region ?_
  refine LW.q rfl (Qt.move rfl) ?_
  refine LW.q rfl (Qt.move rfl) ?_
  refine LW.e rfl (Ef.call (Bf.find_some B g b gf n first count hand pl nl cl Fs page i x hn hn2 hx.at_ hx.pg hx.pos hx.first) Tryd.func34 rfl rfl rfl ?_)
  rintro _ _ ⟨rfl, rfl⟩
  try simp only [List.cons_append, List.nil_append]
  refine LW.q rfl (Qt.assign rfl) ?_
  refine LW.done ?_
  refine T.seq ?_
  refine T.region ?_
  refine LW.q rfl (Qt.move rfl) ?_
  first | refine LW.q rfl (Qt.neqNil (by kernel_rfl) rfl rfl) ?_ | refine LW.q rfl (Qt.neqNN (by kernel_rfl) rfl rfl) ?_
  refine LW.q rfl (Qt.move rfl) ?_
  first | refine LW.gT (t := 11) rfl rfl ?_ | refine LW.gT (t := 11) rfl (decide_eq_true (by omega)) ?_ | refine LW.gT (t := 11) rfl (by omega) ?_
  refine LW.q rfl (Qt.move rfl) ?_
  refine LW.q rfl (Qt.nilCheck rfl) ?_
  refine LW.q rfl (Qt.fieldAddr (off := 3) (by kernel_rfl) rfl) ?_
  refine LW.q rfl (Qt.load (v := .int .i64 x.pins) (by kernel_rfl) rfl (fm_at hx.at_ 3 (by omega))) ?_
  refine LW.q rfl (Qt.gtr rfl rfl) ?_
  refine LW.q rfl (Qt.pick rfl rfl) ?_
  refine LW.done ?_
  first | refine T.condF rfl ?_ | refine T.condPF rfl (by omega) ?_ | refine T.condBF rfl (by omega) ?_
  refine T.skip ?_
  refine T.seq ?_
  refine T.region ?_
  refine LW.q rfl (Qt.assign rfl) ?_
  refine LW.done ?_
  refine T.ret ?_
  exact ⟨.inl rfl, _, _, res [_] rfl ⟨rvT rfl, trivial⟩, ⟨rfl, rfl⟩, Sub.any⟩
set_option maxHeartbeats 1000000 in
set_option maxRecDepth 100000 in
theorem Bf.pinned_miss (B : Base) (g b gf n first count hand : Nat) (pl : Option Addr) (nl cl : Nat) (Fs : List Fm) (page : Int) (hn : Fs.length = n) (hn2 : n ≤ 4096) (hno : ∀ (j : Nat) (y : Fm), Fs[j]? = some y → y.page = page → page < 0) :
    Fn Tryd.prog B 36 #[.pointer (some ⟨g, 0, none⟩), .int .i64 page] [poolB g b gf n first count hand pl nl cl, fmR gf n Fs] (fun u l => u = .pointer none ∧ l = [poolB g b gf n first count hand pl nl cl, fmR gf n Fs]) := by
  refine Fn.enter2 19 Tryd.func36 rfl rfl (Nat.le_of_ble_eq_true rfl) (fun F => ?_)
  try simp only [List.cons_append, List.nil_append]
  refine T.seq ?_
  refine T.region ?_
  refine LW.q rfl (Qt.assign rfl) ?_
  refine LW.done ?_
  refine T.seq ?_
  refine T.seq ?_
  refine T.region ?_
  refine LW.q rfl (Qt.move rfl) ?_
  refine LW.q rfl (Qt.move rfl) ?_
  refine LW.e rfl (Ef.call (Bf.find_none B g b gf n first count hand pl nl cl Fs page hn hn2 hno) Tryd.func34 rfl rfl rfl ?_)
  rintro _ _ ⟨rfl, rfl⟩
  try simp only [List.cons_append, List.nil_append]
  refine LW.q rfl (Qt.assign rfl) ?_
  refine LW.done ?_
  refine T.seq ?_
  refine T.region ?_
  refine LW.q rfl (Qt.move rfl) ?_
  first | refine LW.q rfl (Qt.neqNil (by kernel_rfl) rfl rfl) ?_ | refine LW.q rfl (Qt.neqNN (by kernel_rfl) rfl rfl) ?_
  refine LW.q rfl (Qt.move rfl) ?_
  first | refine LW.gF (t := 11) rfl rfl ?_ | refine LW.gF (t := 11) rfl (decide_eq_false (by omega)) ?_ | refine LW.gF (t := 11) rfl (by omega) ?_
  refine LW.s rfl ?_
  refine LW.s rfl ?_
  refine LW.s rfl ?_
  refine LW.s rfl ?_
  refine LW.s rfl ?_
  refine LW.q rfl (Qt.pick rfl rfl) ?_
  refine LW.done ?_
  first | refine T.condF rfl ?_ | refine T.condPF rfl (by omega) ?_ | refine T.condBF rfl (by omega) ?_
  refine T.skip ?_
  refine T.seq ?_
  refine T.region ?_
  refine LW.q rfl (Qt.assign rfl) ?_
  refine LW.done ?_
  refine T.ret ?_
  exact ⟨.inl rfl, _, _, res [_] rfl ⟨rvT rfl, trivial⟩, ⟨rfl, rfl⟩, Sub.any⟩
theorem Bf.pinned_no (B : Base) (g b gf n first count hand : Nat) (pl : Option Addr) (nl cl : Nat) (Fs : List Fm) (page : Int) (hn : Fs.length = n) (hn2 : n ≤ 4096) (h : pinnedA (Fs.map Fm.a) page = none) :
    Fn Tryd.prog B 36 #[.pointer (some ⟨g, 0, none⟩), .int .i64 page] [poolB g b gf n first count hand pl nl cl, fmR gf n Fs] (fun u l => u = .pointer none ∧ l = [poolB g b gf n first count hand pl nl cl, fmR gf n Fs]) := by
  rcases pinnedA_none h with h | ⟨i, x, h1, h2, h3⟩
  · refine Bf.pinned_miss B g b gf n first count hand pl nl cl Fs page hn hn2 fun j y hy e => ?_
    by_cases h0 : 0 ≤ page
    · exact absurd e (nofd_of rfl h h0 j y hy)
    · omega
  · obtain ⟨z, hz⟩ := fd_of rfl h1
    refine Bf.pinned_low B g b gf n first count hand pl nl cl Fs page i z hn hn2 hz ?_
    have := map_a_at rfl hz.at_
    rw [h2] at this
    cases this
    exact h3
set_option maxRecDepth 100000 in
theorem Bf.unpin_no (B : Base) (g b gf n first count hand : Nat) (pl : Option Addr) (nl cl : Nat) (Fs : List Fm) (page : Int) (hn : Fs.length = n) (hn2 : n ≤ 4096) (h : pinnedA (Fs.map Fm.a) page = none) :
    Fn Tryd.prog B 22 #[.pointer (some ⟨g, 0, none⟩), .int .i64 page] [poolB g b gf n first count hand pl nl cl, fmR gf n Fs] (fun u l => u = .int .i64 61 ∧ l = [poolB g b gf n first count hand pl nl cl, fmR gf n Fs]) := by
  refine Fn.enter2 18 Tryd.func22 rfl rfl (Nat.le_of_ble_eq_true rfl) (fun F => ?_)
  try simp only [List.cons_append, List.nil_append]
  refine T.seq ?_
  refine T.region ?_
  refine LW.q rfl (Qt.assign rfl) ?_
  refine LW.done ?_
  refine T.seq ?_
  refine T.region ?_
  refine LW.q rfl (Qt.move rfl) ?_
  refine LW.q rfl (Qt.move rfl) ?_
  refine LW.e rfl (Ef.call (Bf.pinned_no B g b gf n first count hand pl nl cl Fs page hn hn2 h) Tryd.func36 rfl rfl rfl ?_)
  rintro _ _ ⟨rfl, rfl⟩
  try simp only [List.cons_append, List.nil_append]
  refine LW.q rfl (Qt.assign rfl) ?_
  refine LW.done ?_
  refine T.seq ?_
  refine T.seq ?_
  refine T.region ?_
  refine LW.q rfl (Qt.move rfl) ?_
  first | refine LW.q rfl (Qt.eqlNil (by kernel_rfl) rfl rfl) ?_ | refine LW.q rfl (Qt.eqlNN (by kernel_rfl) rfl rfl) ?_
  refine LW.done ?_
  first | refine T.condT rfl ?_ | refine T.condPT rfl (by omega) ?_ | refine T.condBT rfl (by omega) ?_
  refine T.seq ?_
  refine T.region ?_
  refine LW.q rfl (Qt.assign rfl) ?_
  refine LW.done ?_
  refine T.ret ?_
  exact ⟨.inl rfl, _, _, res [_] rfl ⟨rvT rfl, trivial⟩, ⟨rfl, rfl⟩, Sub.any⟩
set_option maxRecDepth 100000 in
theorem Bf.bytes_no (B : Base) (g b gf n first count hand : Nat) (pl : Option Addr) (nl cl : Nat) (Fs : List Fm) (page : Int) (hn : Fs.length = n) (hn2 : n ≤ 4096) (h : pinnedA (Fs.map Fm.a) page = none) :
    Fn Tryd.prog B 17 #[.pointer (some ⟨g, 0, none⟩), .int .i64 page] [poolB g b gf n first count hand pl nl cl, fmR gf n Fs] (fun u l => u = .tuple #[.slice none 0 0, .int .i64 61] ∧ l = [poolB g b gf n first count hand pl nl cl, fmR gf n Fs]) := by
  refine Fn.enter2 17 Tryd.func17 rfl rfl (Nat.le_of_ble_eq_true rfl) (fun F => ?_)
  try simp only [List.cons_append, List.nil_append]
  refine T.seq ?_
  refine T.region ?_
  refine LW.q rfl (Qt.assign rfl) ?_
  refine LW.q rfl (Qt.assign rfl) ?_
  refine LW.done ?_
  refine T.seq ?_
  refine T.region ?_
  refine LW.q rfl (Qt.move rfl) ?_
  refine LW.q rfl (Qt.move rfl) ?_
  refine LW.e rfl (Ef.call (Bf.pinned_no B g b gf n first count hand pl nl cl Fs page hn hn2 h) Tryd.func36 rfl rfl rfl ?_)
  rintro _ _ ⟨rfl, rfl⟩
  try simp only [List.cons_append, List.nil_append]
  refine LW.q rfl (Qt.assign rfl) ?_
  refine LW.done ?_
  refine T.seq ?_
  refine T.seq ?_
  refine T.region ?_
  refine LW.q rfl (Qt.move rfl) ?_
  first | refine LW.q rfl (Qt.eqlNil (by kernel_rfl) rfl rfl) ?_ | refine LW.q rfl (Qt.eqlNN (by kernel_rfl) rfl rfl) ?_
  refine LW.done ?_
  first | refine T.condT rfl ?_ | refine T.condPT rfl (by omega) ?_ | refine T.condBT rfl (by omega) ?_
  refine T.seq ?_
  refine T.region ?_
  refine LW.q rfl (Qt.assign rfl) ?_
  refine LW.q rfl (Qt.assign rfl) ?_
  refine LW.done ?_
  refine T.ret ?_
  exact ⟨.inl rfl, _, _, res [_, _] rfl ⟨rvT rfl, rvT rfl, trivial⟩, ⟨rfl, rfl⟩, Sub.any⟩
set_option maxRecDepth 100000 in
theorem Bf.put_no (B : Base) (g b gf n first count hand : Nat) (pl : Option Addr) (nl cl : Nat) (Fs : List Fm) (page : Int) (hn : Fs.length = n) (hn2 : n ≤ 4096) (h : pinnedA (Fs.map Fm.a) page = none) (dv : Value) (mark : Int) :
    Fn Tryd.prog B 16 #[.pointer (some ⟨g, 0, none⟩), .int .i64 page, dv, .int .i64 mark] [poolB g b gf n first count hand pl nl cl, fmR gf n Fs] (fun u l => u = .int .i64 61 ∧ l = [poolB g b gf n first count hand pl nl cl, fmR gf n Fs]) := by
  refine Fn.enter4 37 Tryd.func16 rfl rfl (Nat.le_of_ble_eq_true rfl) (fun F => ?_)
  try simp only [List.cons_append, List.nil_append]
  refine T.seq ?_
  refine T.region ?_
  refine LW.q rfl (Qt.assign rfl) ?_
  refine LW.done ?_
  refine T.seq ?_
  refine T.region ?_
  refine LW.q rfl (Qt.move rfl) ?_
  refine LW.q rfl (Qt.move rfl) ?_
  refine LW.e rfl (Ef.call (Bf.pinned_no B g b gf n first count hand pl nl cl Fs page hn hn2 h) Tryd.func36 rfl rfl rfl ?_)
  rintro _ _ ⟨rfl, rfl⟩
  try simp only [List.cons_append, List.nil_append]
  refine LW.q rfl (Qt.assign rfl) ?_
  refine LW.done ?_
  refine T.seq ?_
  refine T.block ?_
  refine T.seq ?_
  refine T.region ?_
  refine LW.q rfl (Qt.move rfl) ?_
  first | refine LW.q rfl (Qt.eqlNil (by kernel_rfl) rfl rfl) ?_ | refine LW.q rfl (Qt.eqlNN (by kernel_rfl) rfl rfl) ?_
  refine LW.q rfl (Qt.assign rfl) ?_
  refine LW.done ?_
  first | refine T.condT rfl ?_ | refine T.condPT rfl (by omega) ?_ | refine T.condBT rfl (by omega) ?_
  refine T.seq ?_
  refine T.region ?_
  refine LW.q rfl (Qt.assign rfl) ?_
  refine LW.done ?_
  refine T.ret ?_
  exact ⟨.inl rfl, _, _, res [_] rfl ⟨rvT rfl, trivial⟩, ⟨rfl, rfl⟩, Sub.any⟩

theorem Has.under_back {A : Assn} : ∀ {m r : List Assn} {h : Piece}, Has (m ++ A :: r) h → Has (A :: (m ++ r)) h
  | [], _, _, H => H
  | _ :: _, _, _, H => Has.swap (Has.cons_imp (fun _ k => Has.under_back k) H)
theorem fd_pinned {Fs : List Fm} {A : List Fa} (hA : Fs.map Fm.a = A) {page : Int} {i : Nat} {x : Fa} (h : pinnedA A page = some (i, x)) : ∃ z, Fd Fs page i z ∧ z.a = x ∧ 0 < z.pins := by
  obtain ⟨h1, h2, h3⟩ := pinnedA_some h
  obtain ⟨z, hz⟩ := fd_of hA h1
  have := map_a_at hA hz.at_
  rw [h2] at this
  cases this
  exact ⟨z, hz, rfl, h3⟩

theorem Bp.unpin (B : Base) (g b n first count hand gl : Nat) (A : List Fa) (page : Int) (hl : A.length = n) (hn2 : n ≤ 4096) (hpin : ∀ x ∈ A, x.pins < 2 ^ 62) :
    Fn Tryd.prog B 22 #[.pointer (some ⟨g, 0, none⟩), .int .i64 page] [plA g b n first count hand gl A] (fun u l => u = .int .i64 (unpinA A page).2 ∧ l = [plA g b n first count hand gl (unpinA A page).1]) := by
  refine Fn.openPl fun q hA hptr ⟨gp, hgp⟩ => ?_
  obtain ⟨Fs, gf, pl, cl⟩ := q
  dsimp only at hA hptr hgp ⊢
  subst hgp
  simp only [plC, List.cons_append, List.nil_append, List.append_nil]
  have hlf : Fs.length = n := by rw [← hl, ← hA, List.length_map]
  have hs : ∀ (A' : List Fa) (Fs' : List Fm), Fs'.map Fm.a = A' → Sub [poolB g b gf n first count hand (some ⟨gp, 0, none⟩) 1 cl, fmR gf n Fs', lgR (some ⟨gp, 0, none⟩) 1 cl [ifW gl], daA Fs'] [plA g b n first count hand gl A'] := fun A' Fs' e => sub_pl (S := []) ⟨Fs', gf, some ⟨gp, 0, none⟩, cl⟩ e
  cases h : pinnedA A page with
  | none =>
    refine Fn.wide (Bf.unpin_no B g b gf n first count hand (some ⟨gp, 0, none⟩) 1 cl Fs page hlf hn2 (by rw [hA]; exact h)) ?_
    rintro v l' ⟨rfl, rfl⟩
    simp only [List.cons_append, List.nil_append]
    exact ⟨_, hs A Fs hA, by simp [unpinA, h], by simp [unpinA, h]⟩
  | some r =>
    obtain ⟨i, x⟩ := r
    obtain ⟨z, hz, rfl, hp⟩ := fd_pinned hA h
    refine Fn.wide (Bf.unpin B g b gf n first count hand (some ⟨gp, 0, none⟩) 1 cl Fs page i z hlf hn2 hz hp (hpin z.a (List.mem_of_getElem? (map_a_at hA hz.at_)))) ?_
    rintro v l' ⟨rfl, rfl⟩
    simp only [List.cons_append, List.nil_append]
    refine ⟨_, ?_, by simp [unpinA, h], rfl⟩
    have := hs (unpinA A page).1 (Fs.set i { z with pins := z.pins - 1 }) (by rw [List.map_set, hA]; simp only [unpinA, h]; rfl)
    rwa [da_same (y := { z with pins := z.pins - 1 }) hz.at_ rfl rfl rfl] at this
theorem Bp.bytes_no (B : Base) (g b n first count hand gl : Nat) (A : List Fa) (page : Int) (hl : A.length = n) (hn2 : n ≤ 4096) (h : pinnedA A page = none) :
    Fn Tryd.prog B 17 #[.pointer (some ⟨g, 0, none⟩), .int .i64 page] [plA g b n first count hand gl A] (fun u l => u = .tuple #[.slice none 0 0, .int .i64 61] ∧ l = [plA g b n first count hand gl A]) := by
  refine Fn.openPl fun q hA hptr ⟨gp, hgp⟩ => ?_
  obtain ⟨Fs, gf, pl, cl⟩ := q
  dsimp only at hA hptr hgp ⊢
  subst hgp
  simp only [plC, List.cons_append, List.nil_append, List.append_nil]
  refine Fn.wide (Bf.bytes_no B g b gf n first count hand (some ⟨gp, 0, none⟩) 1 cl Fs page (by rw [← hl, ← hA, List.length_map]) hn2 (by rw [hA]; exact h)) ?_
  rintro v l' ⟨rfl, rfl⟩
  simp only [List.cons_append, List.nil_append]
  exact ⟨_, sub_pl (S := []) ⟨Fs, gf, some ⟨gp, 0, none⟩, cl⟩ hA, by simp, rfl⟩
theorem Bp.bytes (B : Base) (g b n first count hand gl : Nat) (A : List Fa) (page : Int) (hl : A.length = n) (hn2 : n ≤ 4096) (i : Nat) (x : Fa) (h : pinnedA A page = some (i, x)) (m : Nat) (hm : x.b.length = m) (hb : m < 2 ^ 40) :
    Fn Tryd.prog B 17 #[.pointer (some ⟨g, 0, none⟩), .int .i64 page] [plA g b n first count hand gl A] (fun u l => ∃ p c, u = .tuple #[.slice p m c, .int .i64 0] ∧ (0 < m → ∃ g, p = some ⟨g, 0, none⟩) ∧ l = [rB (.slice p m c) m x.b, plA g b n first count hand gl A]) := by
  refine Fn.openPl fun q hA hptr ⟨gp, hgp⟩ => ?_
  obtain ⟨Fs, gf, pl, cl⟩ := q
  dsimp only at hA hptr hgp ⊢
  subst hgp
  simp only [plC, List.cons_append, List.nil_append, List.append_nil]
  obtain ⟨z, hz, rfl, hp⟩ := fd_pinned hA h
  subst hm
  refine Fn.wide (Bf.bytes B [daA Fs] g b gf n first count hand (some ⟨gp, 0, none⟩) 1 cl Fs page i z (by rw [← hl, ← hA, List.length_map]) hn2 hz hp (RdV.da hz.at_ (hptr i z hz.at_)) hb) ?_
  rintro v l' ⟨p, c, rfl, hp2, rfl⟩
  simp only [List.cons_append, List.nil_append]
  refine ⟨_, fun k K => ?_, p, c, rfl, hp2, rfl⟩
  refine Has.cons_imp (sub_pl (S := []) ⟨Fs, gf, some ⟨gp, 0, none⟩, cl⟩ hA) ?_
  simp only [plC, List.append_nil]
  have K2 : Has [rB (.slice p z.b.length c) z.b.length z.b, poolB g b gf n first count hand (some ⟨gp, 0, none⟩) 1 cl, fmR gf n Fs, lgR (some ⟨gp, 0, none⟩) 1 cl [ifW gl], daA Fs] k := Sub.any k K
  exact K2
theorem Bp.put_no (B : Base) (g b n first count hand gl : Nat) (A : List Fa) (page : Int) (hl : A.length = n) (hn2 : n ≤ 4096) (a : Option Addr) (m ca : Nat) (d : List UInt8) (hd : d.length = m) (mark : Int) (h : pinnedA A page = none ∨ d.length ≠ 256) :
    Fn Tryd.prog B 16 #[.pointer (some ⟨g, 0, none⟩), .int .i64 page, .slice a m ca, .int .i64 mark] [plA g b n first count hand gl A] (fun u l => u = .int .i64 (putA A page d mark).2 ∧ (putA A page d mark).1 = A ∧ l = [plA g b n first count hand gl A]) := by
  refine Fn.openPl fun q hA hptr ⟨gp, hgp⟩ => ?_
  obtain ⟨Fs, gf, pl, cl⟩ := q
  dsimp only at hA hptr hgp ⊢
  subst hgp
  simp only [plC, List.cons_append, List.nil_append, List.append_nil]
  have hlf : Fs.length = n := by rw [← hl, ← hA, List.length_map]
  cases h2 : pinnedA A page with
  | none =>
    refine Fn.wide (Bf.put_no B g b gf n first count hand (some ⟨gp, 0, none⟩) 1 cl Fs page hlf hn2 (by rw [hA]; exact h2) (.slice a m ca) mark) ?_
    rintro v l' ⟨rfl, rfl⟩
    simp only [List.cons_append, List.nil_append]
    exact ⟨_, sub_pl (S := []) ⟨Fs, gf, some ⟨gp, 0, none⟩, cl⟩ hA, by simp [putA, h2], by simp [putA, h2], rfl⟩
  | some r =>
    obtain ⟨i, x⟩ := r
    obtain ⟨z, hz, rfl, hp⟩ := fd_pinned hA h2
    have hd2 : d.length ≠ 256 := h.resolve_left (by rw [h2]; simp)
    refine Fn.wide (Bf.put_length B g b gf n first count hand (some ⟨gp, 0, none⟩) 1 cl Fs page i z hlf hn2 hz hp a m ca mark (by omega)) ?_
    rintro v l' ⟨rfl, rfl⟩
    simp only [List.cons_append, List.nil_append]
    exact ⟨_, sub_pl (S := []) ⟨Fs, gf, some ⟨gp, 0, none⟩, cl⟩ hA, by simp [putA, h2, hd2], by simp [putA, h2, hd2], rfl⟩
theorem Bp.put (B : Base) (S : List Assn) (g b n first count hand gl : Nat) (A : List Fa) (page : Int) (hl : A.length = n) (hn2 : n ≤ 4096) (i : Nat) (x : Fa) (h : pinnedA A page = some (i, x)) (a : Option Addr) (ca : Nat) (d : List UInt8) (mark : Int) (hd : d.length = 256) (hv : RdV B S (.slice a 256 ca) (bytesV d)) :
    Fn Tryd.prog B 16 #[.pointer (some ⟨g, 0, none⟩), .int .i64 page, .slice a 256 ca, .int .i64 mark] (plA g b n first count hand gl A :: S) (fun u l => u = .int .i64 (putA A page d mark).2 ∧ l = plA g b n first count hand gl (putA A page d mark).1 :: S) := by
  refine Fn.openPl fun q hA hptr ⟨gp, hgp⟩ => ?_
  obtain ⟨Fs, gf, pl, cl⟩ := q
  dsimp only at hA hptr hgp ⊢
  subst hgp
  simp only [plC, List.cons_append, List.nil_append, List.append_nil]
  have hlf : Fs.length = n := by rw [← hl, ← hA, List.length_map]
  obtain ⟨z, hz, rfl, hp⟩ := fd_pinned hA h
  have hil : i < Fs.length := (List.getElem?_eq_some_iff.1 hz.at_).1
  have h0 := (Bf.put B (lgR (some ⟨gp, 0, none⟩) 1 cl [ifW gl] :: daA Fs :: S) g b gf n first count hand (some ⟨gp, 0, none⟩) 1 cl Fs page i z hlf hn2 hz hp a ca d mark hd (hv.mono fun w ho => ho.tl.tl))
  refine h0.sub ?_
  rintro v l' ⟨p, c, rfl, hp2, rfl⟩
  refine ⟨_, fun k K => ?_, by simp [putA, h, hd], rfl⟩
  refine sub_pl ⟨Fs.set i { z with mark := max z.mark mark, dirty := true, p := p, c := c, b := d }, gf, some ⟨gp, 0, none⟩, cl⟩ (by simp only [putA, h]; rw [List.map_set, hA, if_neg (by simp [hd])]; rfl) k ?_
  simp only [plC, List.cons_append, List.nil_append]
  have K2 : Has (rB (.slice p 256 c) 256 d :: daA Fs :: ([poolB g b gf n first count hand (some ⟨gp, 0, none⟩) 1 cl, fmR gf n (Fs.set i { z with mark := max z.mark mark, dirty := true, p := p, c := c, b := d }), lgR (some ⟨gp, 0, none⟩) 1 cl [ifW gl]] ++ S)) k := by
    refine Has.cons_imp (fun k1 K1 => ?_) K
    have : Has ([poolB g b gf n first count hand (some ⟨gp, 0, none⟩) 1 cl, fmR gf n (Fs.set i { z with mark := max z.mark mark, dirty := true, p := p, c := c, b := d }), lgR (some ⟨gp, 0, none⟩) 1 cl [ifW gl]] ++ (daA Fs :: S)) k1 := K1
    exact Has.under_back this
  have K3 := da_put (y := { z with mark := max z.mark mark, dirty := true, p := p, c := c, b := d }) hil k (by rw [fmD]; dsimp only; rw [hd]; exact K2)
  have K4 : Has ([poolB g b gf n first count hand (some ⟨gp, 0, none⟩) 1 cl, fmR gf n (Fs.set i { z with mark := max z.mark mark, dirty := true, p := p, c := c, b := d }), lgR (some ⟨gp, 0, none⟩) 1 cl [ifW gl]] ++ (daA (Fs.set i { z with mark := max z.mark mark, dirty := true, p := p, c := c, b := d }) :: S)) k := Has.under K3
  exact K4

theorem da_none (n : Nat) (l : List Assn) : Sub l (daA (List.replicate n fm1) :: l) := fun h H => by
  refine ⟨fun _ => none, h, ⟨fun _ => .inl rfl⟩, ⟨fun _ _ e => (by cases e)⟩, Piece.le_refl h, ?_, H⟩
  show Has ((List.replicate n fm1).map fmD) _
  induction n with
  | zero => trivial
  | succ n ih => exact ⟨fun _ => none, fun _ => none, ⟨fun _ => .inl rfl⟩, Piece.le_refl _, Piece.le_refl _, ⟨by simp, .inl ⟨rfl, rfl⟩⟩, ih⟩
theorem map_fm1 (n : Nat) : (List.replicate n fm1).map Fm.a = List.replicate n fa1 := by simp [Fm.a]
theorem FOk.new (count n : Nat) (h1 : 1 ≤ n) (h2 : n ≤ 4096) : FOk count n (List.replicate n fa1) := by
  have hx : ∀ x ∈ List.replicate n fa1, x = fa1 := fun x hx => (List.mem_replicate.1 hx).2
  refine ⟨by simp, h1, h2, fun x h => .inl (hx x h), fun x h => by rw [hx x h]; exact ⟨by decide, by decide⟩, fun i j x y hi hj e h0 => ?_⟩
  rw [hx x (List.mem_of_getElem? hi)] at h0
  exact absurd h0 (by decide)

/-! the statements' laid -/
abbrev benchB (gb b gl g : Nat) : Assn := blk gb [.pointer (some ⟨b, 0, none⟩), .pointer (some ⟨gl, 0, none⟩), .pointer (some ⟨g, 0, none⟩)] 46
def LaidP (n : Nat) (u : Value) (l : List Assn) : Prop := ∃ gb b gl g D, u = .pointer (some ⟨gb, 0, none⟩) ∧ D.Ok ∧ D.secs.length = 12 ∧ D.pend = [] ∧ (∀ x, 4 ≤ x → x < 12 → D.read x = List.replicate 256 0) ∧
  l = [benchB gb b gl g, plA g b n 4 8 0 gl (List.replicate n fa1), wlA gl b (mkW 0 4 [] 0), dskA b D]
theorem Bp.laid (B : Base) (n : Nat) (i : Int) (hi : i = n) (h1 : 1 ≤ n) (h2 : n ≤ 4096) : Fn Tryd.prog B 14 #[.int .i64 i] [] (LaidP n) := by
  refine (Bf.laid B n i hi h1 h2).sub ?_
  rintro v l ⟨gb, b, gl, g, gf, pl, cl, D, rfl, e1, e2, e3, e4, rfl⟩
  refine ⟨_, fun k K => ?_, gb, b, gl, g, D, rfl, e1, e2, e3, e4, rfl⟩
  refine Has.cons_imp (fun k2 K2 => sub_pl ⟨List.replicate n fm1, gf, pl, cl⟩ (map_fm1 n) k2 ?_) K
  simp only [plC, List.cons_append, List.nil_append]
  have K3 := da_none n _ k2 K2
  exact Sub.any k2 K3
set_option maxHeartbeats 2000000 in
set_option maxRecDepth 100000 in
theorem Bp.laid_no (B : Base) (frames : Int) (h : frames < 1 ∨ 4096 < frames) : Fn Tryd.prog B 14 #[.int .i64 frames] [] (fun u l => u = .pointer none ∧ l = []) := by
  refine Fn.enter1 44 Tryd.func14 rfl rfl (Nat.le_of_ble_eq_true rfl) (fun F => ?_)
  try simp only [List.cons_append, List.nil_append]
  refine T.seq ?_
  refine T.region ?_
  refine LW.q rfl (Qt.assign rfl) ?_
  refine LW.done ?_
  refine T.seq ?_
  refine T.region ?_
  refine LW.e rfl (Ef.call (Dk.newF B 12 12 rfl (by omega) (by omega)) Tryd.func9 rfl rfl rfl ?_)
  rintro _ _ ⟨b, rfl, rfl⟩
  try simp only [List.cons_append, List.nil_append]
  refine LW.q rfl (Qt.move rfl) ?_
  refine LW.q rfl (Qt.extract rfl rfl) ?_
  refine LW.q rfl (Qt.extract rfl rfl) ?_
  refine LW.q rfl (Qt.assign rfl) ?_
  refine LW.q rfl (Qt.assign rfl) ?_
  refine LW.done ?_
  refine T.seq ?_
  refine T.seq ?_
  refine T.region ?_
  refine LW.q rfl (Qt.move rfl) ?_
  first | refine LW.q rfl (Qt.eqlNil (by kernel_rfl) rfl rfl) ?_ | refine LW.q rfl (Qt.eqlNN (by kernel_rfl) rfl rfl) ?_
  refine LW.done ?_
  first | refine T.condF rfl ?_ | refine T.condPF rfl (by omega) ?_ | refine T.condBF rfl (by omega) ?_
  refine T.skip ?_
  refine T.seq ?_
  refine T.region ?_
  refine LW.q rfl (Qt.move rfl) ?_
  refine LW.e rfl (Ef.call (Wl.openText B b ⟨List.replicate 12 zs, []⟩ 0 4 [] 0 4 rfl rfl (by omega) (by simp) (by simp) (Secs.new (by omega)) (by simp) (by simp [logB])) Tryd.func33 rfl rfl rfl ?_)
  rintro _ _ ⟨gl, q, cq, R, D1, e1, e2, e3, e4, e5, e6, rfl, rfl⟩
  try simp only [List.cons_append, List.nil_append]
  have hl1 : D1.secs.length = 12 := by rw [e3]; rfl
  refine LW.q rfl (Qt.move rfl) ?_
  refine LW.q rfl (Qt.extract rfl rfl) ?_
  refine LW.q rfl (Qt.extract rfl rfl) ?_
  refine LW.q rfl (Qt.extract rfl rfl) ?_
  refine LW.q rfl (Qt.assign rfl) ?_
  refine LW.q rfl (Qt.assign rfl) ?_
  refine LW.q rfl (Qt.assign rfl) ?_
  refine LW.done ?_
  refine T.seq ?_
  refine T.seq ?_
  refine T.region ?_
  refine LW.q rfl (Qt.move rfl) ?_
  first | refine LW.q rfl (Qt.eqlNil (by kernel_rfl) rfl rfl) ?_ | refine LW.q rfl (Qt.eqlNN (by kernel_rfl) rfl rfl) ?_
  refine LW.done ?_
  first | refine T.condF rfl ?_ | refine T.condPF rfl (by omega) ?_ | refine T.condBF rfl (by omega) ?_
  refine T.skip ?_
  refine T.seq ?_
  refine T.region ?_
  refine LW.q rfl (Qt.move rfl) ?_
  refine LW.q rfl (Qt.move rfl) ?_
  refine LW.q rfl (Qt.move rfl) ?_
  refine LW.q rfl (Qt.iface (v := .pointer (some ⟨gl, 0, none⟩)) (by kernel_rfl) rfl) ?_
  refine LW.e rfl (Ef.one [_] (e := 79) (sz := 1) (by kernel_rfl) ⟨.nilIface, by kernel_rfl, rfl⟩ rfl rfl rfl (by omega) (by omega) ?_)
  intro g29
  refine LW.e rfl (Ef.call (Bf.new_no B b D1 4 8 frames (.slice (some ⟨g29, 0, none⟩) 1 1) (by omega) (by omega) (by omega) (by omega)) Tryd.func10 rfl rfl rfl ?_)
  rintro _ _ ⟨rfl, rfl⟩
  try simp only [List.cons_append, List.nil_append]
  refine LW.q rfl (Qt.move rfl) ?_
  refine LW.q rfl (Qt.extract rfl rfl) ?_
  refine LW.q rfl (Qt.extract rfl rfl) ?_
  refine LW.q rfl (Qt.assign rfl) ?_
  refine LW.q rfl (Qt.assign rfl) ?_
  refine LW.done ?_
  refine T.seq ?_
  refine T.seq ?_
  refine T.region ?_
  refine LW.q rfl (Qt.move rfl) ?_
  first | refine LW.q rfl (Qt.eqlNil (by kernel_rfl) rfl rfl) ?_ | refine LW.q rfl (Qt.eqlNN (by kernel_rfl) rfl rfl) ?_
  refine LW.q rfl (Qt.move rfl) ?_
  first | refine LW.gT (t := 35) rfl rfl ?_ | refine LW.gT (t := 35) rfl (decide_eq_true (by omega)) ?_ | refine LW.gT (t := 35) rfl (by omega) ?_
  refine LW.s rfl ?_
  refine LW.s rfl ?_
  refine LW.q rfl (Qt.pick rfl rfl) ?_
  refine LW.done ?_
  first | refine T.condT rfl ?_ | refine T.condPT rfl (by omega) ?_ | refine T.condBT rfl (by omega) ?_
  refine T.seq ?_
  refine T.region ?_
  refine LW.q rfl (Qt.assign rfl) ?_
  refine LW.done ?_
  refine T.ret ?_
  exact ⟨.inl rfl, _, _, res [_] rfl ⟨rvT rfl, trivial⟩, ⟨rfl, rfl⟩, Sub.any⟩
/-- Which pools are refused. -/
def wrongP (sectors first count frames : Int) : Prop := first < 0 ∨ count < 1 ∨ sectors < count ∨ sectors - count < first ∨ frames < 1 ∨ 4096 < frames
instance (a b c d : Int) : Decidable (wrongP a b c d) := by unfold wrongP; infer_instance
theorem Rp.wrong_yes (B : Base) (sectors first count frames : Int) (hs : 0 ≤ sectors ∧ sectors ≤ 4096) (hc : count < 2 ^ 63) (h : wrongP sectors first count frames) : Fn Tryd.prog B 11 #[.int .i64 sectors, .int .i64 first, .int .i64 count, .int .i64 frames] [] (fun u l => u = .int .i64 1 ∧ l = []) := by
  unfold wrongP at h
  refine Fn.enter4 35 Tryd.func11 rfl rfl (Nat.le_of_ble_eq_true rfl) (fun F => ?_)
  try simp only [List.cons_append, List.nil_append]
  refine T.seq ?_
  refine T.region ?_
  refine LW.q rfl (Qt.assign rfl) ?_
  refine LW.done ?_
  refine T.seq ?_
  refine T.seq ?_
  refine T.region ?_
  refine LW.q rfl (Qt.move rfl) ?_
  refine LW.q rfl (Qt.lss rfl rfl) ?_
  refine LW.q rfl (Qt.move rfl) ?_
  refine LW.split (t := 11) rfl (fun h1 => ?_) (fun h1 => ?_)
  · skip
    try replace h1 := of_decide_eq_true h1
    refine LW.s rfl ?_
    refine LW.s rfl ?_
    refine LW.q rfl (Qt.pick rfl rfl) ?_
    refine LW.q rfl (Qt.move rfl) ?_
    first | refine LW.gT (t := 15) rfl rfl ?_ | refine LW.gT (t := 15) rfl (decide_eq_true (by omega)) ?_ | refine LW.gT (t := 15) rfl (by omega) ?_
    refine LW.s rfl ?_
    refine LW.s rfl ?_
    refine LW.s rfl ?_
    refine LW.q rfl (Qt.pick rfl rfl) ?_
    refine LW.q rfl (Qt.move rfl) ?_
    first | refine LW.gT (t := 20) rfl rfl ?_ | refine LW.gT (t := 20) rfl (decide_eq_true (by omega)) ?_ | refine LW.gT (t := 20) rfl (by omega) ?_
    refine LW.s rfl ?_
    refine LW.s rfl ?_
    refine LW.s rfl ?_
    refine LW.s rfl ?_
    refine LW.s rfl ?_
    refine LW.q rfl (Qt.pick rfl rfl) ?_
    refine LW.q rfl (Qt.move rfl) ?_
    first | refine LW.gT (t := 27) rfl rfl ?_ | refine LW.gT (t := 27) rfl (decide_eq_true (by omega)) ?_ | refine LW.gT (t := 27) rfl (by omega) ?_
    refine LW.s rfl ?_
    refine LW.s rfl ?_
    refine LW.q rfl (Qt.pick rfl rfl) ?_
    refine LW.q rfl (Qt.move rfl) ?_
    first | refine LW.gT (t := 31) rfl rfl ?_ | refine LW.gT (t := 31) rfl (decide_eq_true (by omega)) ?_ | refine LW.gT (t := 31) rfl (by omega) ?_
    refine LW.s rfl ?_
    refine LW.s rfl ?_
    refine LW.q rfl (Qt.pick rfl rfl) ?_
    refine LW.done ?_
    first | refine T.condT rfl ?_ | refine T.condPT rfl (by omega) ?_ | refine T.condBT rfl (by omega) ?_
    refine T.seq ?_
    refine T.region ?_
    refine LW.q rfl (Qt.assign rfl) ?_
    refine LW.done ?_
    refine T.ret ?_
    exact ⟨.inl rfl, _, _, res [_] rfl ⟨rvT rfl, trivial⟩, ⟨rfl, rfl⟩, Sub.any⟩
  · skip
    try replace h1 := of_decide_eq_false h1
    refine LW.q rfl (Qt.move rfl) ?_
    refine LW.q rfl (Qt.lss rfl rfl) ?_
    refine LW.q rfl (Qt.pick rfl rfl) ?_
    refine LW.q rfl (Qt.move rfl) ?_
    refine LW.split (t := 15) rfl (fun h2 => ?_) (fun h2 => ?_)
    · skip
      try replace h2 := of_decide_eq_true h2
      refine LW.s rfl ?_
      refine LW.s rfl ?_
      refine LW.s rfl ?_
      refine LW.q rfl (Qt.pick rfl rfl) ?_
      refine LW.q rfl (Qt.move rfl) ?_
      first | refine LW.gT (t := 20) rfl rfl ?_ | refine LW.gT (t := 20) rfl (decide_eq_true (by omega)) ?_ | refine LW.gT (t := 20) rfl (by omega) ?_
      refine LW.s rfl ?_
      refine LW.s rfl ?_
      refine LW.s rfl ?_
      refine LW.s rfl ?_
      refine LW.s rfl ?_
      refine LW.q rfl (Qt.pick rfl rfl) ?_
      refine LW.q rfl (Qt.move rfl) ?_
      first | refine LW.gT (t := 27) rfl rfl ?_ | refine LW.gT (t := 27) rfl (decide_eq_true (by omega)) ?_ | refine LW.gT (t := 27) rfl (by omega) ?_
      refine LW.s rfl ?_
      refine LW.s rfl ?_
      refine LW.q rfl (Qt.pick rfl rfl) ?_
      refine LW.q rfl (Qt.move rfl) ?_
      first | refine LW.gT (t := 31) rfl rfl ?_ | refine LW.gT (t := 31) rfl (decide_eq_true (by omega)) ?_ | refine LW.gT (t := 31) rfl (by omega) ?_
      refine LW.s rfl ?_
      refine LW.s rfl ?_
      refine LW.q rfl (Qt.pick rfl rfl) ?_
      refine LW.done ?_
      first | refine T.condT rfl ?_ | refine T.condPT rfl (by omega) ?_ | refine T.condBT rfl (by omega) ?_
      refine T.seq ?_
      refine T.region ?_
      refine LW.q rfl (Qt.assign rfl) ?_
      refine LW.done ?_
      refine T.ret ?_
      exact ⟨.inl rfl, _, _, res [_] rfl ⟨rvT rfl, trivial⟩, ⟨rfl, rfl⟩, Sub.any⟩
    · skip
      try replace h2 := of_decide_eq_false h2
      refine LW.q rfl (Qt.move rfl) ?_
      refine LW.q rfl (Qt.move rfl) ?_
      refine LW.q rfl (Qt.gtr rfl rfl) ?_
      refine LW.q rfl (Qt.pick rfl rfl) ?_
      refine LW.q rfl (Qt.move rfl) ?_
      refine LW.split (t := 20) rfl (fun h3 => ?_) (fun h3 => ?_)
      · skip
        try replace h3 := of_decide_eq_true h3
        refine LW.s rfl ?_
        refine LW.s rfl ?_
        refine LW.s rfl ?_
        refine LW.s rfl ?_
        refine LW.s rfl ?_
        refine LW.q rfl (Qt.pick rfl rfl) ?_
        refine LW.q rfl (Qt.move rfl) ?_
        first | refine LW.gT (t := 27) rfl rfl ?_ | refine LW.gT (t := 27) rfl (decide_eq_true (by omega)) ?_ | refine LW.gT (t := 27) rfl (by omega) ?_
        refine LW.s rfl ?_
        refine LW.s rfl ?_
        refine LW.q rfl (Qt.pick rfl rfl) ?_
        refine LW.q rfl (Qt.move rfl) ?_
        first | refine LW.gT (t := 31) rfl rfl ?_ | refine LW.gT (t := 31) rfl (decide_eq_true (by omega)) ?_ | refine LW.gT (t := 31) rfl (by omega) ?_
        refine LW.s rfl ?_
        refine LW.s rfl ?_
        refine LW.q rfl (Qt.pick rfl rfl) ?_
        refine LW.done ?_
        first | refine T.condT rfl ?_ | refine T.condPT rfl (by omega) ?_ | refine T.condBT rfl (by omega) ?_
        refine T.seq ?_
        refine T.region ?_
        refine LW.q rfl (Qt.assign rfl) ?_
        refine LW.done ?_
        refine T.ret ?_
        exact ⟨.inl rfl, _, _, res [_] rfl ⟨rvT rfl, trivial⟩, ⟨rfl, rfl⟩, Sub.any⟩
      · skip
        try replace h3 := of_decide_eq_false h3
        refine LW.q rfl (Qt.move rfl) ?_
        refine LW.q rfl (Qt.move rfl) ?_
        refine LW.q rfl (Qt.move rfl) ?_
        refine LW.q rfl (Qt.sub rfl rfl (wr64 (by omega) (by omega))) ?_
        refine LW.q rfl (Qt.gtr rfl rfl) ?_
        refine LW.q rfl (Qt.pick rfl rfl) ?_
        refine LW.q rfl (Qt.move rfl) ?_
        refine LW.split (t := 27) rfl (fun h4 => ?_) (fun h4 => ?_)
        · skip
          try replace h4 := of_decide_eq_true h4
          refine LW.s rfl ?_
          refine LW.s rfl ?_
          refine LW.q rfl (Qt.pick rfl rfl) ?_
          refine LW.q rfl (Qt.move rfl) ?_
          first | refine LW.gT (t := 31) rfl rfl ?_ | refine LW.gT (t := 31) rfl (decide_eq_true (by omega)) ?_ | refine LW.gT (t := 31) rfl (by omega) ?_
          refine LW.s rfl ?_
          refine LW.s rfl ?_
          refine LW.q rfl (Qt.pick rfl rfl) ?_
          refine LW.done ?_
          first | refine T.condT rfl ?_ | refine T.condPT rfl (by omega) ?_ | refine T.condBT rfl (by omega) ?_
          refine T.seq ?_
          refine T.region ?_
          refine LW.q rfl (Qt.assign rfl) ?_
          refine LW.done ?_
          refine T.ret ?_
          exact ⟨.inl rfl, _, _, res [_] rfl ⟨rvT rfl, trivial⟩, ⟨rfl, rfl⟩, Sub.any⟩
        · skip
          try replace h4 := of_decide_eq_false h4
          refine LW.q rfl (Qt.move rfl) ?_
          refine LW.q rfl (Qt.lss rfl rfl) ?_
          refine LW.q rfl (Qt.pick rfl rfl) ?_
          refine LW.q rfl (Qt.move rfl) ?_
          refine LW.split (t := 31) rfl (fun h5 => ?_) (fun h5 => ?_)
          · skip
            try replace h5 := of_decide_eq_true h5
            refine LW.s rfl ?_
            refine LW.s rfl ?_
            refine LW.q rfl (Qt.pick rfl rfl) ?_
            refine LW.done ?_
            first | refine T.condT rfl ?_ | refine T.condPT rfl (by omega) ?_ | refine T.condBT rfl (by omega) ?_
            refine T.seq ?_
            refine T.region ?_
            refine LW.q rfl (Qt.assign rfl) ?_
            refine LW.done ?_
            refine T.ret ?_
            exact ⟨.inl rfl, _, _, res [_] rfl ⟨rvT rfl, trivial⟩, ⟨rfl, rfl⟩, Sub.any⟩
          · skip
            try replace h5 := of_decide_eq_false h5
            refine LW.q rfl (Qt.move rfl) ?_
            refine LW.q rfl (Qt.gtr rfl rfl) ?_
            refine LW.q rfl (Qt.pick rfl rfl) ?_
            refine LW.done ?_
            first | refine T.condT rfl ?_ | refine T.condPT rfl (by omega) ?_ | refine T.condBT rfl (by omega) ?_
            refine T.seq ?_
            refine T.region ?_
            refine LW.q rfl (Qt.assign rfl) ?_
            refine LW.done ?_
            refine T.ret ?_
            exact ⟨.inl rfl, _, _, res [_] rfl ⟨rvT rfl, trivial⟩, ⟨rfl, rfl⟩, Sub.any⟩
theorem Rp.wrong_no (B : Base) (sectors first count frames : Int) (hs : 0 ≤ sectors ∧ sectors ≤ 4096) (h : ¬ wrongP sectors first count frames) : Fn Tryd.prog B 11 #[.int .i64 sectors, .int .i64 first, .int .i64 count, .int .i64 frames] [] (fun u l => u = .int .i64 0 ∧ l = []) := by
  unfold wrongP at h
  refine Fn.enter4 35 Tryd.func11 rfl rfl (Nat.le_of_ble_eq_true rfl) (fun F => ?_)
  try simp only [List.cons_append, List.nil_append]
  refine T.seq ?_
  refine T.region ?_
  refine LW.q rfl (Qt.assign rfl) ?_
  refine LW.done ?_
  refine T.seq ?_
  refine T.seq ?_
  refine T.region ?_
  refine LW.q rfl (Qt.move rfl) ?_
  refine LW.q rfl (Qt.lss rfl rfl) ?_
  refine LW.q rfl (Qt.move rfl) ?_
  first | refine LW.gF (t := 11) rfl rfl ?_ | refine LW.gF (t := 11) rfl (decide_eq_false (by omega)) ?_ | refine LW.gF (t := 11) rfl (by omega) ?_
  refine LW.q rfl (Qt.move rfl) ?_
  refine LW.q rfl (Qt.lss rfl rfl) ?_
  refine LW.q rfl (Qt.pick rfl rfl) ?_
  refine LW.q rfl (Qt.move rfl) ?_
  first | refine LW.gF (t := 15) rfl rfl ?_ | refine LW.gF (t := 15) rfl (decide_eq_false (by omega)) ?_ | refine LW.gF (t := 15) rfl (by omega) ?_
  refine LW.q rfl (Qt.move rfl) ?_
  refine LW.q rfl (Qt.move rfl) ?_
  refine LW.q rfl (Qt.gtr rfl rfl) ?_
  refine LW.q rfl (Qt.pick rfl rfl) ?_
  refine LW.q rfl (Qt.move rfl) ?_
  first | refine LW.gF (t := 20) rfl rfl ?_ | refine LW.gF (t := 20) rfl (decide_eq_false (by omega)) ?_ | refine LW.gF (t := 20) rfl (by omega) ?_
  refine LW.q rfl (Qt.move rfl) ?_
  refine LW.q rfl (Qt.move rfl) ?_
  refine LW.q rfl (Qt.move rfl) ?_
  refine LW.q rfl (Qt.sub rfl rfl (wr64 (by omega) (by omega))) ?_
  refine LW.q rfl (Qt.gtr rfl rfl) ?_
  refine LW.q rfl (Qt.pick rfl rfl) ?_
  refine LW.q rfl (Qt.move rfl) ?_
  first | refine LW.gF (t := 27) rfl rfl ?_ | refine LW.gF (t := 27) rfl (decide_eq_false (by omega)) ?_ | refine LW.gF (t := 27) rfl (by omega) ?_
  refine LW.q rfl (Qt.move rfl) ?_
  refine LW.q rfl (Qt.lss rfl rfl) ?_
  refine LW.q rfl (Qt.pick rfl rfl) ?_
  refine LW.q rfl (Qt.move rfl) ?_
  first | refine LW.gF (t := 31) rfl rfl ?_ | refine LW.gF (t := 31) rfl (decide_eq_false (by omega)) ?_ | refine LW.gF (t := 31) rfl (by omega) ?_
  refine LW.q rfl (Qt.move rfl) ?_
  refine LW.q rfl (Qt.gtr rfl rfl) ?_
  refine LW.q rfl (Qt.pick rfl rfl) ?_
  refine LW.done ?_
  first | refine T.condF rfl ?_ | refine T.condPF rfl (by omega) ?_ | refine T.condBF rfl (by omega) ?_
  refine T.skip ?_
  refine T.seq ?_
  refine T.region ?_
  refine LW.q rfl (Qt.assign rfl) ?_
  refine LW.done ?_
  refine T.ret ?_
  exact ⟨.inl rfl, _, _, res [_] rfl ⟨rvT rfl, trivial⟩, ⟨rfl, rfl⟩, Sub.any⟩

set_option maxHeartbeats 2000000 in
set_option maxRecDepth 100000 in
theorem Bp.news (B : Base) (first count frames : Int) (hf : -(2 ^ 63) ≤ first ∧ first < 2 ^ 63) (hc : -(2 ^ 63) ≤ count ∧ count < 2 ^ 63) : Fn Tryd.prog B 3 #[.int .i64 first, .int .i64 count, .int .i64 frames] [] (fun v l => v = .bool true ∧ l = []) := by
  refine Fn.enter3 61 Tryd.func3 rfl rfl (Nat.le_of_ble_eq_true rfl) (fun F => ?_)
  try simp only [List.cons_append, List.nil_append]
  refine T.seq ?_
  refine T.region ?_
  refine LW.q rfl (Qt.assign rfl) ?_
  refine LW.done ?_
  refine T.seq ?_
  refine T.seq ?_
  refine T.region ?_
  refine LW.e rfl (Ef.call (Bf.awake B) Tryd.func8 rfl rfl rfl ?_)
  rintro _ _ ⟨rfl, rfl⟩
  try simp only [List.cons_append, List.nil_append]
  first | refine LW.q rfl (Qt.notP rfl) ?_ | refine LW.q rfl (Qt.notB rfl) ?_
  refine LW.done ?_
  first | refine T.condF rfl ?_ | refine T.condPF rfl (by omega) ?_ | refine T.condBF rfl (by omega) ?_
  refine T.skip ?_
  refine T.seq ?_
  refine T.region ?_
  refine LW.e rfl (Ef.call (Dk.newF B 12 12 rfl (by omega) (by omega)) Tryd.func9 rfl rfl rfl ?_)
  rintro _ _ ⟨b, rfl, rfl⟩
  try simp only [List.cons_append, List.nil_append]
  refine LW.q rfl (Qt.move rfl) ?_
  refine LW.q rfl (Qt.extract rfl rfl) ?_
  refine LW.q rfl (Qt.extract rfl rfl) ?_
  refine LW.q rfl (Qt.assign rfl) ?_
  refine LW.q rfl (Qt.assign rfl) ?_
  refine LW.done ?_
  refine T.seq ?_
  refine T.seq ?_
  refine T.region ?_
  refine LW.q rfl (Qt.move rfl) ?_
  first | refine LW.q rfl (Qt.eqlNil (by kernel_rfl) rfl rfl) ?_ | refine LW.q rfl (Qt.eqlNN (by kernel_rfl) rfl rfl) ?_
  refine LW.done ?_
  first | refine T.condF rfl ?_ | refine T.condPF rfl (by omega) ?_ | refine T.condBF rfl (by omega) ?_
  by_cases h : wrongP 12 first count frames
  · skip
    refine T.skip ?_
    refine T.seq ?_
    refine T.region ?_
    refine LW.q rfl (Qt.move rfl) ?_
    refine LW.q rfl (Qt.move rfl) ?_
    refine LW.q rfl (Qt.move rfl) ?_
    refine LW.q rfl (Qt.move rfl) ?_
    refine LW.e rfl (Ef.call (Bf.new_no B b ⟨List.replicate 12 zs, []⟩ first count frames (.slice none 0 0) (by simp) hf hc (by simpa [wrongP] using h)) Tryd.func10 rfl rfl rfl ?_)
    rintro _ _ ⟨rfl, rfl⟩
    try simp only [List.cons_append, List.nil_append]
    refine LW.q rfl (Qt.move rfl) ?_
    refine LW.q rfl (Qt.extract rfl rfl) ?_
    refine LW.q rfl (Qt.extract rfl rfl) ?_
    refine LW.q rfl (Qt.assign rfl) ?_
    refine LW.q rfl (Qt.assign rfl) ?_
    refine LW.done ?_
    refine T.seq ?_
    refine T.region ?_
    refine LW.q rfl (Qt.move rfl) ?_
    refine LW.q rfl (Qt.move rfl) ?_
    refine LW.q rfl (Qt.move rfl) ?_
    refine LW.e rfl (Ef.call (Rp.wrong_yes B 12 first count frames (by omega) hc.2 h) Tryd.func11 rfl rfl rfl ?_)
    rintro _ _ ⟨rfl, rfl⟩
    try simp only [List.cons_append, List.nil_append]
    refine LW.q rfl (Qt.assign rfl) ?_
    refine LW.done ?_
    refine T.seq ?_
    refine T.region ?_
    refine LW.q rfl (Qt.move rfl) ?_
    refine LW.q rfl (Qt.move rfl) ?_
    refine LW.q rfl (Qt.eql rfl rfl) ?_
    refine LW.q rfl (Qt.move rfl) ?_
    first | refine LW.gT (t := 35) rfl rfl ?_ | refine LW.gT (t := 35) rfl (decide_eq_true (by omega)) ?_ | refine LW.gT (t := 35) rfl (by omega) ?_
    refine LW.q rfl (Qt.move rfl) ?_
    first | refine LW.q rfl (Qt.eqlNil (by kernel_rfl) rfl rfl) ?_ | refine LW.q rfl (Qt.eqlNN (by kernel_rfl) rfl rfl) ?_
    refine LW.q rfl (Qt.move rfl) ?_
    refine LW.q rfl (Qt.neq rfl rfl) ?_
    refine LW.q rfl (Qt.eqlB (by kernel_rfl) rfl rfl) ?_
    refine LW.q rfl (Qt.pick rfl rfl) ?_
    refine LW.q rfl (Qt.move rfl) ?_
    first | refine LW.gT (t := 42) rfl rfl ?_ | refine LW.gT (t := 42) rfl (decide_eq_true (by omega)) ?_ | refine LW.gT (t := 42) rfl (by omega) ?_
    refine LW.q rfl (Qt.move rfl) ?_
    first | refine LW.q rfl (Qt.eqlNil (by kernel_rfl) rfl rfl) ?_ | refine LW.q rfl (Qt.eqlNN (by kernel_rfl) rfl rfl) ?_
    refine LW.q rfl (Qt.move rfl) ?_
    first | refine LW.gT (t := 45) rfl rfl ?_ | refine LW.gT (t := 45) rfl (decide_eq_true (by omega)) ?_ | refine LW.gT (t := 45) rfl (by omega) ?_
    refine LW.s rfl ?_
    refine LW.s rfl ?_
    refine LW.s rfl ?_
    refine LW.s rfl ?_
    refine LW.s rfl ?_
    refine LW.s rfl ?_
    refine LW.s rfl ?_
    refine LW.s rfl ?_
    refine LW.s rfl ?_
    refine LW.s rfl ?_
    refine LW.s rfl ?_
    refine LW.s rfl ?_
    refine LW.s rfl ?_
    refine LW.q rfl (Qt.pick rfl rfl) ?_
    refine LW.q rfl (Qt.pick rfl rfl) ?_
    refine LW.q rfl (Qt.assign rfl) ?_
    refine LW.done ?_
    refine T.ret ?_
    exact ⟨.inl rfl, _, _, res [_] rfl ⟨rvT rfl, trivial⟩, ⟨rfl, rfl⟩, Sub.any⟩
  · skip
    have hx := h
    unfold wrongP at hx
    refine T.skip ?_
    refine T.seq ?_
    refine T.region ?_
    refine LW.q rfl (Qt.move rfl) ?_
    refine LW.q rfl (Qt.move rfl) ?_
    refine LW.q rfl (Qt.move rfl) ?_
    refine LW.q rfl (Qt.move rfl) ?_
    refine LW.e rfl (Ef.call (Bf.new B [] b ⟨List.replicate 12 zs, []⟩ first.toNat count.toNat frames.toNat first count frames (by omega) (by omega) (by omega) (.slice none 0 0) [] (by simp) (by omega) (by simp; omega) (by omega) (by omega) (RdV.nil _ _) (by simp) (by simp)) Tryd.func10 rfl rfl rfl ?_)
    rintro _ _ ⟨g, gf, pl, cl, rfl, rfl⟩
    try simp only [List.cons_append, List.nil_append]
    refine LW.q rfl (Qt.move rfl) ?_
    refine LW.q rfl (Qt.extract rfl rfl) ?_
    refine LW.q rfl (Qt.extract rfl rfl) ?_
    refine LW.q rfl (Qt.assign rfl) ?_
    refine LW.q rfl (Qt.assign rfl) ?_
    refine LW.done ?_
    refine T.seq ?_
    refine T.region ?_
    refine LW.q rfl (Qt.move rfl) ?_
    refine LW.q rfl (Qt.move rfl) ?_
    refine LW.q rfl (Qt.move rfl) ?_
    refine LW.e rfl (Ef.call (Rp.wrong_no B 12 first count frames (by omega) h) Tryd.func11 rfl rfl rfl ?_)
    rintro _ _ ⟨rfl, rfl⟩
    try simp only [List.cons_append, List.nil_append]
    refine LW.q rfl (Qt.assign rfl) ?_
    refine LW.done ?_
    refine T.seq ?_
    refine T.region ?_
    refine LW.q rfl (Qt.move rfl) ?_
    refine LW.q rfl (Qt.move rfl) ?_
    refine LW.q rfl (Qt.eql rfl rfl) ?_
    refine LW.q rfl (Qt.move rfl) ?_
    first | refine LW.gT (t := 35) rfl rfl ?_ | refine LW.gT (t := 35) rfl (decide_eq_true (by omega)) ?_ | refine LW.gT (t := 35) rfl (by omega) ?_
    refine LW.q rfl (Qt.move rfl) ?_
    first | refine LW.q rfl (Qt.eqlNil (by kernel_rfl) rfl rfl) ?_ | refine LW.q rfl (Qt.eqlNN (by kernel_rfl) rfl rfl) ?_
    refine LW.q rfl (Qt.move rfl) ?_
    refine LW.q rfl (Qt.neq rfl rfl) ?_
    refine LW.q rfl (Qt.eqlB (by kernel_rfl) rfl rfl) ?_
    refine LW.q rfl (Qt.pick rfl rfl) ?_
    refine LW.q rfl (Qt.move rfl) ?_
    first | refine LW.gT (t := 42) rfl rfl ?_ | refine LW.gT (t := 42) rfl (decide_eq_true (by omega)) ?_ | refine LW.gT (t := 42) rfl (by omega) ?_
    refine LW.q rfl (Qt.move rfl) ?_
    first | refine LW.q rfl (Qt.eqlNil (by kernel_rfl) rfl rfl) ?_ | refine LW.q rfl (Qt.eqlNN (by kernel_rfl) rfl rfl) ?_
    refine LW.q rfl (Qt.move rfl) ?_
    first | refine LW.gF (t := 45) rfl rfl ?_ | refine LW.gF (t := 45) rfl (decide_eq_false (by omega)) ?_ | refine LW.gF (t := 45) rfl (by omega) ?_
    refine LW.q rfl (Qt.move rfl) ?_
    refine LW.q rfl (Qt.nilCheck rfl) ?_
    refine LW.q rfl (Qt.fieldAddr0 (by kernel_rfl) rfl) ?_
    refine LW.e rfl (Ef.call (Bf.pages B g b gf frames.toNat first.toNat count.toNat 0 pl 0 cl) Tryd.func12 rfl rfl rfl ?_)
    rintro _ _ ⟨rfl, rfl⟩
    try simp only [List.cons_append, List.nil_append]
    refine LW.q rfl (Qt.move rfl) ?_
    refine LW.q rfl (Qt.eql rfl rfl) ?_
    refine LW.q rfl (Qt.move rfl) ?_
    first | refine LW.gT (t := 52) rfl rfl ?_ | refine LW.gT (t := 52) rfl (decide_eq_true (by omega)) ?_ | refine LW.gT (t := 52) rfl (by omega) ?_
    refine LW.q rfl (Qt.move rfl) ?_
    refine LW.e rfl (Ef.call (Bf.frames B g b gf frames.toNat first.toNat count.toNat 0 pl 0 cl (List.replicate frames.toNat fm1) (by simp) (by omega)) Tryd.func13 rfl rfl rfl ?_)
    rintro _ _ ⟨p, c, rfl, rfl⟩
    try simp only [List.cons_append, List.nil_append]
    refine LW.q rfl (Qt.len (e := 3) (sz := 1) (by kernel_rfl) rfl) ?_
    refine LW.q rfl (Qt.move rfl) ?_
    refine LW.q rfl (Qt.eql rfl rfl) ?_
    refine LW.q rfl (Qt.pick rfl rfl) ?_
    refine LW.q rfl (Qt.pick rfl rfl) ?_
    refine LW.q rfl (Qt.pick rfl rfl) ?_
    refine LW.q rfl (Qt.assign rfl) ?_
    refine LW.done ?_
    have hq : (frames.toNat : Int) = frames := by omega
    refine T.ret ?_
    exact ⟨.inl rfl, _, _, res [_] rfl ⟨rvT rfl, trivial⟩, ⟨by rw [hq]; simp [outV], rfl⟩, Sub.any⟩
end Go.Proofs.YtegohgaccmkigaaDoor
