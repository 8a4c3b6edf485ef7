/- The disk's contracts (New, Write, Read, Pending, Sectors, Sync, Crash, Fork, full, awake) as contracts over assertions. Conditions: sizes. -/
import Derived.Test.YtjjhbpjbngdlnaaDoorSlE
import Derived.Test.YtjjhbpjbngdlnaaDoorDiskJ
namespace Go.Proofs.YtjjhbpjbngdlnaaDoor
open Go.RowKit

def dskB (b : Nat) (D : DD) (bs cx : Nat) (X : List Value) (pv : Value) : Assn := fun h =>
  D.Ok ∧ h b = some (.cells #[.slice (some ⟨bs, 0, none⟩) D.secs.length cx, pv] 111 (0, 0)) ∧ h bs = some (.cells (secsV D.secs ++ X).toArray 128 (0, 0)) ∧
    row pv 130 257 D.pend.length (pendsV D.pend) h ∧ b ≠ bs ∧ ∀ g, pv.ownBlock = some g → g ≠ b ∧ g ≠ bs
/-- The disk D at block b. -/
def dskA (b : Nat) (D : DD) : Assn := fun h => ∃ bs cx X pv, dskB b D bs cx X pv h

section
variable {B : Base} {w w' : World} {l : List Assn}
theorem row_dom {pv : Value} {e sz n : Nat} {xs : List Value} {h : Piece} (H : row pv e sz n xs h) : ∀ g ∈ pv.ownBlock.toList, ∃ o, h g = some o := by
  intro g hg
  rcases H.2 with ⟨rfl, _⟩ | ⟨g', cap, cur, rfl, h2, _⟩
  · simp [Value.ownBlock] at hg
  · simp [Value.ownBlock] at hg; subst hg; exact ⟨_, h2⟩
theorem dskB_dom {b bs cx : Nat} {D : DD} {X : List Value} {pv : Value} {h : Piece} (H : dskB b D bs cx X pv h) : ∀ g ∈ dfp b bs pv, ∃ o, h g = some o := by
  obtain ⟨_, h1, h2, h3, _⟩ := H
  intro g hg
  simp only [dfp, List.mem_cons] at hg
  rcases hg with rfl | rfl | hg
  · exact ⟨_, h1⟩
  · exact ⟨_, h2⟩
  · exact row_dom h3 g hg
theorem Own.disk {b : Nat} {D : DD} (H : Own B w (dskA b D :: l)) : ∃ bs cx X pv, Own B w (dskB b D bs cx X pv :: l) ∧ DiskAt w b D bs cx X pv := by
  obtain ⟨h, hd, hl, h1, h2, d, a1, a2, ⟨bs, cx, X, pv, hA⟩, H2⟩ := H.has
  have H' : Own B w (dskB b D bs cx X pv :: l) := ⟨H.os, H.tape, H.output, H.ro, h, hd, hl, h1, h2, d, a1, a2, hA, H2⟩
  obtain ⟨k1, k2, k3, k4, k5, k6⟩ := hA
  have le : ∀ g o, h1 g = some o → w.heap[g]? = some o := fun g o e => hl.p _ _ (a1.p _ _ e)
  refine ⟨bs, cx, X, pv, H', k1, le _ _ k2, le _ _ k3, ?_, k5, k6⟩
  exact ⟨k4.1, k4.2.imp id fun ⟨g, cap, cur, e1, e2, e3⟩ => ⟨g, cap, cur, e1, Nat.zero_le _, le _ _ e2, e3⟩⟩
theorem DiskAt.to {b bs cx : Nat} {D : DD} {X : List Value} {pv : Value} {h : Piece} (H : DiskAt w b D bs cx X pv) (hh : ∀ g ∈ dfp b bs pv, h g = w.heap[g]?) : dskB b D bs cx X pv h := by
  refine ⟨H.ok, by rw [hh _ (by simp [dfp])]; exact H.hb, by rw [hh _ (by simp [dfp])]; exact H.hs, ⟨H.hp.1, H.hp.2.imp id ?_⟩, H.n1, H.n2⟩
  rintro ⟨g, cap, cur, rfl, _, e2, e3⟩
  exact ⟨g, cap, cur, rfl, by rw [hh _ (by simp [dfp, Value.ownBlock])]; exact e2, e3⟩
theorem Own.disk_kept {b bs cx : Nat} {D D' : DD} {X : List Value} {pv : Value} (H : Own B w (dskB b D bs cx X pv :: l)) (hk : Kept (dfp b bs pv) w w') {bs' cx' : Nat} {X' : List Value} {pv' : Value} (hD : DiskAt w' b D' bs' cx' X' pv') (hn : ∀ x ∈ dfp b bs' pv', x ∈ dfp b bs pv ∨ w.heap.size ≤ x) : Own B w' (dskA b D' :: l) :=
  Own.kept H hk (fun _ => dskB_dom) fun h1 h _ _ e _ => ⟨bs', cx', X', pv', hD.to fun g hg => e g (hn g hg)⟩
theorem Own.disk_new {b bs cx : Nat} {D : DD} {X : List Value} {pv : Value} (H : Own B w l) (hk : Kept [] w w') (hD : DiskAt w' b D bs cx X pv) (hn : ∀ x ∈ dfp b bs pv, w.heap.size ≤ x) : Own B w' (dskA b D :: l) :=
  Own.fresh H hk fun h e => ⟨bs, cx, X, pv, hD.to fun g hg => e g (hn g hg)⟩
theorem Own.undisk {b bs cx : Nat} {D : DD} {X : List Value} {pv : Value} (H : Own B w (dskB b D bs cx X pv :: l)) : Own B w (dskA b D :: l) := H.map fun _ k => Has.weaken (fun _ k => ⟨bs, cx, X, pv, k⟩) k
theorem Own.apart {A1 A2 : Assn} {x y : Nat} (H : Own B w (A1 :: A2 :: l)) (h1 : ∀ h, A1 h → ∃ o, h x = some o) (h2 : ∀ h, A2 h → ∃ o, h y = some o) : x ≠ y := by
  rintro rfl
  obtain ⟨h, _, _, k1, k2, d, _, _, hA, m1, m2, _, b1, _, hB, _⟩ := H.has
  obtain ⟨o1, e1⟩ := h1 _ hA
  obtain ⟨o2, e2⟩ := h2 _ hB
  rcases d.p x with e | e
  · rw [e1] at e; cases e
  · rw [b1.p _ _ e2] at e; cases e
theorem Own.apart_ro {A1 : Assn} {x y : Nat} {o : Obj} (H : Own B w (A1 :: l)) (h1 : ∀ h, A1 h → ∃ o, h x = some o) (h2 : B.ro y = some o) : x ≠ y := by
  rintro rfl
  obtain ⟨h, hd, _, k1, k2, _, a1, _, hA, _⟩ := H.has
  obtain ⟨o1, e1⟩ := h1 _ hA
  rcases hd.p x with e | e
  · rw [a1.p _ _ e1] at e; cases e
  · rw [h2] at e; cases e
theorem RoS.reads {v : Value} {cs : List Value} (H : RoS B v cs) (ho : Own B w l) : ∃ fp, Reads w v cs fp ∧ ∀ x ∈ fp, ∃ o, B.ro x = some o := by
  obtain ⟨a, cap, rfl, h | ⟨b, o, C, rfl, hro, hC⟩⟩ := H
  · exact ⟨[], ⟨a, cap, rfl, .inl h⟩, by simp⟩
  · obtain ⟨X, t, fr, hb⟩ := hro.rd
    refine ⟨[b], ⟨_, cap, rfl, .inr ⟨b, o, rfl, fun j u hu => ?_, by simp⟩⟩, by simp [hb]⟩
    rw [cell_of_row w b _ _ _ _ (ho.ro.p _ _ hb)]
    have := hC j u hu
    rw [Nat.mul_one] at this
    have hl := (List.getElem?_eq_some_iff.1 this).1
    simp [List.getElem?_append_left hl, this]
end

theorem Dk.newF (B : Base) (n : Nat) (i : Int) (hi : i = n) (h1 : 1 ≤ n) (h2 : n ≤ 4096) : Fn Tryd.prog B 24 #[.int .i64 i] [] (fun v l => ∃ b, v = .tuple #[.pointer (some ⟨b, 0, none⟩), .int .i64 0] ∧ l = [dskA b ⟨List.replicate n zs, []⟩]) := ⟨fun w F ho => by
  subst hi
  refine (Dk.new n w h1 h2).mono ?_
  rintro e w' ⟨b, fp, rfl, ⟨bs, cx, X, pv, hd, rfl⟩, h3, h4⟩
  exact ⟨_, _, rfl, ⟨b, rfl, rfl⟩, Own.disk_new ho h4 hd h3⟩⟩
theorem Dk.newF_no (B : Base) (n : Int) (h : n < 1 ∨ 4096 < n) : Fn Tryd.prog B 24 #[.int .i64 n] [] (fun v l => v = .tuple #[.pointer none, .int .i64 1] ∧ l = []) := ⟨fun w F ho => by
  refine (Dk.new_no n w h).mono ?_
  rintro e w' ⟨rfl, rfl⟩
  exact ⟨_, _, rfl, ⟨rfl, rfl⟩, ho⟩⟩
theorem Dk.write_noF (B : Base) (b : Nat) (D : DD) (v : Value) (n : Int) (hn : n < 0 ∨ (D.secs.length : Int) ≤ n) :
    Fn Tryd.prog B 34 #[.pointer (some ⟨b, 0, none⟩), .int .i64 n, v] [dskA b D] (fun u l => u = .int .i64 1 ∧ l = [dskA b D]) := ⟨fun w F ho => by
  obtain ⟨bs, cx, X, pv, h1, h2⟩ := ho.disk
  refine (Dk.write_no b bs cx X D pv v n w h2 hn).mono ?_
  rintro e w' ⟨rfl, rfl⟩
  exact ⟨_, _, rfl, ⟨rfl, rfl⟩, ho⟩⟩
theorem Dk.write_lengthF (B : Base) (b : Nat) (D : DD) (p : Option Addr) (m c : Nat) (n : Int) (hn : 0 ≤ n) (hn' : n < (D.secs.length : Int)) (hm : m ≠ 256) :
    Fn Tryd.prog B 34 #[.pointer (some ⟨b, 0, none⟩), .int .i64 n, .slice p m c] [dskA b D] (fun u l => u = .int .i64 10 ∧ l = [dskA b D]) := ⟨fun w F ho => by
  obtain ⟨bs, cx, X, pv, h1, h2⟩ := ho.disk
  refine (Dk.write_length b bs cx X D pv p m c n w h2 hn hn' hm).mono ?_
  rintro e w' ⟨rfl, rfl⟩
  exact ⟨_, _, rfl, ⟨rfl, rfl⟩, ho⟩⟩
theorem Dk.write_core (B : Base) (b : Nat) (D : DD) (bb ob c n : Nat) (i : Int) (hi : i = n) (d : List UInt8) (w : World) (F : List Assn) (ho : Own B w (dskA b D :: F)) (hn : n < D.secs.length) (hr : w.rangeAt bb ob (bytesV d)) (hd : d.length = 256) (hbb : ∀ bs cx X pv, Own B w (dskB b D bs cx X pv :: F) → bb ∉ dfp b bs pv) (hroom : D.pend.length < 2 ^ 32) :
    Calls Tryd.prog 34 #[.pointer (some ⟨b, 0, none⟩), .int .i64 i, .slice (some ⟨bb, ob, none⟩) 256 c] w fun e w' => e = .returned (.int .i64 0) ∧ Own B w' (dskA b (D.write n d) :: F) := by
  subst hi
  obtain ⟨bs, cx, X, pv, h1, h2⟩ := ho.disk
  refine (Dk.write b bs n bb ob c cx X D pv d w h2 hn hr hd (hbb _ _ _ _ h1) hroom).mono ?_
  rintro e w' ⟨pv', rfl, h3, h4, h5⟩
  refine ⟨rfl, h1.disk_kept h5 h3 fun x hx => ?_⟩
  simp only [dfp, List.mem_cons, Option.mem_toList] at hx ⊢
  rcases hx with rfl | rfl | hx
  · simp
  · simp
  · rcases h4 x hx with h | h
    · exact .inl (.inr (.inr h))
    · exact .inr h
/-- Write of 256 bytes that lie in block bb, of which A tells. -/
theorem Dk.writeF (B : Base) (b : Nat) (D : DD) (A : Assn) (bb ob c n : Nat) (i : Int) (hi : i = n) (d : List UInt8) (hA : ∀ h, A h → ∃ C t fr, h bb = some (.cells C t fr) ∧ ∀ j v, (bytesV d)[j]? = some v → C[ob + j]? = some v) (hn : n < D.secs.length) (hd : d.length = 256) (hroom : D.pend.length < 2 ^ 32) :
    Fn Tryd.prog B 34 #[.pointer (some ⟨b, 0, none⟩), .int .i64 i, .slice (some ⟨bb, ob, none⟩) 256 c] [dskA b D, A] (fun u l => u = .int .i64 0 ∧ l = [dskA b (D.write n d), A]) := ⟨fun w F ho => by
  have hr : w.rangeAt bb ob (bytesV d) := by
    obtain ⟨h, _, hl, k1, k2, _, _, a2, _, m1, m2, _, b1, _, hB, _⟩ := ho.has
    obtain ⟨C, t, fr, e1, e2⟩ := hA _ hB
    intro j v hv
    rw [cell_of_row w bb _ _ _ _ (hl.p _ _ (a2.p _ _ (b1.p _ _ e1)))]
    exact e2 j v hv
  refine (Dk.write_core B b D bb ob c n i hi d w (A :: F) ho hn hr hd (fun bs cx X pv H hm => ?_) hroom).mono ?_
  · exact H.apart (x := bb) (y := bb) (fun h k => dskB_dom k _ hm) (fun h k => by obtain ⟨C, t, fr, e1, _⟩ := hA h k; exact ⟨_, e1⟩) rfl
  · rintro e w' ⟨rfl, h⟩
    exact ⟨_, _, rfl, ⟨rfl, rfl⟩, h⟩⟩
/-- Write of 256 bytes that lie in memory that is only read. -/
theorem Dk.writeR (B : Base) (b : Nat) (D : DD) (v : Value) (n : Nat) (i : Int) (hi : i = n) (d : List UInt8) (hv : RoS B v (bytesV d)) (hn : n < D.secs.length) (hd : d.length = 256) (hroom : D.pend.length < 2 ^ 32) :
    Fn Tryd.prog B 34 #[.pointer (some ⟨b, 0, none⟩), .int .i64 i, v] [dskA b D] (fun u l => u = .int .i64 0 ∧ l = [dskA b (D.write n d)]) := ⟨fun w F ho => by
  obtain ⟨fp, hr, hfp⟩ := hv.reads ho
  obtain ⟨a, cap, rfl, h | ⟨bb, ob, rfl, hrg, hb⟩⟩ := hr
  · have : d.length = 0 := by simpa [bytesV] using congrArg List.length h
    omega
  rw [length_bytesV, hd]
  refine (Dk.write_core B b D bb ob cap n i hi d w F ho hn hrg hd (fun bs cx X pv H hm => ?_) hroom).mono ?_
  · obtain ⟨o, e⟩ := hfp _ hb
    exact H.apart_ro (fun h k => dskB_dom k _ hm) e rfl
  · rintro e w' ⟨rfl, h⟩
    exact ⟨_, _, rfl, ⟨rfl, rfl⟩, h⟩⟩
theorem Dk.read_noF (B : Base) (b : Nat) (D : DD) (n : Int) (hn : n < 0 ∨ (D.secs.length : Int) ≤ n) :
    Fn Tryd.prog B 43 #[.pointer (some ⟨b, 0, none⟩), .int .i64 n] [dskA b D] (fun u l => u = .tuple #[.slice none 0 0, .int .i64 1] ∧ l = [dskA b D]) := ⟨fun w F ho => by
  obtain ⟨bs, cx, X, pv, h1, h2⟩ := ho.disk
  refine (Dk.read_no b bs cx X D pv n w h2 hn).mono ?_
  rintro e w' ⟨rfl, rfl⟩
  exact ⟨_, _, rfl, ⟨rfl, rfl⟩, ho⟩⟩
theorem Dk.readF (B : Base) (b : Nat) (D : DD) (n : Nat) (i : Int) (hi : i = n) (hn : n < D.secs.length) (hroom : D.pend.length < 2 ^ 32) :
    Fn Tryd.prog B 43 #[.pointer (some ⟨b, 0, none⟩), .int .i64 i] [dskA b D] (fun u l => ∃ g cap, u = .tuple #[.slice (some ⟨g, 0, none⟩) 256 cap, .int .i64 0] ∧ l = [dskA b D, row (.slice (some ⟨g, 0, none⟩) 256 cap) 5 1 256 (bytesV (D.read n))]) := ⟨fun w F ho => by
  obtain ⟨bs, cx, X, pv, h1, h2⟩ := ho.disk
  refine (Dk.readI b bs n cx i X D pv w hi h2 hn hroom).mono ?_
  rintro e w' ⟨g, cap, rfl, h3, h4, h5, h6⟩
  refine ⟨_, _, rfl, ⟨g, cap, rfl, rfl⟩, ?_⟩
  have := (ho.row_new h6 h3 (fun x hx => by simp [Value.ownBlock] at hx; omega))
  exact this.map fun _ k => Has.swap k⟩
theorem Dk.pendingF (B : Base) (b : Nat) (D : DD) : Fn Tryd.prog B 44 #[.pointer (some ⟨b, 0, none⟩)] [dskA b D] (fun u l => u = .int .i64 D.pend.length ∧ l = [dskA b D]) := ⟨fun w F ho => by
  obtain ⟨bs, cx, X, pv, h1, h2⟩ := ho.disk
  refine (Dk.pendingI b bs cx X D pv w h2).mono ?_
  rintro e w' ⟨rfl, rfl⟩
  exact ⟨_, _, rfl, ⟨rfl, rfl⟩, ho⟩⟩
theorem Dk.sectorsF (B : Base) (b : Nat) (D : DD) : Fn Tryd.prog B 58 #[.pointer (some ⟨b, 0, none⟩)] [dskA b D] (fun u l => u = .int .i64 D.secs.length ∧ l = [dskA b D]) := ⟨fun w F ho => by
  obtain ⟨bs, cx, X, pv, h1, h2⟩ := ho.disk
  refine (Dk.sectors b 0 _ _ _ w h2.c0).mono ?_
  rintro e w' ⟨rfl, rfl⟩
  exact ⟨_, _, rfl, ⟨rfl, rfl⟩, ho⟩⟩
theorem Dk.laidF {B : Base} {b bs cx : Nat} {X : List Value} {D D' : DD} {pv v : Value} {w w' : World} {F : List Assn} {e : Ending} (h1 : Own B w (dskB b D bs cx X pv :: F)) (h : LaidPost w b bs cx X D' v e w') : ∃ u l, e = .returned u ∧ (u = v ∧ l = [dskA b D']) ∧ Own B w' (l ++ F) := by
  obtain ⟨rfl, h3, h4⟩ := h
  refine ⟨_, _, rfl, ⟨rfl, rfl⟩, h1.disk_kept (h4.mono (by simp [dfp])) h3 fun x hx => ?_⟩
  simp [dfp, Value.ownBlock] at hx ⊢
  rcases hx with rfl | rfl <;> simp
theorem Dk.syncF (B : Base) (b : Nat) (D : DD) (hroom : D.pend.length < 2 ^ 32) : Fn Tryd.prog B 69 #[.pointer (some ⟨b, 0, none⟩)] [dskA b D] (fun u l => u = .int .i64 D.pend.length ∧ l = [dskA b D.sync]) := ⟨fun w F ho => by
  obtain ⟨bs, cx, X, pv, h1, h2⟩ := ho.disk
  exact (Dk.sync b bs cx X D pv w h2 hroom).mono fun e w' h => Dk.laidF h1 h⟩
theorem Dk.crashF (B : Base) (b : Nat) (D : DD) (vk : Value) (keep : List Bool) (tear at_ : Int) (hk : RoS B vk (boolsV keep)) (hroom : D.pend.length < 2 ^ 32) :
    Fn Tryd.prog B 37 #[.pointer (some ⟨b, 0, none⟩), vk, .int .i64 tear, .int .i64 at_] [dskA b D] (fun u l => u = .tuple #[] ∧ l = [dskA b (D.crash keep tear at_)]) := ⟨fun w F ho => by
  obtain ⟨bs, cx, X, pv, h1, h2⟩ := ho.disk
  obtain ⟨fp, hr, hfp⟩ := hk.reads ho
  refine (Dk.crash b bs cx X D pv vk keep fp tear at_ w h2 hroom hr (fun x hx e => ?_)).mono fun e w' h => Dk.laidF h1 h
  obtain ⟨o, e'⟩ := hfp x hx
  exact h1.apart_ro (x := x) (fun h k => dskB_dom k _ (by rw [e]; simp [dfp])) e' rfl⟩
theorem Dk.forkF (B : Base) (b : Nat) (D : DD) (hroom : D.pend.length < 2 ^ 32) : Fn Tryd.prog B 45 #[.pointer (some ⟨b, 0, none⟩)] [dskA b D] (fun u l => ∃ b', u = .pointer (some ⟨b', 0, none⟩) ∧ l = [dskA b' D, dskA b D]) := ⟨fun w F ho => by
  obtain ⟨bs, cx, X, pv, h1, h2⟩ := ho.disk
  refine (Dk.fork b bs cx X D pv w h2 hroom).mono ?_
  rintro e w' ⟨b', bs', cx', X', pv', rfl, h3, h4, h5⟩
  exact ⟨_, _, rfl, ⟨b', rfl, rfl⟩, Own.disk_new ho h5 h3 h4⟩⟩
theorem blk_bytes {g : Nat} {d : List UInt8} {t : TypeId} (h : Piece) (k : blk g (bytesV d) t h) : ∃ C t fr, h g = some (.cells C t fr) ∧ ∀ j v, (bytesV d)[j]? = some v → C[0 + j]? = some v := ⟨_, t, (0, 0), k, fun j v hv => by rw [Nat.zero_add]; simpa using hv⟩
end Go.Proofs.YtjjhbpjbngdlnaaDoor
