/- The texts BhA, one behind the other: what the law leans on. Conditions: as each theorem says. -/
import Derived.Test.YtegohgaccmkigaaGreatDoorZBufferPlays7
/- The document's pool: Find, copied, force, Pinned, Unpin, Put. Conditions: sizes; the frames are in order. -/
set_option linter.unusedSimpArgs false
set_option linter.unusedVariables false
namespace Go.Proofs.YtegohgaccmkigaaGreatDoor
open Go.RowKit

abbrev raC (x : Fa) : List Value := [.int .i64 x.page, strW x.b, .int .i64 x.mark, .int .i64 x.pins, .bool x.dirty, .bool x.used]
abbrev raR (pf : Option Addr) (n cf : Nat) (A : List Fa) : Assn := row (.slice pf n cf) 90 6 n (A.flatMap raC)
/-- The document's pool: its disk, its log, its frames. -/
abbrev rqC (p q : Option Addr) (a c N m : Nat) (W : Wl) (first count : Nat) (pf : Option Addr) (n cf hand : Nat) : List Value := [.slice p N a, .slice q m c, .string (strOf W.st), .int .u32 W.sum.toNat, .int .i64 W.dur, .int .i64 W.first, .int .i64 W.count, .int .i64 first, .int .i64 count, .slice pf n cf, .int .i64 hand]
abbrev rqV (p q : Option Addr) (a c N m : Nat) (W : Wl) (first count : Nat) (pf : Option Addr) (n cf hand : Nat) : Value := .agg #[.slice p N a, .slice q m c, .string (strOf W.st), .int .u32 W.sum.toNat, .int .i64 W.dur, .int .i64 W.first, .int .i64 W.count, .int .i64 first, .int .i64 count, .slice pf n cf, .int .i64 hand]
theorem ra_at {A : List Fa} {i : Nat} {x : Fa} (h : A[i]? = some x) (j : Nat) (hj : j < 6) : (A.flatMap raC)[0 + i * 6 + j]? = (raC x)[j]? := by
  induction A generalizing i with
  | nil => simp at h
  | cons y R ih =>
    cases i with
    | zero =>
      simp at h; subst h
      rw [List.flatMap_cons, Nat.zero_mul, Nat.add_zero, Nat.zero_add, List.getElem?_append_left (by simpa using hj)]
    | succ i =>
      have := ih (i := i) (by simpa using h)
      rw [List.flatMap_cons, List.getElem?_append_right (by simp; omega), ← this]
      congr 1
      simp; omega
theorem ra_set {A : List Fa} {i : Nat} {x y : Fa} (h : A[i]? = some x) (j : Nat) (hj : j < 6) (v : Value) (hy : raC y = (raC x).set j v) : (A.flatMap raC).set (0 + i * 6 + j) v = (A.set i y).flatMap raC := by
  induction A generalizing i with
  | nil => simp at h
  | cons z R ih =>
    cases i with
    | zero =>
      simp at h; subst h
      rw [List.flatMap_cons, Nat.zero_mul, Nat.add_zero, Nat.zero_add, List.set_append_left _ _ (by simpa using hj), ← hy]
      rfl
    | succ i =>
      have := ih (i := i) (by simpa using h)
      rw [List.flatMap_cons, List.set_cons_succ, List.flatMap_cons, ← this, List.set_append_right _ _ (by simp; omega)]
      congr 2
      simp; omega
theorem ra_splice {A : List Fa} {i : Nat} (h : i < A.length) (y : Fa) : splice (A.flatMap raC) (0 + i * 6) (raC y) = (A.set i y).flatMap raC := by
  unfold splice
  induction A generalizing i with
  | nil => simp at h
  | cons z R ih =>
    cases i with
    | zero => simp [List.flatMap_cons]
    | succ i =>
      have := ih (i := i) (by simpa using h)
      rw [List.set_cons_succ, List.flatMap_cons, List.flatMap_cons, ← this]
      rw [List.take_append, List.drop_append, List.take_of_length_le (l := raC z) (by first | (simp; done) | (simp; omega)), List.drop_of_length_le (l := raC z) (by first | (simp; done) | (simp; omega))]
      simp only [List.length_cons, List.length_nil, List.nil_append, List.append_assoc]
      congr 2
      · congr 1; omega
      · congr 2; omega
theorem ra_len (A : List Fa) : (A.flatMap raC).length = A.length * 6 := flat_length raC 6 _ (fun _ _ => rfl)
theorem Rp.elemF : ElemOk Tryz.prog 39 90 6 48 := .mk' (.agg #[.int .i64 0, .string ⟨#[]⟩, .int .i64 0, .int .i64 0, .bool false, .bool false]) Tryz.underlying39 (by kernel_rfl) rfl (by omega)
theorem one_raC {A : List Fa} : ∀ v ∈ A.flatMap raC, v.oneCell' = true := by
  intro v hv
  obtain ⟨x, _, hx⟩ := List.mem_flatMap.1 hv
  simp only [List.mem_cons, List.not_mem_nil, or_false] at hx
  rcases hx with rfl | rfl | rfl | rfl | rfl | rfl <;> rfl

def findI (A : List Fa) (page : Int) : Int := match findA A page with
  | some i => i
  | none => -1
theorem findA_eq {A : List Fa} {page : Int} {i : Nat} {x : Fa} (h0 : 0 ≤ page) (hx : A[i]? = some x) (hp : x.page = page) (hf : ∀ (j : Nat), j < i → ∀ y : Fa, A[j]? = some y → y.page ≠ page) : findA A page = some i := by
  unfold findA
  rw [if_neg (by omega), List.findIdx?_eq_some_iff_getElem]
  obtain ⟨hi, e⟩ := List.getElem?_eq_some_iff.1 hx
  refine ⟨hi, by rw [e]; exact decide_eq_true hp, fun j hj => ?_⟩
  simpa using hf j hj _ (List.getElem?_eq_getElem (by omega))
theorem findA_no {A : List Fa} {page : Int} (h : ∀ (j : Nat) (y : Fa), A[j]? = some y → ¬ (0 ≤ page ∧ y.page = page)) : findA A page = none := by
  unfold findA
  split
  · rfl
  · rw [List.findIdx?_eq_none_iff]
    intro x hx
    obtain ⟨i, hi, rfl⟩ := List.getElem_of_mem hx
    have := h i _ (List.getElem?_eq_getElem hi)
    simp
    omega

set_option maxHeartbeats 2000000 in
set_option maxRecDepth 100000 in
theorem Rp.find (B : Base) (p q : Option Addr) (a c N m : Nat) (W : Wl) (first count : Nat) (pf : Option Addr) (n cf hand : Nat) (A : List Fa) (hn : A.length = n) (hn2 : n ≤ 4096) (page : Int) :
  Fn Tryz.prog B 53 #[rqV p q a c N m W first count pf n cf hand, .int .i64 page] [raR pf n cf A] (fun v l => v = .int .i64 (findI A page) ∧ l = [raR pf n cf A]) := by
 refine Fn.enter2 26 Tryz.func53 rfl rfl (Nat.le_of_ble_eq_true rfl) (fun F => ?_)
 try simp only [List.cons_append, List.nil_append]
 refine T.seq ?_
 refine T.region ?_
 refine LW.e rfl (Ef.box [_, _, _, _, _, _, _, _, _, _, _] rfl rfl ?_)
 intro g2
 refine LW.q rfl (Qt.assign rfl) ?_
 refine LW.done ?_
 refine T.seq ?_
 refine T.seq ?_
 refine T.region ?_
 refine LW.q rfl (Qt.assign rfl) ?_
 refine LW.done ?_
 refine T.block ?_
 refine T.loop (fun mz fz lz => ∃ (f0 : Fr) (k : Nat), (k ≤ n ∧ ∀ (j : Nat), j < k → ∀ y : Fa, A[j]? = some y → ¬ (0 ≤ page ∧ y.page = page)) ∧ mz = n - k ∧ fz = (upd (upd (upd f0 1 (.int .i64 page)) 2 (.pointer (some ⟨g2, 0, none⟩))) 5 (.int .i64 k)) ∧ lz = blk g2 (rqC p q a c N m W first count pf n cf hand) 41 :: raR pf n cf A :: F) ?_ ?_
 · refine ⟨_, _, ⟨_, 0, ⟨Nat.zero_le _, fun j hj => by omega⟩, rfl, (updS rfl (updS rfl (updS rfl rfl))), rfl⟩, Sub.any⟩
 ·
  rintro mz fz lz ⟨f0, k, ⟨hk, hno⟩, hmz, rfl, rfl⟩
  subst mz
  try simp only [List.cons_append, List.nil_append]
  refine T.seq ?_
  refine T.seq ?_
  refine T.region ?_
  refine LW.q rfl (Qt.move rfl) ?_
  refine LW.q rfl (Qt.fieldAddr (off := 9) (by kernel_rfl) rfl) ?_
  first | refine LW.q rfl (Qt.load (by kernel_rfl) rfl rfl) ?_ | refine LW.q rfl (Qt.load (by kernel_rfl) rfl (map_at _ _ _ (by omega))) ?_ | refine LW.q rfl (Qt.load (by kernel_rfl) rfl (flat_cell0 _ _ _ (by intros; rfl) _ (by omega) (by rfl))) ?_ | refine LW.q rfl (Qt.load (by kernel_rfl) rfl (flat_cell _ _ _ (by intros; rfl) _ _ (by omega) (by rfl))) ?_ | refine LW.q rfl (Qt.load (by kernel_rfl) rfl (bytes_at _ _ (by omega))) ?_
  refine LW.q rfl (Qt.len (e := 90) (sz := 6) (by kernel_rfl) rfl) ?_
  refine LW.q rfl (Qt.lss rfl rfl) ?_
  refine LW.done ?_
  refine T.condP rfl (fun hlt => ?_) (fun hlt => ?_)
  ·
   refine T.own (fun w ho => ?_)
   obtain ⟨gf, rfl⟩ : ∃ gf, pf = some ⟨gf, 0, none⟩ := (ho.slice_at (p := pf) (m := n) (c := cf)).2.1 (by omega)
   clear ho
   obtain ⟨y, hy⟩ : ∃ y, A[k]? = some y := ⟨_, List.getElem?_eq_getElem (by omega)⟩
   refine T.skip ?_
   refine T.seq ?_
   refine T.block ?_
   refine T.seq ?_
   refine T.region ?_
   refine LW.q rfl (Qt.move rfl) ?_
   refine LW.q rfl (Qt.geq rfl rfl) ?_
   refine LW.q rfl (Qt.move rfl) ?_
   refine LW.split (t := 15) rfl (fun h0 => ?_) (fun h0 => ?_)
   ·
    try replace h0 := of_decide_eq_true h0
    refine LW.q rfl (Qt.fieldAddr (off := 9) (by kernel_rfl) rfl) ?_
    first | refine LW.q rfl (Qt.load (by kernel_rfl) rfl rfl) ?_ | refine LW.q rfl (Qt.load (by kernel_rfl) rfl (map_at _ _ _ (by omega))) ?_ | refine LW.q rfl (Qt.load (by kernel_rfl) rfl (flat_cell0 _ _ _ (by intros; rfl) _ (by omega) (by rfl))) ?_ | refine LW.q rfl (Qt.load (by kernel_rfl) rfl (flat_cell _ _ _ (by intros; rfl) _ _ (by omega) (by rfl))) ?_ | refine LW.q rfl (Qt.load (by kernel_rfl) rfl (bytes_at _ _ (by omega))) ?_
    refine LW.q rfl (Qt.move rfl) ?_
    refine LW.q rfl (Qt.index _ (e := 90) (sz := 6) (by kernel_rfl) rfl rfl rfl (by omega)) ?_
    refine LW.q rfl (Qt.fieldAddr0 (by kernel_rfl) rfl) ?_
    refine LW.q rfl (Qt.load (v := .int .i64 y.page) (by kernel_rfl) rfl (ra_at hy 0 (by omega))) ?_
    refine LW.q rfl (Qt.move rfl) ?_
    refine LW.q rfl (Qt.eql rfl rfl) ?_
    refine LW.q rfl (Qt.pick rfl rfl) ?_
    refine LW.done ?_
    refine T.condP rfl (fun he => ?_) (fun he => ?_)
    ·
     refine T.seq ?_
     refine T.region ?_
     refine LW.q rfl (Qt.move rfl) ?_
     refine LW.q rfl (Qt.assign rfl) ?_
     refine LW.done ?_
     refine T.ret ?_
     exact ⟨.inl rfl, _, _, res [_] rfl ⟨rvT rfl, trivial⟩, ⟨by rw [findI, findA_eq (by omega) hy he (fun j hj z hz e => hno j hj z hz ⟨by omega, e⟩)]; rfl, rfl⟩, Sub.any⟩
    ·
     refine T.skip ?_
     refine T.region ?_
     refine LW.q rfl (Qt.move rfl) ?_
     refine LW.q rfl (Qt.add rfl rfl (wr64 (by omega) (by omega))) ?_
     refine LW.q rfl (Qt.assign rfl) ?_
     refine LW.done ?_
     refine ⟨_, ?_, _, ⟨_, k + 1, ⟨by omega, fun j hj z hz => by rcases Nat.lt_or_ge j k with h | h; exact hno j h z hz; obtain rfl : j = k := (by omega); rw [hy] at hz; cases hz; exact fun hh => he hh.2⟩, rfl, (updS rfl (updS rfl (updS rfl rfl))), rfl⟩, Sub.any⟩
     first | omega | (simp; omega)
   ·
    try replace h0 := of_decide_eq_false h0
    refine LW.s rfl ?_
    refine LW.s rfl ?_
    refine LW.s rfl ?_
    refine LW.s rfl ?_
    refine LW.s rfl ?_
    refine LW.s rfl ?_
    refine LW.s rfl ?_
    refine LW.s rfl ?_
    refine LW.q rfl (Qt.pick rfl rfl) ?_
    refine LW.done ?_
    first | refine T.condF rfl ?_ | refine T.condPF rfl (by omega) ?_ | refine T.condBF rfl (by omega) ?_
    refine T.skip ?_
    refine T.region ?_
    refine LW.q rfl (Qt.move rfl) ?_
    refine LW.q rfl (Qt.add rfl rfl (wr64 (by omega) (by omega))) ?_
    refine LW.q rfl (Qt.assign rfl) ?_
    refine LW.done ?_
    refine ⟨_, ?_, _, ⟨_, k + 1, ⟨by omega, fun j hj z hz => by rcases Nat.lt_or_ge j k with h | h; exact hno j h z hz; exact fun hh => h0 (by omega)⟩, rfl, (updS rfl (updS rfl (updS rfl rfl))), rfl⟩, Sub.any⟩
    first | omega | (simp; omega)
  ·
   refine T.exit ?_
   refine T.seq ?_
   refine T.region ?_
   refine LW.q rfl (Qt.assign rfl) ?_
   refine LW.done ?_
   refine T.ret ?_
   exact ⟨.inl rfl, _, _, res [_] rfl ⟨rvT rfl, trivial⟩, ⟨by rw [findI, findA_no (fun j y hy => hno j (by have := (List.getElem?_eq_some_iff.1 hy).1; omega) y hy)]; rfl, rfl⟩, Sub.any⟩
set_option maxHeartbeats 2000000 in
set_option maxRecDepth 100000 in
theorem Rp.copied (B : Base) (p q : Option Addr) (a c N m : Nat) (W : Wl) (first count : Nat) (pf : Option Addr) (n cf hand : Nat) (A : List Fa) (hn : A.length = n) (hn2 : n ≤ 4096) :
    Fn Tryz.prog B 52 #[rqV p q a c N m W first count pf n cf hand] [raR pf n cf A] (fun v l => ∃ pf' cf', v = rqV p q a c N m W first count pf' n cf' hand ∧ l = [raR pf' n cf' A]) := by
  refine Fn.enter1 11 Tryz.func52 rfl rfl (Nat.le_of_ble_eq_true rfl) (fun F => ?_)
  try simp only [List.cons_append, List.nil_append]
  refine T.seq ?_
  refine T.region ?_
  refine LW.e rfl (Ef.box [_, _, _, _, _, _, _, _, _, _, _] rfl rfl ?_)
  intro g1
  refine LW.e rfl (Ef.alloc [.slice none 0 0, .slice none 0 0, .string .empty, .int .u32 0, .int .i64 0, .int .i64 0, .int .i64 0, .int .i64 0, .int .i64 0, .slice none 0 0, .int .i64 0] (by unfold zeroB; kernel_rfl) ?_)
  intro g2
  refine LW.done ?_
  refine T.seq ?_
  refine T.region ?_
  refine LW.e rfl (Ef.empty Rp.elemF ?_)
  rintro g4
  try simp only [List.cons_append, List.nil_append]
  refine LW.q rfl (Qt.fieldAddr (off := 9) (by kernel_rfl) rfl) ?_
  first | refine LW.q rfl (Qt.load (by kernel_rfl) rfl rfl) ?_ | refine LW.q rfl (Qt.load (by kernel_rfl) rfl (map_at _ _ _ (by omega))) ?_ | refine LW.q rfl (Qt.load (by kernel_rfl) rfl (flat_cell0 _ _ _ (by intros; rfl) _ (by omega) (by rfl))) ?_ | refine LW.q rfl (Qt.load (by kernel_rfl) rfl (flat_cell _ _ _ (by intros; rfl) _ _ (by omega) (by rfl))) ?_ | refine LW.q rfl (Qt.load (by kernel_rfl) rfl (bytes_at _ _ (by omega))) ?_
  refine LW.e rfl (Ef.append Rp.elemF rfl rfl (SrcOf.row (by kernel_rfl) one_raC) (by unfold maxLen; omega) (by omega) ?_)
  rintro p2 c2 hp2
  try simp only [List.cons_append, List.nil_append]
  simp only [Nat.zero_add, List.nil_append]
  refine LW.q rfl (Qt.assign rfl) ?_
  refine LW.done ?_
  refine T.seq ?_
  refine T.region ?_
  refine LW.q rfl (Qt.move rfl) ?_
  refine LW.q rfl (Qt.fieldAddr (off := 9) (by kernel_rfl) rfl) ?_
  refine LW.e0 rfl (Ef.store1 (by kernel_rfl) rfl rfl rfl (by first | (simp; done) | (simp; omega)) ?_)
  try simp only [List.set_cons_zero, List.set_cons_succ]
  refine LW.done ?_
  refine T.seq ?_
  refine T.region ?_
  first | refine LW.q rfl (Qt.loadAgg [_, _, _, _, _, _, _, _, _, _, _] (by kernel_rfl) rfl ⟨rfl, rfl, rfl, rfl, rfl, rfl, rfl, rfl, rfl, rfl, rfl, trivial⟩) ?_ | refine LW.q rfl (Qt.loadAgg [_, _, _, _, _, _, _, _, _, _, _] (by kernel_rfl) rfl (by exact rdl_flat _ _ _ (by intros; rfl) _ (by omega))) ?_
  refine LW.e0 rfl (Ef.store [_, _, _, _, _, _, _, _, _, _, _] (by kernel_rfl) rfl rfl rfl rfl (by simp) ?_)
  try simp only [splice, List.length_cons, List.length_nil, List.drop_succ_cons, List.cons_append, List.take_succ_cons, List.take_zero, List.drop_zero, List.nil_append, List.append_nil]
  refine LW.done ?_
  refine T.ret ?_
  exact ⟨.inl rfl, _, _, res [_] rfl ⟨rvA [_, _, _, _, _, _, _, _, _, _, _] (by kernel_rfl) rfl ⟨rfl, rfl, rfl, rfl, rfl, rfl, rfl, rfl, rfl, rfl, rfl, trivial⟩, trivial⟩, ⟨p2, c2, rfl, rfl⟩, Sub.any⟩
set_option maxHeartbeats 2000000 in
set_option maxRecDepth 100000 in
theorem Rp.force (B : Base) (p q : Option Addr) (a c N m : Nat) (W : Wl) (D : DD) (first count : Nat) (pf : Option Addr) (n cf hand : Nat) (mark : Int) (hN : D.secs.length = N) (hm : D.pend.length = m) (hD : D.Ok) (hw : WOk W D) :
  Fn Tryz.prog B 60 #[rqV p q a c N m W first count pf n cf hand, .int .i64 mark] [rS (.slice p N a) N D.secs, rW (.slice q m c) m D.pend]
   (fun v l => ∃ p' q' a' c' m', (forceP W D mark).2.pend.length = m' ∧ v = rqV p' q' a' c' N m' (forceP W D mark).1 first count pf n cf hand ∧ l = [rS (.slice p' N a') N (forceP W D mark).2.secs, rW (.slice q' m' c') m' (forceP W D mark).2.pend]) := by
 obtain ⟨w1, w2, w3, w4, w5⟩ := hw
 refine Fn.enter2 26 Tryz.func60 rfl rfl (Nat.le_of_ble_eq_true rfl) (fun F => ?_)
 try simp only [List.cons_append, List.nil_append]
 refine T.seq ?_
 refine T.region ?_
 refine LW.e rfl (Ef.box [_, _, _, _, _, _, _, _, _, _, _] rfl rfl ?_)
 intro g2
 refine LW.e rfl (Ef.alloc [.slice none 0 0, .slice none 0 0, .string .empty, .int .u32 0, .int .i64 0, .int .i64 0, .int .i64 0, .int .i64 0, .int .i64 0, .slice none 0 0, .int .i64 0] (by unfold zeroB; kernel_rfl) ?_)
 intro g4
 refine LW.done ?_
 refine T.seq ?_
 refine T.seq ?_
 refine T.region ?_
 refine LW.q rfl (Qt.move rfl) ?_
 refine LW.q rfl (Qt.fieldAddr (off := 2) (by kernel_rfl) rfl) ?_
 refine LW.q rfl (Qt.fieldAddr (off := 2) (by kernel_rfl) rfl) ?_
 first | refine LW.q rfl (Qt.load (by kernel_rfl) rfl rfl) ?_ | refine LW.q rfl (Qt.load (by kernel_rfl) rfl (map_at _ _ _ (by omega))) ?_ | refine LW.q rfl (Qt.load (by kernel_rfl) rfl (flat_cell0 _ _ _ (by intros; rfl) _ (by omega) (by rfl))) ?_ | refine LW.q rfl (Qt.load (by kernel_rfl) rfl (flat_cell _ _ _ (by intros; rfl) _ _ (by omega) (by rfl))) ?_ | refine LW.q rfl (Qt.load (by kernel_rfl) rfl (bytes_at _ _ (by omega))) ?_
 refine LW.q rfl (Qt.gtr rfl rfl) ?_
 refine LW.done ?_
 refine T.condP rfl (fun h1 => ?_) (fun h1 => ?_)
 ·
  have hf : forceP W D mark = (W.flushed, flushE W D) := by unfold forceP; rw [if_neg (by omega)]
  by_cases h2 : W.dur = W.st.length
  ·
   refine T.region ?_
   refine LW.q rfl (Qt.fieldAddr0 (by kernel_rfl) rfl) ?_
   first | refine LW.q rfl (Qt.loadAgg [_, _] (by kernel_rfl) rfl ⟨rfl, rfl, trivial⟩) ?_ | refine LW.q rfl (Qt.loadAgg [_, _] (by kernel_rfl) rfl (by exact rdl_flat _ _ _ (by intros; rfl) _ (by omega))) ?_
   refine LW.q rfl (Qt.fieldAddr (off := 2) (by kernel_rfl) rfl) ?_
   first | refine LW.q rfl (Qt.loadAgg [_, _, _, _, _] (by kernel_rfl) rfl ⟨rfl, rfl, rfl, rfl, rfl, trivial⟩) ?_ | refine LW.q rfl (Qt.loadAgg [_, _, _, _, _] (by kernel_rfl) rfl (by exact rdl_flat _ _ _ (by intros; rfl) _ (by omega))) ?_
   refine LW.q rfl (Qt.fieldAddr (off := 2) (by kernel_rfl) rfl) ?_
   refine LW.q rfl (Qt.fieldAddr0 (by kernel_rfl) rfl) ?_
   first | refine LW.q rfl (Qt.load (by kernel_rfl) rfl rfl) ?_ | refine LW.q rfl (Qt.load (by kernel_rfl) rfl (map_at _ _ _ (by omega))) ?_ | refine LW.q rfl (Qt.load (by kernel_rfl) rfl (flat_cell0 _ _ _ (by intros; rfl) _ (by omega) (by rfl))) ?_ | refine LW.q rfl (Qt.load (by kernel_rfl) rfl (flat_cell _ _ _ (by intros; rfl) _ _ (by omega) (by rfl))) ?_ | refine LW.q rfl (Qt.load (by kernel_rfl) rfl (bytes_at _ _ (by omega))) ?_
   first | refine LW.q rfl (Qt.lenSt (by kernel_rfl) rfl) ?_ | refine LW.q rfl (Qt.lenS (by kernel_rfl) rfl) ?_
   refine LW.q rfl (Qt.add rfl rfl (wr64 (by omega) (by omega))) ?_
   refine LW.e rfl (Ef.call (Rl.force_no B W p q a c N m (W.st.length + 1) (by omega) (.inr h2)) Tryz.func72 rfl rfl rfl ?_)
   rintro _ _ ⟨rfl, rfl⟩
   try simp only [List.cons_append, List.nil_append]
   refine LW.q rfl (Qt.move rfl) ?_
   refine LW.q rfl (Qt.extract rfl rfl) ?_
   refine LW.q rfl (Qt.extract rfl rfl) ?_
   refine LW.q rfl (Qt.fieldAddr0 (by kernel_rfl) rfl) ?_
   refine LW.e0 rfl (Ef.store [_, _] (by kernel_rfl) rfl rfl rfl rfl (by simp) ?_)
   try simp only [splice, List.length_cons, List.length_nil, List.drop_succ_cons, List.cons_append, List.take_succ_cons, List.take_zero, List.drop_zero, List.nil_append, List.append_nil]
   refine LW.q rfl (Qt.fieldAddr (off := 2) (by kernel_rfl) rfl) ?_
   refine LW.e0 rfl (Ef.store [_, _, _, _, _] (by kernel_rfl) rfl rfl rfl rfl (by simp) ?_)
   try simp only [splice, List.length_cons, List.length_nil, List.drop_succ_cons, List.cons_append, List.take_succ_cons, List.take_zero, List.drop_zero, List.nil_append, List.append_nil]
   refine LW.done ?_
   refine T.seq ?_
   refine T.region ?_
   first | refine LW.q rfl (Qt.loadAgg [_, _, _, _, _, _, _, _, _, _, _] (by kernel_rfl) rfl ⟨rfl, rfl, rfl, rfl, rfl, rfl, rfl, rfl, rfl, rfl, rfl, trivial⟩) ?_ | refine LW.q rfl (Qt.loadAgg [_, _, _, _, _, _, _, _, _, _, _] (by kernel_rfl) rfl (by exact rdl_flat _ _ _ (by intros; rfl) _ (by omega))) ?_
   refine LW.e0 rfl (Ef.store [_, _, _, _, _, _, _, _, _, _, _] (by kernel_rfl) rfl rfl rfl rfl (by simp) ?_)
   try simp only [splice, List.length_cons, List.length_nil, List.drop_succ_cons, List.cons_append, List.take_succ_cons, List.take_zero, List.drop_zero, List.nil_append, List.append_nil]
   refine LW.done ?_
   have e1 : W.flushed = W := by cases W; simp_all [Wl.flushed]
   have e2 : flushE W D = D := by unfold flushE; rw [if_pos h2]
   rw [hf, e1, e2]
   refine T.ret ?_
   exact ⟨.inl rfl, _, _, res [_] rfl ⟨rvA [_, _, _, _, _, _, _, _, _, _, _] (by kernel_rfl) rfl ⟨rfl, rfl, rfl, rfl, rfl, rfl, rfl, rfl, rfl, rfl, rfl, trivial⟩, trivial⟩, ⟨p, q, a, c, m, hm, rfl, rfl⟩, Sub.any⟩
  ·
   have e2 : flushE W D = flushD W D := by unfold flushE; rw [if_neg h2]
   refine T.region ?_
   refine LW.q rfl (Qt.fieldAddr0 (by kernel_rfl) rfl) ?_
   first | refine LW.q rfl (Qt.loadAgg [_, _] (by kernel_rfl) rfl ⟨rfl, rfl, trivial⟩) ?_ | refine LW.q rfl (Qt.loadAgg [_, _] (by kernel_rfl) rfl (by exact rdl_flat _ _ _ (by intros; rfl) _ (by omega))) ?_
   refine LW.q rfl (Qt.fieldAddr (off := 2) (by kernel_rfl) rfl) ?_
   first | refine LW.q rfl (Qt.loadAgg [_, _, _, _, _] (by kernel_rfl) rfl ⟨rfl, rfl, rfl, rfl, rfl, trivial⟩) ?_ | refine LW.q rfl (Qt.loadAgg [_, _, _, _, _] (by kernel_rfl) rfl (by exact rdl_flat _ _ _ (by intros; rfl) _ (by omega))) ?_
   refine LW.q rfl (Qt.fieldAddr (off := 2) (by kernel_rfl) rfl) ?_
   refine LW.q rfl (Qt.fieldAddr0 (by kernel_rfl) rfl) ?_
   first | refine LW.q rfl (Qt.load (by kernel_rfl) rfl rfl) ?_ | refine LW.q rfl (Qt.load (by kernel_rfl) rfl (map_at _ _ _ (by omega))) ?_ | refine LW.q rfl (Qt.load (by kernel_rfl) rfl (flat_cell0 _ _ _ (by intros; rfl) _ (by omega) (by rfl))) ?_ | refine LW.q rfl (Qt.load (by kernel_rfl) rfl (flat_cell _ _ _ (by intros; rfl) _ _ (by omega) (by rfl))) ?_ | refine LW.q rfl (Qt.load (by kernel_rfl) rfl (bytes_at _ _ (by omega))) ?_
   first | refine LW.q rfl (Qt.lenSt (by kernel_rfl) rfl) ?_ | refine LW.q rfl (Qt.lenS (by kernel_rfl) rfl) ?_
   refine LW.q rfl (Qt.add rfl rfl (wr64 (by omega) (by omega))) ?_
   refine LW.e rfl (Ef.call (Rl.force B W D p q a c N m hN hm (W.st.length + 1) hD (by omega) (by omega) w3 w4 (by omega) h2) Tryz.func72 rfl rfl rfl ?_)
   rintro _ _ ⟨p', a', rfl, rfl⟩
   try simp only [List.cons_append, List.nil_append]
   refine LW.q rfl (Qt.move rfl) ?_
   refine LW.q rfl (Qt.extract rfl rfl) ?_
   refine LW.q rfl (Qt.extract rfl rfl) ?_
   refine LW.q rfl (Qt.fieldAddr0 (by kernel_rfl) rfl) ?_
   refine LW.e0 rfl (Ef.store [_, _] (by kernel_rfl) rfl rfl rfl rfl (by simp) ?_)
   try simp only [splice, List.length_cons, List.length_nil, List.drop_succ_cons, List.cons_append, List.take_succ_cons, List.take_zero, List.drop_zero, List.nil_append, List.append_nil]
   refine LW.q rfl (Qt.fieldAddr (off := 2) (by kernel_rfl) rfl) ?_
   refine LW.e0 rfl (Ef.store [_, _, _, _, _] (by kernel_rfl) rfl rfl rfl rfl (by simp) ?_)
   try simp only [splice, List.length_cons, List.length_nil, List.drop_succ_cons, List.cons_append, List.take_succ_cons, List.take_zero, List.drop_zero, List.nil_append, List.append_nil]
   refine LW.done ?_
   refine T.seq ?_
   refine T.region ?_
   first | refine LW.q rfl (Qt.loadAgg [_, _, _, _, _, _, _, _, _, _, _] (by kernel_rfl) rfl ⟨rfl, rfl, rfl, rfl, rfl, rfl, rfl, rfl, rfl, rfl, rfl, trivial⟩) ?_ | refine LW.q rfl (Qt.loadAgg [_, _, _, _, _, _, _, _, _, _, _] (by kernel_rfl) rfl (by exact rdl_flat _ _ _ (by intros; rfl) _ (by omega))) ?_
   refine LW.e0 rfl (Ef.store [_, _, _, _, _, _, _, _, _, _, _] (by kernel_rfl) rfl rfl rfl rfl (by simp) ?_)
   try simp only [splice, List.length_cons, List.length_nil, List.drop_succ_cons, List.cons_append, List.take_succ_cons, List.take_zero, List.drop_zero, List.nil_append, List.append_nil]
   refine LW.done ?_
   rw [hf, e2]
   simp only [show (flushD W D).pend = [] from rfl]
   refine T.ret ?_
   exact ⟨.inl rfl, _, _, res [_] rfl ⟨rvA [_, _, _, _, _, _, _, _, _, _, _] (by kernel_rfl) rfl ⟨rfl, rfl, rfl, rfl, rfl, rfl, rfl, rfl, rfl, rfl, rfl, trivial⟩, trivial⟩, ⟨p', none, a', 0, 0, rfl, rfl, rfl⟩, Sub.any⟩
 ·
  have hf : forceP W D mark = (W, D) := by unfold forceP; rw [if_pos (by omega)]
  rw [hf]
  refine T.skip ?_
  refine T.seq ?_
  refine T.region ?_
  first | refine LW.q rfl (Qt.loadAgg [_, _, _, _, _, _, _, _, _, _, _] (by kernel_rfl) rfl ⟨rfl, rfl, rfl, rfl, rfl, rfl, rfl, rfl, rfl, rfl, rfl, trivial⟩) ?_ | refine LW.q rfl (Qt.loadAgg [_, _, _, _, _, _, _, _, _, _, _] (by kernel_rfl) rfl (by exact rdl_flat _ _ _ (by intros; rfl) _ (by omega))) ?_
  refine LW.e0 rfl (Ef.store [_, _, _, _, _, _, _, _, _, _, _] (by kernel_rfl) rfl rfl rfl rfl (by simp) ?_)
  try simp only [splice, List.length_cons, List.length_nil, List.drop_succ_cons, List.cons_append, List.take_succ_cons, List.take_zero, List.drop_zero, List.nil_append, List.append_nil]
  refine LW.done ?_
  refine T.ret ?_
  exact ⟨.inl rfl, _, _, res [_] rfl ⟨rvA [_, _, _, _, _, _, _, _, _, _, _] (by kernel_rfl) rfl ⟨rfl, rfl, rfl, rfl, rfl, rfl, rfl, rfl, rfl, rfl, rfl, trivial⟩, trivial⟩, ⟨p, q, a, c, m, hm, rfl, rfl⟩, Sub.any⟩
def pinI (A : List Fa) (page : Int) : Int := match pinnedA A page with
  | some (i, _) => i
  | none => -1
set_option maxHeartbeats 2000000 in
set_option maxRecDepth 100000 in
theorem Rp.pinned (B : Base) (p q : Option Addr) (a c N m : Nat) (W : Wl) (first count : Nat) (pf : Option Addr) (n cf hand : Nat) (A : List Fa) (hn : A.length = n) (hn2 : n ≤ 4096) (page : Int) :
  Fn Tryz.prog B 33 #[rqV p q a c N m W first count pf n cf hand, .int .i64 page] [raR pf n cf A] (fun v l => v = .int .i64 (pinI A page) ∧ l = [raR pf n cf A]) := by
 refine Fn.enter2 21 Tryz.func33 rfl rfl (Nat.le_of_ble_eq_true rfl) (fun F => ?_)
 try simp only [List.cons_append, List.nil_append]
 refine T.own (fun w ho => ?_)
 have hpf := (ho.slice_at (p := pf) (m := n) (c := cf)).2.1
 clear ho
 refine T.seq ?_
 refine T.region ?_
 refine LW.e rfl (Ef.box [_, _, _, _, _, _, _, _, _, _, _] rfl rfl ?_)
 intro g2
 refine LW.q rfl (Qt.assign rfl) ?_
 refine LW.done ?_
 refine T.seq ?_
 refine T.region ?_
 first | refine LW.q rfl (Qt.loadAgg [_, _, _, _, _, _, _, _, _, _, _] (by kernel_rfl) rfl ⟨rfl, rfl, rfl, rfl, rfl, rfl, rfl, rfl, rfl, rfl, rfl, trivial⟩) ?_ | refine LW.q rfl (Qt.loadAgg [_, _, _, _, _, _, _, _, _, _, _] (by kernel_rfl) rfl (by exact rdl_flat _ _ _ (by intros; rfl) _ (by omega))) ?_
 refine LW.q rfl (Qt.move rfl) ?_
 refine LW.e rfl (Ef.call (Rp.find B p q a c N m W first count pf n cf hand A hn hn2 page) Tryz.func53 rfl rfl rfl ?_)
 rintro _ _ ⟨rfl, rfl⟩
 try simp only [List.cons_append, List.nil_append]
 refine LW.q rfl (Qt.assign rfl) ?_
 refine LW.done ?_
 refine T.seq ?_
 refine T.seq ?_
 refine T.region ?_
 refine LW.q rfl (Qt.move rfl) ?_
 refine LW.q rfl (Qt.geq rfl rfl) ?_
 refine LW.q rfl (Qt.move rfl) ?_
 by_cases hno : findA A page = none
 ·
  rw [show findI A page = -1 by rw [findI, hno]]
  first | refine LW.gF (t := 11) rfl rfl ?_ | refine LW.gF (t := 11) rfl (decide_eq_false (by omega)) ?_ | refine LW.gF (t := 11) rfl (by omega) ?_
  refine LW.s rfl ?_
  refine LW.s rfl ?_
  refine LW.s rfl ?_
  refine LW.s rfl ?_
  refine LW.s rfl ?_
  refine LW.s rfl ?_
  refine LW.s rfl ?_
  refine LW.q rfl (Qt.pick rfl rfl) ?_
  refine LW.done ?_
  first | refine T.condF rfl ?_ | refine T.condPF rfl (by omega) ?_ | refine T.condBF rfl (by omega) ?_
  refine T.skip ?_
  refine T.seq ?_
  refine T.region ?_
  refine LW.q rfl (Qt.assign rfl) ?_
  refine LW.done ?_
  refine T.ret ?_
  exact ⟨.inl rfl, _, _, res [_] rfl ⟨rvT rfl, trivial⟩, ⟨by rw [show pinI A page = -1 by unfold pinI pinnedA; rw [hno]]; rfl, rfl⟩, Sub.any⟩
 ·
  obtain ⟨i, hi⟩ := Option.ne_none_iff_exists'.1 hno
  obtain ⟨h0, x, hx, _⟩ := findA_some hi
  have hil := (List.getElem?_eq_some_iff.1 hx).1
  obtain ⟨gf, rfl⟩ := hpf (by omega)
  rw [show findI A page = (i : Int) by rw [findI, hi]]
  first | refine LW.gT (t := 11) rfl rfl ?_ | refine LW.gT (t := 11) rfl (decide_eq_true (by omega)) ?_ | refine LW.gT (t := 11) rfl (by omega) ?_
  refine LW.q rfl (Qt.fieldAddr (off := 9) (by kernel_rfl) rfl) ?_
  first | refine LW.q rfl (Qt.load (by kernel_rfl) rfl rfl) ?_ | refine LW.q rfl (Qt.load (by kernel_rfl) rfl (map_at _ _ _ (by omega))) ?_ | refine LW.q rfl (Qt.load (by kernel_rfl) rfl (flat_cell0 _ _ _ (by intros; rfl) _ (by omega) (by rfl))) ?_ | refine LW.q rfl (Qt.load (by kernel_rfl) rfl (flat_cell _ _ _ (by intros; rfl) _ _ (by omega) (by rfl))) ?_ | refine LW.q rfl (Qt.load (by kernel_rfl) rfl (bytes_at _ _ (by omega))) ?_
  refine LW.q rfl (Qt.move rfl) ?_
  refine LW.q rfl (Qt.index _ (e := 90) (sz := 6) (by kernel_rfl) rfl rfl rfl (by omega)) ?_
  refine LW.q rfl (Qt.fieldAddr (off := 3) (by kernel_rfl) rfl) ?_
  refine LW.q rfl (Qt.load (v := .int .i64 x.pins) (by kernel_rfl) rfl (ra_at hx 3 (by omega))) ?_
  refine LW.q rfl (Qt.gtr rfl rfl) ?_
  refine LW.q rfl (Qt.pick rfl rfl) ?_
  refine LW.done ?_
  refine T.condP rfl (fun hp => ?_) (fun hp => ?_)
  ·
   refine T.seq ?_
   refine T.region ?_
   refine LW.q rfl (Qt.move rfl) ?_
   refine LW.q rfl (Qt.assign rfl) ?_
   refine LW.done ?_
   refine T.ret ?_
   exact ⟨.inl rfl, _, _, res [_] rfl ⟨rvT rfl, trivial⟩, ⟨by rw [show pinI A page = i by unfold pinI pinnedA; rw [hi]; dsimp only; rw [hx]; dsimp only; rw [if_pos hp]]; rfl, rfl⟩, Sub.any⟩
  ·
   refine T.skip ?_
   refine T.seq ?_
   refine T.region ?_
   refine LW.q rfl (Qt.assign rfl) ?_
   refine LW.done ?_
   refine T.ret ?_
   exact ⟨.inl rfl, _, _, res [_] rfl ⟨rvT rfl, trivial⟩, ⟨by rw [show pinI A page = -1 by unfold pinI pinnedA; rw [hi]; dsimp only; rw [hx]; dsimp only; rw [if_neg hp]]; rfl, rfl⟩, Sub.any⟩
end Go.Proofs.YtegohgaccmkigaaGreatDoor
