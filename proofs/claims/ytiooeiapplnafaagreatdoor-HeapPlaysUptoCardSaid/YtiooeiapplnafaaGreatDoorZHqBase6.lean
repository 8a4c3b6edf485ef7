/- The texts WlJ WlK MpA, one behind the other: what the law leans on. Conditions: as each theorem says. -/
import Derived.Test.YtiooeiapplnafaaGreatDoorZHqBase5
import Derived.Maps.RangeRun
set_option linter.unusedSectionVars false
set_option linter.unusedSimpArgs false
set_option linter.unusedVariables false
set_option maxRecDepth 100000
set_option maxHeartbeats 16000000
namespace Go.Proofs.YtiooeiapplnafaaGreatDoor
open Go.RowKit
theorem Own.dskOk {B : Base} {w : World} {b : Nat} {D : DD} {l : List Assn} (H : Own B w (dskA b D :: l)) : D.Ok := by
 obtain ⟨_, _, _, _, _, h⟩ := H.disk
 exact h.ok
theorem Fn.diskOk {P : Program} {B : Base} {f : FuncId} {args : Array Value} {b : Nat} {D : DD} {S : List Assn} {R : Value → List Assn → Prop} (h : D.Ok → Fn P B f args (dskA b D :: S) R) : Fn P B f args (dskA b D :: S) R := ⟨fun w F ho => (h ho.dskOk).run w F ho⟩
section
variable {P : Program} {B : Base} {n : Nat} {l r : List Assn} {f : Fr} {Φ : Post} {c : Code}
end
theorem Fn.openWl {P : Program} {B : Base} {f : FuncId} {args : Array Value} {g b : Nat} {W : Wl} {S : List Assn} {R : Value → List Assn → Prop} (h : ∀ p c, (0 < W.st.length → ∃ g, p = some ⟨g, 0, none⟩) → W.st.length ≤ c → Fn P B f args (wlB g b W p c :: rB (.slice p W.st.length c) W.st.length W.st :: S) R) : Fn P B f args (wlA g b W :: S) R := ⟨fun w F ho => by
 obtain ⟨p, c, e⟩ := Own.openWl (l := S ++ F) ho
 exact (h p c (e.tl.slice_at (p := p) (m := W.st.length) (c := c)).2.1 (e.tl.cap_at (p := p) (m := W.st.length) (c := c))).run w F e⟩
theorem sub_wlA {g b : Nat} {W : Wl} {p : Option Addr} {c : Nat} {S : List Assn} : Sub (wlB g b W p c :: rB (.slice p W.st.length c) W.st.length W.st :: S) (wlA g b W :: S) := fun h H => by
 obtain ⟨h1, h2, d, a1, a2, k1, k2⟩ := Has.split (l := [_, _]) H
 exact ⟨h1, h2, d, a1, a2, ⟨p, c, k1⟩, k2⟩
theorem PartsV.mono {B : Base} {S S' : List Assn} {v : Value} {bs : List (List UInt8)} (h : PartsV B S v bs) (hm : ∀ w, Own B w S' → Own B w S) : PartsV B S' v bs := by
 obtain ⟨vs, h1, h2, h3⟩ := h
 exact ⟨vs, h1.mono hm, h2, fun i a b => (h3 i a b).mono hm⟩
theorem addW_cases (W : Wl) (d : List UInt8) : ((d.length = 0 ∧ addW W d = (W, 0, 5)) ∨ (d.length ≠ 0 ∧ 1024 < d.length ∧ addW W d = (W, 0, 2)) ∨ (d.length ≠ 0 ∧ d.length ≤ 1024 ∧ W.count * 256 < W.st.length + 8 + d.length ∧ addW W d = (W, 0, 3))) ∨ (OkD d ∧ W.st.length + 8 + d.length ≤ W.count * 256 ∧ (addW W d).2.2 = 0) := by
  by_cases h0 : d.length = 0
  · exact .inl (.inl ⟨h0, by unfold addW; rw [if_pos h0]⟩)
  · by_cases h1 : 1024 < d.length
    · exact .inl (.inr (.inl ⟨h0, h1, by unfold addW; rw [if_neg h0, if_pos h1]⟩))
    · by_cases h2 : W.count * 256 < W.st.length + 8 + d.length
      · exact .inl (.inr (.inr ⟨h0, by omega, h2, by unfold addW; rw [if_neg h0, if_neg h1, if_pos h2]⟩))
      · exact .inr ⟨⟨h0, by omega⟩, by omega, by unfold addW; rw [if_neg h0, if_neg h1, if_neg h2]⟩
theorem Wl.add (B : Base) (S : List Assn) (g b : Nat) (W : Wl) (a : Option Addr) (c : Nat) (bs : List (List UInt8)) (n : Nat) (hbn : bs.length = n) (hv : PartsV B S (.slice a bs.length c) bs) (hc : bs.length ≤ c) (hn : bs.length < 2 ^ 32) (d : List UInt8) (hdd : bs.flatten = d) (hN2 : d.length ≤ 2 ^ 40) (hcnt : W.count ≤ 4096) (hst : W.st.length ≤ W.count * 256) :
    Fn Tryz.prog B 118 #[.pointer (some ⟨g, 0, none⟩), .slice a n c] (wlA g b W :: S) (fun u l => u = .tuple #[.int .i64 (addW W d).2.1, .int .i64 (addW W d).2.2] ∧ l = wlA g b (addW W d).1 :: S) := by
  subst hdd
  subst hbn
  refine Fn.openWl fun p cc hp hcc => ?_
  rcases addW_cases W bs.flatten with h | ⟨h1, h2, h3⟩
  · have key : ∀ code, ((bs.flatten.length = 0 ∧ code = 5) ∨ (bs.flatten.length ≠ 0 ∧ 1024 < bs.flatten.length ∧ code = 2) ∨ (bs.flatten.length ≠ 0 ∧ bs.flatten.length ≤ 1024 ∧ W.count * 256 < W.st.length + 8 + bs.flatten.length ∧ code = 3)) → addW W bs.flatten = (W, 0, code) →
        Fn Tryz.prog B 118 #[.pointer (some ⟨g, 0, none⟩), .slice a bs.length c] (wlB g b W p cc :: rB (.slice p W.st.length cc) W.st.length W.st :: S) (fun u l => u = .tuple #[.int .i64 (addW W bs.flatten).2.1, .int .i64 (addW W bs.flatten).2.2] ∧ l = wlA g b (addW W bs.flatten).1 :: S) := by
      intro code hcode e
      rw [e]
      have h0 := Wl.append_no B (rB (.slice p W.st.length cc) W.st.length W.st :: S) g b W p cc a c bs (PartsV.mono hv (fun w ho => ho.tl)) hc hn hN2 hcnt hst code hcode
      exact h0.sub fun v l ⟨e1, e2⟩ => ⟨_, e2 ▸ sub_wlA, e1, rfl⟩
    rcases h with ⟨h0, e⟩ | ⟨h0, h1, e⟩ | ⟨h0, h1, h2, e⟩
    · exact key 5 (.inl ⟨h0, rfl⟩) e
    · exact key 2 (.inr (.inl ⟨h0, h1, rfl⟩)) e
    · exact key 3 (.inr (.inr ⟨h0, h1, h2, rfl⟩)) e
  · have h0 := Wl.append B S g b W p cc hp a c bs hv hc hn hcnt bs.flatten rfl h1.1 h1.2 h2
    exact h0.sub fun v l ⟨p', c', e1, e2, e3⟩ => ⟨_, e3 ▸ sub_wlA, by rw [h3]; exact e1, rfl⟩
def flushE (W : Wl) (D : DD) : DD := if W.dur = W.st.length then D else flushD W D
theorem Wl.forceYes (B : Base) (g b : Nat) (W : Wl) (D : DD) (mark : Int) (hD : W.first + W.count ≤ D.secs.length) (hs : D.secs.length ≤ 4096) (hst : W.st.length ≤ W.count * 256) (hdur : W.dur ≤ W.st.length) (hroom : D.pend.length + 4096 < 2 ^ 32) (hm : W.dur < mark ∨ W.dur = W.st.length) :
    Fn Tryz.prog B 122 #[.pointer (some ⟨g, 0, none⟩), .int .i64 mark] [wlA g b W, dskA b D] (fun u l => u = .tuple #[] ∧ l = [wlA g b W.flushed, dskA b (flushE W D)]) := by
  refine Fn.openWl fun p cc hp hcc => ?_
  unfold flushE
  by_cases h : W.dur = W.st.length
  · rw [if_pos h]
    have h0 := (Wl.force_no B g b W p cc mark (by omega) (.inr h)).frame [rB (.slice p W.st.length cc) W.st.length W.st, dskA b D]
    refine h0.sub fun v l ⟨l', ⟨e1, e2⟩, e3⟩ => ⟨_, ?_, e1, rfl⟩
    subst e2; subst e3
    rw [show W.flushed = W by cases W; simp_all [Wl.flushed]]
    exact sub_wlA
  · rw [if_neg h]
    have h0 := Wl.force B g b W p cc hp hcc D mark hD hs hst hdur hroom (by omega) h
    exact h0.sub fun v l ⟨e1, e2⟩ => ⟨_, e2 ▸ sub_wlA (W := W.flushed), e1, rfl⟩
theorem Wl.forceNo (B : Base) (g b : Nat) (W : Wl) (mark : Int) (hdur : W.dur < 2 ^ 40) (hm : mark ≤ W.dur) :
  Fn Tryz.prog B 122 #[.pointer (some ⟨g, 0, none⟩), .int .i64 mark] [wlA g b W] (fun u l => u = .tuple #[] ∧ l = [wlA g b W]) := by
 refine Fn.openWl fun p cc hp hcc => ?_
 have h0 := (Wl.force_no B g b W p cc mark hdur (.inl hm)).frame [rB (.slice p W.st.length cc) W.st.length W.st]
 refine h0.sub fun v l ⟨l', ⟨e1, e2⟩, e3⟩ => ⟨_, ?_, e1, rfl⟩
 subst e2; subst e3
 exact sub_wlA
theorem Wl.flush (B : Base) (g b : Nat) (W : Wl) (D : DD) (hD : W.first + W.count ≤ D.secs.length) (hs : D.secs.length ≤ 4096) (hst : W.st.length ≤ W.count * 256) (hdur : W.dur ≤ W.st.length) (hroom : D.pend.length + 4096 < 2 ^ 32) :
  Fn Tryz.prog B 67 #[.pointer (some ⟨g, 0, none⟩)] [wlA g b W, dskA b D] (fun u l => u = .tuple #[] ∧ l = [wlA g b W.flushed, dskA b (flushE W D)]) := by
 refine Fn.enter1 6 Tryz.func67 rfl rfl (nB rfl) (fun F => ?_)
 try simp only [cA, nA]
 refine TR (Lm rfl rfl (Lm rfl rfl ?_))
 refine Le rfl (Ec (Wl.endOf B g b W (by omega)) Tryz.func123 rfl rfl rfl ?_)
 rintro _ _ ⟨rfl, rfl⟩
 try simp only [cA, nA]
 refine Le rfl (Ec (Wl.forceYes B g b W D W.st.length hD hs hst hdur hroom (by omega)) Tryz.func122 rfl rfl rfl ?_)
 rintro _ _ ⟨rfl, rfl⟩
 try simp only [cA, nA]
 refine Ld ?_
 exact ⟨.inr rfl, _, _, res [] rfl trivial, ⟨rfl, rfl⟩, Sa⟩
theorem flushE_secs {W : Wl} {D : DD} (ho : D.Ok) (hD : W.first + W.count ≤ D.secs.length) (h : Secs D W.first W.count (W.st.take W.dur)) (hdur : W.dur ≤ W.st.length) (hst : W.st.length ≤ W.count * 256) : Secs (flushE W D) W.first W.count W.st := by
  unfold flushE
  split
  · next e => rwa [e, List.take_length] at h
  · obtain ⟨h1, h2⟩ := lays_ok (W := W) (k := flushN W) (n := W.dur / 256) ho (by unfold flushN; omega)
    exact (h.flushed hdur hst).sync h1 (by omega)
theorem flushE_out {W : Wl} {D : DD} (ho : D.Ok) (hD : W.first + W.count ≤ D.secs.length) (hdur : W.dur ≤ W.st.length) (hst : W.st.length ≤ W.count * 256) {x : Nat} (hx : x < D.secs.length) (h : x < W.first ∨ W.first + W.count ≤ x) : (flushE W D).read x = D.read x := by
  unfold flushE
  split
  · rfl
  · obtain ⟨h1, h2⟩ := lays_ok (W := W) (k := flushN W) (n := W.dur / 256) ho (by unfold flushN; omega)
    rw [flushD, DD.rdS h1 _ (by omega), lays_out (by unfold flushN; omega)]
def OpenAny (b first count : Nat) (D : DD) (u : Value) (l : List Assn) : Prop := ∃ g q cq R ds D', (∀ d ∈ ds, OkD d) ∧ R.map (fun x : WRec => (x.mark, x.r.b)) = logR 0 ds ∧ D'.Ok ∧ D'.secs.length = D.secs.length ∧ D'.pend = [] ∧ Secs D' first count (logB 0 0 ds) ∧ (logB 0 0 ds).length ≤ count * 256 ∧
 (∀ x, x < D.secs.length → (x < first ∨ first + count ≤ x) → D'.read x = D.read x) ∧ ((logB 0 0 ds).length, logS 0 0 ds, logR 0 ds) = scanW (allD D first count) (count * 256 + 1) 0 0 ∧
 u = .tuple #[.pointer (some ⟨g, 0, none⟩), .slice q ds.length cq, .int .i64 0] ∧ l = [wrecR q ds.length cq R, recsA (R.map WRec.r), wlA g b (mkW first count ds (logB 0 0 ds).length), dskA b D']
theorem Wl.openAny (B : Base) (b : Nat) (D : DD) (first count : Nat) (i j : Int) (hi : i = first) (hj : j = count) (h1 : 1 ≤ count) (hD : first + count ≤ D.secs.length) (hroom : D.pend.length + 4096 < 2 ^ 32) :
    Fn Tryz.prog B 94 #[.pointer (some ⟨b, 0, none⟩), .int .i64 i, .int .i64 j] [dskA b D] (OpenAny b first count D) := by
  subst hi; subst hj
  refine Fn.diskOk fun ho => ?_
  refine (Wl.open B b D first count h1 hD ho.max hroom (fun n hn => ho.rd n hn)).sub fun u l h => ?_
  obtain ⟨g, p, c, q, cq, R, k, s, e1, e2, e3, e4, e5, e6, e7⟩ := h
  have hal := allD_length ho count hD
  obtain ⟨ds, k1, k2, k3, k4⟩ := scan_back (count * 256 + 1) 0 0 (allD D first count) (Nat.zero_le _)
  rw [k2] at e1
  injection e1 with f1 f2
  injection f2 with f2 f3
  rw [Nat.zero_add] at f1 k4 k2
  rw [List.drop_zero] at k3
  subst f1
  subst f2
  have hw := Secs.wiped (s := logS 0 0 ds) ho hD (show (logB 0 0 ds).length ≤ count * 256 by omega)
  obtain ⟨w1, w2⟩ := wipe_ok (W := ⟨first, count, (allD D first count).take (logB 0 0 ds).length, logS 0 0 ds, (logB 0 0 ds).length⟩) (al := allD D first count) (k := count - (logB 0 0 ds).length / 256) (n := (logB 0 0 ds).length / 256) ho (by show first + _ ≤ _; omega)
  have hR : R.length = ds.length := by rw [← length_logR 0 ds, f3, List.length_map]
  rw [hR] at e6 e7
  rw [k3] at e7 hw w1 w2
  refine ⟨_, ?_, g, q, cq, R, ds, _, k1, f3.symm, w1.sy, (DD.sync_len w1).trans w2, rfl, hw.sync w1 (by rw [w2]; exact hD), e2, ?_, k2.symm, e6, rfl⟩
  · rw [e7]
    intro h H
    refine Has.cons_imp (fun _ H => Has.cons_imp (fun _ H => ?_) H) H
    obtain ⟨h1, h2, d, a1, a2, k1, k2⟩ := Has.split (l := [_, _]) H
    refine ⟨h1, h2, d, a1, a2, ⟨p, c, ?_⟩, k2⟩
    exact Has.swap k1
  · intro x hx hxo
    rw [DD.rdS w1 _ (by omega), wipe_out (by show x < first + _ ∨ first + (_ + _) ≤ x; omega)]
open Go.RowKit
open Go.RowKit
def lookL {α β : Type} [DecidableEq α] : List (α × β) → α → Option β
 | [], _ => none
 | p :: l, k => if p.1 = k then some p.2 else lookL l k
def putL {α β : Type} [DecidableEq α] : List (α × β) → α → β → List (α × β)
 | [], k, v => [(k, v)]
 | p :: l, k, v => if p.1 = k then (k, v) :: l else p :: putL l k v
def cutL {α β : Type} [DecidableEq α] (L : List (α × β)) (k : α) : List (α × β) := L.filter fun p => decide (p.1 ≠ k)
structure MapIs {α β : Type} (ke : α → Value) (ve : β → Value) (L : List (α × β)) (es : Array MapEntry) (clock : Nat) : Prop where
 st : MapKept.Stamped es clock
 eq : es.toList.map (fun e => (e.key, e.val)) = L.map fun p => (ke p.1, ve p.2)
def mpA {α β : Type} (ke : α → Value) (ve : β → Value) (g : Nat) (L : List (α × β)) : Assn := fun h => ∃ es clock, h g = some (.map es clock) ∧ MapIs ke ve L es clock
def rgA {α β : Type} (ke : α → Value) (ve : β → Value) (r g : Nat) (L left : List (α × β)) : Assn := fun h => ∃ es clock seen c0, r ≠ g ∧ h g = some (.map es clock) ∧ MapIs ke ve L es clock ∧ h r = some (.mapIter (some g) clock seen c0) ∧ clock ≤ c0 ∧ (leftOf es seen).toList.map (fun e => (e.key, e.val)) = left.map fun p => (ke p.1, ve p.2)
def reA {α β : Type} (ke : α → Value) (ve : β → Value) (r g : Nat) (L left : List (α × β)) (p : α × β) : Assn := fun h => ∃ (es : Array MapEntry) (clock : Nat) (seen : Array Nat) (e : MapEntry), r ≠ g ∧ h g = some (.map es clock) ∧ MapIs ke ve L es clock ∧ h r = some (.mapIter (some g) clock (seen.push e.born) clock) ∧ (leftOf es (seen.push e.born)).toList.map (fun e => (e.key, e.val)) = left.map (fun p => (ke p.1, ve p.2)) ∧ e ∈ es.toList ∧ e.key = ke p.1 ∧ e.val = ve p.2
def msA {α β : Type} (ke : α → Value) (ve : β → Value) (g : Nat) (L : List (α × β)) (k : α) (b : Nat) : Assn := fun h => ∃ es clock, h g = some (.map es clock) ∧ MapIs ke ve L es clock ∧ ∃ e ∈ es.toList, e.key = ke k ∧ e.born = b
structure MapOk (P : Program) (t : TypeId) {α : Type} (ke : α → Value) (z : Value) : Prop where
 ex : ∃ kt et d, P.underlying t = some (.map kt et) ∧ P.underlying kt = some d ∧ (∀ a, MapKept.IsKey d (ke a)) ∧ (P.info? et).bind (·.zero) = some z
 inj : ∀ a b, ke a = ke b → a = b
theorem MapOk.mk3 {P : Program} {t : TypeId} {α : Type} {ke : α → Value} {z : Value} (kt et : TypeId) (d : TypeDesc) (h1 : P.underlying t = some (.map kt et)) (h2 : P.underlying kt = some d) (h3 : ∀ a, MapKept.IsKey d (ke a)) (h4 : (P.info? et).bind (·.zero) = some z) (h5 : ∀ a b, ke a = ke b → a = b) : MapOk P t ke z := ⟨⟨kt, et, d, h1, h2, h3, h4⟩, h5⟩
theorem i64_inj : ∀ a b : Int, Value.int .i64 a = .int .i64 b → a = b := fun a b h => by injection h
section
variable {P : Program} {B : Base} {n : Nat} {S l r : List Assn} {f : Fr} {K : Value → List Assn → Prop}
variable {d : Option Tmp} {ty : TypeId} {pos : String} {af : Array Edge} {gd : Option (Nat × Bool)}
variable {α β : Type} [DecidableEq α] {ke : α → Value} {ve : β → Value} {L left : List (α × β)} {g : Nat}
theorem findNow_look {dk : TypeDesc} (hk : ∀ a, MapKept.IsKey dk (ke a)) (hi : ∀ a b, ke a = ke b → a = b) (k : α) : ∀ (es : List MapEntry) (L : List (α × β)) (i : Nat), es.map (fun e => (e.key, e.val)) = L.map (fun p => (ke p.1, ve p.2)) →
    (lookL L k = none ∧ Instr.findNow dk (ke k) es i = some none) ∨ ∃ v j, lookL L k = some v ∧ Instr.findNow dk (ke k) es i = some (some (i + j, ve v)) ∧ L[j]?.map (·.1) = some k ∧ ∀ (j' : Nat), j' < j → L[j']?.map (·.1) ≠ some k
  | [], [], i, _ => .inl ⟨rfl, rfl⟩
  | [], _ :: _, _, h => by simp at h
  | _ :: _, [], _, h => by simp at h
  | e :: es, p :: L, i, h => by
    simp only [List.map_cons, List.cons.injEq, Prod.mk.injEq] at h
    obtain ⟨⟨h1, h2⟩, h3⟩ := h
    obtain ⟨r, hr, hiff⟩ := MapKept.sameNow_of_keys (hk k) (hk p.1)
    by_cases e1 : p.1 = k
    · refine .inr ⟨p.2, 0, by simp [lookL, e1], ?_, by simp [e1], fun j' h => by omega⟩
      have : r = true := hiff.2 (by rw [e1])
      subst this
      simp [Instr.findNow, h1, hr, h2]
    · have : r = false := by
        cases r with
        | false => rfl
        | true => exact absurd (hi _ _ (hiff.1 rfl)).symm e1
      subst this
      have hf : Instr.findNow dk (ke k) (e :: es) i = Instr.findNow dk (ke k) es (i + 1) := by simp [Instr.findNow, h1, hr]
      rw [hf]
      rcases findNow_look hk hi k es L (i + 1) h3 with ⟨a1, a2⟩ | ⟨v, j, a1, a2, a3, a4⟩
      · exact .inl ⟨by simp [lookL, e1, a1], a2⟩
      · refine .inr ⟨v, j + 1, by simp [lookL, e1, a1], by rw [a2]; congr 3; omega, by simpa using a3, fun j' hj' => ?_⟩
        cases j' with
        | zero => simpa using e1
        | succ j' => simpa using a4 j' (by omega)
theorem look_put_same (k : α) (v : β) : ∀ L : List (α × β), lookL (putL L k v) k = some v
 | [] => by simp [putL, lookL]
 | p :: L => by
  unfold putL
  split
  · simp [lookL]
  · rename_i hne; simp [lookL, hne, look_put_same k v L]
theorem look_put_ne {k k' : α} (v : β) (h : k ≠ k') : ∀ L : List (α × β), lookL (putL L k v) k' = lookL L k'
 | [] => by simp [putL, lookL, h]
 | p :: L => by
  unfold putL
  split
  · rename_i e; simp [lookL, e, h]
  · simp [lookL, look_put_ne v h L]
theorem putL_new {k : α} {v : β} : ∀ {L : List (α × β)}, lookL L k = none → putL L k v = L ++ [(k, v)]
 | [], _ => rfl
 | p :: L, h => by
  unfold lookL at h
  split at h
  · cases h
  · rename_i hne; simp [putL, hne, putL_new h]
theorem putL_old {k : α} {v : β} : ∀ {L : List (α × β)} {j : Nat}, L[j]?.map (·.1) = some k → (∀ (j' : Nat), j' < j → L[j']?.map (·.1) ≠ some k) → putL L k v = L.set j (k, v)
 | [], j, h, _ => by simp at h
 | p :: L, 0, h, _ => by simp at h; simp [putL, h]
 | p :: L, j + 1, h, h2 => by
  have := h2 0 (by omega)
  simp at this
  simp [putL, this, putL_old (L := L) (j := j) (by simpa using h) (fun j' hj' => by simpa using h2 (j' + 1) (by omega))]
theorem lookL_none_mem {k : α} : ∀ {L : List (α × β)}, lookL L k = none → ∀ p ∈ L, p.1 ≠ k
  | [], _, p, hp => by cases hp
  | q :: L, h, p, hp => by
    unfold lookL at h
    split at h
    · cases h
    · rename_i hne
      rcases List.mem_cons.1 hp with rfl | hp
      · exact hne
      · exact lookL_none_mem h p hp
theorem lookL_mem {k : α} {v : β} : ∀ {L : List (α × β)}, lookL L k = some v → (k, v) ∈ L
 | [], h => by cases h
 | q :: L, h => by
  unfold lookL at h
  split at h
  · rename_i e; injection h with h; subst e; subst h; exact List.mem_cons_self ..
  · exact List.mem_cons_of_mem _ (lookL_mem h)
theorem MapIs.len {es : Array MapEntry} {clock : Nat} (h : MapIs ke ve L es clock) : es.size = L.length := by
 have := congrArg List.length h.eq
 simpa using this
theorem MapIs.nodup {es : Array MapEntry} {clock : Nat} (h : MapIs ke ve L es clock) : (L.map (·.1)).Nodup := by
 have h1 : es.toList.map (·.key) = L.map fun p => ke p.1 := by
  have := congrArg (List.map Prod.fst) h.eq
  rw [List.map_map, List.map_map] at this
  exact this
 have h2 := h.st.2.2
 rw [h1] at h2
 have h3 : (L.map (·.1)).map ke = L.map fun p => ke p.1 := by rw [List.map_map]; rfl
 rw [← h3] at h2
 exact List.Pairwise.of_map ke (fun a b hab e => hab (by rw [e])) h2
theorem MapIs.at_ {es : Array MapEntry} {clock : Nat} (h : MapIs ke ve L es clock) {j : Nat} {e : MapEntry} (he : es[j]? = some e) : ∃ p, L[j]? = some p ∧ e.key = ke p.1 ∧ e.val = ve p.2 := by
 have := congrArg (·[j]?) h.eq
 simp only [List.getElem?_map, Array.getElem?_toList, he, Option.map_some] at this
 cases hp : L[j]? with
 | none => rw [hp] at this; simp at this
 | some p => rw [hp] at this; simp at this; exact ⟨p, rfl, this.1, this.2⟩
theorem MapIs.push {es : Array MapEntry} {clock : Nat} (h : MapIs ke ve L es clock) (hi : ∀ a b, ke a = ke b → a = b) {k : α} {v : β} (hn : lookL L k = none) : MapIs ke ve (putL L k v) (es.push ⟨ke k, ve v, clock⟩) (clock + 1) := by
  obtain ⟨h1, h2, h3⟩ := h.st
  refine ⟨⟨fun x hx => ?_, ?_, ?_⟩, by simp [putL_new hn, h.eq]⟩
  · simp at hx
    rcases hx with hx | rfl
    · have := h1 x (by simpa using hx); omega
    · exact Nat.lt_succ_self _
  · simp only [Array.toList_push, List.map_append, List.map_cons, List.map_nil]
    rw [List.nodup_append]
    refine ⟨h2, by simp, fun a ha b hb => ?_⟩
    simp at hb; subst hb
    obtain ⟨x, hx, rfl⟩ := List.mem_map.1 ha
    have := h1 x hx; omega
  · simp only [Array.toList_push, List.map_append, List.map_cons, List.map_nil]
    rw [List.nodup_append]
    refine ⟨h3, by simp, fun a ha b hb e => ?_⟩
    simp at hb; subst hb; subst e
    obtain ⟨x, hx, e⟩ := List.mem_map.1 ha
    obtain ⟨j, hj, rfl⟩ := List.getElem_of_mem hx
    obtain ⟨p, hp, e1, _⟩ := h.at_ (j := j) (e := es[j]) (by simp)
    have e' : ke p.1 = ke k := by rw [← e1]; exact e
    exact lookL_none_mem hn p (List.mem_of_getElem? hp) (hi _ _ e')
theorem MapIs.modify {es : Array MapEntry} {clock : Nat} (h : MapIs ke ve L es clock) {k : α} {v : β} {j : Nat} (h1 : L[j]?.map (·.1) = some k) (h2 : ∀ (j' : Nat), j' < j → L[j']?.map (·.1) ≠ some k) : MapIs ke ve (putL L k v) (es.modify j fun e => { e with key := ke k, val := ve v }) clock := by
  have hkey : ∀ e, es[j]? = some e → e.key = ke k := fun e he => by
    obtain ⟨p, hp, e1, _⟩ := h.at_ he
    rw [hp] at h1; simp at h1; rw [e1, h1]
  have hb : (es.modify j fun e => { e with key := ke k, val := ve v }).toList.map (·.born) = es.toList.map (·.born) := by
    apply List.ext_getElem?
    intro i
    simp only [List.getElem?_map, Array.getElem?_toList, Array.getElem?_modify]
    split
    · cases es[i]? <;> rfl
    · rfl
  have hk : (es.modify j fun e => { e with key := ke k, val := ve v }).toList.map (·.key) = es.toList.map (·.key) := by
    apply List.ext_getElem?
    intro i
    simp only [List.getElem?_map, Array.getElem?_toList, Array.getElem?_modify]
    split
    · rename_i e; subst e
      cases he : es[j]? with
      | none => rfl
      | some e => simp [hkey e he]
    · rfl
  refine ⟨⟨fun x hx => ?_, by rw [hb]; exact h.st.2.1, by rw [hk]; exact h.st.2.2⟩, ?_⟩
  · have : x.born ∈ (es.modify j fun e => { e with key := ke k, val := ve v }).toList.map (·.born) := List.mem_map_of_mem hx
    rw [hb] at this
    obtain ⟨y, hy, e⟩ := List.mem_map.1 this
    rw [← e]; exact h.st.1 y hy
  · rw [putL_old h1 h2]
    apply List.ext_getElem?
    intro i
    simp only [List.getElem?_map, Array.getElem?_toList, Array.getElem?_modify, List.getElem?_set]
    have := congrArg (·[i]?) h.eq
    simp only [List.getElem?_map, Array.getElem?_toList] at this
    have hlen := h.len
    by_cases e : j = i
    · subst e
      by_cases hj : j < L.length
      · rw [if_pos rfl, if_pos rfl, if_pos hj, Array.getElem?_eq_getElem (by omega)]; rfl
      · rw [if_pos rfl, if_pos rfl, if_neg hj, Array.getElem?_eq_none (by omega)]; rfl
    · rw [if_neg e, if_neg e]; exact this
class MapAt (g : Nat) (l : List Assn) {α β : outParam Type} (ke : outParam (α → Value)) (ve : outParam (β → Value)) (L : outParam (List (α × β))) : Prop where
 find : ∀ h, Has l h → ∃ es clock, h g = some (.map es clock) ∧ MapIs ke ve L es clock
instance {α β : Type} (ke : α → Value) (ve : β → Value) (g : Nat) (L : List (α × β)) (l : List Assn) : MapAt g (mpA ke ve g L :: l) ke ve L := ⟨fun _ ⟨_, _, _, a, _, ⟨es, c, e1, e2⟩, _⟩ => ⟨es, c, a.p _ _ e1, e2⟩⟩
instance {α β : Type} (ke : α → Value) (ve : β → Value) (r g : Nat) (L left : List (α × β)) (l : List Assn) : MapAt g (rgA ke ve r g L left :: l) ke ve L := ⟨fun _ ⟨_, _, _, a, _, ⟨es, c, _, _, _, e1, e2, _⟩, _⟩ => ⟨es, c, a.p _ _ e1, e2⟩⟩
instance {α β : Type} (ke : α → Value) (ve : β → Value) (g : Nat) (L : List (α × β)) (k : α) (b : Nat) (l : List Assn) : MapAt g (msA ke ve g L k b :: l) ke ve L := ⟨fun _ ⟨_, _, _, a, _, ⟨es, c, e1, e2, _⟩, _⟩ => ⟨es, c, a.p _ _ e1, e2⟩⟩
instance {α β : Type} (ke : α → Value) (ve : β → Value) (g : Nat) (L : List (α × β)) (A : Assn) (l : List Assn) [k : MapAt g l ke ve L] : MapAt g (A :: l) ke ve L := ⟨fun _ H => k.find _ H.tail⟩
class TakeM (g : Nat) (l : List Assn) {α β : outParam Type} (ke : outParam (α → Value)) (ve : outParam (β → Value)) (L : outParam (List (α × β))) (r : outParam (List Assn)) : Prop where
 take : ∀ h, Has l h → Has (mpA ke ve g L :: r) h
instance {α β : Type} (ke : α → Value) (ve : β → Value) (g : Nat) (L : List (α × β)) (l : List Assn) : TakeM g (mpA ke ve g L :: l) ke ve L l := ⟨fun _ H => H⟩
instance {α β : Type} (ke : α → Value) (ve : β → Value) (r g : Nat) (L left : List (α × β)) (l : List Assn) : TakeM g (rgA ke ve r g L left :: l) ke ve L l := ⟨fun _ H => Has.weaken (fun _ ⟨es, c, _, _, _, e1, e2, _⟩ => ⟨es, c, e1, e2⟩) H⟩
instance {α β : Type} (ke : α → Value) (ve : β → Value) (g : Nat) (L : List (α × β)) (A : Assn) (l r : List Assn) [k : TakeM g l ke ve L r] : TakeM g (A :: l) ke ve L (A :: r) := ⟨fun _ ⟨h1, h2, d, a, b, e, H⟩ => Has.swap ⟨h1, h2, d, a, b, e, k.take _ H⟩⟩
instance {α β : Type} (ke : α → Value) (ve : β → Value) (r g : Nat) (L left : List (α × β)) (p : α × β) (l : List Assn) : MapAt g (reA ke ve r g L left p :: l) ke ve L := ⟨fun _ ⟨_, _, _, a, _, ⟨es, c, _, _, _, e1, e2, _⟩, _⟩ => ⟨es, c, a.p _ _ e1, e2⟩⟩
theorem re_rg {α β : Type} {ke : α → Value} {ve : β → Value} {r g : Nat} {L left : List (α × β)} {p : α × β} (h : Piece) : reA ke ve r g L left p h → rgA ke ve r g L left h := fun ⟨es, c, seen, e, h1, h2, h3, h4, h6, _⟩ => ⟨es, c, _, c, h1, h2, h3, h4, Nat.le_refl _, h6⟩
instance {α β : Type} (ke : α → Value) (ve : β → Value) (r g : Nat) (L left : List (α × β)) (p : α × β) (l : List Assn) : TakeA (rgA ke ve r g L left) (reA ke ve r g L left p :: l) l := ⟨fun _ H => Has.weaken re_rg H⟩
instance {α β : Type} (ke : α → Value) (ve : β → Value) (r g : Nat) (L left : List (α × β)) (p : α × β) (l : List Assn) : TakeA (mpA ke ve g L) (reA ke ve r g L left p :: l) l := ⟨fun _ H => Has.weaken (fun _ ⟨es, c, _, _, _, e1, e2, _⟩ => ⟨es, c, e1, e2⟩) H⟩
instance {α β : Type} (ke : α → Value) (ve : β → Value) (r g : Nat) (L left : List (α × β)) (p : α × β) (l : List Assn) : TakeM g (reA ke ve r g L left p :: l) ke ve L l := ⟨fun _ H => Has.weaken (fun _ ⟨es, c, _, _, _, e1, e2, _⟩ => ⟨es, c, e1, e2⟩) H⟩
class EntAt (r : Nat) (l : List Assn) {α β : outParam Type} (ke : outParam (α → Value)) (ve : outParam (β → Value)) (p : outParam (α × β)) : Prop where
 find : ∀ h, Has l h → ∃ g L left, ∃ h1, Piece.le h1 h ∧ reA ke ve r g L left p h1
instance {α β : Type} (ke : α → Value) (ve : β → Value) (r g : Nat) (L left : List (α × β)) (p : α × β) (l : List Assn) : EntAt r (reA ke ve r g L left p :: l) ke ve p := ⟨fun _ ⟨h1, _, _, a, _, e, _⟩ => ⟨g, L, left, h1, a, e⟩⟩
instance {α β : Type} (ke : α → Value) (ve : β → Value) (r : Nat) (p : α × β) (A : Assn) (l : List Assn) [k : EntAt r l ke ve p] : EntAt r (A :: l) ke ve p := ⟨fun h H => by
 obtain ⟨h1, h2, d, a, b, e, H2⟩ := H
 obtain ⟨g, L, left, h3, hle, e3⟩ := k.find _ H2
 exact ⟨g, L, left, h3, hle.le_trans b, e3⟩⟩
instance {α β : Type} (ke : α → Value) (ve : β → Value) (r g : Nat) (L left : List (α × β)) (l : List Assn) : TakeA (mpA ke ve g L) (rgA ke ve r g L left :: l) l := ⟨fun _ H => Has.weaken (fun _ ⟨es, c, _, _, _, e1, e2, _⟩ => ⟨es, c, e1, e2⟩) H⟩
theorem Own.mapAt {w : World} {α β : Type} {ke : α → Value} {ve : β → Value} {g : Nat} {L : List (α × β)} (H : Own B w l) [k : MapAt g l ke ve L] : ∃ es clock, w.heap[g]? = some (.map es clock) ∧ MapIs ke ve L es clock := by
 obtain ⟨h, _, hl, e⟩ := H.has
 obtain ⟨es, c, e1, e2⟩ := k.find _ e
 exact ⟨es, c, hl.p _ _ e1, e2⟩
theorem Own.mapNodup {w : World} {α β : Type} [DecidableEq α] {ke : α → Value} {ve : β → Value} (g : Nat) {L : List (α × β)} (H : Own B w l) [k : MapAt g l ke ve L] : (L.map (·.1)).Nodup := by
 obtain ⟨es, c, _, e⟩ := H.mapAt (g := g)
 exact e.nodup
theorem Own.takeM {w : World} {α β : Type} {ke : α → Value} {ve : β → Value} {g : Nat} {L : List (α × β)} (H : Own B w l) [k : TakeM g l ke ve L r] : Own B w (mpA ke ve g L :: r) := H.map k.take
theorem Own.mapHead {w : World} (H : Own B w (mpA ke ve g L :: l)) : ∃ es clock, w.heap[g]? = some (.map es clock) ∧ MapIs ke ve L es clock := H.mapAt
theorem kept_setObj (w : World) (g : Nat) (o : Obj) : Kept [g] w { w with heap := w.heap.setIfInBounds g o } := by
 refine ⟨rfl, rfl, rfl, by simp, fun k hk hn => ?_⟩
 show (w.heap.setIfInBounds g o)[k]? = _
 rw [Array.getElem?_setIfInBounds, if_neg (fun e => hn (by simp [e]))]
theorem Own.setMap {w : World} {A A' : Assn} (H : Own B w (A :: l)) {o : Obj} (hA : ∀ h, A h → ∃ o', h g = some o') (hA' : ∀ h h1 : Piece, A h1 → h g = some o → (∀ b o', h1 b = some o' → b ≠ g → h b = some o') → A' h) : Own B { w with heap := w.heap.setIfInBounds g o } (A' :: l) := by
 have hb : ∃ o', w.heap[g]? = some o' := by
  obtain ⟨h, _, hl, h1, _, _, a1, _, hA1, _⟩ := H.has
  obtain ⟨o', e⟩ := hA _ hA1
  exact ⟨o', hl.p _ _ (a1.p _ _ e)⟩
 obtain ⟨o', hb⟩ := hb
 have hlt : g < w.heap.size := (Array.getElem?_eq_some_iff.1 hb).1
 refine Own.kept (fp := [g]) H (kept_setObj w g o) (fun h e g' hg => by simp at hg; subst hg; exact hA _ e) (fun h1 h hA1 _ e1 e2 => hA' h h1 hA1 ?_ fun b o' hb hne => e2 b o' hb (by simpa using hne))
 have := e1 g (.inl (by simp))
 rw [this]
 show (w.heap.setIfInBounds g o)[g]? = _
 rw [Array.getElem?_setIfInBounds, if_pos rfl, if_pos hlt]
theorem mapOk_sub {t : TypeId} {z : Value} (M : MapOk P t ke z) (w : World) (k : α) (e : Bool) : ∃ kt et, P.underlying t = some (.map kt et) ∧ (Instr.checkKey e 10000 kt (ke k)).run P w = .ok () w ∧ (zeroValue et).run P w = .ok z w ∧ ∀ (es : List MapEntry) (L : List (α × β)), es.map (fun e => (e.key, e.val)) = L.map (fun p => (ke p.1, ve p.2)) →
    (lookL L k = none ∧ (Instr.findKey kt (ke k) es).run P w = .ok none w) ∨ ∃ v j, lookL L k = some v ∧ (Instr.findKey kt (ke k) es).run P w = .ok (some (j, ve v)) w ∧ L[j]?.map (·.1) = some k ∧ ∀ (j' : Nat), j' < j → L[j']?.map (·.1) ≠ some k := by
  obtain ⟨kt, et, dk, h1, h2, h3, h4⟩ := M.ex
  refine ⟨kt, et, h1, MapKept.run_checkKey h2 (h3 k) e 9999, ?_, fun es L he => ?_⟩
  · cases hi : P.info? et with
    | none => rw [hi] at h4; cases h4
    | some i => rw [hi] at h4; simp at h4; simp [zeroValue, typeInfo, hi, h4]
  · rcases findNow_look (ve := ve) h3 M.inj k es L 0 he with ⟨a1, a2⟩ | ⟨v, j, a1, a2, a3, a4⟩
    · exact .inl ⟨a1, MapKept.run_findKey h2 a2⟩
    · rw [Nat.zero_add] at a2
      exact .inr ⟨v, j, a1, MapKept.run_findKey h2 a2, a3, a4⟩
theorem YD {t : TypeId} (α β : Type) (ke : α → Value) (ve : β → Value) (h : ∀ g, K (.map (some g)) (mpA ke ve g ([] : List (α × β)) :: l)) : Ef P B n ⟨d, .makeMap t none, ty, pos, af, gd⟩ f l K := ⟨fun w next Q ho hk => by
 have hr : (Instr.makeMap t none).run P w = .ok (.map (some w.heap.size)) (w.alloc (.map #[] 0)) := by simp [Instr.makeMap]
 unfold Oper.wp execOp
 simp only [eval_act', Option.map_none, Sem.run_bind, hr, Sem.run_pure, Result.andThen_ok]
 refine hk _ _ _ (h _) (Own.fresh ho ((Kept.refl _ _).alloc _) fun hh e => ⟨#[], 0, ?_, ⟨MapKept.stamped_empty 0, rfl⟩⟩)
 rw [e _ (Nat.le_refl _)]
 exact heap_alloc_new w _⟩
theorem run_lookup {t : TypeId} {z : Value} (M : MapOk P t ke z) (w : World) (k : α) (c : Bool) {es : Array MapEntry} {clock : Nat} (hb : w.heap[g]? = some (.map es clock)) (hm : MapIs ke ve L es clock) :
    (Instr.lookup t (.map (some g)) (ke k) c).run P w = .ok (if c then .tuple #[(match lookL L k with | some v => ve v | none => z), .bool (lookL L k).isSome] else (match lookL L k with | some v => ve v | none => z)) w := by
  obtain ⟨kt, et, h1, h2, h3, h4⟩ := mapOk_sub (ve := ve) M w k es.isEmpty
  rcases h4 es.toList L hm.eq with ⟨a1, a2⟩ | ⟨v, j, a1, a2, _, _⟩
  · rw [a1]
    simp [Instr.lookup, run_underlying h1, MapKept.run_getObj_map hb, h2, a2, h3]
  · rw [a1]
    simp [Instr.lookup, run_underlying h1, MapKept.run_getObj_map hb, h2, a2]
theorem ZL {t : TypeId} {x y : Operand} {z : Value} (M : MapOk P t ke z) (hx : ev n f x = some (.map (some g))) (k : α) (hy : ev n f y = some (ke k)) [kk : MapAt g S ke ve L] {v : β} (hv : lookL L k = some v) : Qt P B n S ⟨d, .lookup t x y true, ty, pos, af, gd⟩ f (.tuple #[ve v, .bool true]) := ⟨fun w ho => by
 obtain ⟨es, c, hb, hm⟩ := ho.mapAt (g := g)
 have := run_lookup M w k true hb hm
 simp only [hv, if_true, Option.isSome_some] at this
 simp [execOp, evu_eq hx, evu_eq hy, this]⟩
theorem ZM {t : TypeId} {x y : Operand} {z : Value} (M : MapOk P t ke z) (hx : ev n f x = some (.map (some g))) (k : α) (hy : ev n f y = some (ke k)) [kk : MapAt g S ke ve L] (hv : lookL L k = none) : Qt P B n S ⟨d, .lookup t x y true, ty, pos, af, gd⟩ f (.tuple #[z, .bool false]) := ⟨fun w ho => by
 obtain ⟨es, c, hb, hm⟩ := ho.mapAt (g := g)
 have := run_lookup M w k true hb hm
 simp only [hv, if_true, Option.isSome_none] at this
 simp [execOp, evu_eq hx, evu_eq hy, this]⟩
theorem ZN {t : TypeId} {x y : Operand} {z : Value} (M : MapOk P t ke z) (hx : ev n f x = some (.map (some g))) (k : α) (hy : ev n f y = some (ke k)) [kk : MapAt g S ke ve L] {v : β} (hv : lookL L k = some v) : Qt P B n S ⟨d, .lookup t x y false, ty, pos, af, gd⟩ f (ve v) := ⟨fun w ho => by
 obtain ⟨es, c, hb, hm⟩ := ho.mapAt (g := g)
 have := run_lookup M w k false hb hm
 simp only [hv, Bool.false_eq_true, if_false] at this
 simp [execOp, evu_eq hx, evu_eq hy, this]⟩
theorem ZP {t : TypeId} {x y : Operand} {z : Value} (M : MapOk P t ke z) (hx : ev n f x = some (.map (some g))) (k : α) (hy : ev n f y = some (ke k)) [kk : MapAt g S ke ve L] (hv : lookL L k = none) : Qt P B n S ⟨d, .lookup t x y false, ty, pos, af, gd⟩ f z := ⟨fun w ho => by
 obtain ⟨es, c, hb, hm⟩ := ho.mapAt (g := g)
 have := run_lookup M w k false hb hm
 simp only [hv, Bool.false_eq_true, if_false] at this
 simp [execOp, evu_eq hx, evu_eq hy, this]⟩
theorem zT {t : TypeId} {x y : Operand} {z : Value} (M : MapOk P t ke z) (hx : ev n f x = some (.map (some g))) (k : α) (hy : ev n f y = some (ke k)) [kk : MapAt g S ke ve L] (v0 : β) (hz : z = ve v0) : Qt P B n S ⟨d, .lookup t x y false, ty, pos, af, gd⟩ f (ve ((lookL L k).getD v0)) := by
 cases h : lookL L k with
 | none => rw [Option.getD_none, ← hz]; exact ZP M hx k hy h
 | some v => exact ZN M hx k hy h
theorem run_mapUpdate {t : TypeId} {z : Value} (M : MapOk P t ke z) (w : World) (k : α) (v : β) {es : Array MapEntry} {clock : Nat} (hb : w.heap[g]? = some (.map es clock)) (hm : MapIs ke ve L es clock) :
    ∃ es' c', (Instr.mapUpdate t (.map (some g)) (ke k) (ve v)).run P w = .ok () { w with heap := w.heap.setIfInBounds g (.map es' c') } ∧ MapIs ke ve (putL L k v) es' c' := by
  obtain ⟨kt, et, h1, h2, h3, h4⟩ := mapOk_sub (ve := ve) M w k false
  obtain ⟨kt', et', dk, u1, u2, u3, u4⟩ := M.ex
  rcases h4 es.toList L hm.eq with ⟨a1, a2⟩ | ⟨v0, j, a1, a2, a3, a4⟩
  · refine ⟨_, _, ?_, hm.push M.inj a1⟩
    simp [Instr.mapUpdate, run_underlying h1, MapKept.run_getObj_map hb, h2, a2, MapKept.run_setObj_map _ hb]
  · have hj : ∃ e, es[j]? = some e ∧ e.key = ke k := by
      cases hq : es[j]? with
      | none =>
        cases hp : L[j]? with
        | none => rw [hp] at a3; cases a3
        | some p =>
          have := (List.getElem?_eq_some_iff.1 hp).1
          have := hm.len
          have := Array.getElem?_eq_none_iff.1 hq
          omega
      | some e =>
        obtain ⟨p, hp, e1, _⟩ := hm.at_ hq
        rw [hp] at a3; simp at a3
        exact ⟨e, rfl, by rw [e1, a3]⟩
    obtain ⟨e, hq, hek⟩ := hj
    refine ⟨_, _, ?_, hm.modify a3 a4⟩
    simp [Instr.mapUpdate, run_underlying h1, MapKept.run_getObj_map hb, h2, a2, hq, hek, MapKept.run_keyThatStays (u3 k), MapKept.run_setObj_map _ hb]
theorem Y0 {t : TypeId} {x y v : Operand} {z : Value} (M : MapOk P t ke z) (hx : ev n f x = some (.map (some g))) (k : α) (hy : ev n f y = some (ke k)) (b : β) (hv : ev n f v = some (ve b)) [kk : TakeM g l ke ve L r] (h : K (.tuple #[]) (mpA ke ve g (putL L k b) :: r)) : Ef P B n ⟨d, .mapUpdate t x y v, ty, pos, af, gd⟩ f l K := ⟨fun w next Q ho hk => by
 have ho2 := ho.takeM (k := kk)
 obtain ⟨es, c, hb, hm⟩ := ho2.mapHead
 obtain ⟨es', c', hr, hm'⟩ := run_mapUpdate M w k b hb hm
 unfold Oper.wp execOp
 simp only [eval_act', evu_eq hx, evu_eq hy, evu_eq hv, Sem.run_bind, hr, Sem.run_pure, Result.andThen_ok]
 exact hk _ _ _ h (ho2.setMap (fun h ⟨es, c, e, _⟩ => ⟨_, e⟩) fun h h1 _ e _ => ⟨es', c', e, hm'⟩)⟩
theorem Z4 {t kt et : TypeId} {x : Operand} (ht : P.underlying t = some (.map kt et)) (hx : ev n f x = some (.map (some g))) [kk : TakeM g l ke ve L r] (h : ∀ i, K (.pointer (some ⟨i, 0, none⟩)) (rgA ke ve i g L L :: r)) : Ef P B n ⟨d, .range t x, ty, pos, af, gd⟩ f l K := ⟨fun w next Q ho hk => by
 have ho2 := ho.takeM (k := kk)
 obtain ⟨es, c, hb, hm⟩ := ho2.mapHead
 have hr := run_range_map (P := P) w t kt et g es c ht hb
 unfold Oper.wp execOp
 simp only [eval_act', evu_eq hx, Sem.run_bind, hr, Sem.run_pure, Result.andThen_ok]
 have hlt : g < w.heap.size := (Array.getElem?_eq_some_iff.1 hb).1
 refine hk _ _ _ (h _) (Own.kept (fp := [g]) ho2 ((Kept.refl _ _).alloc _) (fun h ⟨es, c, e, _⟩ g' hg => by simp at hg; subst hg; exact ⟨_, e⟩) (fun h1 h ⟨es1, c1, q1, q2⟩ hle e1 _ => ?_))
 have eg : h g = some (.map es c) := by
  rw [e1 g (.inl (by simp)), heap_alloc_old w _ hlt]; exact hb
 have ei : h w.heap.size = some (.mapIter (some g) c #[] c) := by
  rw [e1 _ (.inr (Nat.le_refl _))]; exact heap_alloc_new w _
 refine ⟨es, c, #[], c, by omega, eg, hm, ei, Nat.le_refl _, ?_⟩
 rw [← hm.eq]
 have : (leftOf es #[]).toList = es.toList := by
  unfold leftOf
  rw [Array.toList_filter, List.filter_eq_self]
  intro a _
  simp
 rw [this]⟩
theorem leftOf_push (es : Array MapEntry) (seen : Array Nat) (e : MapEntry) : (leftOf es (seen.push e.born)).toList = (leftOf es seen).toList.filter fun x => decide (x.born ≠ e.born) := by
 unfold leftOf
 simp only [Array.toList_filter, List.filter_filter]
 congr 1
 funext x
 by_cases h : x.born = e.born <;> simp [h]
theorem nodup_map_inj {γ δ : Type} (f : γ → δ) : ∀ {l : List γ}, (l.map f).Nodup → ∀ {x y : γ}, x ∈ l → y ∈ l → f x = f y → x = y
  | a :: l, hn, x, y, hx, hy, e => by
    simp only [List.map_cons, List.nodup_cons] at hn
    rcases List.mem_cons.1 hx with h1 | hx
    · rcases List.mem_cons.1 hy with h2 | hy
      · rw [h1, h2]
      · have := List.mem_map_of_mem (f := f) hy
        rw [← e, h1] at this
        exact absurd this hn.1
    · rcases List.mem_cons.1 hy with h2 | hy
      · have := List.mem_map_of_mem (f := f) hx
        rw [e, h2] at this
        exact absurd this hn.1
      · exact nodup_map_inj f hn.2 hx hy e
theorem left_cut : ∀ (Y : List MapEntry) (left : List (α × β)), Y.map (fun e => (e.key, e.val)) = left.map (fun p => (ke p.1, ve p.2)) → ∀ (b : Nat) (k : α), (∀ x ∈ Y, x.born = b ↔ x.key = ke k) → (∀ a b, ke a = ke b → a = b) →
  (Y.filter fun x => decide (x.born ≠ b)).map (fun e => (e.key, e.val)) = (cutL left k).map fun p => (ke p.1, ve p.2)
 | [], [], _, _, _, _, _ => rfl
 | [], _ :: _, h, _, _, _, _ => by simp at h
 | _ :: _, [], h, _, _, _, _ => by simp at h
 | e :: Y, p :: left, h, b, k, hb, hi => by
  simp only [List.map_cons, List.cons.injEq, Prod.mk.injEq] at h
  obtain ⟨⟨h1, h2⟩, h3⟩ := h
  have ih := left_cut Y left h3 b k (fun x hx => hb x (List.mem_cons_of_mem _ hx)) hi
  have hiff : e.born = b ↔ p.1 = k := (hb e (List.mem_cons_self ..)).trans ⟨fun q => hi _ _ (h1.symm.trans q), fun q => by rw [h1, q]⟩
  unfold cutL at ih ⊢
  by_cases q : p.1 = k
  · rw [List.filter_cons_of_neg (by simpa using hiff.2 q), List.filter_cons_of_neg (by simpa using q)]; exact ih
  · rw [List.filter_cons_of_pos (by simpa using fun z => q (hiff.1 z)), List.filter_cons_of_pos (by simpa using q), List.map_cons, List.map_cons, ih, h1, h2]
theorem Z5 {x : Operand} {i : Nat} {r0 : List Assn} (hx : ev n f x = some (.pointer (some ⟨i, 0, none⟩))) (hl : l = rgA ke ve i g L ([] : List (α × β)) :: r0) (h : K (.tuple #[.bool false]) l) : Ef P B n ⟨d, .next x false, ty, pos, af, gd⟩ f l K := ⟨fun w next Q ho hk => by
  subst hl
  obtain ⟨hh, _, hle, h1, _, _, a1, _, ⟨es, c, seen, c0, hne, q1, q2, q3, q4, q5⟩, _⟩ := ho.has
  have hr := hle.p _ _ (a1.p _ _ q3)
  have hb := hle.p _ _ (a1.p _ _ q1)
  unfold Oper.wp execOp
  rcases run_next_at (P := P) w ty i g c c0 seen es c hr hb q2.st.1 q4 with ⟨_, e2⟩ | ⟨e, he, _⟩
  · simp only [eval_act', evu_eq hx, Sem.run_bind, e2, Sem.run_pure, Result.andThen_ok]
    exact hk _ _ _ h ho
  · have : (leftOf es seen).toList = [] := by simpa using q5
    rw [this] at he; cases he⟩
theorem Z6 {x : Operand} {i : Nat} {r0 : List Assn} (hi : ∀ a b, ke a = ke b → a = b) (hx : ev n f x = some (.pointer (some ⟨i, 0, none⟩))) (hl : l = rgA ke ve i g L left :: r0) (hne : left ≠ []) (h : ∀ p ∈ left, K (.tuple #[.bool true, ke p.1, ve p.2]) (reA ke ve i g L (cutL left p.1) p :: r0)) : Ef P B n ⟨d, .next x false, ty, pos, af, gd⟩ f l K := ⟨fun w next Q ho hk => by
  subst hl
  have ho0 := ho
  obtain ⟨hh, _, hle, h1, _, _, a1, _, ⟨es, c, seen, c0, hig, q1, q2, q3, q4, q5⟩, _⟩ := ho.has
  have hr := hle.p _ _ (a1.p _ _ q3)
  have hb := hle.p _ _ (a1.p _ _ q1)
  unfold Oper.wp execOp
  rcases run_next_at (P := P) w ty i g c c0 seen es c hr hb q2.st.1 q4 with ⟨e1, _⟩ | ⟨e, he, w1, hw1, e2⟩
  · exfalso
    have : (leftOf es seen).toList = [] := by simpa using e1
    rw [this] at q5
    exact hne (by simpa using q5.symm)
  · obtain ⟨j, hj, rfl⟩ := List.getElem_of_mem he
    have hpj := congrArg (·[j]?) q5
    simp only [List.getElem?_map, List.getElem?_eq_getElem hj, Option.map_some] at hpj
    cases hp : left[j]? with
    | none => rw [hp] at hpj; cases hpj
    | some p =>
      rw [hp] at hpj
      simp only [Option.map_some, Option.some.injEq, Prod.mk.injEq] at hpj
      obtain ⟨p1, p2⟩ := hpj
      simp only [eval_act', evu_eq hx, Sem.run_bind, e2, Sem.run_pure, Result.andThen_ok]
      rw [p1, p2]
      refine hk _ _ _ (h p (List.mem_of_getElem? hp)) ?_
      have ho1 : Own B w1 (rgA ke ve i g L left :: r0) := by rcases hw1 with rfl | rfl <;> first | exact ho0 | exact ho0.drew
      have hb1 : w1.heap[g]? = some (.map es c) := by rcases hw1 with rfl | rfl <;> exact hb
      have hr1 : w1.heap[i]? = some (.mapIter (some g) c seen c0) := by rcases hw1 with rfl | rfl <;> exact hr
      refine Own.kept (fp := [i, g]) ho1 ⟨rfl, rfl, rfl, by simp [ChangeMaps.setBlock], fun k hk hn => ?_⟩ (fun h ⟨es, c, _, _, _, e, _, e3, _⟩ g' hg => by simp at hg; rcases hg with rfl | rfl; exact ⟨_, e3⟩; exact ⟨_, e⟩) (fun h1 h _ _ e1 _ => ?_)
      · show (w1.heap.setIfInBounds i _)[k]? = _
        rw [Array.getElem?_setIfInBounds, if_neg (fun e => hn (by simp [e]))]
      · have hlt : i < w1.heap.size := (Array.getElem?_eq_some_iff.1 hr1).1
        have eg : h g = some (.map es c) := by
          rw [e1 g (.inl (by simp))]
          show (w1.heap.setIfInBounds i _)[g]? = _
          rw [Array.getElem?_setIfInBounds, if_neg hig]; exact hb1
        have ei : h i = some (.mapIter (some g) c (seen.push (leftOf es seen).toList[j].born) c) := by
          rw [e1 i (.inl (by simp))]
          show (w1.heap.setIfInBounds i _)[i]? = _
          rw [Array.getElem?_setIfInBounds, if_pos rfl, if_pos hlt]
        have hsub : ∀ x ∈ (leftOf es seen).toList, x ∈ es.toList := fun x hx => by
          unfold leftOf at hx
          rw [Array.toList_filter] at hx
          exact (List.mem_filter.1 hx).1
        have hme : (leftOf es seen).toList[j] ∈ es.toList := hsub _ (List.getElem_mem _)
        refine ⟨es, c, seen, (leftOf es seen).toList[j], hig, eg, q2, ei, ?_, hme, p1, p2⟩
        rw [leftOf_push]
        refine left_cut _ _ q5 _ p.1 (fun x hx => ⟨fun e => ?_, fun e => ?_⟩) hi
        · rw [nodup_map_inj (·.born) q2.st.2.1 (hsub x hx) hme e]; exact p1
        · rw [nodup_map_inj (·.key) q2.st.2.2 (hsub x hx) hme (e.trans p1.symm)]⟩
theorem Z7 {x : Operand} {i : Nat} {p : α × β} (hx : ev n f x = some (.pointer (some ⟨i, 0, none⟩))) [kk : EntAt i S ke ve p] : Qt P B n S ⟨d, .entry x, ty, pos, af, gd⟩ f (.tuple #[ke p.1, ve p.2]) := ⟨fun w ho => by
 obtain ⟨hh, _, hle, H⟩ := ho.has
 obtain ⟨g, L, left, h1, a1, es, c, seen, e, hig, q1, q2, q3, q5, q6, q7, q8⟩ := kk.find _ H
 have hr := hle.p _ _ (a1.p _ _ q3)
 have hb := hle.p _ _ (a1.p _ _ q1)
 have := run_entry_at (P := P) w i g c seen es c e hr hb q6 q2.st.2.1
 simp [execOp, evu_eq hx, this, q7, q8]⟩
end
end Go.Proofs.YtiooeiapplnafaaGreatDoor
