/- The package wal: Open, Append, Flush, Force over closed logs. Conditions: sizes; that what is handed in can be read. -/
import Derived.Test.YtegohgaccmkigaaDoorWlI
set_option linter.unusedSimpArgs false
set_option linter.unusedVariables false
namespace Go.Proofs.YtegohgaccmkigaaDoor
open Go.RowKit

theorem Own.dskOk {B : Base} {w : World} {b : Nat} {D : DD} {l : List Assn} (H : Own B w (dskA b D :: l)) : D.Ok := by
  obtain ⟨_, _, _, _, _, h⟩ := H.disk
  exact h.ok
theorem Fn.diskOk {P : Program} {B : Base} {f : FuncId} {args : Array Value} {b : Nat} {D : DD} {S : List Assn} {R : Value → List Assn → Prop} (h : D.Ok → Fn P B f args (dskA b D :: S) R) : Fn P B f args (dskA b D :: S) R := ⟨fun w F ho => (h ho.dskOk).run w F ho⟩
section
variable {P : Program} {B : Base} {n : Nat} {l r : List Assn} {f : Fr} {Φ : Post} {c : Code}
theorem T.dskOk (b : Nat) (D : DD) [k : TakeA (dskA b D) l r] (h : D.Ok → T P B n c Φ f l) : T P B n c Φ f l := ⟨fun Q w hf ho => (h (ho.take (k := k)).dskOk).run Q w hf ho⟩
end
theorem Fn.openWl {P : Program} {B : Base} {f : FuncId} {args : Array Value} {g b : Nat} {W : Wl} {S : List Assn} {R : Value → List Assn → Prop} (h : ∀ p c, (0 < W.st.length → ∃ g, p = some ⟨g, 0, none⟩) → W.st.length ≤ c → Fn P B f args (wlB g b W p c :: rB (.slice p W.st.length c) W.st.length W.st :: S) R) : Fn P B f args (wlA g b W :: S) R := ⟨fun w F ho => by
  obtain ⟨p, c, e⟩ := Own.openWl (l := S ++ F) ho
  exact (h p c (e.tl.slice_at (p := p) (m := W.st.length) (c := c)).2.1 (e.tl.cap_at (p := p) (m := W.st.length) (c := c))).run w F e⟩
theorem sub_wlA {g b : Nat} {W : Wl} {p : Option Addr} {c : Nat} {S : List Assn} : Sub (wlB g b W p c :: rB (.slice p W.st.length c) W.st.length W.st :: S) (wlA g b W :: S) := fun h H => by
  obtain ⟨h1, h2, d, a1, a2, k1, k2⟩ := Has.split (l := [_, _]) H
  exact ⟨h1, h2, d, a1, a2, ⟨p, c, k1⟩, k2⟩

theorem PartsV.mono {B : Base} {S S' : List Assn} {v : Value} {bs : List (List UInt8)} (h : PartsV B S v bs) (hm : ∀ w, Own B w S' → Own B w S) : PartsV B S' v bs := by
  obtain ⟨vs, h1, h2, h3⟩ := h
  exact ⟨vs, h1.mono hm, h2, fun i a b => (h3 i a b).mono hm⟩
theorem addW_cases (W : Wl) (d : List UInt8) : ((d.length = 0 ∧ addW W d = (W, 0, 5)) ∨ (d.length ≠ 0 ∧ 1024 < d.length ∧ addW W d = (W, 0, 2)) ∨ (d.length ≠ 0 ∧ d.length ≤ 1024 ∧ W.count * 256 < W.st.length + 8 + d.length ∧ addW W d = (W, 0, 3))) ∨ (OkD d ∧ W.st.length + 8 + d.length ≤ W.count * 256 ∧ (addW W d).2.2 = 0) := by
  by_cases h0 : d.length = 0
  · exact .inl (.inl ⟨h0, by unfold addW; rw [if_pos h0]⟩)
  · by_cases h1 : 1024 < d.length
    · exact .inl (.inr (.inl ⟨h0, h1, by unfold addW; rw [if_neg h0, if_pos h1]⟩))
    · by_cases h2 : W.count * 256 < W.st.length + 8 + d.length
      · exact .inl (.inr (.inr ⟨h0, by omega, h2, by unfold addW; rw [if_neg h0, if_neg h1, if_pos h2]⟩))
      · exact .inr ⟨⟨h0, by omega⟩, by omega, by unfold addW; rw [if_neg h0, if_neg h1, if_neg h2]⟩

theorem Wl.add (B : Base) (S : List Assn) (g b : Nat) (W : Wl) (a : Option Addr) (c : Nat) (bs : List (List UInt8)) (n : Nat) (hbn : bs.length = n) (hv : PartsV B S (.slice a bs.length c) bs) (hc : bs.length ≤ c) (hn : bs.length < 2 ^ 32) (d : List UInt8) (hdd : bs.flatten = d) (hN2 : d.length ≤ 2 ^ 40) (hcnt : W.count ≤ 4096) (hst : W.st.length ≤ W.count * 256) :
    Fn Tryd.prog B 24 #[.pointer (some ⟨g, 0, none⟩), .slice a n c] (wlA g b W :: S) (fun u l => u = .tuple #[.int .i64 (addW W d).2.1, .int .i64 (addW W d).2.2] ∧ l = wlA g b (addW W d).1 :: S) := by
  subst hdd
  subst hbn
  refine Fn.openWl fun p cc hp hcc => ?_
  rcases addW_cases W bs.flatten with h | ⟨h1, h2, h3⟩
  · have key : ∀ code, ((bs.flatten.length = 0 ∧ code = 5) ∨ (bs.flatten.length ≠ 0 ∧ 1024 < bs.flatten.length ∧ code = 2) ∨ (bs.flatten.length ≠ 0 ∧ bs.flatten.length ≤ 1024 ∧ W.count * 256 < W.st.length + 8 + bs.flatten.length ∧ code = 3)) → addW W bs.flatten = (W, 0, code) →
        Fn Tryd.prog B 24 #[.pointer (some ⟨g, 0, none⟩), .slice a bs.length c] (wlB g b W p cc :: rB (.slice p W.st.length cc) W.st.length W.st :: S) (fun u l => u = .tuple #[.int .i64 (addW W bs.flatten).2.1, .int .i64 (addW W bs.flatten).2.2] ∧ l = wlA g b (addW W bs.flatten).1 :: S) := by
      intro code hcode e
      rw [e]
      have h0 := Wl.append_no B (rB (.slice p W.st.length cc) W.st.length W.st :: S) g b W p cc a c bs (PartsV.mono hv (fun w ho => ho.tl)) hc hn hN2 hcnt hst code hcode
      exact h0.sub fun v l ⟨e1, e2⟩ => ⟨_, e2 ▸ sub_wlA, e1, rfl⟩
    rcases h with ⟨h0, e⟩ | ⟨h0, h1, e⟩ | ⟨h0, h1, h2, e⟩
    · exact key 5 (.inl ⟨h0, rfl⟩) e
    · exact key 2 (.inr (.inl ⟨h0, h1, rfl⟩)) e
    · exact key 3 (.inr (.inr ⟨h0, h1, h2, rfl⟩)) e
  · have h0 := Wl.append B S g b W p cc hp a c bs hv hc hn hcnt bs.flatten rfl h1.1 h1.2 h2
    exact h0.sub fun v l ⟨p', c', e1, e2, e3⟩ => ⟨_, e3 ▸ sub_wlA, by rw [h3]; exact e1, rfl⟩
/-- A disk behind a flush. -/
def flushE (W : Wl) (D : DD) : DD := if W.dur = W.st.length then D else flushD W D
theorem Wl.forceYes (B : Base) (g b : Nat) (W : Wl) (D : DD) (mark : Int) (hD : W.first + W.count ≤ D.secs.length) (hs : D.secs.length ≤ 4096) (hst : W.st.length ≤ W.count * 256) (hdur : W.dur ≤ W.st.length) (hroom : D.pend.length + 4096 < 2 ^ 32) (hm : W.dur < mark ∨ W.dur = W.st.length) :
    Fn Tryd.prog B 105 #[.pointer (some ⟨g, 0, none⟩), .int .i64 mark] [wlA g b W, dskA b D] (fun u l => u = .tuple #[] ∧ l = [wlA g b W.flushed, dskA b (flushE W D)]) := by
  refine Fn.openWl fun p cc hp hcc => ?_
  unfold flushE
  by_cases h : W.dur = W.st.length
  · rw [if_pos h]
    have h0 := (Wl.force_no B g b W p cc mark (by omega) (.inr h)).frame [rB (.slice p W.st.length cc) W.st.length W.st, dskA b D]
    refine h0.sub fun v l ⟨l', ⟨e1, e2⟩, e3⟩ => ⟨_, ?_, e1, rfl⟩
    subst e2; subst e3
    rw [show W.flushed = W by cases W; simp_all [Wl.flushed]]
    exact sub_wlA
  · rw [if_neg h]
    have h0 := Wl.force B g b W p cc hp hcc D mark hD hs hst hdur hroom (by omega) h
    exact h0.sub fun v l ⟨e1, e2⟩ => ⟨_, e2 ▸ sub_wlA (W := W.flushed), e1, rfl⟩
theorem Wl.forceNo (B : Base) (g b : Nat) (W : Wl) (mark : Int) (hdur : W.dur < 2 ^ 40) (hm : mark ≤ W.dur) :
    Fn Tryd.prog B 105 #[.pointer (some ⟨g, 0, none⟩), .int .i64 mark] [wlA g b W] (fun u l => u = .tuple #[] ∧ l = [wlA g b W]) := by
  refine Fn.openWl fun p cc hp hcc => ?_
  have h0 := (Wl.force_no B g b W p cc mark hdur (.inl hm)).frame [rB (.slice p W.st.length cc) W.st.length W.st]
  refine h0.sub fun v l ⟨l', ⟨e1, e2⟩, e3⟩ => ⟨_, ?_, e1, rfl⟩
  subst e2; subst e3
  exact sub_wlA
theorem flushE_ok {W : Wl} {D : DD} (h : D.Ok) (hD : W.first + W.count ≤ D.secs.length) (hst : W.st.length ≤ W.count * 256) (hdur : W.dur ≤ W.st.length) (hp : D.pend = []) : (flushE W D).Ok ∧ (flushE W D).secs.length = D.secs.length ∧ (flushE W D).pend = [] := by
  unfold flushE
  split
  · exact ⟨h, rfl, hp⟩
  · obtain ⟨h1, h2⟩ := lays_ok (W := W) (k := flushN W) (n := W.dur / 256) h (by unfold flushN; omega)
    exact ⟨h1.sy, by rw [flushD, DD.sync_len h1, h2], rfl⟩
theorem flushE_secs {W : Wl} {D : DD} (ho : D.Ok) (hD : W.first + W.count ≤ D.secs.length) (h : Secs D W.first W.count (W.st.take W.dur)) (hdur : W.dur ≤ W.st.length) (hst : W.st.length ≤ W.count * 256) : Secs (flushE W D) W.first W.count W.st := by
  unfold flushE
  split
  · next e => rwa [e, List.take_length] at h
  · obtain ⟨h1, h2⟩ := lays_ok (W := W) (k := flushN W) (n := W.dur / 256) ho (by unfold flushN; omega)
    exact (h.flushed hdur hst).sync h1 (by omega)
theorem flushE_out {W : Wl} {D : DD} (ho : D.Ok) (hD : W.first + W.count ≤ D.secs.length) (hdur : W.dur ≤ W.st.length) (hst : W.st.length ≤ W.count * 256) {x : Nat} (hx : x < D.secs.length) (h : x < W.first ∨ W.first + W.count ≤ x) : (flushE W D).read x = D.read x := by
  unfold flushE
  split
  · rfl
  · obtain ⟨h1, h2⟩ := lays_ok (W := W) (k := flushN W) (n := W.dur / 256) ho (by unfold flushN; omega)
    rw [flushD, DD.rdS h1 _ (by omega), lays_out (by unfold flushN; omega)]

/-- What Open leaves, whatever the disk holds. -/
def OpenAny (b first count : Nat) (D : DD) (u : Value) (l : List Assn) : Prop := ∃ g q cq R ds D', (∀ d ∈ ds, OkD d) ∧ R.map (fun x : WRec => (x.mark, x.r.b)) = logR 0 ds ∧ D'.Ok ∧ D'.secs.length = D.secs.length ∧ D'.pend = [] ∧ Secs D' first count (logB 0 0 ds) ∧ (logB 0 0 ds).length ≤ count * 256 ∧
  (∀ x, x < D.secs.length → (x < first ∨ first + count ≤ x) → D'.read x = D.read x) ∧ ((logB 0 0 ds).length, logS 0 0 ds, logR 0 ds) = scanW (allD D first count) (count * 256 + 1) 0 0 ∧
  u = .tuple #[.pointer (some ⟨g, 0, none⟩), .slice q ds.length cq, .int .i64 0] ∧ l = [wrecR q ds.length cq R, recsA (R.map WRec.r), wlA g b (mkW first count ds (logB 0 0 ds).length), dskA b D']
theorem Wl.openAny (B : Base) (b : Nat) (D : DD) (first count : Nat) (i j : Int) (hi : i = first) (hj : j = count) (h1 : 1 ≤ count) (hD : first + count ≤ D.secs.length) (hroom : D.pend.length + 4096 < 2 ^ 32) :
    Fn Tryd.prog B 33 #[.pointer (some ⟨b, 0, none⟩), .int .i64 i, .int .i64 j] [dskA b D] (OpenAny b first count D) := by
  subst hi; subst hj
  refine Fn.diskOk fun ho => ?_
  refine (Wl.open B b D first count h1 hD ho.max hroom (fun n hn => ho.rd n hn)).sub fun u l h => ?_
  obtain ⟨g, p, c, q, cq, R, k, s, e1, e2, e3, e4, e5, e6, e7⟩ := h
  have hal := allD_length ho count hD
  obtain ⟨ds, k1, k2, k3, k4⟩ := scan_back (count * 256 + 1) 0 0 (allD D first count) (Nat.zero_le _)
  rw [k2] at e1
  injection e1 with f1 f2
  injection f2 with f2 f3
  rw [Nat.zero_add] at f1 k4 k2
  rw [List.drop_zero] at k3
  subst f1
  subst f2
  have hw := Secs.wiped (s := logS 0 0 ds) ho hD (show (logB 0 0 ds).length ≤ count * 256 by omega)
  obtain ⟨w1, w2⟩ := wipe_ok (W := ⟨first, count, (allD D first count).take (logB 0 0 ds).length, logS 0 0 ds, (logB 0 0 ds).length⟩) (al := allD D first count) (k := count - (logB 0 0 ds).length / 256) (n := (logB 0 0 ds).length / 256) ho (by show first + _ ≤ _; omega)
  have hR : R.length = ds.length := by rw [← length_logR 0 ds, f3, List.length_map]
  rw [hR] at e6 e7
  rw [k3] at e7 hw w1 w2
  refine ⟨_, ?_, g, q, cq, R, ds, _, k1, f3.symm, w1.sy, (DD.sync_len w1).trans w2, rfl, hw.sync w1 (by rw [w2]; exact hD), e2, ?_, k2.symm, e6, rfl⟩
  · rw [e7]
    intro h H
    refine Has.cons_imp (fun _ H => Has.cons_imp (fun _ H => ?_) H) H
    obtain ⟨h1, h2, d, a1, a2, k1, k2⟩ := Has.split (l := [_, _]) H
    refine ⟨h1, h2, d, a1, a2, ⟨p, c, ?_⟩, k2⟩
    exact Has.swap k1
  · intro x hx hxo
    rw [DD.rdS w1 _ (by omega), wipe_out (by show x < first + _ ∨ first + (_ + _) ≤ x; omega)]
end Go.Proofs.YtegohgaccmkigaaDoor
