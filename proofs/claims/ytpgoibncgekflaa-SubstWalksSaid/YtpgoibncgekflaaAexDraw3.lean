/- AE, part 25: a region that draws its order ends as one in the order of the text. -/
import Derived.Test.YtpgoibncgekflaaAexDraw2
set_option linter.unusedVariables false
set_option linter.unusedSimpArgs false
namespace Go.AE
open Go Go.RowKit

/-! ### A run in the order of the text, by numbers -/
def StepOk (call : CallF) (o : CO) (vars env : List AV) (h : List AO) (r : AV) (h' : List AO) : Prop :=
  match o.guard with
  | none => evOp call vars env h o.op = some (r, h')
  | some (g, want) => (getO vars env g = .v (.bool want) ∧ evOp call vars env h o.op = some (r, h')) ∨
    (((∃ b, getO vars env g = .v (.bool b) ∧ b ≠ want) ∨ ∃ z, getO vars env g = .v (.tuple z)) ∧ r = .v undef ∧ h' = h)

structure Trace (call : CallF) (cs : List CO) (vars env : List AV) (h : List AO) (vars' : List AV) (h' : List AO) (V E : Nat → List AV) (H : Nat → List AO) (R : Nat → AV) : Prop where
  v0 : V 0 = vars
  e0 : E 0 = env
  h0 : H 0 = h
  v1 : V cs.length = vars'
  h1 : H cs.length = h'
  step : ∀ i o, cs[i]? = some o → V (i + 1) = setO (V i) o.wr (R i) ∧ E (i + 1) = R i :: E i ∧ StepOk call o (V i) (E i) (H i) (R i) (H (i + 1))

theorem trace_of {call : CallF} : ∀ (cs : List CO) (vars env : List AV) (h : List AO) (vars' : List AV) (h' : List AO), evOps call cs vars env h = some (vars', h') →
    ∃ V E H R, Trace call cs vars env h vars' h' V E H R := by
  intro cs
  induction cs with
  | nil =>
    intro vars env h vars' h' he
    simp only [evOps, Option.some.injEq, Prod.mk.injEq] at he
    obtain ⟨rfl, rfl⟩ := he
    exact ⟨fun _ => vars, fun _ => env, fun _ => h, fun _ => .junk, rfl, rfl, rfl, rfl, rfl, fun i o hi => by simp at hi⟩
  | cons c cs ih =>
    intro vars env h vars' h' he
    have build : ∀ (r : AV) (h2 : List AO), StepOk call c vars env h r h2 → evOps call cs (setO vars c.wr r) (r :: env) h2 = some (vars', h') → ∃ V E H R, Trace call (c :: cs) vars env h vars' h' V E H R := by
      intro r h2 hs he2
      obtain ⟨V, E, H, R, t⟩ := ih _ _ _ _ _ he2
      refine ⟨fun i => match i with | 0 => vars | i + 1 => V i, fun i => match i with | 0 => env | i + 1 => E i, fun i => match i with | 0 => h | i + 1 => H i, fun i => match i with | 0 => r | i + 1 => R i, rfl, rfl, rfl, t.v1, t.h1, fun i o hi => ?_⟩
      cases i with
      | zero =>
        simp at hi; subst hi
        simp only [t.v0, t.e0, t.h0]
        exact ⟨trivial, trivial, hs⟩
      | succ i => exact t.step i o (by simpa using hi)
    simp only [evOps] at he
    cases hg : c.guard with
    | none =>
      rw [hg] at he
      simp only at he
      split at he
      · rename_i v h2 hev
        exact build v h2 (by simp only [StepOk, hg]; exact hev) he
      · cases he
    | some gw =>
      obtain ⟨g, want⟩ := gw
      rw [hg] at he
      simp only at he
      split at he
      · rename_i b hb
        split at he
        · rename_i hbw
          split at he
          · rename_i v h2 hev
            exact build v h2 (by simp only [StepOk, hg]; exact .inl ⟨by rw [hb, hbw], hev⟩) he
          · cases he
        · rename_i hbw
          exact build _ h (by simp only [StepOk, hg]; exact .inr ⟨.inl ⟨b, hb, hbw⟩, trivial, trivial⟩) he
      · rename_i z hz
        exact build _ h (by simp only [StepOk, hg]; exact .inr ⟨.inr ⟨z, hz⟩, trivial, trivial⟩) he
      · cases he

def lmAt (vt : List Tmp) (ops : Array Oper) : Nat → List (Option Tmp)
  | 0 => []
  | i + 1 => lmOf vt ((ops[i]?).bind (·.dst)) (lmAt vt ops i)

theorem compOps_at {T : Tb} {nt : Nat} {vt : List Tmp} {ops : Array Oper} : ∀ (l : List Oper) (p : Nat) (cs : List CO), ops.toList.drop p = l → compOps T nt vt ops (lmAt vt ops p) l = some cs →
    cs.length = l.length ∧ ∀ i o, l[i]? = some o → ∃ c g, cs[i]? = some ⟨c, o.dst.bind (varOf vt), g⟩ ∧ compOp T (mOf vt (lmAt vt ops (p + i))) o = some c ∧ compGuard vt ops (lmAt vt ops (p + i)) o.guard = some g ∧ o.dst.all (fun d => decide (d < nt)) = true := by
  intro l
  induction l with
  | nil =>
    intro p cs hl hc
    simp only [compOps, Option.some.injEq] at hc
    subst hc
    exact ⟨rfl, fun i o h => by simp at h⟩
  | cons o l ih =>
    intro p cs hl hc
    have hop : ops[p]? = some o := by
      have : (ops.toList.drop p)[0]? = some o := by rw [hl]; rfl
      simpa using this
    have hl' : ops.toList.drop (p + 1) = l := by rw [← List.tail_drop, hl]; rfl
    simp only [compOps] at hc
    split at hc
    · rename_i c g cs' h1 h2 h3
      split at hc
      · rename_i hd
        cases hc
        have h3' : compOps T nt vt ops (lmAt vt ops (p + 1)) l = some cs' := by
          simp only [lmAt, hop, Option.bind_some]; exact h3
        obtain ⟨g1, g2⟩ := ih (p + 1) cs' hl' h3'
        refine ⟨by simp [g1], fun i x hi => ?_⟩
        cases i with
        | zero =>
          simp at hi; subst hi
          exact ⟨c, g, by simp, by simpa using h1, by simpa using h2, hd⟩
        | succ i =>
          obtain ⟨c', g', k1, k2, k3, k4⟩ := g2 i x (by simpa using hi)
          exact ⟨c', g', by simpa using k1, by rw [show p + (i + 1) = p + 1 + i by omega]; exact k2, by rw [show p + (i + 1) = p + 1 + i by omega]; exact k3, k4⟩
      · cases hc
    · cases hc

theorem lmAt_get {vt : List Tmp} {ops : Array Oper} {t : Tmp} : ∀ (i a : Nat), (lmAt vt ops i)[a]? = some (some t) → ∃ d y, d < i ∧ a = i - 1 - d ∧ ops[d]? = some y ∧ y.dst = some t := by
  intro i
  induction i with
  | zero => intro a h; simp [lmAt] at h
  | succ i ih =>
    intro a h
    simp only [lmAt, lmOf] at h
    cases a with
    | zero =>
      simp only [List.getElem?_cons_zero, Option.some.injEq] at h
      cases ho : ops[i]? with
      | none => simp [ho] at h
      | some y =>
        rw [ho] at h
        simp only [Option.bind_some] at h
        split at h
        · cases h
        · exact ⟨i, y, by omega, by omega, ho, h⟩
    | succ a =>
      obtain ⟨d, y, h1, h2, h3, h4⟩ := ih a (by simpa using h)
      exact ⟨d, y, by omega, by omega, h3, h4⟩

/-! ### Which orders do no harm -/
def exOk (aps : List (Option Nat × Nat)) (cs : List CO) (e i : CO) : Bool :=
  e.op.isPush || match i.op with
    | .load _ _ (.var b) => cs.all (fun c => c.wr != some b) && (match e.op with
      | .store _ (.var a) _ => cs.all (fun c => c.wr != some a) && aps.contains (some a, b)
      | .append .. => aps.contains (none, b)
      | _ => false)
    | _ => false
def pairOk (aps : List (Option Nat × Nat)) (ops : Array Oper) (cs : List CO) (x y : Oper) (c d : CO) : Bool :=
  x.apart ops y && !(c.op.isE && d.op.isE) && (!(c.op.isE && d.op.isR) || exOk aps cs c d) && (!(c.op.isR && d.op.isE) || exOk aps cs d c)
def drawPair (aps : List (Option Nat × Nat)) (ops : Array Oper) (cs : List CO) (tj : Nat) (y : Oper) (d : CO) (i : Nat) : Bool :=
  match ops[i]?, cs[i]? with
  | some x, some c => (x.dst == none || x.dst != y.dst) && (tj.testBit i || pairOk aps ops cs x y c d)
  | _, _ => false
def drawOk (aps : List (Option Nat × Nat)) (ops : Array Oper) (cs : List CO) : Bool :=
  let t := ancGo [] ops.toList
  (List.range ops.size).all fun j => match ops[j]?, cs[j]? with
    | some y, some d => (bindsOf y).all (fun k => decide (k < j)) && (List.range j).all (drawPair aps ops cs (t.getD j 0) y d)
    | _, _ => false

structure SF (aps : List (Option Nat × Nat)) (ops : Array Oper) (cs : List CO) (t : List Nat) : Prop where
  back : ∀ (j : Nat) (y : Oper), ops[j]? = some y → ∀ k ∈ bindsOf y, k < j
  pair : ∀ (i j : Nat) (x y : Oper) (c d : CO), i < j → ops[i]? = some x → ops[j]? = some y → cs[i]? = some c → cs[j]? = some d →
    (x.dst = none ∨ x.dst ≠ y.dst) ∧ ((t.getD j 0).testBit i = true ∨ pairOk aps ops cs x y c d = true)

theorem sf_of {aps : List (Option Nat × Nat)} {ops : Array Oper} {cs : List CO} (h : drawOk aps ops cs = true) : SF aps ops cs (ancGo [] ops.toList) := by
  have key : ∀ (j : Nat) (y : Oper), ops[j]? = some y → ∃ d, cs[j]? = some d ∧ ((bindsOf y).all (fun k => decide (k < j)) = true ∧ (List.range j).all (drawPair aps ops cs ((ancGo [] ops.toList).getD j 0) y d) = true) := by
    intro j y hy
    have hlt : j < ops.size := (Array.getElem?_eq_some_iff.1 hy).1
    have := List.all_eq_true.1 h j (by simpa using hlt)
    rw [hy] at this
    split at this
    · rename_i y' d e1 hd
      cases e1
      exact ⟨d, hd, by simpa only [Bool.and_eq_true] using this⟩
    · cases this
  refine ⟨fun j y hy k hk => ?_, fun i j x y c d hij hx hy hc hd => ?_⟩
  · obtain ⟨d, _, h1, _⟩ := key j y hy
    simpa using List.all_eq_true.1 h1 k hk
  · obtain ⟨d', hd', _, h2⟩ := key j y hy
    rw [hd] at hd'; cases hd'
    have := List.all_eq_true.1 h2 i (by simpa using hij)
    simp only [drawPair, hx, hc, Bool.and_eq_true, Bool.or_eq_true, beq_iff_eq, bne_iff_ne, ne_eq] at this
    exact this

section
variable {P : Program} {B : Nat} {w0 w w' : World} {I I' : Cells} {σ σ' : List Loc} {vt : List Tmp} {nt : Nat} {a : Act} {T : Tb} {call : CallF}
  {aps : List (Option Nat × Nat)} {ops : Array Oper} {cs : List CO} {vars0 vars1 : List AV} {h0 h1 : List AO} {V E : Nat → List AV} {H : Nat → List AO} {R : Nat → AV}

/-- A variable that nothing wrote is as it was. -/
theorem Trace.old (t : Trace call cs vars0 [] h0 vars1 h1 V E H R) {k : Nat} : ∀ i, i ≤ cs.length → (∀ j c, j < i → cs[j]? = some c → c.wr ≠ some k) → (V i).getD k .junk = vars0.getD k .junk := by
  intro i
  induction i with
  | zero => intro _ _; rw [t.v0]
  | succ i ih =>
    intro hi hw
    have hc : cs[i]? = some cs[i] := List.getElem?_eq_getElem (by omega)
    rw [(t.step i _ hc).1, ← ih (by omega) (fun j c hj => hw j c (by omega))]
    have := hw i _ (by omega) hc
    unfold setO
    split
    · rename_i k' hk
      rw [List.getD_eq_getElem?_getD, List.getD_eq_getElem?_getD, List.getElem?_set_ne (by rintro rfl; exact this hk)]
    · rfl

theorem Trace.len (t : Trace call cs vars0 [] h0 vars1 h1 V E H R) : ∀ i, i ≤ cs.length → (V i).length = vars0.length := by
  intro i
  induction i with
  | zero => intro _; rw [t.v0]
  | succ i ih =>
    intro hi
    have hc : cs[i]? = some cs[i] := List.getElem?_eq_getElem (by omega)
    rw [(t.step i _ hc).1, ← ih (by omega)]
    unfold setO
    split <;> simp

/-- One that was written holds what was written last. -/
theorem Trace.new (t : Trace call cs vars0 [] h0 vars1 h1 V E H R) {k j : Nat} {c : CO} (hj : cs[j]? = some c) (hw : c.wr = some k) (hk : k < vars0.length) :
    ∀ i, i ≤ cs.length → j < i → (∀ j' c', j < j' → j' < i → cs[j']? = some c' → c'.wr ≠ some k) → (V i).getD k .junk = R j := by
  intro i
  induction i with
  | zero => intro _ h; omega
  | succ i ih =>
    intro hi hji ho
    have hc : cs[i]? = some cs[i] := List.getElem?_eq_getElem (by omega)
    rw [(t.step i _ hc).1]
    by_cases e : j = i
    · subst e
      rw [hc] at hj; cases hj
      simp only [setO, hw]
      rw [List.getD_eq_getElem?_getD, List.getElem?_set_self (by rw [t.len j (by omega)]; exact hk)]; rfl
    · rw [← ih (by omega) (by omega) (fun j' c' h1 h2 => ho j' c' h1 (by omega))]
      have := ho i _ (by omega) (by omega) hc
      unfold setO
      split
      · rename_i k' hk'
        rw [List.getD_eq_getElem?_getD, List.getD_eq_getElem?_getD, List.getElem?_set_ne (by rintro rfl; exact this hk')]
      · rfl

theorem Trace.env (t : Trace call cs vars0 [] h0 vars1 h1 V E H R) : ∀ i, i ≤ cs.length → ∀ d, d < i → (E i).getD (i - 1 - d) .junk = R d := by
  intro i
  induction i with
  | zero => intro _ d h; omega
  | succ i ih =>
    intro hi d hd
    have hc : cs[i]? = some cs[i] := List.getElem?_eq_getElem (by omega)
    rw [(t.step i _ hc).2.1]
    by_cases e : d = i
    · subst e
      rw [show d + 1 - 1 - d = 0 by omega]; rfl
    · have := ih (by omega) d (by omega)
      rw [show i + 1 - 1 - d = (i - 1 - d) + 1 by omega]
      simpa using this

/-- An operation that is no changer leaves the objects. -/
theorem Trace.keep (t : Trace call cs vars0 [] h0 vars1 h1 V E H R) {i : Nat} {c : CO} (hc : cs[i]? = some c) (hE : c.op.isE = false) : H (i + 1) = H i := by
  have hs := (t.step i c hc).2.2
  have ev : ∀ r h', evOp call (V i) (E i) (H i) c.op = some (r, h') → h' = H i := by
    intro r h' he
    cases hR : c.op.isR with
    | true => exact ev_reads hR he
    | false => exact (ev_plain hE hR he).1
  unfold StepOk at hs
  split at hs
  · exact ev _ _ hs
  · rcases hs with ⟨_, hs⟩ | ⟨_, _, hs⟩
    · exact ev _ _ hs
    · exact hs
theorem Trace.const (t : Trace call cs vars0 [] h0 vars1 h1 V E H R) {p : Nat} : ∀ q, p ≤ q → q ≤ cs.length → (∀ i c, p ≤ i → i < q → cs[i]? = some c → c.op.isE = false) → H q = H p := by
  intro q
  induction q with
  | zero => intro h _ _; rw [show p = 0 by omega]
  | succ q ih =>
    intro hpq hq hn
    by_cases e : p = q + 1
    · rw [e]
    · have hc : cs[q]? = some cs[q] := List.getElem?_eq_getElem (by omega)
      rw [t.keep hc (hn q _ (by omega) (by omega) hc)]
      exact ih (by omega) (by omega) (fun i c h1 h2 => hn i c h1 (by omega))

/-- What a changer that needn't wait for a reader does to the objects. -/
theorem Trace.change (t : Trace call cs vars0 [] h0 vars1 h1 V E H R) (hap : aps.all (apB vars0) = true) {e i : Nat} {c d : CO} (he : cs[e]? = some c) (hi : cs[i]? = some d) (hR : d.op.isR = true) (hx : exOk aps cs c d = true) :
    (H e).length ≤ (H (e + 1)).length ∧
    (∀ n r, n ≤ (H e).length → (∀ x ∈ d.op.args, (getO (V i) (E i) x).lt n = true) → evOp call (V i) (E i) (H (e + 1)) d.op = some (r, H (e + 1)) → evOp call (V i) (E i) (H e) d.op = some (r, H e)) ∧
    (∀ r, evOp call (V i) (E i) (H e) d.op = some (r, H e) → evOp call (V i) (E i) (H (e + 1)) d.op = some (r, H (e + 1))) := by
  have push : (∃ X, H (e + 1) = H e ++ X) → _ := fun ⟨X, hX⟩ =>
    show (H e).length ≤ (H (e + 1)).length ∧
    (∀ n r, n ≤ (H e).length → (∀ x ∈ d.op.args, (getO (V i) (E i) x).lt n = true) → evOp call (V i) (E i) (H (e + 1)) d.op = some (r, H (e + 1)) → evOp call (V i) (E i) (H e) d.op = some (r, H e)) ∧
    (∀ r, evOp call (V i) (E i) (H e) d.op = some (r, H e) → evOp call (V i) (E i) (H (e + 1)) d.op = some (r, H (e + 1))) from
    ⟨by rw [hX]; simp, fun n r hn hlt hev => ev_same (n := n) (fun id hid => by rw [hX, List.getElem?_append_left (by omega)]) hR hlt hev,
      fun r hev => ev_more (fun id o ho => by
        rw [hX, List.getElem?_append_left (List.getElem?_eq_some_iff.1 ho).1]; exact ho) hR hev⟩
  have hs := (t.step e c he).2.2
  have hlen : e < cs.length := (List.getElem?_eq_some_iff.1 he).1
  have hlen' : i < cs.length := (List.getElem?_eq_some_iff.1 hi).1
  have cases2 : H (e + 1) = H e ∨ evOp call (V e) (E e) (H e) c.op = some (R e, H (e + 1)) := by
    unfold StepOk at hs
    split at hs
    · exact .inr hs
    · rcases hs with ⟨_, hs⟩ | ⟨_, _, hs⟩
      · exact .inr hs
      · exact .inl hs
  rcases cases2 with hs | hs
  · exact push ⟨[], by simp [hs]⟩
  unfold exOk at hx
  simp only [Bool.or_eq_true] at hx
  rcases hx with hx | hx
  · exact push (ev_push hx hs)
  split at hx
  · rename_i ag sz b hop
    simp only [Bool.and_eq_true] at hx
    obtain ⟨hb, hx⟩ := hx
    have notw : ∀ {k : Nat}, cs.all (fun c => c.wr != some k) = true → ∀ p, p ≤ cs.length → (V p).getD k .junk = vars0.getD k .junk := by
      intro k hk p hp
      refine t.old p hp (fun j c hj hc => ?_)
      simpa using List.all_eq_true.1 hk c (List.mem_of_getElem? hc)
    have hvb : getO (V i) (E i) (.var b) = vars0.getD b .junk := notw hb i (by omega)
    split at hx
    · -- a store
      rename_i ssz sa sx hsop
      simp only [Bool.and_eq_true] at hx
      obtain ⟨ha, hx⟩ := hx
      have hva : getO (V e) (E e) (.var sa) = vars0.getD sa .junk := notw ha e (by omega)
      have hapb := List.all_eq_true.1 hap _ (List.contains_iff_mem.1 hx)
      rw [hsop] at hs
      simp only [apB] at hapb
      have hpt : ∃ id off, vars0.getD sa .junk = .ptr id off ∧ (∀ id' off', vars0.getD b .junk = .ptr id' off' → id ≠ id') ∧ ((∃ id' off', vars0.getD b .junk = .ptr id' off') ∨ ∃ z, vars0.getD b .junk = .ip z) := by
        split at hapb
        · rename_i i1 o1 j1 o2 e1 e2
          refine ⟨i1, o1, e1, fun id' off' e3 => ?_, .inl ⟨j1, o2, e2⟩⟩
          rw [e2] at e3; cases e3
          simpa using hapb
        · rename_i i1 o1 z e1 e2
          refine ⟨i1, o1, e1, fun id' off' e3 => ?_, .inr ⟨z, e2⟩⟩
          rw [e2] at e3; cases e3
        · cases hapb
      obtain ⟨id, off, e1, e2, e3⟩ := hpt
      obtain ⟨o, ho⟩ := ev_store (hva.trans e1) hs
      have hld : evLoad (H (e + 1)) ag sz (vars0.getD b .junk) = evLoad (H e) ag sz (vars0.getD b .junk) := by
        rcases e3 with ⟨id', off', e3⟩ | ⟨z, e3⟩
        · rw [e3]
          simp only [evLoad, ho]
          rw [List.getElem?_set_ne (e2 _ _ e3)]
        · rw [e3]; rfl
      refine ⟨by rw [ho]; simp, fun n r _ _ hev => ?_, fun r hev => ?_⟩
      · rw [hop] at hev ⊢
        simp only [evOp, hvb] at hev ⊢
        rw [hld] at hev
        obtain ⟨y, q1, q2⟩ := Option.map_eq_some_iff.1 hev
        cases q2; rw [q1]; rfl
      · rw [hop] at hev ⊢
        simp only [evOp, hvb] at hev ⊢
        rw [hld]
        obtain ⟨y, q1, q2⟩ := Option.map_eq_some_iff.1 hev
        cases q2; rw [q1]; rfl
    · -- an append
      rename_i asz ab as ax hsop
      have hapb := List.all_eq_true.1 hap _ (List.contains_iff_mem.1 hx)
      rw [hsop] at hs
      simp only [apB] at hapb
      rcases ev_append hs with hp | ⟨id, q1, q2, q3, q4, q5, q6, q7, q8, hid, ho⟩
      · exact push hp
      have hlt := (List.getElem?_eq_some_iff.1 hid).1
      split at hapb
      · rename_i id' off' e3
        refine ⟨by rw [ho]; simp, fun n r _ _ hev => ?_, fun r hev => ?_⟩
        · rw [hop] at hev ⊢
          simp only [evOp, hvb] at hev ⊢
          obtain ⟨y, g1, g2⟩ := Option.map_eq_some_iff.1 hev
          cases g2
          rw [e3] at g1 ⊢
          have hne : id ≠ id' := by
            rintro rfl
            simp only [evLoad, ho, List.getElem?_set_self hlt] at g1
            cases g1
          have : evLoad (H e) ag sz (.ptr id' off') = some r := by
            rw [← g1]; simp only [evLoad, ho, List.getElem?_set_ne hne]
          rw [this]; rfl
        · rw [hop] at hev ⊢
          simp only [evOp, hvb] at hev ⊢
          obtain ⟨y, g1, g2⟩ := Option.map_eq_some_iff.1 hev
          cases g2
          rw [e3] at g1 ⊢
          have hne : id ≠ id' := by
            rintro rfl
            simp only [evLoad, hid] at g1
            cases g1
          have : evLoad (H (e + 1)) ag sz (.ptr id' off') = some r := by
            rw [← g1]; simp only [evLoad, ho, List.getElem?_set_ne hne]
          rw [this]; rfl
      · rename_i z e3
        have hld : evLoad (H (e + 1)) ag sz (vars0.getD b .junk) = evLoad (H e) ag sz (vars0.getD b .junk) := by rw [e3]; rfl
        refine ⟨by rw [ho]; simp, fun n r _ _ hev => ?_, fun r hev => ?_⟩
        · rw [hop] at hev ⊢
          simp only [evOp, hvb] at hev ⊢
          rw [hld] at hev
          obtain ⟨y, q1, q2⟩ := Option.map_eq_some_iff.1 hev
          cases q2; rw [q1]; rfl
        · rw [hop] at hev ⊢
          simp only [evOp, hvb] at hev ⊢
          rw [hld]
          obtain ⟨y, q1, q2⟩ := Option.map_eq_some_iff.1 hev
          cases q2; rw [q1]; rfl
      · cases hapb
    · cases hx
  · cases hx
end
end Go.AE
