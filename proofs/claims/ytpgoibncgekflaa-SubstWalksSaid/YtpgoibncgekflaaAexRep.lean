/- AE, part 2: what its values and objects mean in a world; that this lasts. -/
import Derived.Test.YtpgoibncgekflaaAexCore
set_option linter.unusedVariables false
namespace Go.AE
open Go Go.RowKit

abbrev Cells := Nat → Nat → Prop

inductive Rep (I : Cells) (w : World) : List Loc → AV → Value → Prop
  | v (σ : List Loc) (x : Value) : Rep I w σ (.v x) x
  | junk (σ : List Loc) (x : Value) : Rep I w σ .junk x
  | slc (σ : List Loc) (sz : Nat) (ex nn : Bool) (l : List AV) (a : Option Addr) (cap : Nat) (b o : Nat) (g : Nat → Nat → Value)
      (ha : l ≠ [] → a = some ⟨b, o, none⟩) (hn : nn = true → a ≠ none) (hnil : a = none → cap = 0) (hcap : l.length ≤ cap) (hex : ex = true → cap = l.length)
      (hsz : ∀ (j : Nat) (el : AV), l[j]? = some el → el.cells.length = sz)
      (hc : ∀ (j : Nat) (el : AV) (i : Nat) (c : AV), l[j]? = some el → el.cells[i]? = some c → w.cell? ⟨b, o + (j * sz + i), none⟩ = some (g j i))
      (hi : ∀ (j : Nat) (el : AV) (i : Nat) (c : AV), l[j]? = some el → el.cells[i]? = some c → I b (o + (j * sz + i)))
      (h1 : ∀ (j : Nat) (el : AV) (i : Nat) (c : AV), l[j]? = some el → el.cells[i]? = some c → (g j i).oneCell' = true)
      (hr : ∀ (j : Nat) (el : AV) (i : Nat) (c : AV), l[j]? = some el → el.cells[i]? = some c → Rep I w [] c (g j i)) :
      Rep I w σ (.slc sz ex nn l) (.slice a l.length cap)
  | ip (σ : List Loc) (cs : List AV) (b o : Nat) (g : Nat → Value)
      (hc : ∀ (i : Nat) (c : AV), cs[i]? = some c → w.cell? ⟨b, o + i, none⟩ = some (g i))
      (hi : ∀ (i : Nat) (c : AV), cs[i]? = some c → I b (o + i))
      (h1 : ∀ (i : Nat) (c : AV), cs[i]? = some c → (g i).oneCell' = true)
      (hr : ∀ (i : Nat) (c : AV), cs[i]? = some c → Rep I w [] c (g i)) :
      Rep I w σ (.ip cs) (.pointer (some ⟨b, o, none⟩))
  | agg (σ : List Loc) (cs : List AV) (arr : Array Value) (hs : arr.size = cs.length)
      (h1 : ∀ (i : Nat) (c : AV), cs[i]? = some c → (arr.getD i undef).oneCell' = true)
      (hr : ∀ (i : Nat) (c : AV), cs[i]? = some c → Rep I w σ c (arr.getD i undef)) : Rep I w σ (.agg cs) (.agg arr)
  | tup (σ : List Loc) (vs : List AV) (arr : Array Value) (hs : arr.size = vs.length)
      (hr : ∀ (i : Nat) (c : AV), vs[i]? = some c → Rep I w σ c (arr.getD i undef)) : Rep I w σ (.tup vs) (.tuple arr)
  | own (σ : List Loc) (sz id ver off n : Nat) (x : Value) (h1 : x.oneCell' = true) (L : Loc) (hL : σ[id]? = some L) (hv : ver ≤ L.ver)
      (h : ver = L.ver → (L.has = true ∧ off + n ≤ L.cap ∧ x = .slice (some ⟨L.b, L.o + off * sz, none⟩) n (L.cap - off)) ∨ (n = 0 ∧ ∃ a, x = .slice a 0 0)) :
      Rep I w σ (.own sz id ver off n) x
  | ptr (σ : List Loc) (id off : Nat) (L : Loc) (hL : σ[id]? = some L) (hf : L.fix = true) : Rep I w σ (.ptr id off) (.pointer (some ⟨L.b, L.o + off, none⟩))
  | ep (σ : List Loc) (sz id ver idx off : Nat) (x : Value) (h1 : x.oneCell' = true) (L : Loc) (hL : σ[id]? = some L) (hv : ver ≤ L.ver)
      (h : ver = L.ver → L.has = true ∧ x = .pointer (some ⟨L.b, L.o + (idx * sz + off), none⟩)) : Rep I w σ (.ep sz id ver idx off) x
  | fn (σ : List Loc) (f : Fn) (p q : List AV) (ap aq : Array Value) (hp : ap.size = p.length) (hq : aq.size = q.length)
      (hpr : ∀ (i : Nat) (c : AV), p[i]? = some c → Rep I w σ c (ap.getD i undef)) (hqr : ∀ (i : Nat) (c : AV), q[i]? = some c → Rep I w σ c (aq.getD i undef)) :
      Rep I w σ (.fn f p q) (.func f ap aq)
  | mp (σ : List Loc) (id : Nat) (L : Loc) (hL : σ[id]? = some L) (hf : L.fix = true) : Rep I w σ (.mp id) (.map (some L.b))
  | it (σ : List Loc) (id : Nat) (L : Loc) (hL : σ[id]? = some L) (hf : L.fix = true) : Rep I w σ (.it id) (.pointer (some ⟨L.b, 0, none⟩))

/-- What can't change is as it was. -/
structure Ext (I : Cells) (w : World) (I' : Cells) (w' : World) : Prop where
  sub : ∀ (b x : Nat), I b x → I' b x
  cell : ∀ (b x : Nat), I b x → w'.cell? ⟨b, x, none⟩ = w.cell? ⟨b, x, none⟩

/-- Objects stay where they are; a row may go on to a later version. -/
def Later (σ σ' : List Loc) : Prop := ∀ (id : Nat) (L : Loc), σ[id]? = some L → ∃ L' : Loc, σ'[id]? = some L' ∧ (L' = L ∨ (L.fix = false ∧ L'.fix = false ∧ L.ver < L'.ver))

theorem Later.refl (σ : List Loc) : Later σ σ := fun id L h => ⟨L, h, .inl rfl⟩
theorem Later.trans {a b c : List Loc} (h : Later a b) (k : Later b c) : Later a c := by
  intro id L hL
  obtain ⟨L1, h1, e1⟩ := h id L hL
  obtain ⟨L2, h2, e2⟩ := k id L1 h1
  refine ⟨L2, h2, ?_⟩
  rcases e1 with rfl | ⟨f1, g1, v1⟩
  · exact e2
  · rcases e2 with rfl | ⟨f2, g2, v2⟩
    · exact .inr ⟨f1, g1, v1⟩
    · exact .inr ⟨f1, g2, by omega⟩
theorem Later.nil (σ : List Loc) : Later [] σ := fun id L h => by simp at h
theorem Later.append (σ τ : List Loc) : Later σ (σ ++ τ) := fun id L h => ⟨L, by
  have hl := (List.getElem?_eq_some_iff.1 h).1
  rw [List.getElem?_append_left hl]; exact h, .inl rfl⟩
theorem Later.fixed {σ σ' : List Loc} (h : Later σ σ') {id : Nat} {L : Loc} (hL : σ[id]? = some L) (hf : L.fix = true) : σ'[id]? = some L := by
  obtain ⟨L', h', e⟩ := h id L hL
  rcases e with rfl | ⟨f, _, _⟩
  · exact h'
  · rw [hf] at f; cases f
theorem Later.set {σ : List Loc} {id : Nat} {L L' : Loc} (hL : σ[id]? = some L) (h1 : L.fix = false) (h2 : L'.fix = false) (h3 : L.ver < L'.ver) : Later σ (σ.set id L') := by
  intro j M hM
  by_cases e : id = j
  · subst e
    rw [hL] at hM; cases hM
    exact ⟨L', by rw [List.getElem?_set_self (List.getElem?_eq_some_iff.1 hL).1], .inr ⟨h1, h2, h3⟩⟩
  · exact ⟨M, by rw [List.getElem?_set_ne e]; exact hM, .inl rfl⟩

theorem Ext.refl (I : Cells) (w : World) : Ext I w I w := ⟨fun _ _ h => h, fun _ _ _ => rfl⟩
theorem Ext.trans {I1 I2 I3 : Cells} {w1 w2 w3 : World} (h : Ext I1 w1 I2 w2) (k : Ext I2 w2 I3 w3) : Ext I1 w1 I3 w3 :=
  ⟨fun b x hb => k.sub b x (h.sub b x hb), fun b x hb => (k.cell b x (h.sub b x hb)).trans (h.cell b x hb)⟩

theorem Rep.mono {I : Cells} {w : World} {σ : List Loc} {a : AV} {v : Value} (h : Rep I w σ a v) {I' : Cells} {w' : World} (he : Ext I w I' w') :
    ∀ {σ' : List Loc}, Later σ σ' → Rep I' w' σ' a v := by
  induction h with
  | v σ x => intro σ' hs; exact .v σ' x
  | junk σ x => intro σ' hs; exact .junk σ' x
  | slc σ sz ex nn l a cap b o g ha hn hnil hcap hex hsz hc hi h1 hr ih =>
    intro σ' hs
    exact .slc σ' sz ex nn l a cap b o g ha hn hnil hcap hex hsz (fun j el i c hj hci => (he.cell _ _ (hi j el i c hj hci)).trans (hc j el i c hj hci))
      (fun j el i c hj hci => he.sub _ _ (hi j el i c hj hci)) h1 (fun j el i c hj hci => ih j el i c hj hci (Later.refl _))
  | ip σ cs b o g hc hi h1 hr ih =>
    intro σ' hs
    exact .ip σ' cs b o g (fun i c hci => (he.cell _ _ (hi i c hci)).trans (hc i c hci)) (fun i c hci => he.sub _ _ (hi i c hci)) h1 (fun i c hci => ih i c hci (Later.refl _))
  | agg σ cs arr hs h1 hr ih => intro σ' hl; exact .agg σ' cs arr hs h1 (fun i c hci => ih i c hci hl)
  | tup σ vs arr hs hr ih => intro σ' hl; exact .tup σ' vs arr hs (fun i c hci => ih i c hci hl)
  | own σ sz id ver off n x h1 L hL hv h =>
    intro σ' hs
    obtain ⟨L', h', e⟩ := hs id L hL
    rcases e with rfl | ⟨f, g, k⟩
    · exact .own σ' sz id ver off n x h1 L' h' hv h
    · exact .own σ' sz id ver off n x h1 L' h' (by omega) (fun e => by omega)
  | ptr σ id off L hL hf => intro σ' hs; exact .ptr σ' id off L (hs.fixed hL hf) hf
  | ep σ sz id ver idx off x h1 L hL hv h =>
    intro σ' hs
    obtain ⟨L', h', e⟩ := hs id L hL
    rcases e with rfl | ⟨f, g, k⟩
    · exact .ep σ' sz id ver idx off x h1 L' h' hv h
    · exact .ep σ' sz id ver idx off x h1 L' h' (by omega) (fun e => by omega)
  | fn σ f p q ap aq hp hq hpr hqr ih1 ih2 => intro σ' hl; exact .fn σ' f p q ap aq hp hq (fun i c hci => ih1 i c hci hl) (fun i c hci => ih2 i c hci hl)
  | mp σ id L hL hf => intro σ' hs; exact .mp σ' id L (hs.fixed hL hf) hf
  | it σ id L hL hf => intro σ' hs; exact .it σ' id L (hs.fixed hL hf) hf

/-- What leads to no object means the same without them. -/
theorem Rep.of_free0 {I : Cells} {w : World} {σ τ : List Loc} {a : AV} {v : Value} (h : Rep I w σ a v) (hf : a.free0 = true) : Rep I w τ a v := by
  cases h with
  | v => exact .v _ _
  | junk => exact .junk _ _
  | slc _ sz ex nn l a cap b o g ha hn hnil hcap hex hsz hc hi h1 hr => exact .slc _ sz ex nn l a cap b o g ha hn hnil hcap hex hsz hc hi h1 hr
  | ip _ cs b o g hc hi h1 hr => exact .ip _ cs b o g hc hi h1 hr
  | fn _ f p q ap aq hp hq hpr hqr =>
    cases p with
    | cons _ _ => simp [AV.free0] at hf
    | nil => cases q with
      | cons _ _ => simp [AV.free0] at hf
      | nil => exact .fn _ f [] [] ap aq hp hq (fun i c h => by simp at h) (fun i c h => by simp at h)
  | agg _ cs arr hs h1 hr => simp [AV.free0] at hf
  | tup _ vs arr hs hr => simp [AV.free0] at hf
  | own _ sz id ver off n x h1 L hL hv h => simp [AV.free0] at hf
  | ptr _ id off L hL hf' => simp [AV.free0] at hf
  | ep _ sz id ver idx off x h1 L hL hv h => simp [AV.free0] at hf
  | mp _ id L hL hf' => simp [AV.free0] at hf
  | it _ id L hL hf' => simp [AV.free0] at hf
theorem Rep.of_free1 {I : Cells} {w : World} {σ τ : List Loc} {a : AV} {v : Value} (h : Rep I w σ a v) (hf : a.free1 = true) : Rep I w τ a v := by
  cases a with
  | agg cs =>
    cases h with
    | agg _ cs arr hs h1 hr =>
      simp only [AV.free1, List.all_eq_true] at hf
      exact .agg _ cs arr hs h1 (fun i c hc => (hr i c hc).of_free0 (hf c (List.mem_of_getElem? hc)))
  | _ => exact h.of_free0 (by simpa [AV.free1] using hf)

/-! ### Objects -/
structure RepRow (I : Cells) (w : World) (L : Loc) (sz : Nat) (l : List AV) (k : Nat) : Prop where
  hk : k ≤ l.length
  hsz : ∀ (j : Nat) (el : AV), l[j]? = some el → el.cells.length = sz
  lies : (l = [] ∧ L.has = false ∧ L.cap = 0) ∨ (L.has = true ∧ ∃ arr t, w.heap[L.b]? = some (.cells arr t (0, 0)) ∧ L.o + L.cap * sz ≤ arr.size ∧ l.length ≤ L.cap ∧
    (∀ (j : Nat) (el : AV) (i : Nat) (c : AV), l[j]? = some el → el.cells[i]? = some c → (arr.getD (L.o + (j * sz + i)) undef).oneCell' = true) ∧
    (∀ (j : Nat) (el : AV) (i : Nat) (c : AV), l[j]? = some el → el.cells[i]? = some c → Rep I w [] c (arr.getD (L.o + (j * sz + i)) undef)) ∧
    (∀ j i, j < k → i < sz → I L.b (L.o + (j * sz + i))) ∧ (∀ x, L.o + k * sz ≤ x → ¬ I L.b x))

def RepMap (I : Cells) (w : World) (es : List (Value × AV)) (entries : Array MapEntry) : Prop :=
  entries.size = es.length ∧ ∀ (i : Nat) (e : Value × AV), es[i]? = some e → ∃ m, entries[i]? = some m ∧ m.key = e.1 ∧ Rep I w [] e.2 m.val

structure RepBox (I : Cells) (w : World) (σ : List Loc) (L : Loc) (cs : List AV) : Prop where
  o : L.o = 0
  lies : ∃ arr t, w.heap[L.b]? = some (.cells arr t (0, 0)) ∧ arr.size = cs.length ∧
    (∀ (i : Nat) (c : AV), cs[i]? = some c → (arr.getD i undef).oneCell' = true) ∧ (∀ (i : Nat) (c : AV), cs[i]? = some c → Rep I w σ c (arr.getD i undef))
  apart : ∀ x, ¬ I L.b x

def RepO (I : Cells) (w : World) (σ : List Loc) (L : Loc) : AO → Prop
  | .box cs => L.fix = true ∧ L.has = true ∧ RepBox I w σ L cs
  | .row sz ver l k => L.fix = false ∧ L.ver = ver ∧ RepRow I w L sz l k
  | .map es => L.fix = true ∧ L.has = true ∧ ∃ entries clock, w.heap[L.b]? = some (.map entries clock) ∧ RepMap I w es entries
  | .siter s pos => L.fix = true ∧ L.has = true ∧ w.heap[L.b]? = some (.stringIter s pos)

/-- All of it. B, w0: what was there when it began. -/
structure Inv (B : Nat) (w0 : World) (I : Cells) (σ : List Loc) (w : World) (h : List AO) : Prop where
  below : Below B w0 w
  base : B ≤ w.heap.size
  len : σ.length = h.length
  obj : ∀ (id : Nat) (o : AO) (L : Loc), h[id]? = some o → σ[id]? = some L → RepO I w σ L o
  mine : ∀ (id : Nat) (L : Loc), σ[id]? = some L → L.has = true → B ≤ L.b ∧ L.b < w.heap.size
  dist : ∀ (i j : Nat) (Li Lj : Loc), σ[i]? = some Li → σ[j]? = some Lj → i ≠ j → Li.has = true → Lj.has = true → Li.b ≠ Lj.b
  imm : ∀ (b x : Nat), I b x → ∃ v, w.cell? ⟨b, x, none⟩ = some v

/-- From one state to a later one. -/
structure Step (B : Nat) (I : Cells) (σ : List Loc) (w : World) (I' : Cells) (σ' : List Loc) (w' : World) : Prop where
  ext : Ext I w I' w'
  later : Later σ σ'
  new : ∀ (b x : Nat), I' b x → I b x ∨ B ≤ b
  size : w.heap.size ≤ w'.heap.size

theorem Step.refl (B : Nat) (I : Cells) (σ : List Loc) (w : World) : Step B I σ w I σ w := ⟨.refl _ _, .refl _, fun _ _ h => .inl h, Nat.le_refl _⟩
theorem Step.trans {B : Nat} {I1 I2 I3 : Cells} {σ1 σ2 σ3 : List Loc} {w1 w2 w3 : World} (h : Step B I1 σ1 w1 I2 σ2 w2) (k : Step B I2 σ2 w2 I3 σ3 w3) : Step B I1 σ1 w1 I3 σ3 w3 :=
  ⟨h.ext.trans k.ext, h.later.trans k.later, fun b x hb => by
    rcases k.new b x hb with hb | hb
    · exact h.new b x hb
    · exact .inr hb, Nat.le_trans h.size k.size⟩
theorem Rep.step {B : Nat} {I I' : Cells} {σ σ' : List Loc} {w w' : World} {a : AV} {v : Value} (h : Rep I w σ a v) (s : Step B I σ w I' σ' w') : Rep I' w' σ' a v := h.mono s.ext s.later

end Go.AE
