/- The evaluator of compiled functions, proved sound: texts put together. -/
import Derived.Test.YtinhjhkmpknbbaaDoorEval3
import Derived.Shelf.Strings.Builder1
/-! slices.Clone of any kind of elements, as an entry of the evaluator's table (whether a slice without elements is nil is not asked). -/
section
set_option linter.unusedVariables false
set_option linter.unusedSimpArgs false
namespace Go.AE
open Go Go.RowKit

def cloneC (rt : TypeId) (sz bytes : Nat) (zero : List Value) : CFun :=
  ⟨1, 3, (.seq (.region [] [] [⟨(.mov (.k (.slice none 0 0))), (some 1), none⟩]) (.seq (.seq (.region [] [] [⟨(.mov (.var 0)), none, none⟩,
  ⟨(.eqv .slice false (.loc 0) (.k (.slice none 0 0))), (some 2), none⟩]) (.cond (.var 2) (.seq (.region [] [] [⟨(.mov (.k (.slice none 0 0))), (some 1), none⟩]) .ret) .skip)) (.seq (.region [] [] [⟨(.bslice sz zero 0 []), none, none⟩,
  ⟨(.mov (.var 0)), none, none⟩,
  ⟨(.append rt sz bytes (.loc 1) (.loc 0)), none, none⟩,
  ⟨(.mov (.loc 0)), (some 1), none⟩]) .ret))), [.var 1]⟩

def cloneG (rt : TypeId) (sz bytes : Nat) (args : List AV) (h : List AO) : Option (AV × List AO) := match args with
  | [x] => match elemsOf h sz x with
    | some [] => some (.slc sz true false [], h)
    | some (e :: l) => if fits (l.length + 1) bytes then some (.own sz h.length 0 0 (l.length + 1), h ++ [.row rt sz 0 (e :: l) 0]) else none
    | none => none
  | _ => none

section
variable {rt : TypeId} {P : Program} {B : Nat} {w0 : World} {T : Tb} {f : FuncId} {sz bytes : Nat} {zero : List Value}
def oneF (f : FuncId) (e : FEntry) : FuncId → Option FEntry := fun g => if g = f then some e else none
theorem one_calls (hm : P.follows .mixedOrders = true) (hT : TbOk P T) (hnp : ∀ f, T.push f = false) {e : FEntry} (he : ∀ B w0, EntryOk P T B w0 f e) (B : Nat) (w0 : World) : ∀ n, CallOk P B w0 (callN (oneF f e) n) := by
  intro n
  refine callN_ok (K := fun _ _ => True) hm hT holds_true (fun B w0 _ g e' hg => ?_) (fun f h => by rw [hnp f] at h; cases h) n B w0 trivial
  unfold oneF at hg
  split at hg
  · rename_i h; subst h; cases hg; exact he B w0
  · cases hg

theorem rep_empty {I : Cells} {w : World} {σ : List Loc} {v : Value} {x : AV} (hx : x = .v (.slice none 0 0) ∨ ∃ ex nn, x = .slc sz ex nn []) (h : Rep I w σ x v) (hc : ∀ a cap, v = .slice a 0 cap → cap = 0) : Rep I w σ (.slc sz true false []) v := by
  have fin : ∀ a cap, v = .slice a 0 cap → Rep I w σ (.slc sz true false []) v := by
    rintro a cap e
    have := hc a cap e
    subst this; subst e
    exact .slc σ sz true false [] a 0 0 0 (fun _ _ => undef) (fun e => absurd rfl e) (fun e => by cases e) (fun _ => rfl) (Nat.le_refl _) (fun _ => rfl) (fun j el e => by simp at e) (fun j el i c e => by simp at e) (fun j el i c e => by simp at e) (fun j el i c e => by simp at e) (fun j el i c e => by simp at e)
  rcases hx with rfl | ⟨ex, nn, rfl⟩
  · cases h; exact fin _ _ rfl
  · cases h with
    | slc _ _ _ _ _ a cap b o g ha hn hnil hcap hex hsz hcc hi h1 hr => exact fin a cap rfl

theorem cloneG_push : ∀ args h r h', cloneG rt sz bytes args h = some (r, h') → ∃ X, h' = h ++ X := by
  intro args h r h' he
  unfold cloneG at he
  split at he
  · split at he
    · cases he; exact ⟨[], by simp⟩
    · split at he
      · cases he; exact ⟨_, rfl⟩
      · cases he
    · cases he
  · cases he
theorem clone_entry (hm : P.follows .mixedOrders = true) (hT : TbOk P T) (hnp : ∀ f, T.push f = false) (hc : CodeOk P T f (cloneC rt sz bytes zero)) (B : Nat) (w0 : World) : ∀ args h r h', cloneG rt sz bytes args h = some (r, h') → (∀ (vals : Array Value) (w : World), (callFunc f vals).run P w = .ok (.enter f vals) w) ∧
    ∀ I σ w (vals : Array Value), Inv B w0 I σ w h → ArgsRep I w σ args vals → Calls P f vals w (Ends B w0 I σ w r h') := by
  intro args h r h' hg
  have hcall := one_calls (f := f) (e := .keep (cloneC rt sz bytes zero)) hm hT hnp (fun _ _ => hc) B w0 3
  have hN : callN (oneF f (.keep (cloneC rt sz bytes zero))) 3 = callN (oneF f (.keep (cloneC rt sz bytes zero))) (2 + 1) := rfl
  have run : ∀ (x : AV) (h : List AO), callN (oneF f (.keep (cloneC rt sz bytes zero))) 3 f [x] h = leaveKeep (cloneC rt sz bytes zero) (exec (callN (oneF f (.keep (cloneC rt sz bytes zero))) 2) 2 (cloneC rt sz bytes zero).body [x, .v undef, .v undef] h) := by
    intro x h
    simp only [callN, oneF, if_true]
    rfl
  have Q0 : ∀ h : List AO, callN (oneF f (.keep (cloneC rt sz bytes zero))) 3 f [.v (.slice none 0 0)] h = some (.v (.slice none 0 0), h) := fun h => by rw [run]; rfl
  have run_no : ∀ (x : AV) (h : List AO) (r : AV × List AO), eqNil h .slice x (.v (.slice none 0 0)) = some false → evAppend h rt sz bytes (.slc sz true true []) x = some r → callN (oneF f (.keep (cloneC rt sz bytes zero))) 3 f [x] h = some r := by
    intro x h r h1 h2
    rw [run]
    obtain ⟨r1, r2⟩ := r
    generalize callN (oneF f (.keep (cloneC rt sz bytes zero))) 2 = call
    simp only [cloneC, Q20, Q21, Q1, Go.AE.Q0, Q2, Q28, Q4, Q70, Q73, Q72, Q11, Q12, Q63, Q65, Q66, Q71, Q40, h1, Q41, Bool.false_eq_true, if_false, Q22, Q64, Q16, Q27, evOp, evElems, List.replicate, Option.map_some, h2, Q25]
    rfl
  unfold cloneG at hg
  split at hg
  · rename_i x
    have enter : ∀ (vals : Array Value) (w : World), (callFunc f vals).run P w = .ok (.enter f vals) w := fun vals w => hc.enter vals w
    refine ⟨enter, fun I σ w vals hI ha => ?_⟩
    split at hg
    · rename_i hel
      cases hg
      have hs := ha.size
      obtain ⟨l⟩ := vals
      match l, hs with
      | [v], _ =>
        have hv := ha.rep 0 x rfl
        have one : ∀ {y : AV}, Rep I w σ y v → ArgsRep I w σ [y] #[v] := by
          intro y hy
          refine ⟨rfl, fun i a hi => ?_⟩
          match i, hi with
          | 0, hi => cases hi; exact hy
        -- the value is a slice without elements
        have key : ∃ a cap, v = .slice a 0 cap ∧ (a = none → cap = 0) := by
          change Rep I w σ x v at hv
          unfold elemsOf at hel
          split at hel
          · cases hv; exact ⟨_, _, rfl, fun _ => rfl⟩
          · split at hel
            · cases hel
              cases hv with
              | slc _ _ _ _ _ a cap b o g hna hn hnil hcap hex hsz hcc hi h1 hr => exact ⟨a, cap, rfl, hnil⟩
            · cases hel
          · rename_i sz' id ver off n _
            split at hel
            · rename_i hsz
              obtain ⟨⟨l, k⟩, hra, hl⟩ := Option.map_eq_some_iff.1 hel
              obtain ⟨ho, hle⟩ := rowAt_eq hra
              have hn0 : n = 0 := by
                have := congrArg List.length hl
                simp at this; omega
              subst hn0
              cases hv with
              | own _ _ _ _ _ _ y h1x L hL hvv hxo =>
                obtain ⟨hf, hver, hR⟩ := hI.obj _ _ L ho hL
                rcases hxo hver.symm with ⟨_, _, rfl⟩ | ⟨_, a, rfl⟩
                · exact ⟨_, _, rfl, fun e => by cases e⟩
                · exact ⟨_, _, rfl, fun _ => rfl⟩
            · cases hel
          · cases hel
        obtain ⟨a, cap, rfl, hna⟩ := key
        cases a with
        | none =>
          have := hna rfl
          subst this
          refine (hcall.calls f [.v (.slice none 0 0)] h _ _ (Q0 h) I σ w _ hI (one (.v σ _))).mono ?_
          rintro e w' ⟨u, I', σ', rfl, h1, h2, h3⟩
          refine ⟨u, I', σ', rfl, h1, h2, rep_empty (.inl rfl) h3 (fun a cap e => ?_)⟩
          cases h3; cases e; rfl
        | some ad =>
          have hr : Rep I w σ (.slc sz false true []) (.slice (some ad) 0 cap) :=
            .slc σ sz false true [] (some ad) cap 0 0 (fun _ _ => undef) (fun e => absurd rfl e) (fun _ => by simp) (fun e => by cases e) (Nat.zero_le _) (fun e => by cases e) (fun j el e => by simp at e) (fun j el i c e => by simp at e) (fun j el i c e => by simp at e) (fun j el i c e => by simp at e) (fun j el i c e => by simp at e)
          refine (hcall.calls f [.slc sz false true []] h _ _ (run_no _ h (.slc sz true true [], h) rfl (by simp [evAppend, evAppendL, elemsOf])) I σ w _ hI (one hr)).mono ?_
          rintro e w' ⟨u, I', σ', rfl, h1, h2, h3⟩
          refine ⟨u, I', σ', rfl, h1, h2, rep_empty (.inr ⟨true, true, rfl⟩) h3 (fun a cap e => ?_)⟩
          cases h3 with
          | slc _ _ _ _ _ a cap b o g hna hn hnil hcap hex hsz hcc hi h1 hr => cases e; exact hex rfl
    · rename_i e l hel
      split at hg
      · rename_i hfit
        cases hg
        refine hcall.calls f [x] h _ _ (run_no x h _ ?_ ?_) I σ w _ hI ha
        · unfold elemsOf at hel
          split at hel
          · cases hel
          · split at hel
            · cases hel; simp [eqNil]
            · cases hel
          · split at hel
            · obtain ⟨⟨l', k⟩, hra, hl⟩ := Option.map_eq_some_iff.1 hel
              rename_i hsz; subst hsz
              rename_i id ver off n
              have hn0 : 0 < n := by
                have := congrArg List.length hl
                simp at this; omega
              simp [eqNil, hra, hn0]
            · cases hel
          · cases hel
        · have hf' : fits (0 + (l.length + 1)) bytes = true := by rw [Nat.zero_add]; exact hfit
          simp [evAppend, evAppendL, hel, hfit]
      · cases hg
    · cases hg
  · cases hg
end
end Go.AE
end

/-! Clauses as values of the evaluator; elements of rows. -/
section
set_option linter.unusedVariables false
set_option linter.unusedSimpArgs false
namespace Go.AE
open Go

theorem IsT.elm {a : AV} {t : Tm} (h : IsT a t) : El true 4 a := by
  cases h with
  | mk k s n c l hc =>
    refine ⟨rfl, rfl, fun _ => IsT.snap (.mk k s n c l hc), rfl, ?_, IsT.bel (.mk k s n c l hc)⟩
    cases hc <;> rfl
theorem IsBd.elm {a : AV} {v : Int} {t : Tm} (h : IsBd a v t) : El true 5 a := by
  cases h with
  | mk v cs t h =>
    cases h with
    | mk k s n c l hc => cases hc <;> exact ⟨rfl, rfl, fun _ => rfl, rfl, rfl, rfl⟩
theorem El.ld {agg : Bool} {sz : Nat} {e : AV} (h : El agg sz e) (H : List AO) : Q76 H agg sz (.ip e.cells) = some e := by
  simp only [Q76, h.len, Nat.le_refl, if_true]
  rw [List.take_of_length_le (by rw [h.len]; exact Nat.le_refl _)]
  exact h.el
theorem El.st {bt : TypeId} {agg : Bool} {sz : Nat} {e : AV} (h : El agg sz e) (H : List AO) {z : List AV} (hz : z.length = sz) : Q113 (H ++ [.box bt z]) sz (.ptr H.length 0) e = some (H ++ [.box bt e.cells]) := st_new h.cl h.len hz
theorem El.ldn {bt : TypeId} {agg : Bool} {sz : Nat} {e : AV} (h : El agg sz e) (H : List AO) : Q76 (H ++ [.box bt e.cells]) agg sz (.ptr H.length 0) = some e := by
  rw [ld_new, if_pos (by rw [h.len]; omega), List.drop_zero, List.take_of_length_le (by rw [h.len]; exact Nat.le_refl _)]
  exact h.el

inductive AllR {α : Type} (R : AV → α → Prop) : List AV → List α → Prop
  | nil : AllR R [] []
  | cons (a : AV) (x : α) (es : List AV) (xs : List α) (h : R a x) (hs : AllR R es xs) : AllR R (a :: es) (x :: xs)
section
variable {α : Type} {R : AV → α → Prop}
theorem AllR.length : ∀ {es : List AV} {l : List α}, AllR R es l → es.length = l.length
  | _, _, .nil => rfl
  | _, _, .cons _ _ _ _ _ hs => by simp [hs.length]
theorem AllR.get : ∀ {es : List AV} {l : List α}, AllR R es l → ∀ {i : Nat} {e : AV}, es[i]? = some e → ∃ x, l[i]? = some x ∧ R e x
  | _, _, .nil, i, e, h => by simp at h
  | _, _, .cons a t es ts h hs, i, e, he => by
    cases i with
    | zero => simp at he; subst he; exact ⟨t, rfl, h⟩
    | succ i => exact hs.get (by simpa using he)
theorem AllR.get' : ∀ {es : List AV} {l : List α}, AllR R es l → ∀ {i : Nat} {x : α}, l[i]? = some x → ∃ e, es[i]? = some e ∧ R e x
  | _, _, .nil, i, e, h => by simp at h
  | _, _, .cons a t es ts h hs, i, e, he => by
    cases i with
    | zero => simp at he; subst he; exact ⟨a, rfl, h⟩
    | succ i => exact hs.get' (by simpa using he)
theorem AllR.app : ∀ {es es' : List AV} {l l' : List α}, AllR R es l → AllR R es' l' → AllR R (es ++ es') (l ++ l')
  | _, _, _, _, .nil, h => h
  | _, _, _, _, .cons a t es ts h hs, h' => .cons a t _ _ h (hs.app h')
theorem AllR.one {a : AV} {x : α} (h : R a x) : AllR R [a] [x] := .cons a x [] [] h .nil
theorem AllR.mem : ∀ {es : List AV} {l : List α}, AllR R es l → ∀ e ∈ es, ∃ x ∈ l, R e x
  | _, _, .nil, e, h => by simp at h
  | _, _, .cons a t es ts h hs, e, he => by
    rcases List.mem_cons.1 he with rfl | he
    · exact ⟨t, by simp, h⟩
    · obtain ⟨x, hx, r⟩ := hs.mem e he
      exact ⟨x, by simp [hx], r⟩
theorem allR_of : ∀ {l : List AV}, (∀ el ∈ l, ∃ x, R el x) → ∃ xs, AllR R l xs
  | [], _ => ⟨[], .nil⟩
  | a :: l, h => by
    obtain ⟨t, ht⟩ := h a (by simp)
    obtain ⟨ts, hts⟩ := allR_of (l := l) (fun el hm => h el (by simp [hm]))
    exact ⟨t :: ts, .cons a t l ts ht hts⟩
end

def IsS {α : Type} (sz : Nat) (R : AV → α → Prop) (c : AV) (l : List α) : Prop := ∃ es, Sl sz c es ∧ AllR R es l ∧ es.length ≤ maxLen
def IsI (a : AV) (n : Int) : Prop := a = .v (.int .i64 n)
theorem IsI.elm {a : AV} {n : Int} (h : IsI a n) : El false 1 a := by
  cases h; exact ⟨rfl, rfl, fun _ => rfl, rfl, rfl, rfl⟩
theorem El.int (n : Int) : El false 1 (.v (.int .i64 n)) := ⟨rfl, rfl, fun _ => rfl, rfl, rfl, rfl⟩
theorem El.str (s : ByteArray) : El false 1 (.v (.string s)) := ⟨rfl, rfl, fun _ => rfl, rfl, rfl, rfl⟩

theorem fits_small {n b : Nat} (hn : n ≤ 1000000) (hb : b ≤ 1000) : fits n b = true := by
  have : n * b ≤ 1000000 * 1000 := Nat.mul_le_mul hn hb
  have : room = 140737488355328 := rfl
  simp only [fits, decide_eq_true_eq]; omega
theorem lvf_own {rt : TypeId} {h : List AO} {sz id ver n k : Nat} {l : List AV} (hr : h[id]? = some (.row rt sz ver l k)) (hn : n ≤ l.length) : lvf h (.own sz id ver 0 n) = some (.slc sz false false (l.take n), []) := by
  simp [lvf, AV.frz2, AV.frz1, AV.frz0, row_at hr hn]
def cloneR (rt : TypeId) (sz : Nat) (h : List AO) : List AV → AV × List AO
  | [] => (.slc sz true false [], h)
  | e :: l => (.own sz h.length 0 0 (l.length + 1), h ++ [.row rt sz 0 (e :: l) 0])
theorem clone_call {rt : TypeId} {F' : FuncId → Option FEntry} {f : FuncId} {sz bytes : Nat} (hf : F' f = some (.oracle (cloneG rt sz bytes))) {x : AV} {es : List AV} {h : List AO} (he : elemsOf h sz x = some es) (hfit : fits es.length bytes = true) :
    callW F' f [x] h = some (cloneR rt sz h es) := by
  refine callW_oracle hf ?_
  simp only [cloneG, he]
  cases es with
  | nil => rfl
  | cons e l => simp only [List.length_cons] at hfit; simp only [hfit, if_true, cloneR]

structure Cl where
  hd : Tm
  body : List Tm
  vars : Int
inductive IsCl : AV → Cl → Prop
  | mk (k : Int) (s : ByteArray) (n : Int) (c : AV) (l : List Tm) (hc : IsL c l) (b : AV) (bl : List Tm) (hb : IsL b bl) (vs : Int) : IsCl (.agg [.v (.int .i64 k), .v (.string s), .v (.int .i64 n), c, b, .v (.int .i64 vs)]) ⟨.mk k s n l, bl, vs⟩
theorem IsL.sn {c : AV} {l : List Tm} (h : IsL c l) (H : List AO) : c.snap0 H = some c := by cases h <;> rfl
theorem IsL.len {c : AV} {l : List Tm} (h : IsL c l) (H : List AO) : evLen H .slice c = some l.length := by
  cases h with
  | nil => rfl
  | slc ex nn es l h1 h2 => rw [← h1.length]; rfl
theorem IsCl.elm {a : AV} {x : Cl} (h : IsCl a x) : El true 6 a := by
  cases h with
  | mk k s n c l hc b bl hb vs =>
    cases hc <;> cases hb <;> exact ⟨rfl, rfl, fun _ => rfl, rfl, rfl, rfl⟩
theorem IsB.sl {c : AV} {l : List (Int × Tm)} (h : IsB c l) : ∃ es, Sl 5 c es ∧ AllB es l ∧ es.length ≤ maxLen := by
  cases h with
  | nil => exact ⟨[], .nil, .nil, by simp⟩
  | slc ex nn es l h hb => exact ⟨es, .slc ex nn es, h, hb⟩
theorem AllB.mem : ∀ {es : List AV} {l : List (Int × Tm)}, AllB es l → ∀ e ∈ es, ∃ v t, IsBd e v t
  | _, _, .nil, e, h => by simp at h
  | _, _, .cons a v t es ts h hs, e, he => by
    rcases List.mem_cons.1 he with rfl | he
    · exact ⟨v, t, h⟩
    · exact hs.mem e he
theorem All2.mem : ∀ {es : List AV} {l : List Tm}, All2 es l → ∀ e ∈ es, ∃ t ∈ l, IsT e t
  | _, _, .nil, e, h => by simp at h
  | _, _, .cons a t es ts h hs, e, he => by
    rcases List.mem_cons.1 he with rfl | he
    · exact ⟨t, by simp, h⟩
    · obtain ⟨x, hx, r⟩ := hs.mem e he
      exact ⟨x, by simp [hx], r⟩

/-! ### What comes in -/
section
variable {T : Tb}
theorem wt_ints {t e : TypeId} {i j : TI} (h : T.ty t = some i) (hd : i.desc = .slice e) (hj : T.ty e = some j) (hjd : j.desc = .int .i64) (hsz : j.size = 1) (hag : j.agg = false) {cs : List AV} (w : WT T t cs) : ∃ c l, cs = [c] ∧ IsS 1 IsI c l := by
  rcases wt_slice_of h hd hj w with rfl | ⟨l, rfl, hl, hel, has⟩
  · exact ⟨_, [], rfl, [], .nil, .nil, by simp⟩
  · obtain ⟨xs, hxs⟩ := allR_of (R := IsI) (l := l) (fun el hm => by
      obtain ⟨n, hn, _⟩ := wt_int_of hj hjd (hel el hm)
      have := has el hm
      rw [hag] at this
      exact ⟨n, one_cell this hn⟩)
    rw [hsz]
    exact ⟨_, xs, rfl, l, .slc _ _ _, hxs, hl⟩
theorem wt_bd {tI tS tN tT tL tB : TypeId} (hT : TmTy T tI tS tN tT tL) {i : TI} {f0 f1 : Field} (h : T.ty tB = some i) (hd : i.desc = .struct #[f0, f1]) (h0 : f0.type = tN) (h1 : f1.type = tT) {cs : List AV} (w : WT T tB cs) : ∃ v x, IsBd (.agg cs) v x := by
  obtain ⟨a, b, rfl, w0, w1⟩ := wt_struct2 h hd w
  obtain ⟨xn, hn1, hn2⟩ := hT.n
  rw [h0] at w0; rw [h1] at w1
  obtain ⟨v, rfl, _⟩ := wt_int_of hn1 hn2 w0
  obtain ⟨x, hx⟩ := hT.term w1
  exact ⟨v, x, .mk v b x hx⟩
theorem allB_of : ∀ {l : List AV}, (∀ el ∈ l, ∃ v t, IsBd el v t) → ∃ ts, AllB l ts
  | [], _ => ⟨[], .nil⟩
  | a :: l, h => by
    obtain ⟨v, t, ht⟩ := h a (by simp)
    obtain ⟨ts, hts⟩ := allB_of (l := l) (fun el hm => h el (by simp [hm]))
    exact ⟨(v, t) :: ts, .cons a v t l ts ht hts⟩
theorem wt_binds {tI tS tN tT tL tB tBs : TypeId} (hT : TmTy T tI tS tN tT tL) {i : TI} {f0 f1 : Field} (h : T.ty tB = some i) (hd : i.desc = .struct #[f0, f1]) (h0 : f0.type = tN) (h1 : f1.type = tT) (hsz : i.size = 5) (hag : i.agg = true) {j : TI} (hj : T.ty tBs = some j) (hjd : j.desc = .slice tB) {cs : List AV} (w : WT T tBs cs) : ∃ c l, cs = [c] ∧ IsB c l := by
  rcases wt_slice_of hj hjd h w with rfl | ⟨l, rfl, hl, hel, has⟩
  · exact ⟨_, [], rfl, .nil⟩
  · obtain ⟨xs, hxs⟩ := allB_of (l := l) (fun el hm => by
      obtain ⟨v, x, hx⟩ := wt_bd hT h hd h0 h1 (hel el hm)
      have := has el hm
      rw [hag] at this
      rw [← agg_cells this] at hx
      exact ⟨v, x, hx⟩)
    rw [hsz]
    exact ⟨_, xs, rfl, .slc _ _ _ _ hxs hl⟩
theorem wt_cl {tI tS tN tT tL tC : TypeId} (hT : TmTy T tI tS tN tT tL) {i : TI} {f0 f1 f2 : Field} (h : T.ty tC = some i) (hd : i.desc = .struct #[f0, f1, f2]) (h0 : f0.type = tT) (h1 : f1.type = tL) (h2 : f2.type = tI) {cs : List AV} (w : WT T tC cs) : ∃ x, IsCl (.agg cs) x := by
  obtain ⟨a, b, c, rfl, w0, w1, w2⟩ := wt_struct3 h hd w
  obtain ⟨xi, hi1, hi2⟩ := hT.i
  rw [h0] at w0; rw [h1] at w1; rw [h2] at w2
  obtain ⟨x, hx⟩ := hT.term w0
  obtain ⟨b', bl, rfl, hb⟩ := hT.terms w1
  obtain ⟨v, rfl, _⟩ := wt_int_of hi1 hi2 w2
  cases hx with
  | mk k s n c' l hc => exact ⟨_, .mk k s n c' l hc b' bl hb v⟩
theorem wt_cls {tI tS tN tT tL tC tCs : TypeId} (hT : TmTy T tI tS tN tT tL) {i : TI} {f0 f1 f2 : Field} (h : T.ty tC = some i) (hd : i.desc = .struct #[f0, f1, f2]) (h0 : f0.type = tT) (h1 : f1.type = tL) (h2 : f2.type = tI) (hsz : i.size = 6) (hag : i.agg = true) {j : TI} (hj : T.ty tCs = some j) (hjd : j.desc = .slice tC) {cs : List AV} (w : WT T tCs cs) : ∃ c l, cs = [c] ∧ IsS 6 IsCl c l := by
  rcases wt_slice_of hj hjd h w with rfl | ⟨l, rfl, hl, hel, has⟩
  · exact ⟨_, [], rfl, [], .nil, .nil, by simp⟩
  · obtain ⟨xs, hxs⟩ := allR_of (R := IsCl) (l := l) (fun el hm => by
      obtain ⟨x, hx⟩ := wt_cl hT h hd h0 h1 h2 (hel el hm)
      have := has el hm
      rw [hag] at this
      rw [← agg_cells this] at hx
      exact ⟨x, hx⟩)
    rw [hsz]
    exact ⟨_, xs, rfl, l, .slc _ _ _, hxs, hl⟩
end
end Go.AE
end

/-! strings.Builder's copyCheck and String as entries of the evaluator's table. -/
section
set_option linter.unusedVariables false
set_option linter.unusedSimpArgs false
namespace Go.AE
open Go Go.RowKit Go.Shelf Go.Proofs

section
variable {P : Program} {B : Nat} {w0 w w' : World} {I I' : Cells} {σ σ' : List Loc} {h : List AO}

theorem cell_freeze (w : World) (a : Addr) (n : Nat) (p : Addr) : (w.freeze a n).cell? p = w.cell? p := by
  unfold World.freeze
  split
  · rfl
  · unfold World.cell?
    simp only [Array.getElem?_modify]
    by_cases e : a.block = p.block
    · rw [if_pos e]
      cases w.heap[p.block]? with
      | none => rfl
      | some o => cases o <;> rfl
    · rw [if_neg e]
theorem size_freeze (w : World) (a : Addr) (n : Nat) : (w.freeze a n).heap.size = w.heap.size := by
  unfold World.freeze; split <;> simp
theorem heap_freeze (w : World) (a : Addr) (n : Nat) {j : Nat} (hj : j ≠ a.block) : (w.freeze a n).heap[j]? = w.heap[j]? := by
  unfold World.freeze
  split
  · rfl
  · simp only [Array.getElem?_modify]
    rw [if_neg (fun e => hj e.symm)]

theorem Inv.dead (hI : Inv B w0 I σ w h) {rid sz ver k : Nat} {rt : TypeId} {l : List AV} {L : Loc} (hr : h[rid]? = some (.row rt sz ver l k)) (hL : σ[rid]? = some L) (hh : L.has = true) (off n : Nat) :
    ∃ σ', Inv B w0 I σ' (w.freeze ⟨L.b, off, none⟩ n) (h.set rid (.row rt sz (ver + 1) [] 0)) ∧ Step B I σ w I σ' (w.freeze ⟨L.b, off, none⟩ n) := by
  obtain ⟨hf, hver, hR⟩ := hI.obj rid _ L hr hL
  have hBb := hI.mine rid L hL hh
  have he : Ext I w I (w.freeze ⟨L.b, off, none⟩ n) := ⟨fun _ _ h => h, fun b x _ => cell_freeze _ _ _ _⟩
  have hbel : Below B w (w.freeze ⟨L.b, off, none⟩ n) := Lib.below_freeze (Below.refl B w) (p := ⟨L.b, off, none⟩) hBb.1 n
  refine ⟨_, hI.upd hL (L' := ⟨false, false, 0, 0, 0, ver + 1⟩) (o' := .row rt sz (ver + 1) [] 0) hbel he (fun b x hx => by obtain ⟨v, hv⟩ := hI.imm b x hx; exact ⟨v, by rw [cell_freeze]; exact hv⟩)
    (fun j Lj hj hLj hhj => ⟨heap_freeze _ _ _ (hI.dist j rid Lj L hLj hL hj hhj hh), fun x hx => hx⟩) (.inr ⟨hf, rfl, by rw [hver]; exact Nat.lt_succ_self _⟩)
    ⟨rfl, rfl, Nat.le_refl _, fun j el e => by simp at e, .inl ⟨rfl, rfl, rfl⟩⟩ (fun e => by cases e), he, Later.set hL hf rfl (by rw [hver]; exact Nat.lt_succ_self _), fun b x hx => .inl hx, by rw [size_freeze]; exact Nat.le_refl _⟩

theorem Inv.put (hI : Inv B w0 I σ w h) {id off : Nat} {bt : TypeId} {cs : List AV} {L : Loc} (ho : h[id]? = some (.box bt cs)) (hL : σ[id]? = some L) (hlt : off < cs.length) {x : AV} {v : Value} (h1 : v.oneCell' = true) (hx : Rep I w σ x v) :
    Inv B w0 I σ (w.setCell ⟨L.b, off, none⟩ v) (h.set id (.box bt (cs.set off x))) ∧ Step B I σ w I σ (w.setCell ⟨L.b, off, none⟩ v) := by
  obtain ⟨hf, hh, hR⟩ := hI.obj id _ L ho hL
  obtain ⟨arr, hb, hs, hone, hr⟩ := hR.lies
  have hBb := hI.mine id L hL hh
  have hoth : ∀ j, j ≠ L.b → (w.setCell ⟨L.b, off, none⟩ v).heap[j]? = w.heap[j]? := fun j hj => Below.heap_setCell _ _ _ _ (fun e => hj e)
  have he : Ext I w I (w.setCell ⟨L.b, off, none⟩ v) := ext_ours hR.apart _ hoth
  have hset : σ.set id L = σ := by
    apply List.ext_getElem?
    intro j
    by_cases e : id = j
    · subst e; rw [List.getElem?_set_self (List.getElem?_eq_some_iff.1 hL).1, hL]
    · rw [List.getElem?_set_ne e]
  have hsz : (w.setCell ⟨L.b, off, none⟩ v).heap.size = w.heap.size := by simp [World.setCell]
  have hnew : (w.setCell ⟨L.b, off, none⟩ v).heap[L.b]? = some (.cells (arr.setIfInBounds off v) bt (0, 0)) := by
    simp [World.setCell, Array.getElem?_modify, hb]
  have hin : off < arr.size := by omega
  have hinv := hI.upd hL (w' := w.setCell ⟨L.b, off, none⟩ v) (I' := I) (Below.setCell (Below.refl B w) (p := ⟨L.b, off, none⟩) hBb.1 v) he (fun b x hx => by obtain ⟨u, hu⟩ := hI.imm b x hx; exact ⟨u, by rw [he.cell b x hx]; exact hu⟩)
    (fun j Lj hj hLj hhj => ⟨hoth _ (hI.dist j id Lj L hLj hL hj hhj hh), fun x hx => hx⟩) (.inl rfl) (o' := .box bt (cs.set off x))
    (by
      rw [hset]
      refine ⟨hf, hh, hR.o, ⟨_, hnew, by simp [hs], fun j c hj => ?_, fun j c hj => ?_⟩, hR.apart⟩
      · by_cases e : off = j
        · subst e
          simpa [Array.getD, hin] using h1
        · rw [List.getElem?_set_ne e] at hj
          have := hone j c hj
          rw [Array.getD_eq_getD_getElem?] at this ⊢
          rwa [Array.getElem?_setIfInBounds_ne e]
      · by_cases e : off = j
        · subst e
          rw [List.getElem?_set_self hlt] at hj
          cases hj
          simpa [Array.getD, hin] using hx.mono he (Later.refl _)
        · rw [List.getElem?_set_ne e] at hj
          have := (hr j c hj).mono he (Later.refl _)
          rw [Array.getD_eq_getD_getElem?] at this ⊢
          rwa [Array.getElem?_setIfInBounds_ne e])
    (fun _ => ⟨hBb.1, by rw [hsz]; exact hBb.2, fun j Lj hj hLj hhj => hI.dist j id Lj L hLj hL hj hhj hh⟩)
  rw [hset] at hinv
  exact ⟨hinv, he, Later.refl _, fun b x hx => .inl hx, by rw [hsz]; exact Nat.le_refl _⟩

/-! ### copyCheck -/
def copyG (bt : TypeId) (args : List AV) (h : List AO) : Option (AV × List AO) := match args with
  | [.ptr id 0] => match h[id]? with
    | some (.box t [a, b]) => if t = bt then match a with
        | .v (.pointer none) => some (.tup [], h.set id (.box t [.ptr id 0, b]))
        | .ptr id' 0 => if id' = id then some (.tup [], h) else none
        | _ => none
      else none
    | _ => none
  | _ => none

variable {ρ : Ren}
theorem one_arg {args : List AV} {a : AV} {vals : Array Value} (ha : ArgsRep I w σ [a] vals) : ∃ v, vals = #[v] ∧ Rep I w σ a v := by
  have hs := ha.size
  obtain ⟨l⟩ := vals
  match l, hs with
  | [v], _ => exact ⟨v, rfl, ha.rep 0 a rfl⟩
theorem copy_ok {f : FuncId} {bt : TypeId} (hused : ∀ (b : Nat) (w : World), w.cell? ⟨b, 0, none⟩ = some (.pointer (some ⟨b, 0, none⟩)) → Calls P f #[.pointer (some ⟨b, 0, none⟩)] w fun e w' => e = .returned (.tuple #[]) ∧ w' = w)
    (hfresh : ∀ (b : Nat) (w : World), w.cell? ⟨b, 0, none⟩ = some (.pointer none) → w.shape? b = some (bt, 2) → w.frozen? ⟨b, 0, none⟩ = false → Calls P f #[.pointer (some ⟨b, 0, none⟩)] w fun e w' => e = .returned (.tuple #[]) ∧ w' = w.setCell ⟨b, 0, none⟩ (.pointer (some ⟨b, 0, none⟩)))
    (hent : ∀ (vals : Array Value) (w : World), (callFunc f vals).run P w = .ok (.enter f vals) w) : ∀ args h r h', copyG bt args h = some (r, h') → (∀ (vals : Array Value) (w : World), (callFunc f vals).run P w = .ok (.enter f vals) w) ∧
    ∀ I σ w (vals : Array Value), Inv B w0 I σ w h → ArgsRep I w σ args vals → Calls P f vals w (Ends B w0 I σ w r h') := by
  intro args h r h' hg
  refine ⟨hent, fun I σ w vals hI ha => ?_⟩
  unfold copyG at hg
  split at hg
  · rename_i id
    split at hg
    · rename_i t a b ho
      split at hg
      · rename_i ht
        subst ht
        obtain ⟨v, rfl, hv⟩ := one_arg (args := []) ha
        cases hv with
        | ptr _ _ _ Lc hL hf =>
          obtain ⟨_, hh, hR⟩ := hI.obj id _ Lc ho hL
          obtain ⟨arr, hb, hs, hone, hr⟩ := hR.lies
          have h0 := hR.o
          obtain ⟨lo, hlo⟩ : ∃ lo : Array Value, lo = arr := ⟨_, rfl⟩
          have hsz : arr.size = 2 := by simpa using hs
          have c0 : w.cell? ⟨Lc.b, 0, none⟩ = some (arr.getD 0 undef) := by
            simp [World.cell?, hb, Array.getD, hsz]
          have r0 := hr 0 a rfl
          rw [h0]
          split at hg
          · cases hg
            generalize hz : arr.getD 0 undef = z at r0 c0
            cases r0
            refine (hfresh Lc.b w c0 (by simp [World.shape?, hb, hsz]) (by simp [World.frozen?, hb])).mono ?_
            rintro e w' ⟨rfl, rfl⟩
            obtain ⟨g1, g2⟩ := hI.put ho hL (off := 0) (by simp) (x := .ptr id 0) (v := .pointer (some ⟨Lc.b, 0, none⟩)) rfl (by
              have := Rep.ptr (I := I) (w := w) σ id 0 Lc hL hf
              rw [h0] at this; exact this)
            exact ⟨_, I, σ, rfl, g1, g2, .tup σ [] #[] rfl (fun i c h => by simp at h)⟩
          · rename_i id'
            split at hg
            · rename_i e; subst e
              cases hg
              generalize hz : arr.getD 0 undef = z at r0 c0
              cases r0 with
              | ptr _ _ _ L2 hL2 hf2 =>
                rw [hL] at hL2; cases hL2
                rw [h0] at c0
                refine (hused Lc.b w c0).mono ?_
                rintro e w' ⟨rfl, rfl⟩
                exact ⟨_, I, σ, rfl, hI, Step.refl _ _ _ _, .tup σ [] #[] rfl (fun i c h => by simp at h)⟩
            · cases hg
          · cases hg
      · cases hg
    · cases hg
  · cases hg

/-! ### String -/
theorem lies_bytes {e : TypeId} (hc : P.cellsOf e = 1) (count off n : Nat) (hn : off + n ≤ count) : liesAt P P.depth e count off e n = true := by
  have hd : P.depth = (2 * (P.types.size + Made.depth) + 1) + 1 := rfl
  rw [hd]
  simp only [liesAt, Bool.or_eq_true]
  left
  rw [hd]
  simp [Go.rowAt, hc, hn, sameLayout, Nat.mod_one]
theorem load_bytes : ∀ (ns : List Int) (a : Addr) (acc : ByteArray), (∀ (j : Nat) (n : Int), ns[j]? = some n → w.cell? (a.add j) = some (.int .u8 n)) →
    (loadBytes a acc ns.length).run P w = .ok ⟨acc.data ++ (ns.map fun n => UInt8.ofNat n.toNat).toArray⟩ w
  | [], a, acc, _ => by simp [loadBytes]
  | x :: l, a, acc, h => by
    have h0 : w.cell? a = some (.int .u8 x) := by
      have := h 0 x rfl
      simpa [Addr.add] using this
    have ih := load_bytes l (a.add 1) (acc.push (UInt8.ofNat x.toNat)) (fun j y hy => by
      have := h (j + 1) y (by simpa using hy)
      have e : (a.add 1).add j = a.add (j + 1) := by
        unfold Addr.add
        by_cases hj : j = 0
        · subst hj; simp
        · simp [hj]; omega
      rw [e]; exact this)
    simp only [List.length_cons, loadBytes, Sem.run_bind, run_load, h0, Result.andThen]
    have e1 : x.toNat.toUInt8 = UInt8.ofNat x.toNat := rfl
    rw [e1, ih]
    congr 1
    apply ByteArray.ext
    simp [ByteArray.push]
theorem ustr_row (pt it ty e : TypeId) (hp : P.underlying pt = some (.pointer e)) (hc : P.cellsOf e = 1) (g off cells : Nat) (hsh : w.shape? g = some (e, cells)) (ns : List Int) (h0 : ns ≠ []) (hn : off + ns.length ≤ cells) (h63 : ns.length ≤ 9223372036854775807)
    (hcell : ∀ (j : Nat) (n : Int), ns[j]? = some n → w.cell? ((⟨g, off, none⟩ : Addr).add j) = some (.int .u8 n)) :
    (Builtin.unsafeString_ #[pt, it] ty #[.pointer (some ⟨g, off, none⟩), .int .i64 ns.length]).run P w = .ok (.string ⟨(ns.map fun n => UInt8.ofNat n.toNat).toArray⟩) (w.freeze ⟨g, off, none⟩ ns.length) := by
  have hl : ns.length ≠ 0 := by simpa using h0
  have hlb := load_bytes (P := P) (w := w) ns ⟨g, off, none⟩ .empty hcell
  rw [show ByteArray.empty.data = #[] from rfl, Array.empty_append] at hlb
  have hlies := lies_bytes (P := P) hc (cells / P.cellsOf e) off ns.length (by rw [hc]; simpa using hn)
  have h63' : ¬ (9223372036854775807 : Int) < (ns.length : Int) := by omega
  have hdef : Builtin.unsafeString_ #[pt, it] ty #[.pointer (some ⟨g, off, none⟩), .int .i64 ns.length] =
      (do
        let n ← asInt (.int .i64 ns.length)
        if n < 0 then runtimePanic (.error "unsafe.String: len out of range")
        if n > IntKind.i64.max then unsupported (.unsafePointer "String: a length above the largest int")
        if n = 0 then pure (.string .empty)
        else if ← variablesAt ⟨g, off, none⟩ (← elemOf pt) n.toNat then do
          let s ← loadBytes ⟨g, off, none⟩ .empty n.toNat
          freeze ⟨g, off, none⟩ n.toNat
          pure (.string s)
        else unsupported (.unsafePointer "String: not so many bytes at ptr")) := rfl
  rw [hdef]
  have hmax : IntKind.i64.max = 9223372036854775807 := rfl
  have hneg : ¬ (ns.length : Int) < 0 := by omega
  simp [asInt, asIntOf, hmax, h63', hneg, hl, variablesAt, hsh, elemOf, run_underlying hp, hlies, hlb]

set_option maxHeartbeats 2000000 in
set_option maxRecDepth 100000 in
theorem string_row (L : Lays.n169 P ρ) (X : Builder.Extra P ρ) (b g off cap cells : Nat) (ns : List Int) (w : World) (h0 : ns ≠ []) (h63 : ns.length ≤ 9223372036854775807) (hcap : cap ≠ 0)
    (c1 : w.cell? ⟨b, 1, none⟩ = some (.slice (some ⟨g, off, none⟩) ns.length cap)) (hsh : w.shape? g = some (ρ.t 5, cells)) (hn : off + ns.length ≤ cells)
    (hcell : ∀ (j : Nat) (n : Int), ns[j]? = some n → w.cell? ((⟨g, off, none⟩ : Addr).add j) = some (.int .u8 n)) :
    Calls P (ρ.f 169) #[.pointer (some ⟨b, 0, none⟩)] w fun e w' => e = .returned (.string ⟨(ns.map fun n => UInt8.ofNat n.toNat).toArray⟩) ∧ w' = w.drew.freeze ⟨g, off, none⟩ ns.length := by
  have c1 : w.drew.cell? ⟨b, 1, none⟩ = some (.slice (some ⟨g, off, none⟩) ns.length cap) := c1
  have hSD : (Builtin.unsafeSliceData_ #[(ρ.t 37)] (ρ.t 127) #[.slice (some ⟨g, off, none⟩) ns.length cap]).run P w.drew = .ok (.pointer (some ⟨g, off, none⟩)) w.drew :=
    Lib.run_unsafeSliceData_row _ _ _ _ _ _ hcap
  have hUS : (Builtin.unsafeString_ #[(ρ.t 127), (ρ.t 3)] (ρ.t 9) #[.pointer (some ⟨g, off, none⟩), .int .i64 ns.length]).run P w.drew = .ok (.string ⟨(ns.map fun n => UInt8.ofNat n.toNat).toArray⟩) (w.drew.freeze ⟨g, off, none⟩ ns.length) :=
    ustr_row (w := w.drew) (ρ.t 127) (ρ.t 3) (ρ.t 9) (ρ.t 5) L.t127 X.cellsByte g off cells hsh ns h0 hn h63 hcell
  have mixed := L.mixed
  have t72 := L.t72; have a72 := L.a72; have z72 := L.z72; have v72 := L.v72; have u72 := run_underlying L.t72
  have t70 := L.t70; have a70 := L.a70; have z70 := L.z70; have v70 := L.v70; have u70 := run_underlying L.t70
  have t37 := L.t37; have a37 := L.a37; have z37 := L.z37; have v37 := L.v37; have u37 := run_underlying L.t37
  have t127 := L.t127; have a127 := L.a127; have z127 := L.z127; have v127 := L.v127; have u127 := run_underlying L.t127
  have t3 := L.t3; have a3 := L.a3; have z3 := L.z3; have v3 := L.v3; have u3 := run_underlying L.t3
  have t9 := L.t9; have a9 := L.a9; have z9 := L.z9; have v9 := L.v9; have u9 := run_underlying L.t9
  have t5 := X.t5; have a5 := X.a5; have z5 := X.z5; have v5 := X.v5; have u5 := run_underlying X.t5
  go_enter L.f169, Body.n169_ntmps ρ
  go_wp2
  go_region_o
  all_goals (go_wp2; go_ret; exact ⟨rfl, rfl⟩)
set_option maxHeartbeats 2000000 in
set_option maxRecDepth 100000 in
theorem string_nil (L : Lays.n169 P ρ) (X : Builder.Extra P ρ) (b : Nat) (w : World) (c1 : w.cell? ⟨b, 1, none⟩ = some (.slice none 0 0)) :
    Calls P (ρ.f 169) #[.pointer (some ⟨b, 0, none⟩)] w fun e w' => e = .returned (.string ⟨#[]⟩) ∧ w' = w.drew := by
  have hUS : ∀ (W : World) (q : Option Addr), (Builtin.unsafeString_ #[(ρ.t 127), (ρ.t 3)] (ρ.t 9) #[.pointer q, .int .i64 0]).run P W = .ok (.string .empty) W := fun W q => Lib.run_unsafeString_none W _ _ _ q
  have c1 : w.drew.cell? ⟨b, 1, none⟩ = some (.slice none 0 0) := c1
  have hSD : (Builtin.unsafeSliceData_ #[(ρ.t 37)] (ρ.t 127) #[.slice none 0 0]).run P w.drew = .ok (.pointer none) w.drew := rfl
  have mixed := L.mixed
  have t72 := L.t72; have a72 := L.a72; have z72 := L.z72; have v72 := L.v72; have u72 := run_underlying L.t72
  have t70 := L.t70; have a70 := L.a70; have z70 := L.z70; have v70 := L.v70; have u70 := run_underlying L.t70
  have t37 := L.t37; have a37 := L.a37; have z37 := L.z37; have v37 := L.v37; have u37 := run_underlying L.t37
  have t127 := L.t127; have a127 := L.a127; have z127 := L.z127; have v127 := L.v127; have u127 := run_underlying L.t127
  have t3 := L.t3; have a3 := L.a3; have z3 := L.z3; have v3 := L.v3; have u3 := run_underlying L.t3
  have t9 := L.t9; have a9 := L.a9; have z9 := L.z9; have v9 := L.v9; have u9 := run_underlying L.t9
  have t5 := X.t5; have a5 := X.a5; have z5 := X.z5; have v5 := X.v5; have u5 := run_underlying X.t5
  go_enter L.f169, Body.n169_ntmps ρ
  go_wp2
  go_region_o
  all_goals (go_wp2; go_ret; exact ⟨rfl, rfl⟩)

def stringG (bt et : TypeId) (args : List AV) (h : List AO) : Option (AV × List AO) := match args with
  | [.ptr id 0] => match h[id]? with
    | some (.box t [_, b]) => if t = bt then match b with
        | .v (.slice none 0 0) => some (.v (.string ⟨#[]⟩), h)
        | .own 1 rid ver 0 n => match h[rid]? with
          | some (.row rt 1 ver' l k) => if rt = et ∧ ver' = ver ∧ n = l.length ∧ 0 < n ∧ n ≤ 140737488355328 then (strL l).map fun s => (.v (.string s), h.set rid (.row rt 1 (ver + 1) [] 0)) else none
          | _ => none
        | _ => none
      else none
    | _ => none
  | _ => none
theorem string_ok (L : Lays.n169 P ρ) (X : Builder.Extra P ρ) (hent : ∀ (vals : Array Value) (w : World), (callFunc (ρ.f 169) vals).run P w = .ok (.enter (ρ.f 169) vals) w) : ∀ args h r h', stringG (ρ.t 72) (ρ.t 5) args h = some (r, h') → (∀ (vals : Array Value) (w : World), (callFunc (ρ.f 169) vals).run P w = .ok (.enter (ρ.f 169) vals) w) ∧
    ∀ I σ w (vals : Array Value), Inv B w0 I σ w h → ArgsRep I w σ args vals → Calls P (ρ.f 169) vals w (Ends B w0 I σ w r h') := by
  intro args h r h' hg
  refine ⟨hent, fun I σ w vals hI ha => ?_⟩
  unfold stringG at hg
  split at hg
  · rename_i id
    split at hg
    · rename_i t a0 b ho
      split at hg
      · rename_i ht
        subst ht
        obtain ⟨v, rfl, hv⟩ := one_arg (args := []) ha
        cases hv with
        | ptr _ _ _ Lc hL hf =>
          obtain ⟨_, hh, hR⟩ := hI.obj id _ Lc ho hL
          obtain ⟨arr, hb, hs, hone, hr⟩ := hR.lies
          have h0 := hR.o
          have hsz : arr.size = 2 := by simpa using hs
          have c1 : w.cell? ⟨Lc.b, 1, none⟩ = some (arr.getD 1 undef) := by
            simp [World.cell?, hb, Array.getD, hsz]
          have r1 := hr 1 b rfl
          obtain ⟨hId, sd⟩ := hI.drew
          rw [h0]
          split at hg
          · cases hg
            generalize hz : arr.getD 1 undef = z at r1 c1
            cases r1
            refine (string_nil L X Lc.b w c1).mono ?_
            rintro e w' ⟨rfl, rfl⟩
            exact ⟨_, I, σ, rfl, hId, sd, .v _ _⟩
          · rename_i rid ver n
            split at hg
            · rename_i rt ver' l k hrow
              split at hg
              · rename_i hc
                obtain ⟨rfl, rfl, rfl, hpos, hle⟩ := hc
                obtain ⟨s, hs', hg⟩ := Option.map_eq_some_iff.1 hg
                cases hg
                obtain ⟨bs, hbs, rfl⟩ := Option.map_eq_some_iff.1 hs'
                obtain ⟨ns, e1, e2⟩ := strL_ns l bs hbs
                have hll : ns.length = l.length := by rw [e1]; simp
                generalize hz : arr.getD 1 undef = z at r1 c1
                cases r1 with
                | own _ _ _ _ _ _ _ h1x L2 hL2 hv2 hx2 =>
                  obtain ⟨hf2, hver2, hR2⟩ := hI.obj rid _ L2 hrow hL2
                  rcases hx2 hver2.symm with ⟨hhas, hcap, rfl⟩ | ⟨h00, _⟩
                  · simp only [Nat.zero_mul, Nat.add_zero, Nat.sub_zero, Nat.zero_add] at c1 hcap
                    have hne : l ≠ [] := by intro e; rw [e] at hpos; simp at hpos
                    rcases hR2.lies with ⟨e0, _⟩ | ⟨_, arr2, hb2, hasz, hlc, h1, hr2, himm, hno⟩
                    · exact absurd e0 hne
                    have hcell : ∀ (j : Nat) (n : Int), ns[j]? = some n → w.cell? ((⟨L2.b, L2.o, none⟩ : Addr).add j) = some (.int .u8 n) := by
                      intro j n hj
                      have hjl := (List.getElem?_eq_some_iff.1 hj).1
                      have hel : l[j]? = some (.v (.int .u8 n)) := by rw [e1]; simp [hj]
                      have hrr := hr2 j _ 0 _ hel rfl
                      generalize hzz : arr2.getD (L2.o + (j * 1 + 0)) undef = zz at hrr
                      cases hrr
                      rw [Addr.add_lit]
                      have hlt : L2.o + j < arr2.size := by omega
                      simp only [World.cell?, hb2, Option.isSome_none, Bool.false_eq_true, if_false]
                      rw [Array.getElem?_eq_getElem hlt]
                      simpa [Array.getD, hlt] using hzz
                    rw [← hll] at c1
                    refine (string_row L X Lc.b L2.b L2.o L2.cap arr2.size ns w (by rintro rfl; simp at hll; exact hne (List.length_eq_zero_iff.1 hll.symm)) (by omega) (by omega) c1 (by simp [World.shape?, hb2]) (by omega) hcell).mono ?_
                    rintro e w' ⟨rfl, rfl⟩
                    obtain ⟨σ', g1, g2⟩ := hId.dead hrow hL2 hhas L2.o ns.length
                    exact ⟨_, I, σ', by rw [e2], g1, sd.trans g2, .v _ _⟩
                  · omega
              · cases hg
            · cases hg
          · cases hg
      · cases hg
    · cases hg
  · cases hg
end
end Go.AE
end
