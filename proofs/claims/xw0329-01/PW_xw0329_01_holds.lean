import PyProof.Rows.All
import Wide.All
import OpenK.AllK
import Wide.FinOn
import PySem.Challenge.RW_xw0329_01
open PySem PySem.W PySem.Calls PyProof.Rows PyProof.V
set_option Elab.async false
namespace Mine
set_option maxRecDepth 100000 in
set_option maxHeartbeats 8000000 in
open_top hd for PySem.Challenge.rw_xw0329_01
end Mine

namespace Mine

/-! ## a pair of ints as a ledger's object; a dict keyed by pairs -/
abbrev pairO (a b : Int) (t u : Tok) : Obj := { cls := .type "tuple", data := .seq #[.int a t, .int b u] }

theorem pairKey (prog : Program) (w : World) (a b : Int) (t u : Tok) : TupKeyObj (PySem.intKind prog w) [a, b] (pairO a b t u) :=
  TupKeyObj.made (knd := PySem.intKind prog w) (.cons (by simp [PySem.intKind, Value.isInt]) (.cons (by simp [PySem.intKind, Value.isInt]) .nil))

/-- the dict o holds xs, its keys tuples of ints -/
def TupD (prog : Program) (w : World) (o : Obj) (xs : List (List Int × Addr × Value)) : Prop :=
  o.ExactDict ∧ (∃ es ep, o.data = .dict es ep ∧ es.toList = xs.map (entryOfKey (tupleKind (PySem.intKind prog w)))) ∧ (xs.map (·.1)).Nodup

/-- its keys stand in the ledger -/
def KeysHere (prog : Program) (w : World) (news : List (Addr × Obj)) (xs : List (List Int × Addr × Value)) : Prop :=
  ∀ x ∈ xs, ∃ ok, (x.2.1, ok) ∈ news ∧ TupKeyObj (PySem.intKind prog w) x.1 ok

section
variable {prog : Program} {w : World} {A : Around} {E : Value → Shared → Prop} {s : Shared} {h₀ : Heap} {L d q : Addr} {m : Str → Option Value} {news : List (Addr × Obj)} {g : Obj → List (Addr × Obj)} {o ok : Obj}
  {xs : List (List Int × Addr × Value)} {ks : List Int}

theorem TupD.empty (hd : o.IsDictOf (PySem.intKind prog w) []) : TupD prog w o [] := by
  obtain ⟨es, ep, hc, hdat, _, hp, _⟩ := hd
  have he : es.toList = [] := List.length_eq_zero_iff.mp hp.length
  exact ⟨hc, ⟨es, ep, hdat, he⟩, List.nodup_nil⟩

theorem TupD.at {h : Heap} (D : TupD prog w o xs) (N : News h₀ L h news) (hd : (d, o) ∈ news) (hk : KeysHere prog w news xs) : h.DictOfH (tupleKind (PySem.intKind prog w)) d xs := by
  obtain ⟨hc, ⟨es, ep, hdat, he⟩, hn⟩ := D
  exact ⟨o, es, ep, N.get hd, hc, hdat, he, fun x hx => let ⟨_, hmk, t⟩ := hk x hx; t.key (N.get hmk), hn⟩

theorem setItem_tupK {v : Value} {Q : Unit → Shared → Prop} (hu : A.units + 1 < cLine) (F : Fr h₀ L s.heap m) (N : News h₀ L s.heap news) (U : UpdF d o news g) (hd : (d, o) ∈ news) (D : TupD prog w o xs) (hk : KeysHere prog w news xs)
    (hq : (q, ok) ∈ news) (tk : TupKeyObj (PySem.intKind prog w) ks ok) (hz : xs.length ≤ 1000)
    (h : ∀ h' o', Fr h₀ L h' m → News h₀ L h' (g o') → TupD prog w o' (storedH xs ks q v) → Q () { s with heap := h', toks := s.toks + (ks.length + 1) }) :
    wpAny (model prog w) A (setItem (.ref d) (.ref q) v) Q E s := by
  obtain ⟨pre, post, rfl, hg, a, b⟩ := U.split
  refine wpAny_setItem_heap (hsz := by rw [sizeLine_eq]; omega) (knd := tupleKind (PySem.intKind prog w)) (tupleKind_room_in1 hu) (tk.key (N.get hq)) (D.at N hd hk) fun h' hm' hs => ?_
  obtain ⟨o', es', ep', ho', hc', hd', he', _, hn'⟩ := hm'
  refine h h' o' (F.change hs (N _ hd).2.1 (N.fresh hd)) (hg o' ▸ fun p hp => ?_) ⟨hc', ⟨es', ep', hd', he'⟩, hn'⟩
  have keep : ∀ p ∈ pre ++ (d, o) :: post, p.1 ≠ d → h'.get? p.1 = some p.2 ∧ p.1 ≠ L ∧ h₀.get? p.1 = none := fun p hp e => ⟨(hs.2 p.1 e).trans (N p hp).1, (N p hp).2⟩
  rcases List.mem_append.mp hp with hp | hp
  · exact keep p (List.mem_append.mpr (.inl hp)) (a p hp)
  · rcases List.mem_cons.mp hp with rfl | hp
    · exact ⟨ho', (N _ hd).2⟩
    · exact keep p (List.mem_append.mpr (.inr (.tail _ hp))) (b p hp)

theorem getMethod_tupK {pl : Sem Bool} {Q : Value × List Value → Shared → Prop} (N : News h₀ L s.heap news) (hd : (d, o) ∈ news) (D : TupD prog w o xs) (hk : KeysHere prog w news xs) (h : Q (.builtin "dict.get", [.ref d]) s) :
    wpAny (model prog w) A (getMethod (.ref d) "get" pl) Q E s :=
  getMethod_builtin (D.at N hd hk).typeIs PySem.F.plainAttrs_dict PySem.F.slot_dict_get PySem.F.type_dict_get (dictOfH_noDict (D.at N hd hk)) h

theorem get_tupK {Q : Value → Shared → Prop} (hu : A.units + 1 < cLine) (N : News h₀ L s.heap news) (hd : (d, o) ∈ news) (lo : (d == sysModules) = false) (D : TupD prog w o xs) (hk : KeysHere prog w news xs)
    (hq : (q, ok) ∈ news) (tk : TupKeyObj (PySem.intKind prog w) ks ok) (h : Q (((atKey xs ks).map (·.2)).getD .none) { s with toks := s.toks + (ks.length + 1) }) :
    wpAny (model prog w) A (call (.builtin "dict.get") [.ref d, .ref q]) Q E s :=
  call_meetsIn PySem.F.slot_dict_get (D.at N hd hk).typeIs PySem.F.entry_dict_get (PySem.F.args_dict_get_2 _ _) (meetsH_dict_get (tupleKind (PySem.intKind prog w)) d q lo)
    ⟨tupleKind_room_in1 hu, ks, xs, tk.key (N.get hq), D.at N hd hk, h⟩
end

theorem listAt {h₀ h : Heap} {L l : Addr} {news : List (Addr × Obj)} {vs : List Value} {k : Nat} (N : News h₀ L h news) (hm : (l, PySem.W.listOf vs.toArray k) ∈ news) : h.IsList l vs.toArray := ⟨_, N.get hm, rfl, k, rfl⟩
theorem item0 {prog : Program} {w : World} {A : Around} {E : Value → Shared → Prop} {s : Shared} {value slice : PySem.Expr} {l : Addr} {vs : List Value} {ns : List Int} {u : Tok} {Q : Value → Shared → Prop}
    (hl : s.heap.IsList l vs.toArray) (hi : IntsAre vs ns) (hne : decide (ns = []) = false) (h : ∀ x t, Q (.int x t) s)
    (hs : subscripted slice false (.ref l) (.int 0 u) = operate [.ref l, .int 0 u] (getItem (.ref l) (.int 0 u)) := by with_unfolding_all rfl) :
    wpAny (model prog w) A (subscriptTail value slice (.ref l) (.int 0 u)) Q E s := by
  cases hi with
  | nil => simp at hne
  | cons k t r => exact item_litK hl (by decide) (by decide) rfl (h k t) hs

theorem eqPair {prog : Program} {w : World} {A : Around} {E : Value → Shared → Prop} {s : Shared} {h₀ : Heap} {L n q : Addr} {news : List (Addr × Obj)} {a b x y : Int} {t u t' u' : Tok} {Q : Value → Shared → Prop}
    (hu : A.units < cLine) (N : News h₀ L s.heap news) (hn : (n, pairO a b t u) ∈ news) (hq : (q, pairO x y t' u') ∈ news) (h : Q (.bool (decide (a = x ∧ b = y))) s) :
    wpAny (model prog w) A (compareOp .Eq (.ref n) (.ref q)) Q E s := by
  have hx := (pairKey prog w a b t u).key (N.get hn)
  have hy := (pairKey prog w x y t' u').key (N.get hq)
  have e : decide (([a, b] : List Int) = [x, y]) = decide (a = x ∧ b = y) := by simp
  refine cmp_ofEq (wpAny_richCompare_same_room (op := .Eq) hx.typeIs hy.typeIs F.slot_tuple_eq (wpAny_call_entry F.slot_tuple_eq hx.typeIs F.entry_tuple_eq (tuple_eq_tree hx hy ⟨_, rfl, (fun e => nomatch e), ?_⟩) (F.args_tuple_eq_2 _ _)) hu)
  rw [e]; exact h

theorem unrEndA {h₀ : Heap} {L I : Addr} {it : Obj} {rest : (Str → Option Value) → List (Addr × Obj) → Prop} {s₁ : Shared} {h' : Heap} {tk : Nat} {m' : Str → Option Value} {all : List (Addr × Obj)} {news' : List (Addr × Obj)} (lt : ∀ p ∈ news', p.1 < I) (F : Fr h₀ L h' m') (N : News h₀ L h' all)
    (hI : (I, it) ∈ all) (sub : ∀ p ∈ news', p ∈ all) (r : rest m' news') : UnrEnd h₀ L s₁ I it rest { s₁ with heap := h', toks := tk } :=
  UnrEnd.intro F N news' (fun p hp => by
    rcases List.mem_cons.mp hp with rfl | hp
    · exact hI
    · exact sub p hp) (fun p hp => Nat.ne_of_lt (lt p hp)) r

theorem fmod_pos (a : Int) {b : Int} (h : 0 < b) : a.fmod b = a % b := Int.fmod_eq_emod_of_nonneg a (Int.le_of_lt h)
theorem fdiv_pos (a : Int) {b : Int} (h : 0 < b) : a.fdiv b = a / b := Int.fdiv_eq_ediv_of_nonneg a (Int.le_of_lt h)
theorem mulOk64 {a b : Int} (h0 : 0 ≤ b) (h1 : b < 2147483648) : IntMulOk a b := IntMulOk.of_right (PySem.intBits_le_64 (by omega) (by omega))
theorem turned (x : Int) : 0 ≤ x.fmod 2147483647 ∧ x.fmod 2147483647 < 2147483648 := by
  rw [fmod_pos x (by decide)]
  exact ⟨Int.emod_nonneg _ (by decide), Int.lt_trans (Int.emod_lt_of_pos _ (by decide)) (by decide)⟩

theorem fmod_in (a : Int) {b : Int} (h : 0 < b) : 0 ≤ a.fmod b ∧ a.fmod b < b := by
  rw [fmod_pos a h]
  exact ⟨Int.emod_nonneg _ (by omega), Int.emod_lt_of_pos _ h⟩
theorem fdiv_in {a b : Int} (ha : 0 ≤ a) (h : 0 < b) : 0 ≤ a.fdiv b := by
  rw [fdiv_pos a h]
  exact Int.ediv_nonneg ha (Int.le_of_lt h)

/-! ## what end_of answers -/
/-- the end that stands at (x, y) -/
def endVal (a b c d x y : Int) : Option Int := if a = x ∧ b = y then some 0 else if c = x ∧ d = y then some 1 else none
/-- v is the int of e, or None -/
def IsOpt (v : Value) (e : Option Int) : Prop := match e with
  | some i => ∃ t, v = .int i t
  | none => v = .none

/-- the two stores -/
abbrev twoEnds (a b c d : Int) (n f : Addr) (v0 v1 : Value) : List (List Int × Addr × Value) := storedH (storedH [] [c, d] f v1) [a, b] n v0
theorem twoEnds_get (a b c d x y : Int) (n f : Addr) (t u : Tok) : IsOpt (((atKey (twoEnds a b c d n f (.int 0 t) (.int 1 u)) [x, y]).map (·.2)).getD .none) (endVal a b c d x y) := by
  have e0 : storedH [] [c, d] f (Value.int 1 u) = [([c, d], f, .int 1 u)] := rfl
  unfold twoEnds
  rw [e0]
  by_cases h1 : ([c, d] : List Int) = [a, b]
  · have e1 : storedH [([c, d], f, Value.int 1 u)] [a, b] n (.int 0 t) = [([c, d], f, .int 0 t)] := by simp [storedH, atKey, putAt, h1]
    rw [e1]
    simp only [List.cons.injEq, and_true] at h1
    obtain ⟨rfl, rfl⟩ := h1
    by_cases h : c = x ∧ d = y
    · obtain ⟨rfl, rfl⟩ := h
      simp [atKey, endVal, IsOpt]
    · have h' : ¬ (([c, d] : List Int) = [x, y]) := by simpa using h
      simp [atKey, endVal, IsOpt, h]
  · have e1 : storedH [([c, d], f, Value.int 1 u)] [a, b] n (.int 0 t) = [([c, d], f, .int 1 u), ([a, b], n, .int 0 t)] := by
      have : atKey [([c, d], f, Value.int 1 u)] [a, b] = none := by simp [atKey]; simpa using h1
      simp [storedH, this]
    rw [e1]
    have h1' : ¬ (c = a ∧ d = b) := by simpa using h1
    by_cases h : a = x ∧ b = y
    · obtain ⟨rfl, rfl⟩ := h
      simp [atKey, endVal, IsOpt, h1']
    · by_cases h2 : c = x ∧ d = y
      · obtain ⟨rfl, rfl⟩ := h2
        simp [atKey, endVal, IsOpt, h]
      · simp [atKey, endVal, IsOpt, h, h2]

theorem twoEnds_keys {prog : Program} {w : World} {news : List (Addr × Obj)} {a b c d : Int} {n f : Addr} {v0 v1 : Value} {t u t' u' : Tok} (hn : (n, pairO a b t u) ∈ news) (hf : (f, pairO c d t' u') ∈ news) :
    KeysHere prog w news (twoEnds a b c d n f v0 v1) := by
  intro x hx
  rcases mem_storedH hx with ⟨y, hy, e1, e2⟩ | ⟨e1, e2⟩
  · rcases mem_storedH hy with ⟨z, hz, _⟩ | ⟨e3, e4⟩
    · cases hz
    · exact ⟨_, by rw [e2, e4]; exact hf, by rw [e1, e3]; exact pairKey ..⟩
  · exact ⟨_, by rw [e2]; exact hn, by rw [e1]; exact pairKey ..⟩

section
variable {prog : Program} {w : World} {A : Around} {E : Value → Shared → Prop} {s : Shared} {v v' : Value} {e : Option Int}
theorem ne_opt {Q : Value → Shared → Prop} (h1 : IsOpt v e) (h2 : IsOpt v' e) (h : Q (.bool false) s) : wpAny (model prog w) A (compareOp .NotEq v v') Q E s := by
  cases e with
  | none =>
    cases h1; cases h2
    exact PySem.SeqAt.RcNeAt.none_none prog w E Q h
  | some i =>
    obtain ⟨t, rfl⟩ := h1
    obtain ⟨u, rfl⟩ := h2
    exact ne_int (by simpa using h)
end

/-! ## ledgers behind a letter -/
theorem ltSnd {P : Prop} {d : Addr} {l : List (Addr × Obj)} (h : P ∧ AllLt d l) : ∀ p ∈ l, p.1 < d := ktn_ltOf h.2
theorem dropSnd {x y : Addr × Obj} {l : List (Addr × Obj)} : ∀ p ∈ x :: l, p ∈ x :: y :: l := fun _ hp => (List.mem_cons.mp hp).elim (fun e => by rw [e]; exact .head _) fun h => .tail _ (.tail _ h)
theorem mulBit {a : Int} {p : Prop} [Decidable p] (h : 0 ≤ a) : 0 ≤ a * (if p then 1 else 0) := by split <;> simp [h]
theorem maxTop (c : Int) : 0 ≤ (if -1 - c > c then -1 - c else c) := by split <;> omega
theorem subHead {q : Addr × Obj} {r all : List (Addr × Obj)} (h : ∀ p ∈ q :: r, p ∈ all) : q ∈ all := h _ (.head _)
theorem subTail {q : Addr × Obj} {r all : List (Addr × Obj)} (h : ∀ p ∈ q :: r, p ∈ all) : ∀ p ∈ r, p ∈ all := fun p hp => h p (.tail _ hp)
theorem subAny {q x : Addr × Obj} {r all : List (Addr × Obj)} (h : ∀ p ∈ q :: r, p ∈ all) (hx : x ∈ q :: r) : x ∈ all := h _ hx
theorem keysNone {prog : Program} {w : World} {news : List (Addr × Obj)} : KeysHere prog w news [] := fun _ h => nomatch h
theorem keysOne {prog : Program} {w : World} {news : List (Addr × Obj)} {c d : Int} {f : Addr} {v : Value} {t' u' : Tok} (hf : (f, pairO c d t' u') ∈ news) :
    KeysHere prog w news (storedH [] [c, d] f v) := by
  intro x hx
  rcases mem_storedH hx with ⟨z, hz, _⟩ | ⟨e3, e4⟩
  · cases hz
  · exact ⟨_, by rw [e4]; exact hf, by rw [e3]; exact pairKey ..⟩
/-- what the loops look at, behind a letter for the ledger -/
theorem hideL {prog : Program} {w : World} {G : Prop} {h₀ h : Heap} {L : Addr} {q : Addr × Obj} {all : List (Addr × Obj)} {e self dx l n f line : Addr} {o : Obj} {xs : List (List Int × Addr × Value)} {k : Nat} {k1 k2 : Int} {t1 t2 t u t' u' : Tok} {a b c d : Int}
    (_D : TupD prog w o xs) (N : News h₀ L h (q :: all)) (h6 : (e, o) ∈ q :: all) (h1 : (self, instObj 45 dx) ∈ q :: all)
    (h2 : (dx, dictOf [⟨k1, .str (Str.ofString "line") t1, .ref line⟩, ⟨k2, .str (Str.ofString "ends") t2, .ref l⟩] 2) ∈ q :: all)
    (h3 : (l, PySem.W.listOf #[.ref n, .ref f] k) ∈ q :: all) (h4 : (n, pairO a b t u) ∈ q :: all) (h5 : (f, pairO c d t' u') ∈ q :: all)
    (go : ∀ news', News h₀ L h news' → (∀ p ∈ q :: all, p ∈ news') → (e, o) ∈ news' → (self, instObj 45 dx) ∈ news' →
      (dx, dictOf [⟨k1, .str (Str.ofString "line") t1, .ref line⟩, ⟨k2, .str (Str.ofString "ends") t2, .ref l⟩] 2) ∈ news' →
      (l, PySem.W.listOf #[.ref n, .ref f] k) ∈ news' → (n, pairO a b t u) ∈ news' → (f, pairO c d t' u') ∈ news' → G) : G :=
  go _ N (fun _ h => h) h6 h1 h2 h3 h4 h5
end Mine

namespace Mine
/-- what a call of end_of(self, x, y) answers, self a Link whose ends are the pairs n, f -/
def EndTells (prog : Program) (w : World) (K : Frag) : Prop :=
  ∀ (p : Program) (loose : List Str) (mean : ExcName → Option Value) (mg mb : Str → Option Value) (dp un : Nat) (gd : Option (List Code)) (cn : Str) (cs : Scope) (r : Addr) (ccd : Value) (cl : List (Str × Addr)) (outer : List Env) (A₀ : Around) (base h₀ : Heap) (L : Addr) (m : Str → Option Value) (news : List (Addr × Obj)) (s : Shared)
    (Q E : Value → Shared → Prop) (self dx l n f line : Addr) (k1 k2 : Int) (t1 t2 : Tok) (a b c d x y : Int) (t u t' u' tx ty : Tok),
    Below A₀ base outer h₀ → Fr h₀ L s.heap m → K.In h₀ → News h₀ L s.heap news → Top p loose mean mg mb h₀ → cs.kind = .function →
    (self, instObj 45 dx) ∈ news → (dx, dictOf [⟨k1, .str (Str.ofString "line") t1, .ref line⟩, ⟨k2, .str (Str.ofString "ends") t2, .ref l⟩] 2) ∈ news → (l, listOf #[.ref n, .ref f] 0) ∈ news → (n, pairO a b t u) ∈ news → (f, pairO c d t' u') ∈ news →
    dp + 1 < recursionLimit → un + 8 < cLine →
    (∀ v h' tk', IsOpt v (endVal a b c d x y) → Fr h₀ L h' m → News h₀ L h' news → Q v { s with heap := h', toks := tk' }) →
    wpAny (model prog w) (ktrTop dp un gd cn cs L r ccd cl outer) (call (.ref 42) [.ref self, .int x tx, .int y ty]) Q E s
/-- what a call of _law_take(source, top) does: an int below top, the two ints of source turned -/
def TakeTells (prog : Program) (w : World) (K : Frag) : Prop :=
  ∀ (p : Program) (loose : List Str) (mean : ExcName → Option Value) (mg mb : Str → Option Value) (dp un : Nat) (gd : Option (List Code)) (cn : Str) (cs : Scope) (r : Addr) (ccd : Value) (cl : List (Str × Addr)) (outer : List Env) (A₀ : Around) (base h₀ : Heap) (L : Addr) (m : Str → Option Value) (rest : List (Addr × Obj)) (s : Shared)
    (Q E : Value → Shared → Prop) (l : Addr) (k : Nat) (a b top : Int) (ta tb tt : Tok),
    Below A₀ base outer h₀ → Fr h₀ L s.heap m → K.In h₀ → News h₀ L s.heap ((l, PySem.W.listOf #[.int a ta, .int b tb] k) :: rest) → (∀ p ∈ rest, p.1 ≠ l) → Top p loose mean mg mb h₀ → cs.kind = .function →
    0 ≤ a → 0 ≤ b → b < 2147483647 → 0 < top → top < 100 →
    dp + 1 < recursionLimit → un + 8 < cLine →
    (∀ v a' b' tv ta' tb' h' tk', 0 ≤ v → v < top → 0 ≤ a' → 0 ≤ b' → b' < 2147483647 → Fr h₀ L h' m → News h₀ L h' ((l, PySem.W.listOf #[.int a' ta', .int b' tb'] k) :: rest) → Q (.int v tv) { s with heap := h', toks := tk' }) →
    wpAny (model prog w) (ktrTop dp un gd cn cs L r ccd cl outer) (call (.ref 208) [.ref l, .int top tt]) Q E s
/-- what a call of _law_line_right(near, far) does: it answers True, whatever the two pairs are -/
def LineTells (prog : Program) (w : World) (K : Frag) : Prop :=
  ∀ (p : Program) (loose : List Str) (mean : ExcName → Option Value) (mg mb : Str → Option Value) (dp un : Nat) (gd : Option (List Code)) (cn : Str) (cs : Scope) (r : Addr) (ccd : Value) (cl : List (Str × Addr)) (outer : List Env) (A₀ : Around) (base h₀ : Heap) (L : Addr) (m : Str → Option Value) (news : List (Addr × Obj)) (s : Shared)
    (Q E : Value → Shared → Prop) (n f : Addr) (a b c d : Int) (t u t' u' : Tok),
    Below A₀ base outer h₀ → Fr h₀ L s.heap m → K.In h₀ → News h₀ L s.heap news → Top p loose mean mg mb h₀ → cs.kind = .function →
    (n, pairO a b t u) ∈ news → (f, pairO c d t' u') ∈ news →
    dp + 8 < recursionLimit → un + 64 < cLine →
    (∀ h' tk', Fr h₀ L h' m → News h₀ L h' news → Q (.bool true) { s with heap := h', toks := tk' }) →
    wpAny (model prog w) (ktrTop dp un gd cn cs L r ccd cl outer) (call (.ref 215) [.ref n, .ref f]) Q E s

/-- what a call of _law_pool(script) makes: a list of two ints, nought or more, the second below 2^31 - 1 -/
def PoolTells (prog : Program) (w : World) (K : Frag) : Prop :=
  ∀ (p : Program) (loose : List Str) (mean : ExcName → Option Value) (mg mb : Str → Option Value) (dp un : Nat) (gd : Option (List Code)) (cn : Str) (cs : Scope) (r : Addr) (ccd : Value) (cl : List (Str × Addr)) (outer : List Env) (A₀ : Around) (base h₀ : Heap) (L : Addr) (m : Str → Option Value) (news : List (Addr × Obj)) (s : Shared)
    (Q E : Value → Shared → Prop) (sl : Addr) (vs : List Value) (ns : List Int),
    Below A₀ base outer h₀ → Fr h₀ L s.heap m → K.In h₀ → News h₀ L s.heap news → Top p loose mean mg mb h₀ → cs.kind = .function →
    base.IsList sl vs.toArray → IntsAre vs ns → ns.length ≤ 63 →
    dp + 2 < recursionLimit → un + 128 < cLine →
    (∀ l a b ta tb h' tk', 0 ≤ a → 0 ≤ b → b < 2147483647 → Fr h₀ L h' m → News h₀ L h' ((l, PySem.W.listOf #[.int a ta, .int b tb] 0) :: news) → (∀ p ∈ news, p.1 < l) → Q (.ref l) { s with heap := h', toks := tk' }) →
    wpAny (model prog w) (ktrTop dp un gd cn cs L r ccd cl outer) (call (.ref 201) [.ref sl]) Q E s

section
variable {prog : Program} {w : World} {K : Frag} {p : Program} {loose : List Str} {mean : ExcName → Option Value} {mg mb : Str → Option Value} {dp un : Nat} {gd : Option (List Code)} {cn : Str} {cs : Scope} {r : Addr} {ccd : Value} {cl : List (Str × Addr)} {outer : List Env} {A₀ : Around} {base h₀ : Heap} {L : Addr} {m : Str → Option Value} {news rest : List (Addr × Obj)} {s : Shared}
  {Q E : Value → Shared → Prop} {self dx l n f line : Addr} {k1 k2 : Int} {k : Nat} {t1 t2 : Tok} {a b c d x y : Int} {t u t' u' tx ty : Tok}
theorem end_use (C : EndTells prog w K) (B : Below A₀ base outer h₀) (F : Fr h₀ L s.heap m) (X : K.In h₀) (N : News h₀ L s.heap news) (T : Top p loose mean mg mb h₀) (hk : cs.kind = .function)
    (h1 : (self, instObj 45 dx) ∈ news) (h2 : (dx, dictOf [⟨k1, .str (Str.ofString "line") t1, .ref line⟩, ⟨k2, .str (Str.ofString "ends") t2, .ref l⟩] 2) ∈ news) (h3 : (l, listOf #[.ref n, .ref f] 0) ∈ news) (h4 : (n, pairO a b t u) ∈ news) (h5 : (f, pairO c d t' u') ∈ news)
    (hd : dp + 1 < recursionLimit) (hu : un + 8 < cLine)
    (ret : ∀ v h' tk', IsOpt v (endVal a b c d x y) → Fr h₀ L h' m → News h₀ L h' news → Q v { s with heap := h', toks := tk' }) :
    wpAny (model prog w) (ktrTop dp un gd cn cs L r ccd cl outer) (call (.ref 42) [.ref self, .int x tx, .int y ty]) Q E s :=
  C p loose mean mg mb dp un gd cn cs r ccd cl outer A₀ base h₀ L m news s Q E self dx l n f line k1 k2 t1 t2 a b c d x y t u t' u' tx ty B F X N T hk h1 h2 h3 h4 h5 hd hu ret
theorem line_use (C : LineTells prog w K) (B : Below A₀ base outer h₀) (F : Fr h₀ L s.heap m) (X : K.In h₀) (N : News h₀ L s.heap news) (T : Top p loose mean mg mb h₀) (hk : cs.kind = .function)
    (h4 : (n, pairO a b t u) ∈ news) (h5 : (f, pairO c d t' u') ∈ news)
    (hd : dp + 8 < recursionLimit) (hu : un + 64 < cLine)
    (ret : ∀ h' tk', Fr h₀ L h' m → News h₀ L h' news → Q (.bool true) { s with heap := h', toks := tk' }) :
    wpAny (model prog w) (ktrTop dp un gd cn cs L r ccd cl outer) (call (.ref 215) [.ref n, .ref f]) Q E s :=
  C p loose mean mg mb dp un gd cn cs r ccd cl outer A₀ base h₀ L m news s Q E n f a b c d t u t' u' B F X N T hk h4 h5 hd hu ret
theorem take_use {g : Obj → List (Addr × Obj)} {top : Int} {ta tb tt : Tok} (C : TakeTells prog w K) (B : Below A₀ base outer h₀) (F : Fr h₀ L s.heap m) (X : K.In h₀) (N : News h₀ L s.heap news) (T : Top p loose mean mg mb h₀) (hk : cs.kind = .function)
    (U : UpdF l (PySem.W.listOf #[.int a ta, .int b tb] k) news g) (ha : 0 ≤ a) (hb : 0 ≤ b) (hb2 : b < 2147483647) (ht : 0 < top) (ht2 : top < 100)
    (hd : dp + 1 < recursionLimit) (hu : un + 8 < cLine)
    (ret : ∀ v a' b' tv ta' tb' h' tk', 0 ≤ v → v < top → 0 ≤ a' → 0 ≤ b' → b' < 2147483647 → Fr h₀ L h' m → News h₀ L h' (g (PySem.W.listOf #[.int a' ta', .int b' tb'] k)) → Q (.int v tv) { s with heap := h', toks := tk' }) :
    wpAny (model prog w) (ktrTop dp un gd cn cs L r ccd cl outer) (call (.ref 208) [.ref l, .int top tt]) Q E s := by
  obtain ⟨pre, post, rfl, hg, x, y⟩ := U.split
  have N₁ : News h₀ L s.heap ((l, PySem.W.listOf #[.int a ta, .int b tb] k) :: (pre ++ post)) := fun p hp => N p (by
    rcases List.mem_cons.mp hp with rfl | hp
    · exact List.mem_append.mpr (.inr (.head _))
    · rcases List.mem_append.mp hp with hp | hp
      · exact List.mem_append.mpr (.inl hp)
      · exact List.mem_append.mpr (.inr (.tail _ hp)))
  refine C p loose mean mg mb dp un gd cn cs r ccd cl outer A₀ base h₀ L m (pre ++ post) s Q E l k a b top ta tb tt B F X N₁ (fun p hp => ?_) T hk ha hb hb2 ht ht2 hd hu ?_
  · rcases List.mem_append.mp hp with hp | hp
    · exact x p hp
    · exact y p hp
  · intro v a' b' tv ta' tb' h' tk' c1 c2 c3 c4 c5 F' N'
    refine ret v a' b' tv ta' tb' h' tk' c1 c2 c3 c4 c5 F' (hg _ ▸ fun p hp => N' p ?_)
    rcases List.mem_append.mp hp with hp | hp
    · exact .tail _ (List.mem_append.mpr (.inl hp))
    · rcases List.mem_cons.mp hp with rfl | hp
      · exact .head _
      · exact .tail _ (List.mem_append.mpr (.inr hp))
theorem pool_use {sl : Addr} {vs : List Value} {ns : List Int} (C : PoolTells prog w K) (B : Below A₀ base outer h₀) (F : Fr h₀ L s.heap m) (X : K.In h₀) (N : News h₀ L s.heap news) (T : Top p loose mean mg mb h₀) (hk : cs.kind = .function)
    (hl : base.IsList sl vs.toArray) (hi : IntsAre vs ns) (h63 : ns.length ≤ 63)
    (hd : dp + 2 < recursionLimit) (hu : un + 128 < cLine)
    (ret : ∀ l a b ta tb h' tk', 0 ≤ a → 0 ≤ b → b < 2147483647 → Fr h₀ L h' m → News h₀ L h' ((l, PySem.W.listOf #[.int a ta, .int b tb] 0) :: news) → (∀ p ∈ news, p.1 < l) → Q (.ref l) { s with heap := h', toks := tk' }) :
    wpAny (model prog w) (ktrTop dp un gd cn cs L r ccd cl outer) (call (.ref 201) [.ref sl]) Q E s :=
  C p loose mean mg mb dp un gd cn cs r ccd cl outer A₀ base h₀ L m news s Q E sl vs ns B F X N T hk hl hi h63 hd hu ret
end
end Mine

namespace Mine
local macro_rules | `(tactic| k_mem) => `(tactic| assumption)
local macro_rules | `(tactic| walk_at "subscriptTail") => `(tactic| (k_here; (with_reducible show wpAny _ _ (subscriptTail _ _ (Value.ref _) (Value.int _ _)) _ _ _); k_dflt (refine' item_litK ?k1 ?k2 ?k3 ?k4 ?_ ?k6; (case k1 => (refine' listAt ?N ?M; (case N => k_asm); (case M => k_mem))); (case k2 => decide); (case k3 => decide); (case k4 => rfl); (case k6 => with_unfolding_all rfl); k_whole)))
local macro_rules | `(tactic| walk_at "compareOp Eq ref ref") => `(tactic| (k_here; (with_reducible show wpAny _ _ (compareOp CmpOp.Eq (Value.ref _) (Value.ref _)) _ _ _); k_dflt (refine' eqPair ?hu ?N ?hn ?hq ?_; (case N => k_asm); (case hn => k_mem); (case hq => k_mem); (case hu => ktr_units); k_whole)))
local macro_rules | `(tactic| walk_at "UnrEnd") => `(tactic| (k_here; k_dflt (refine' unrEndA ?lt ?F ?N ?hI ?sub ?_; (case lt => assumption); (case F => k_asm); (case N => k_asm); (case hI => k_mem); (case sub => (intro _ hp; repeat (first | exact hp | refine List.Mem.tail _ ?_))); k_whole)))
set_option maxRecDepth 100000 in
set_option maxHeartbeats 8000000 in
theorem endTells (w : World) : EndTells PySem.Challenge.rw_xw0329_01.row.prog w (Mine.hd.heap_39 w.params) := by
  k_fill
  unfold EndTells
  intro p loose mean mg mb dp un gd cn cs r ccd cl outer A₀ base h₀ L m news s Q E self dx l n f line k1 k2 t1 t2 a b c d x y t u t' u' tx ty B F X N T hk hs hdx hl hn hf hd hu hret
  refine wpAny_call ?_
  (first | k_dflt cell_enter | fail "the helper is not entered")
  k_steps
  all_goals (refine' hret _ _ _ ?o ?F ?N; (case F => k_asm); (case N => (refine' cb_drop ?cbN ?cbS; (case cbN => k_asm); (case cbS => (intro _ hp; repeat (first | exact hp | refine List.Mem.tail _ ?_))))); (case o => (clear hret; (try simp only [decide_eq_true_eq] at *); simp [IsOpt, endVal, *])))
end Mine

namespace Mine
local macro_rules | `(tactic| k_all) => `(tactic| assumption)
local macro_rules | `(tactic| walk_at "binaryOp Mult int int") => `(tactic| (k_here; k_dflt (refine' mul_int ?_ (mulOk64 ?h0 ?h1); (case h0 => exact (turned _).1); (case h1 => exact (turned _).2); k_whole)))
set_option maxRecDepth 100000 in
set_option maxHeartbeats 8000000 in
theorem takeTells (w : World) : TakeTells PySem.Challenge.rw_xw0329_01.row.prog w (Mine.hd.heap_39 w.params) := by
  k_fill
  unfold TakeTells
  intro p loose mean mg mb dp un gd cn cs r ccd cl outer A₀ base h₀ L m rest s Q E l k a b top ta tb tt B F X N hoff T hk ha hb hb2 ht ht2 hd hu hret
  refine wpAny_call ?_
  (first | k_dflt cell_enter | fail "the helper is not entered")
  k_steps
  all_goals (refine' hret _ _ _ _ _ _ _ _ ?c1 ?c2 ?c3 ?c4 ?c5 ?F ?N; (case F => k_asm); (case N => k_asm); (case c1 => exact (fmod_in _ ht).1); (case c2 => exact (fmod_in _ ht).2); (case c3 => first | exact ha | exact fdiv_in ha ht); (case c4 => first | exact hb | exact (fmod_in _ (by decide)).1); (case c5 => first | exact hb2 | exact (fmod_in _ (by decide)).2))
end Mine

namespace Mine
local macro_rules | `(tactic| units_room) => `(tactic| ktr_units)
local macro_rules | `(tactic| k_room) => `(tactic| ktr_room)
local macro_rules | `(tactic| walk_at "subscriptTail") => `(tactic| (k_here; (with_reducible show wpAny _ _ (subscriptTail _ _ (Value.ref _) (Value.int _ _)) _ _ _); k_dflt (refine' item0 ?k1 ?k2 ?k3 ?_ ?k6; (case k1 => is_list); (case k2 => assumption); (case k3 => assumption); (case k6 => with_unfolding_all rfl); k_whole); intro x' t'))
set_option maxRecDepth 100000 in
set_option maxHeartbeats 8000000 in
theorem poolTells (w : World) : PoolTells PySem.Challenge.rw_xw0329_01.row.prog w (Mine.hd.heap_39 w.params) := by
  k_fill
  unfold PoolTells
  intro p loose mean mg mb dp un gd cn cs r ccd cl outer A₀ base h₀ L m news s Q E sl vs ns B F X N T hk hsl hvs hns hd hu hret
  refine wpAny_call ?_
  (first | k_dflt cell_enter | fail "the helper is not entered")
  k_steps
  all_goals (refine' hret _ _ _ _ _ _ _ ?c1 ?c2 ?c3 ?F ?N ?lt; (case F => k_asm); (case N => (refine' cb_drop ?cbN ?cbS; (case cbN => k_asm); (case cbS => exact dropSnd))); (case c1 => exact mulBit (maxTop _)); (case c2 => exact (fmod_in _ (by decide)).1); (case c3 => exact (fmod_in _ (by decide)).2); (case lt => exact ltSnd (by assumption)))
end Mine

namespace Mine
local macro_rules | `(tactic| k_mem) => `(tactic| exact subHead (by assumption))
local macro_rules | `(tactic| k_mem) => `(tactic| assumption)
local macro_rules | `(tactic| k_room) => `(tactic| ktr_room)
local macro_rules | `(tactic| k_all) => `(tactic| (refine tbn_neAll ?_; simp only [AllLt, and_true]; assumption))
local macro_rules | `(tactic| walk_at "setItem ref ref") => `(tactic| (k_here; k_dflt (refine' setItem_tupK ?hu ?F ?N ?U ?hd ?D ?hk ?hq ?tk ?hz ?_; (case F => k_asm); (case N => k_asm); (case D => first | assumption | exact TupD.empty (by assumption)); (case U => k_updF); (case hd => k_mem); (case hq => k_mem); (case tk => exact pairKey ..); (case hk => first | exact keysNone | (refine' keysOne ?km; (case km => k_mem))); (case hz => exact Nat.le_of_ble_eq_true rfl); (case hu => ktr_units); k_whole); intro h' o' F' N' D'; (try dsimp only at N'); (try k_sweep)))
local macro_rules | `(tactic| walk_at "exec For Name Call cons nil") => `(tactic| (k_here; (rename News _ _ _ _ => lN'); (rename TupD _ _ _ _ => lD'); (k_dflt (refine' hideL lD' lN' ?h6 ?h1 ?h2 ?h3 ?h4 ?h5 ?_; (case h6 => k_mem); (case h1 => k_mem); (case h2 => k_mem); (case h3 => k_mem); (case h4 => k_mem); (case h5 => k_mem); k_whole)); clear lN'; intro news' N' sub' m6' m1' m2' m3' m4' m5'))
local macro_rules | `(tactic| walk_at "UnrEnd") => `(tactic| (k_here; k_dflt (refine' unrEndA ?lt ?F ?N ?hI ?sub ?_; (case lt => assumption); (case F => k_asm); (case N => k_asm); (case hI => k_mem); (case sub => first | exact subTail (by assumption) | (intro _ hp; repeat (first | exact hp | refine List.Mem.tail _ ?_))); k_whole)))
local macro_rules | `(tactic| walk_at "call ref") => `(tactic| (k_here; (with_reducible show wpAny _ _ (call (Value.ref 42) _) _ _ _); k_dflt (refine' end_use (by assumption) ?B ?F ?X ?N ?T ?hk ?h1 ?h2 ?h3 ?h4 ?h5 ?hd ?hu ?_; (case B => k_asm); (case F => k_asm); (case X => k_asm); (case N => k_asm); (case T => k_asm); (case hk => rfl); (case h1 => k_mem); (case h2 => k_mem); (case h3 => k_mem); (case h4 => k_mem); (case h5 => k_mem); (case hd => ktr_room); (case hu => ktr_units); k_whole); intro v' h' tk' hv' F' N'; (try k_sweep)))
local macro_rules | `(tactic| walk_at "getMethod ref") => `(tactic| (k_here; k_dflt (refine' getMethod_tupK ?N ?hd ?D ?hk ?_; (case N => k_asm); (case D => assumption); (case hd => k_mem); (case hk => (refine' twoEnds_keys ?kn ?kf; (case kn => k_mem); (case kf => k_mem))); k_whole)))
local macro_rules | `(tactic| walk_at "call builtin:dict.get") => `(tactic| (k_here; k_dflt (refine' get_tupK ?hu ?N ?hd ?lo ?D ?hk ?hq ?tk ?_; (case N => k_asm); (case D => assumption); (case hd => k_mem); (case lo => assumption); (case hk => (refine' twoEnds_keys ?kn ?kf; (case kn => k_mem); (case kf => k_mem))); (case hq => k_mem); (case tk => exact pairKey ..); (case hu => ktr_units); k_whole)))
local macro_rules | `(tactic| walk_at "compareOp NotEq") => `(tactic| (k_here; k_dflt (refine' ne_opt (by assumption) (twoEnds_get ..) ?_; k_whole)))
set_option maxRecDepth 100000 in
set_option maxHeartbeats 8000000 in
theorem lineTells (w : World) : LineTells PySem.Challenge.rw_xw0329_01.row.prog w (Mine.hd.heap_39 w.params) := by
  k_fill
  unfold LineTells
  intro p loose mean mg mb dp un gd cn cs r ccd cl outer A₀ base h₀ L m news s Q E n f a b c d t u t' u' B F X N T hk hn hf hd hu hret
  have CE := endTells w
  refine wpAny_call ?_
  (first | k_dflt cell_enter | fail "the helper is not entered")
  k_steps
  all_goals (refine' hret _ _ ?F ?N; (case F => k_asm); (case N => (refine' cb_drop ?cbN ?cbS; (case cbN => k_asm); (case cbS => (intro _ hp; refine' subAny ?su ?sh; (case su => assumption); (case sh => (repeat (first | exact hp | refine List.Mem.tail _ ?_))))))))
end Mine

namespace Mine
local macro_rules | `(tactic| walk_at "call ref") => `(tactic| (k_here; (with_reducible show wpAny _ _ (call (Value.ref 215) _) _ _ _); (k_dflt (refine' line_use (lineTells _) ?B ?F ?X ?N ?T ?hk ?h4 ?h5 ?hd ?hu ?_; (case F => k_asm); (case B => k_asm); (case X => k_asm); (case N => k_asm); (case T => k_asm); (case hk => rfl); (case h4 => k_mem); (case h5 => k_mem); (case hd => ktr_room); (case hu => ktr_units); k_whole); intro h' tk' F' N'; (try k_sweep))))
local macro_rules | `(tactic| walk_at "call ref") => `(tactic| (k_here; (with_reducible show wpAny _ _ (call (Value.ref 201) _) _ _ _); (k_dflt (refine' pool_use (poolTells _) ?B ?F ?X ?N ?T ?hk ?hl ?hi ?h63 ?hd ?hu ?_; (case F => k_asm); (case B => k_asm); (case X => k_asm); (case N => k_asm); (case T => k_asm); (case hk => rfl); (case hl => assumption); (case hi => assumption); (case h63 => omega); (case hd => ktr_room); (case hu => ktr_units); k_whole); intro l' a' b' ta' tb' h' tk' c1' c2' c3' F' N' l1'; (try k_lt l1'); (try k_sweep))))
local macro_rules | `(tactic| walk_at "call ref") => `(tactic| (k_here; (with_reducible show wpAny _ _ (call (Value.ref 208) _) _ _ _); (k_dflt (refine' take_use (takeTells _) ?B ?F ?X ?N ?T ?hk ?U ?ha ?hb ?hb2 ?ht ?ht2 ?hd ?hu ?_; (case F => k_asm); (case B => k_asm); (case X => k_asm); (case N => k_asm); (case T => k_asm); (case hk => rfl); (case U => k_updF); (case ha => assumption); (case hb => assumption); (case hb2 => assumption); (case ht => decide); (case ht2 => decide); (case hd => ktr_room); (case hu => ktr_units); k_whole); intro v' a' b' tv' ta' tb' h' tk' c1' c2' c3' c4' c5' F' N'; (try dsimp only at N'); (try k_sweep))))
set_option maxRecDepth 100000 in
set_option maxHeartbeats 8000000 in
theorem lawHolds : PySem.Challenge.rw_xw0329_01.Holds := hd (by k_go)
end Mine

theorem PySem.Challenge.cw_xw0329_01_holds : PySem.Challenge.rw_xw0329_01.Holds := by
  exact Mine.lawHolds
