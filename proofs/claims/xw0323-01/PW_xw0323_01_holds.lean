import PyProof.Rows.All
import Wide.All
import OpenK.AllK
import Wide.FinOn
import PySem.Challenge.RW_xw0323_01
open PySem PySem.W PyProof.Rows PySem.Calls
set_option Elab.async false
set_option maxRecDepth 100000
namespace Mine
theorem len_pos {ns : List Int} (h : decide (ns = []) = false) : 0 < (ns.length : Int) := by
  cases ns with
  | nil => simp at h
  | cons a r => simp only [List.length_cons]; omega
theorem mulOk_src {a x y : Int} : IntMulOk ([a, x.fmod 2147483647].getD (Int.toNat 1) 0) y :=
  .of_left (PySem.intBits_le_64 (by show _ ≤ x.fmod 2147483647; have := PySem.W.fmod_lo x (n := 2147483647) (by decide); omega) (by show x.fmod 2147483647 < _; have := PySem.W.fmod_hi x (n := 2147483647) (by decide); omega))
section
variable {M : Model} {A : Around} {E : Value → Shared → Prop} {Q : Value → Shared → Prop} {s : Shared} {h₀ : Heap} {L : Addr} {m : Str → Option Value} {news pre post : List (Addr × Obj)} {c : Sem Value}

/-- stands in the context within a join -/
structure Within : Prop where
  one :: (is : True)
theorem within : Within := ⟨trivial⟩
/-- an int comes back, all else as it was -/
def IntBack (h₀ : Heap) (L : Addr) (m : Str → Option Value) (news : List (Addr × Obj)) (s : Shared) (v : Value) (s' : Shared) : Prop :=
  ∃ (r : Int) (t : Tok) (h : Heap) (tk : Nat), v = .int r t ∧ s' = { s with heap := h, toks := tk } ∧ Fr h₀ L h m ∧ News h₀ L h news
theorem int_back (xF : Fr h₀ L s.heap m) (xN : News h₀ L s.heap news)
    (hc : Within → wpAny M A c (fun v s₂ => IntBack h₀ L m news s v s₂) E s)
    (hk : ∀ (r : Int) (t : Tok) (h : Heap) (tk : Nat), Fr h₀ L h m → News h₀ L h news → Q (.int r t) { s with heap := h, toks := tk }) : wpAny M A c Q E s := by
  refine wpAny_mono (hc within) (fun v s₂ hq => ?_) fun _ _ h => h
  obtain ⟨r, t, h, tk, hv, hs, F, N⟩ := hq
  subst hv; subst hs
  exact hk r t h tk F N
theorem int_back_end {h : Heap} {news' : List (Addr × Obj)} {s' : Shared} {v : Value} {r : Int} {t : Tok} {tk : Nat}
    (hv : v = .int r t) (hs : s' = { s with heap := h, toks := tk }) (F : Fr h₀ L h m) (N : News h₀ L h news') (hn : ∀ p ∈ news, p ∈ news') : IntBack h₀ L m news s v s' :=
  ⟨r, t, h, tk, hv, hs, F, fun p hp => N p (hn p hp)⟩

/-- the source's list -/
abbrev srcOf (a : Int) (ta : Tok) (b : Int) (tb : Tok) (nn : Nat) : Obj := listOf #[.int a ta, .int b tb] nn

/-- a draw: an int of [0, top) comes back, the source's two ints are new ones -/
def Drawn (h₀ : Heap) (L : Addr) (m : Str → Option Value) (pre : List (Addr × Obj)) (S : Addr) (post : List (Addr × Obj)) (top : Int) (nn : Nat) (s : Shared) (v : Value) (s' : Shared) : Prop :=
  ∃ (r : Int) (t : Tok) (a : Int) (ta : Tok) (b : Int) (tb : Tok) (h : Heap) (tk : Nat), v = .int r t ∧ s' = { s with heap := h, toks := tk } ∧ 0 ≤ r ∧ r < top ∧ Fr h₀ L h m ∧ News h₀ L h (pre ++ (S, srcOf a ta b tb nn) :: post)
theorem drawn {S f : Addr} {nn : Nat} {top : Int} {tt : Tok} {a b : Int} {ta tb : Tok} (pre post : List (Addr × Obj)) (F : Fr h₀ L s.heap m) (N : News h₀ L s.heap (pre ++ (S, srcOf a ta b tb nn) :: post))
    (hc : ∀ (a : Int) (ta : Tok) (b : Int) (tb : Tok) (h : Heap) (tk : Nat), Within → Fr h₀ L h m → News h₀ L h (pre ++ (S, srcOf a ta b tb nn) :: post) →
      wpAny M A (call (.ref f) [.ref S, .int top tt]) (fun v s₂ => Drawn h₀ L m pre S post top nn s v s₂) E { s with heap := h, toks := tk })
    (hk : ∀ (r : Int) (t : Tok) (a : Int) (ta : Tok) (b : Int) (tb : Tok) (h : Heap) (tk : Nat), 0 ≤ r → r < top → Fr h₀ L h m → News h₀ L h (pre ++ (S, srcOf a ta b tb nn) :: post) → Q (.int r t) { s with heap := h, toks := tk }) :
    wpAny M A (call (.ref f) [.ref S, .int top tt]) Q E s := by
  refine wpAny_mono (hc a ta b tb s.heap s.toks within F N) (fun v s₂ hq => ?_) fun _ _ h => h
  obtain ⟨r, t, a, ta, b, tb, h, tk, hv, hs, h1, h2, F, N⟩ := hq
  subst hv; subst hs
  exact hk r t a ta b tb h tk h1 h2 F N
theorem drawn_end {S : Addr} {nn : Nat} {top : Int} {h : Heap} {news' : List (Addr × Obj)} {s' : Shared} {v : Value} {r : Int} {t : Tok} {tk : Nat} {a b : Int} {ta tb : Tok}
    (hv : v = .int r t) (hs : s' = { s with heap := h, toks := tk }) (h1 : 0 ≤ r) (h2 : r < top) (F : Fr h₀ L h m) (N : News h₀ L h news') (hn : ∀ p ∈ pre ++ (S, srcOf a ta b tb nn) :: post, p ∈ news') : Drawn h₀ L m pre S post top nn s v s' :=
  ⟨r, t, a, ta, b, tb, h, tk, hv, hs, h1, h2, F, fun p hp => N p (hn p hp)⟩
end
section
variable {prog : Program} {w : World} {A : Around} {h₀ : Heap} {L : Addr} {m : Str → Option Value} {env : Env} {elt : Expr} {x : Str} {scope : Scope} {cl : List (Str × Addr)} {s : Shared} {S : List (Addr × Obj) → Prop} {Fin : List Value → List (Addr × Obj) → Prop}
/-- an item of the row of octets, and the source behind it -/
def OctEl (pre : List (Addr × Obj)) (Sr : Addr) (post : List (Addr × Obj)) (nn : Nat) (y : Value) (news' : List (Addr × Obj)) : Prop :=
  ∃ (r : Int) (t : Tok) (a : Int) (ta : Tok) (b : Int) (tb : Tok), y = .int r t ∧ 0 ≤ r ∧ r < 256 ∧ news' = pre ++ (Sr, srcOf a ta b tb nn) :: post
theorem oct_rest {Sr : Addr} {nn n : Nat} {k0 : Int} {a b : Int} {ta tb : Tok} (pre post : List (Addr × Obj))
    (turn : ∀ (k : Int) (t : Tok) (a : Int) (ta : Tok) (b : Int) (tb : Tok) I oI C oC D m₂ ys h tk (E' : Value → Shared → Prop), LCg.NsObj oC m₂ → m₂ x = some (.int k t) → Fr h₀ L h m →
      News h₀ L h ((I, oI) :: (C, oC) :: (D, LCg.lst ys) :: (pre ++ (Sr, srcOf a ta b tb nn) :: post)) → LCg.Off3 I C D (pre ++ (Sr, srcOf a ta b tb nn) :: post) → ((@Ne Nat I C) ∧ (@Ne Nat I D) ∧ (@Ne Nat C D)) →
      wpAny (model prog w) A (eval elt (compEnvC scope cl C env)) (LCg.CompEnd h₀ L m { s with heap := h, toks := tk } I oI C oC D (LCg.lst ys) S (fun y news' => OctEl pre Sr post nn y news')) E' { s with heap := h, toks := tk })
    (fin : ∀ ys ns (a : Int) (ta : Tok) (b : Int) (tb : Tok), IntsAre ys ns → ns.length = n → (∀ v ∈ ns, 0 ≤ v ∧ v < 256) → Fin ys (pre ++ (Sr, srcOf a ta b tb nn) :: post)) :
    LCg.CompRest prog w A h₀ L m env elt x scope cl s S (fun i v => ∃ t, v = .int (k0 + (i : Int)) t) Fin n 0 [] (pre ++ (Sr, srcOf a ta b tb nn) :: post) := by
  have key : ∀ (j i : Nat) (ys : List Value) (ns : List Int) (a : Int) (ta : Tok) (b : Int) (tb : Tok), i + j = n → IntsAre ys ns → ns.length = i → (∀ v ∈ ns, 0 ≤ v ∧ v < 256) →
      LCg.CompRest prog w A h₀ L m env elt x scope cl s S (fun i v => ∃ t, v = .int (k0 + (i : Int)) t) Fin j i ys (pre ++ (Sr, srcOf a ta b tb nn) :: post) := by
    intro j
    induction j with
    | zero =>
      intro i ys ns a ta b tb hi hy hl hb
      exact LCg.CompRest.zero (fin ys ns a ta b tb hy (by omega) hb)
    | succ j ih =>
      intro i ys ns a ta b tb hi hy hl hb
      refine LCg.CompRest.succ ?_
      intro v I oI C oC D m₂ h tk E' hv hC hx F N off ne
      obtain ⟨t, rfl⟩ := hv
      refine wpAny_mono (turn _ t a ta b tb I oI C oC D m₂ ys h tk E' hC hx F N off ne) (fun y s₂ hq => ?_) fun _ _ e => e
      obtain ⟨h', tk', nw, e, F', N', off', hS, r, tr, a', ta', b', tb', hy', h0, h1, hn⟩ := hq
      subst hn
      refine ⟨h', tk', _, e, F', N', off', hS, ?_⟩
      rw [hy']
      refine ih (i + 1) _ (ns ++ [r]) a' ta' b' tb' (by omega) (IntsAre.append hy (.cons r tr .nil)) (by simp [hl]) ?_
      intro v hv
      rcases List.mem_append.mp hv with hv | hv
      · exact hb v hv
      · rw [List.mem_singleton.mp hv]; exact ⟨h0, h1⟩
  exact key n 0 [] [] a ta b tb (by omega) .nil rfl (by intro v hv; cases hv)
theorem oct_el {Sr : Addr} {nn : Nat} {pre post news' : List (Addr × Obj)} {y : Value} {r : Int} {t : Tok} {a : Int} {ta : Tok} {b : Int} {tb : Tok} (hy : y = .int r t) (h0 : 0 ≤ r) (h1 : r < 256) (hn : news' = pre ++ (Sr, srcOf a ta b tb nn) :: post) : OctEl pre Sr post nn y news' :=
  ⟨r, t, a, ta, b, tb, hy, h0, h1, hn⟩
end
theorem octets_K {prog : Program} {w : World} {A : Around} {E : Value → Shared → Prop} {s : Shared} {h₀ : Heap} {L : Addr} {m : Str → Option Value} {news : List (Addr × Obj)} {l : Addr} {vs : List Value} {ns : List Int} {Q : Value → Shared → Prop}
    (F : Fr h₀ L s.heap m) (N : News h₀ L s.heap ((l, LCg.lst vs) :: news)) (hi : IntsAre vs ns) (hr : ∀ n ∈ ns, 0 ≤ n ∧ n < 256) (hn : ns.length ≤ 9) (hh : A.handled = none)
    (h : ∀ h' t k (B : Array UInt8), B.size ≤ 9 → Fr h₀ L h' m → News h₀ L h' news → Q (.bytes B t) { s with heap := h', toks := k }) : wpAny (model prog w) A (call (.type "bytes") [.ref l]) Q E s :=
  bytes_K F N ⟨_, (N _ (.head _)).1, rfl, _, rfl⟩ hi hr (by rw [hi.length, PySem.sizeLine_eq]; omega) hh fun h' t k F' N' _ => h h' t k _ (by simpa using hn) F' fun p hp => N' p (.tail _ hp)
section
variable {prog : Program} {w : World} {A : Around} {E : Value → Shared → Prop} {s : Shared} {env : Env} {h₀ : Heap} {x : Str} {body : List Stmt} {Q : Flow → Shared → Prop}
abbrev Cells3 := Obj × Option Value × Obj × Option Value × Obj × Option Value
theorem flags_loop {r a1 a2 a3 : Addr} {o1 o2 o3 : Obj} {d1 d2 d3 : Option Value} {t₀ u₀ v₀ : Tok} {m₀ : Str → Option Value} (pre post : List (Addr × Obj)) (stored : List Str)
    (hh : A.handled = none) (hr : IsRange s.heap r 0 64 1 t₀ u₀ v₀) (F : Fr h₀ env.locals s.heap m₀) (N : News h₀ env.locals s.heap (pre ++ (a1, o1) :: (a2, o2) :: (a3, o3) :: post))
    (h1 : o1.data = .cell d1) (h2 : o2.data = .cell d2) (h3 : o3.data = .cell d3)
    (turn : ∀ (o1 : Obj) (d1 : Option Value) (o2 : Obj) (d2 : Option Value) (o3 : Obj) (d3 : Option Value) (before : List Int) (k : Int) t (u : Str → Option Value) h tk own, 0 ≤ k → k < 64 → OwnOff own ((pre ++ (a1, o1) :: (a2, o2) :: (a3, o3) :: post).map (·.1)) →
      o1.data = .cell d1 → o2.data = .cell d2 → o3.data = .cell d3 → KstMark →
      Fr h₀ env.locals h (fun y => if y = x then some (.int k t) else if stored.contains y then u y else m₀ y) → News h₀ env.locals h ((pre ++ (a1, o1) :: (a2, o2) :: (a3, o3) :: post) ++ own) →
      wpAny (model prog w) A (execs body env) (InvPostN h₀ env.locals (KstS (fun c : Cells3 => pre ++ (a1, c.1) :: (a2, c.2.2.1) :: (a3, c.2.2.2.2.1) :: post) (fun _ => []) (fun c => c.1.data = .cell c.2.1 ∧ c.2.2.1.data = .cell c.2.2.2.1 ∧ c.2.2.2.2.1.data = .cell c.2.2.2.2.2) x stored m₀ (fun _ _ => True) (before ++ [k])) own ((pre ++ (a1, o1) :: (a2, o2) :: (a3, o3) :: post).map (·.1)) { s with heap := h, toks := tk } Q) E { s with heap := h, toks := tk })
    (done : ∀ (o1 : Obj) (d1 : Option Value) (o2 : Obj) (d2 : Option Value) (o3 : Obj) (d3 : Option Value) (u : Str → Option Value) h tk, KstMark → Fr h₀ env.locals h (fun y => if y = x then u y else if stored.contains y then u y else m₀ y) → News h₀ env.locals h (pre ++ (a1, o1) :: (a2, o2) :: (a3, o3) :: post) → Q .next { s with heap := h, toks := tk }) :
    wpAny (model prog w) A (pyIter (.ref r)) (fun it s₂ => LoopAtV prog w A h₀ env x body Q E it s₂) E s := by
  refine kst_range (n := 64) (σ := Cells3) (fun c => pre ++ (a1, c.1) :: (a2, c.2.2.1) :: (a3, c.2.2.2.2.1) :: post) (fun _ => []) (fun c => c.1.data = .cell c.2.1 ∧ c.2.2.1.data = .cell c.2.2.2.1 ∧ c.2.2.2.2.1.data = .cell c.2.2.2.2.2) stored (fun _ _ => True) (o1, d1, o2, d2, o3, d3)
    hh hr (by decide) (by rfl) F N ⟨h1, h2, h3⟩ (fun _ hp => nomatch hp) trivial ?_ ?_
  · rintro ⟨p1, e1, p2, e2, p3, e3⟩ before k t u h tk own hk hlt hoff ⟨g1, g2, g3⟩ _ F' N'
    have ea : ((pre ++ (a1, p1) :: (a2, p2) :: (a3, p3) :: post).map (·.1)) = ((pre ++ (a1, o1) :: (a2, o2) :: (a3, o3) :: post).map (·.1)) := by simp
    have z := turn p1 e1 p2 e2 p3 e3 before k t u h tk own (by omega) (by omega) (ea ▸ hoff) g1 g2 g3 kstMark F' N'
    rw [ea] at z
    exact z
  · rintro ⟨p1, e1, p2, e2, p3, e3⟩ u h tk _ _ F' N'
    exact done p1 e1 p2 e2 p3 e3 u h tk kstMark F' N'
end
theorem narrow {h₀ h : Heap} {L : Addr} {p0 p1 p2 p3 p4 p5 p6 q1 q2 q3 q4 : Addr × Obj} (N : News h₀ L h [p0, p1, p2, p3, p4, p5, p6, q1, q2, q3, q4]) : News h₀ L h [p0, q1, q2, q3] := fun p hp => N p (by
  simp only [List.mem_cons, List.not_mem_nil, or_false] at hp ⊢
  rcases hp with h | h | h | h <;> simp [h])
section
variable {prog : Program} {w : World} {A : Around} {h₀ : Heap} {L : Addr} {m : Str → Option Value} {env : Env} {elt : Expr} {x : Str} {scope : Scope} {cl : List (Str × Addr)} {s : Shared} {S : List (Addr × Obj) → Prop} {Fin : List Value → List (Addr × Obj) → Prop}
/-- a bool of the row of six -/
def SixEl (news : List (Addr × Obj)) (r : Bool) (y : Value) (news' : List (Addr × Obj)) : Prop := news' = news ∧ y = .bool r
theorem six_el {news news' : List (Addr × Obj)} {r : Bool} {y : Value} (hn : news' = news) (hy : y = .bool r) : SixEl news r y news' := ⟨hn, hy⟩
theorem six_end {h₀ : Heap} {L I C D : Addr} {m : Str → Option Value} {s₁ : Shared} {oI oC oD : Obj} {S : List (Addr × Obj) → Prop} {y : Value} {r : Bool} {h' : Heap} {tk : Nat} {all news : List (Addr × Obj)}
    (F : Fr h₀ L h' m) (N : News h₀ L h' all) (sub : ∀ p ∈ (I, oI) :: (C, oC) :: (D, oD) :: news, p ∈ all) (off : LCg.Off3 I C D news) (hS : S news) (hy : y = .bool r) :
    LCg.CompEnd h₀ L m s₁ I oI C oC D oD S (fun y news' => SixEl news r y news') y { s₁ with heap := h', toks := tk } :=
  LCg.CompEnd.intro F N news sub off hS ⟨rfl, hy⟩
theorem six_rest {news : List (Addr × Obj)} (g : Int → Bool)
    (turn : ∀ (k : Int) (t : Tok) I oI C oC D m₂ ys h tk (E' : Value → Shared → Prop), 0 ≤ k → k < 6 → LCg.NsObj oC m₂ → m₂ x = some (.int k t) → Fr h₀ L h m →
      News h₀ L h ((I, oI) :: (C, oC) :: (D, LCg.lst ys) :: news) → LCg.Off3 I C D news → ((@Ne Nat I C) ∧ (@Ne Nat I D) ∧ (@Ne Nat C D)) →
      wpAny (model prog w) A (eval elt (compEnvC scope cl C env)) (LCg.CompEnd h₀ L m { s with heap := h, toks := tk } I oI C oC D (LCg.lst ys) S (fun y news' => SixEl news (g k) y news')) E' { s with heap := h, toks := tk })
    (fin : Fin [.bool (g 0), .bool (g 1), .bool (g 2), .bool (g 3), .bool (g 4), .bool (g 5)] news) :
    LCg.CompRest prog w A h₀ L m env elt x scope cl s S (fun i v => ∃ t, v = .int (0 + (i : Int)) t) Fin 6 0 [] news := by
  have step : ∀ (j i : Nat) (ys : List Value), i < 6 → LCg.CompRest prog w A h₀ L m env elt x scope cl s S (fun i v => ∃ t, v = .int (0 + (i : Int)) t) Fin j (i + 1) (ys ++ [.bool (g (0 + (i : Int)))]) news →
      LCg.CompRest prog w A h₀ L m env elt x scope cl s S (fun i v => ∃ t, v = .int (0 + (i : Int)) t) Fin (j + 1) i ys news := by
    intro j i ys hi hn
    refine LCg.CompRest.succ ?_
    intro v I oI C oC D m₂ h tk E' hv hC hx F N off ne
    obtain ⟨t, rfl⟩ := hv
    refine wpAny_mono (turn _ t I oI C oC D m₂ ys h tk E' (by omega) (by omega) hC hx F N off ne) (fun y s₂ hq => ?_) fun _ _ e => e
    obtain ⟨h', tk', nw, e, F', N', off', hS, hn', hy'⟩ := hq
    subst hn'; subst hy'
    exact ⟨h', tk', _, e, F', N', off', hS, hn⟩
  refine step 5 0 _ (by omega) (step 4 1 _ (by omega) (step 3 2 _ (by omega) (step 2 3 _ (by omega) (step 1 4 _ (by omega) (step 0 5 _ (by omega) (LCg.CompRest.zero ?_))))))
  exact fin
theorem has_rest {news : List (Addr × Obj)} {k0 k1 k2 k3 k4 k5 : Int} {t0 t1 t2 t3 t4 t5 : Tok} (g : Int → Bool)
    (turn : ∀ (k : Int) (t : Tok) I oI C oC D m₂ ys h tk (E' : Value → Shared → Prop), LCg.NsObj oC m₂ → m₂ x = some (.int k t) → Fr h₀ L h m →
      News h₀ L h ((I, oI) :: (C, oC) :: (D, LCg.lst ys) :: news) → LCg.Off3 I C D news → ((@Ne Nat I C) ∧ (@Ne Nat I D) ∧ (@Ne Nat C D)) →
      wpAny (model prog w) A (eval elt (compEnvC scope cl C env)) (LCg.CompEnd h₀ L m { s with heap := h, toks := tk } I oI C oC D (LCg.lst ys) S (fun y news' => SixEl news (g k) y news')) E' { s with heap := h, toks := tk })
    (fin : Fin [.bool (g k0), .bool (g k1), .bool (g k2), .bool (g k3), .bool (g k4), .bool (g k5)] news) :
    LCg.CompRest prog w A h₀ L m env elt x scope cl s S (fun i v => (#[Value.int k0 t0, .int k1 t1, .int k2 t2, .int k3 t3, .int k4 t4, .int k5 t5] : Array Value)[i]? = some v) Fin 6 0 [] news := by
  have step : ∀ (j i : Nat) (ys : List Value) (k : Int) (t : Tok), (#[Value.int k0 t0, .int k1 t1, .int k2 t2, .int k3 t3, .int k4 t4, .int k5 t5] : Array Value)[i]? = some (.int k t) →
      LCg.CompRest prog w A h₀ L m env elt x scope cl s S (fun i v => (#[Value.int k0 t0, .int k1 t1, .int k2 t2, .int k3 t3, .int k4 t4, .int k5 t5] : Array Value)[i]? = some v) Fin j (i + 1) (ys ++ [.bool (g k)]) news →
      LCg.CompRest prog w A h₀ L m env elt x scope cl s S (fun i v => (#[Value.int k0 t0, .int k1 t1, .int k2 t2, .int k3 t3, .int k4 t4, .int k5 t5] : Array Value)[i]? = some v) Fin (j + 1) i ys news := by
    intro j i ys k t hi hn
    refine LCg.CompRest.succ ?_
    intro v I oI C oC D m₂ h tk E' hv hC hx F N off ne
    rw [hi] at hv
    cases hv
    refine wpAny_mono (turn _ t I oI C oC D m₂ ys h tk E' hC hx F N off ne) (fun y s₂ hq => ?_) fun _ _ e => e
    obtain ⟨h', tk', nw, e, F', N', off', hS, hn', hy'⟩ := hq
    subst hn'; subst hy'
    exact ⟨h', tk', _, e, F', N', off', hS, hn⟩
  refine step 5 0 _ k0 t0 rfl (step 4 1 _ k1 t1 rfl (step 3 2 _ k2 t2 rfl (step 2 3 _ k3 t3 rfl (step 1 4 _ k4 t4 rfl (step 0 5 _ k5 t5 rfl (LCg.CompRest.zero ?_))))))
  exact fin
end
/-- the law's bit: what stands at place k -/
abbrev bit (f k : Int) : Bool := (f.fdiv (2 ^ k.toNat)).fmod 2 == 1
theorem bit_nat (n i : Nat) : bit (n : Int) (i : Int) = n.testBit i := by
  unfold bit
  rw [Nat.testBit_eq_decide_div_mod_eq]
  have e : ((n : Int).fdiv (2 ^ (i : Int).toNat)).fmod 2 = ((n / 2 ^ i % 2 : Nat) : Int) := by
    rw [Int.toNat_natCast, Int.fdiv_eq_ediv_of_nonneg _ (Int.le_of_lt (Int.pow_pos (by decide))), Int.fmod_eq_emod_of_nonneg _ (by decide)]
    norm_cast
  rw [e]
  generalize n / 2 ^ i % 2 = x
  by_cases h : x = 1
  · subst h; rfl
  · rw [decide_eq_false h]
    exact beq_eq_false_iff_ne.mpr (by omega)
theorem and_nat (n k : Nat) : Builtin.bitAnd (n : Int) (k : Int) = ((n &&& k : Nat) : Int) := by
  have h1 : (0 : Int) ≤ n := by omega
  have h2 : (0 : Int) ≤ k := by omega
  unfold Builtin.bitAnd
  simp only [h1, h2, decide_true, Int.toNat_natCast]
theorem land_lt {n k : Nat} (hn : n < 64) : n &&& k < 2 ^ 6 := Nat.lt_of_le_of_lt Nat.and_le_left hn
theorem any_nat {n k : Nat} (hn : n < 64) :
    ((((n &&& k : Nat) : Int)) != 0) = ((n.testBit 0 && k.testBit 0) || (n.testBit 1 && k.testBit 1) || (n.testBit 2 && k.testBit 2) || (n.testBit 3 && k.testBit 3) || (n.testBit 4 && k.testBit 4) || (n.testBit 5 && k.testBit 5)) := by
  simp only [← Nat.testBit_and]
  generalize hx : n &&& k = x
  have hx6 : x < 2 ^ 6 := hx ▸ land_lt hn
  have key : ∀ x, x < 2 ^ 6 → (((x : Nat) : Int) != 0) = (x.testBit 0 || x.testBit 1 || x.testBit 2 || x.testBit 3 || x.testBit 4 || x.testBit 5) := by decide +kernel
  exact key x hx6
theorem any_eq {f a : Int} (hf0 : 0 ≤ f) (hf : f < 64) (ha0 : 0 ≤ a) :
    (Builtin.bitAnd f a != 0) = ((bit f 0 && bit a 0) || (bit f 1 && bit a 1) || (bit f 2 && bit a 2) || (bit f 3 && bit a 3) || (bit f 4 && bit a 4) || (bit f 5 && bit a 5)) := by
  obtain ⟨n, rfl⟩ := Int.eq_ofNat_of_zero_le hf0
  obtain ⟨k, rfl⟩ := Int.eq_ofNat_of_zero_le ha0
  rw [and_nat, any_nat (by omega)]
  have b (x i : Nat) := bit_nat x i
  rw [← b n 0, ← b n 1, ← b n 2, ← b n 3, ← b n 4, ← b n 5, ← b k 0, ← b k 1, ← b k 2, ← b k 3, ← b k 4, ← b k 5]
  rfl
theorem sixes_eq {f : Int} (hf0 : 0 ≤ f) (hf : f < 64) :
    [Builtin.bitAnd f 1 != 0, Builtin.bitAnd f 2 != 0, Builtin.bitAnd f 4 != 0, Builtin.bitAnd f 8 != 0, Builtin.bitAnd f 16 != 0, Builtin.bitAnd f 32 != 0] = [bit f 0, bit f 1, bit f 2, bit f 3, bit f 4, bit f 5] := by
  obtain ⟨n, rfl⟩ := Int.eq_ofNat_of_zero_le hf0
  have key : ∀ n : Nat, n < 64 → [Builtin.bitAnd (n : Int) 1 != 0, Builtin.bitAnd (n : Int) 2 != 0, Builtin.bitAnd (n : Int) 4 != 0, Builtin.bitAnd (n : Int) 8 != 0, Builtin.bitAnd (n : Int) 16 != 0, Builtin.bitAnd (n : Int) 32 != 0] = [bit (n : Int) 0, bit (n : Int) 1, bit (n : Int) 2, bit (n : Int) 3, bit (n : Int) 4, bit (n : Int) 5] := by decide +kernel
  exact key n (by omega)
theorem and1 {f : Int} (hf0 : 0 ≤ f) (hf : f < 64) : (Builtin.bitAnd f 1 != 0) = bit f 0 := (List.cons.inj (sixes_eq hf0 hf)).1
theorem and2 {f : Int} (hf0 : 0 ≤ f) (hf : f < 64) : (Builtin.bitAnd f 2 != 0) = bit f 1 := (List.cons.inj (List.cons.inj (sixes_eq hf0 hf)).2).1
abbrev sixBits (f : Int) : List Value := [.bool (bit f 0), .bool (bit f 1), .bool (bit f 2), .bool (bit f 3), .bool (bit f 4), .bool (bit f 5)]
section
variable {prog : Program} {w : World} {A : Around} {E : Value → Shared → Prop} {s : Shared} {h₀ : Heap} {L : Addr} {m : Str → Option Value} {news : List (Addr × Obj)} {Q : Value → Shared → Prop}
theorem reads_six {h : Heap} {a : Addr} {b0 b1 b2 b3 b4 b5 : Bool} (hg : h.get? a = some (LCg.lst [.bool b0, .bool b1, .bool b2, .bool b3, .bool b4, .bool b5])) :
    Reads h (.ref a) (.list [.bool b0, .bool b1, .bool b2, .bool b3, .bool b4, .bool b5]) [a] :=
  reads_list_at (as := []) hg rfl rfl (.cons (Reads.bool _) (.cons (Reads.bool _) (.cons (Reads.bool _) (.cons (Reads.bool _) (.cons (Reads.bool _) (.cons (Reads.bool _) .nil))))))
theorem ne_sixes {a b : Addr} {f : Int} (N : News h₀ L s.heap news)
    (ha : (a, LCg.lst [.bool (Builtin.bitAnd f 1 != 0), .bool (Builtin.bitAnd f 2 != 0), .bool (Builtin.bitAnd f 4 != 0), .bool (Builtin.bitAnd f 8 != 0), .bool (Builtin.bitAnd f 16 != 0), .bool (Builtin.bitAnd f 32 != 0)]) ∈ news)
    (hb : (b, LCg.lst (sixBits f)) ∈ news) (hf0 : 0 ≤ f) (hf : f < 64) (hu : A.units + 64 < cLine) (h : Q (.bool false) s) : wpAny (model prog w) A (compareOp .NotEq (.ref a) (.ref b)) Q E s := by
  refine ne_dataH (reads_six (N.get ha)) (reads_six (N.get hb)) rfl rfl hu ?_
  have e := sixes_eq hf0 hf
  simp only [List.cons.injEq] at e
  obtain ⟨e0, e1, e2, e3, e4, e5, _⟩ := e
  rw [e0, e1, e2, e3, e4, e5]
  have z : PyData.eqv (.list [.bool (bit f 0), .bool (bit f 1), .bool (bit f 2), .bool (bit f 3), .bool (bit f 4), .bool (bit f 5)]) (.list [.bool (bit f 0), .bool (bit f 1), .bool (bit f 2), .bool (bit f 3), .bool (bit f 4), .bool (bit f 5)]) = true := by
    generalize bit f 0 = x0; generalize bit f 1 = x1; generalize bit f 2 = x2; generalize bit f 3 = x3; generalize bit f 4 = x4; generalize bit f 5 = x5
    simp [PyData.eqv, PyData.eqvAll]
  rw [z]
  exact h
theorem ne_int_same {a : Int} {t u : Tok} (h : Q (.bool false) s) : wpAny (model prog w) A (compareOp .NotEq (.int a t) (.int a u)) Q E s := ne_int (by rw [bne_self_eq_false]; exact h)
theorem ne_bool_same {a : Bool} (h : Q (.bool false) s) : wpAny (model prog w) A (compareOp .NotEq (.bool a) (.bool a)) Q E s := ne_bool (by rw [bne_self_eq_false]; exact h)
theorem bits_item {value slice : Expr} {l : Addr} {f k : Int} {u : Tok} (N : News h₀ L s.heap news) (hl : (l, LCg.lst (sixBits f)) ∈ news) (h0 : 0 ≤ k) (h1 : k < 6) (h : Q (.bool (bit f k)) s)
    (hs : subscripted slice false (.ref l) (.int k u) = operate [.ref l, .int k u] (getItem (.ref l) (.int k u)) := by with_unfolding_all rfl) :
    wpAny (model prog w) A (subscriptTail value slice (.ref l) (.int k u)) Q E s := by
  have hl' : s.heap.IsList l (sixBits f).toArray := ⟨_, (N _ hl).1, rfl, _, rfl⟩
  refine tail_any hl'.typeIs slot_list_getitem.lookup (wpAny_getItem_list hl' h0 (by omega) (x := .bool (bit f k)) ?_ h) hs
  have hk : k = 0 ∨ k = 1 ∨ k = 2 ∨ k = 3 ∨ k = 4 ∨ k = 5 := by omega
  rcases hk with rfl | rfl | rfl | rfl | rfl | rfl <;> rfl
theorem any_six {l : Addr} {f a : Int} (F : Fr h₀ L s.heap m) (N : News h₀ L s.heap news) (hh : A.handled = none)
    (hl : (l, LCg.lst [.bool (bit f 0 && bit a 0), .bool (bit f 1 && bit a 1), .bool (bit f 2 && bit a 2), .bool (bit f 3 && bit a 3), .bool (bit f 4 && bit a 4), .bool (bit f 5 && bit a 5)]) ∈ news)
    (hf0 : 0 ≤ f) (hf : f < 64) (ha0 : 0 ≤ a) (h : ∀ (h' : Heap) (tk : Nat), Fr h₀ L h' m → News h₀ L h' news → Q (.bool (Builtin.bitAnd f a != 0)) { s with heap := h', toks := tk }) :
    wpAny (model prog w) A (call (.builtin "any") [.ref l]) Q E s := by
  refine LSm.any_bools F N hh ⟨_, (N _ hl).1, rfl, _, rfl⟩ (.cons _ (.cons _ (.cons _ (.cons _ (.cons _ (.cons _ .nil)))))) fun h' tk F' N' => ?_
  have e : [bit f 0 && bit a 0, bit f 1 && bit a 1, bit f 2 && bit a 2, bit f 3 && bit a 3, bit f 4 && bit a 4, bit f 5 && bit a 5].any id = (Builtin.bitAnd f a != 0) := by
    rw [any_eq hf0 hf ha0]
    simp only [List.any_cons, List.any_nil, id_eq, Bool.or_false, Bool.or_assoc]
  rw [e]
  exact h h' tk F' N'

/-- a known int comes back, all else as it was -/
def IntIs (r : Int) (h₀ : Heap) (L : Addr) (m : Str → Option Value) (news : List (Addr × Obj)) (s : Shared) (v : Value) (s' : Shared) : Prop :=
  ∃ (t : Tok) (h : Heap) (tk : Nat), v = .int r t ∧ s' = { s with heap := h, toks := tk } ∧ Fr h₀ L h m ∧ News h₀ L h news
theorem int_is_end {r r' : Int} {h : Heap} {news' : List (Addr × Obj)} {s' : Shared} {v : Value} {t : Tok} {tk : Nat}
    (hv : v = .int r' t) (e : r = r') (hs : s' = { s with heap := h, toks := tk }) (F : Fr h₀ L h m) (N : News h₀ L h news') (hn : ∀ p ∈ news, p ∈ news') : IntIs r h₀ L m news s v s' := by
  subst e
  exact ⟨t, h, tk, hv, hs, F, fun p hp => N p (hn p hp)⟩
abbrev segLen (k : Int) (B : Array UInt8) : Int := (B.size : Int) + (if bit k 0 = true then 1 else 0) + (if bit k 1 = true then 1 else 0)
theorem seg11 {k : Int} {B : Array UInt8} (h0 : 0 ≤ k) (hk : k < 64) (a : Builtin.bitAnd k 2 ≠ 0) (b : Builtin.bitAnd k 1 ≠ 0) : segLen k B = (B.size : Int) + 1 + 1 := by
  unfold segLen
  rw [← and1 h0 hk, ← and2 h0 hk, if_pos (bne_iff_ne.mpr a), if_pos (bne_iff_ne.mpr b)]
theorem seg10 {k : Int} {B : Array UInt8} (h0 : 0 ≤ k) (hk : k < 64) (a : Builtin.bitAnd k 2 ≠ 0) (b : Builtin.bitAnd k 1 = 0) : segLen k B = (B.size : Int) + 1 := by
  unfold segLen
  rw [← and1 h0 hk, ← and2 h0 hk, if_pos (bne_iff_ne.mpr a), b, if_neg (by decide)]; omega
theorem seg01 {k : Int} {B : Array UInt8} (h0 : 0 ≤ k) (hk : k < 64) (a : Builtin.bitAnd k 2 = 0) (b : Builtin.bitAnd k 1 ≠ 0) : segLen k B = (B.size : Int) + 1 := by
  unfold segLen
  rw [← and1 h0 hk, ← and2 h0 hk, if_pos (bne_iff_ne.mpr b), a, if_neg (by decide)]; omega
theorem seg00 {k : Int} {B : Array UInt8} (h0 : 0 ≤ k) (hk : k < 64) (a : Builtin.bitAnd k 2 = 0) (b : Builtin.bitAnd k 1 = 0) : segLen k B = (B.size : Int) := by
  unfold segLen
  rw [← and1 h0 hk, ← and2 h0 hk, a, b, if_neg (by decide)]; omega
theorem len_join {M : Model} {c : Sem Value} {k : Int} {B : Array UInt8} (xk : k < 64) (xB : B.size ≤ 9) (xF : Fr h₀ L s.heap m) (xN : News h₀ L s.heap news)
    (hc : Within → wpAny M A c (fun v s₂ => IntIs (segLen k B) h₀ L m news s v s₂) E s)
    (hk : ∀ (t : Tok) (h : Heap) (tk : Nat), Fr h₀ L h m → News h₀ L h news → Q (.int (segLen k B) t) { s with heap := h, toks := tk }) : wpAny M A c Q E s := by
  refine wpAny_mono (hc within) (fun v s₂ hq => ?_) fun _ _ h => h
  obtain ⟨t, h, tk, hv, hs, F, N⟩ := hq
  subst hv; subst hs
  exact hk t h tk F N
end
section
variable {prog : Program} {w : World} {A : Around} {h₀ : Heap} {L : Addr} {m : Str → Option Value} {env : Env} {elt : Expr} {x : Str} {scope : Scope} {cl : List (Str × Addr)} {s : Shared} {S : List (Addr × Obj) → Prop} {Fin : List Value → List (Addr × Obj) → Prop}
theorem and_rest {news : List (Addr × Obj)} {f a : Int} {cb cw Db Dw : Addr} {ob ow : Obj}
    (xcb : cl.lookup (Str.ofString "bits") = some cb) (xob : (cb, ob) ∈ news) (xdb : ob.data = .cell (some (.ref Db))) (xb : (Db, LCg.lst (sixBits f)) ∈ news)
    (xcw : cl.lookup (Str.ofString "wanted") = some cw) (xow : (cw, ow) ∈ news) (xdw : ow.data = .cell (some (.ref Dw))) (xw : (Dw, LCg.lst (sixBits a)) ∈ news)
    (turn : ∀ (k : Int) (t : Tok) I oI C oC D m₂ ys h tk (E' : Value → Shared → Prop), 0 ≤ k → k < 6 → LCg.NsObj oC m₂ → m₂ x = some (.int k t) → Fr h₀ L h m →
      News h₀ L h ((I, oI) :: (C, oC) :: (D, LCg.lst ys) :: news) → LCg.Off3 I C D news → ((@Ne Nat I C) ∧ (@Ne Nat I D) ∧ (@Ne Nat C D)) →
      wpAny (model prog w) A (eval elt (compEnvC scope cl C env)) (LCg.CompEnd h₀ L m { s with heap := h, toks := tk } I oI C oC D (LCg.lst ys) S (fun y news' => SixEl news (bit f k && bit a k) y news')) E' { s with heap := h, toks := tk })
    (fin : Fin [.bool (bit f 0 && bit a 0), .bool (bit f 1 && bit a 1), .bool (bit f 2 && bit a 2), .bool (bit f 3 && bit a 3), .bool (bit f 4 && bit a 4), .bool (bit f 5 && bit a 5)] news) :
    LCg.CompRest prog w A h₀ L m env elt x scope cl s S (fun i v => ∃ t, v = .int (0 + (i : Int)) t) Fin 6 0 [] news := six_rest (fun k => bit f k && bit a k) turn fin
end
section
variable {prog : Program} {w : World} {A : Around} {E : Value → Shared → Prop} {s : Shared} {env : Env} {h₀ : Heap} {x : Str} {body : List Stmt} {Q : Flow → Shared → Prop}
theorem asked_loop {l aw : Addr} {ow : Obj} {dw : Option Value} {k1 k2 : Int} {t1 t2 : Tok} {nn : Nat} {m₀ : Str → Option Value} (pre post : List (Addr × Obj))
    (hh : A.handled = none) (hl : (l, listOf #[.int k1 t1, .int k2 t2] nn) ∈ pre) (h1 : 0 ≤ k1) (h2 : 0 ≤ k2) (F : Fr h₀ env.locals s.heap m₀) (N : News h₀ env.locals s.heap (pre ++ (aw, ow) :: post)) (hd : ow.data = .cell dw)
    (turn : ∀ (ow : Obj) (dw : Option Value) (before : List Int) (k : Int) t (u : Str → Option Value) h tk own, 0 ≤ k → OwnOff own ((pre ++ (aw, ow) :: post).map (·.1)) → ow.data = .cell dw → KstMark →
      Fr h₀ env.locals h (fun y => if y = x then some (.int k t) else m₀ y) → News h₀ env.locals h ((pre ++ (aw, ow) :: post) ++ own) →
      wpAny (model prog w) A (execs body env) (InvPostN h₀ env.locals (KstS (fun c : Obj × Option Value => pre ++ (aw, c.1) :: post) (fun _ => []) (fun c => c.1.data = .cell c.2) x [] m₀ (fun _ _ => True) (before ++ [k])) own ((pre ++ (aw, ow) :: post).map (·.1)) { s with heap := h, toks := tk } Q) E { s with heap := h, toks := tk })
    (done : ∀ (ow : Obj) (dw : Option Value) (u : Str → Option Value) h tk, ow.data = .cell dw → KstMark → Fr h₀ env.locals h (fun y => if y = x then u y else m₀ y) → News h₀ env.locals h (pre ++ (aw, ow) :: post) → Q .next { s with heap := h, toks := tk }) :
    wpAny (model prog w) A (pyIter (.ref l)) (fun it s₂ => LoopAtV prog w A h₀ env x body Q E it s₂) E s := by
  refine kst_listL (vs := [.int k1 t1, .int k2 t2]) (ns := [k1, k2]) (nn := nn) (σ := Obj × Option Value) (fun c => pre ++ (aw, c.1) :: post) (fun _ => []) (fun c => c.1.data = .cell c.2) [] (fun _ _ => True) (ow, dw)
    hh (fun c => List.mem_append_left _ hl) (.cons _ _ (.cons _ _ .nil)) F N hd (fun _ hp => nomatch hp) trivial ?_ ?_
  · rintro ⟨p1, e1⟩ before after k t u h tk own _ hk hoff g1 _ F' N'
    have ea : ((pre ++ (aw, p1) :: post).map (·.1)) = ((pre ++ (aw, ow) :: post).map (·.1)) := by simp
    have hk0 : 0 ≤ k := by
      simp only [List.mem_cons, List.not_mem_nil, or_false] at hk
      rcases hk with rfl | rfl
      · exact h1
      · exact h2
    have z := turn p1 e1 before k t u h tk own hk0 (ea ▸ hoff) g1 kstMark F' N'
    rw [ea] at z
    exact z
  · rintro ⟨p1, e1⟩ u h tk g1 _ F' N'
    exact done p1 e1 u h tk g1 kstMark F' N'
end
theorem narrow2 {h₀ h : Heap} {L : Addr} {p0 p1 p2 p3 p4 p5 p6 p7 q1 q2 q3 : Addr × Obj} {own : List (Addr × Obj)} (N : News h₀ L h (p0 :: p1 :: p2 :: p3 :: p4 :: p5 :: p6 :: p7 :: q1 :: q2 :: q3 :: own)) : News h₀ L h (p3 :: p5 :: p6 :: p7 :: q1 :: q2 :: q3 :: own) := fun p hp => N p (by
  simp only [List.mem_cons] at hp ⊢
  rcases hp with h | h | h | h | h | h | h | h <;> simp [h])
section
variable {h₀ h' : Heap} {L : Addr} {m₀ : Str → Option Value} {s₁ : Shared} {tk : Nat} {own news' : List (Addr × Obj)} {adr : List Addr} {pre : List Int}
theorem asked_end {x : Str} {v : Value} {Led : Obj × Option Value → List (Addr × Obj)} (c : Obj × Option Value) (F : Fr h₀ L h' (fun y => if y = x then some v else m₀ y)) (N : News h₀ L h' news')
    (hn : ∀ p ∈ Led c, p ∈ news') (ho : ∀ p ∈ own, p ∈ news') (ha : (Led c).map (·.1) = adr) (hf : c.1.data = .cell c.2) :
    InvEndN h₀ L (KstS Led (fun _ => []) (fun c => c.1.data = .cell c.2) x [] m₀ (fun _ _ => True) pre) own adr s₁ { s₁ with heap := h', toks := tk } :=
  kst_end c F N hn ho ha hf (fun _ hp => nomatch hp) (fun z h1 _ _ => by rw [if_neg h1]) trivial
theorem flags_end {a x : Str} {v : Value} {u u' : Str → Option Value} {Led : Cells3 → List (Addr × Obj)} (c : Cells3) (F : Fr h₀ L h' (fun y => if y = a then u' y else if y = x then some v else if [a].contains y then u y else m₀ y)) (N : News h₀ L h' news')
    (hn : ∀ p ∈ Led c, p ∈ news') (ho : ∀ p ∈ own, p ∈ news') (ha : (Led c).map (·.1) = adr) (h1 : c.1.data = .cell c.2.1) (h2 : c.2.2.1.data = .cell c.2.2.2.1) (h3 : c.2.2.2.2.1.data = .cell c.2.2.2.2.2) :
    InvEndN h₀ L (KstS Led (fun _ => []) (fun c => c.1.data = .cell c.2.1 ∧ c.2.2.1.data = .cell c.2.2.2.1 ∧ c.2.2.2.2.1.data = .cell c.2.2.2.2.2) x [a] m₀ (fun _ _ => True) pre) own adr s₁ { s₁ with heap := h', toks := tk } :=
  kst_end c F N hn ho ha ⟨h1, h2, h3⟩ (fun _ hp => nomatch hp) (fun z q1 _ q3 => by
    have q4 : z ≠ a := by
      intro e
      subst e
      simp at q3
    show (if z = a then u' z else if z = x then some v else if [a].contains z then u z else m₀ z) = m₀ z
    rw [if_neg q4, if_neg q1, q3]
    rfl) trivial
end
theorem and_on {f k : Int} {b : Bool} (h : (f.fdiv (2 ^ k.toNat)).fmod 2 = 1) : Value.bool b = Value.bool (bit f k && b) := by
  unfold bit; rw [h]; rfl
theorem and_off {f k : Int} {b : Bool} (h : (f.fdiv (2 ^ k.toNat)).fmod 2 ≠ 1) : Value.bool (bit f k) = Value.bool (bit f k && b) := by
  unfold bit; rw [beq_eq_false_iff_ne.mpr h]; rfl
end Mine
open Mine
-- a part of the heap that is written out still stands
local macro_rules | `(tactic| k_in) => `(tactic| (refine' Frag.In.keeps ?ka (Fr.keep ?kb); (case kb => with_reducible assumption); (case ka => with_reducible assumption)))
-- the top's walk
local macro_rules | `(tactic| walk_at "eval IfExp") => `(tactic| (
  k_here
  (fail_if_success (have z9 : Within := by with_reducible assumption))
  (rename Fr _ _ _ _ => cF')
  (rename News _ _ _ _ => cN')
  (refine int_back cF' cN' ?_ ?_)
  (all_goals show _)
  intro z9
  rotate_left
  intro _ _ _ _ cF' cN'
  rotate_right
  (all_goals (try k_sweep))
  (all_goals (try k_fold))))
local macro_rules | `(tactic| walk_at "IntBack") => `(tactic| (refine int_back_end (by with_unfolding_all rfl) rfl (by k_asm) (by k_asm) (by first | (with_reducible kcj_in) | kcj_all)))
local macro_rules | `(tactic| walk_at "leaving ref") => `(tactic| (exfalso; (rename (decide (_ = ([] : List Int)) = false) => hz9); (have hz8 := len_pos hz9); omega))
-- the draws
local macro_rules | `(tactic| walk_at "call ref") => `(tactic| (
  k_here
  (with_reducible show wpAny _ _ (PySem.call (Value.ref 78) [Value.ref _, Value.int _ _]) _ _ _)
  (fail_if_success (have z9 : Within := by with_reducible assumption))
  (rename Fr _ _ _ _ => cF')
  (rename News _ _ _ _ => cN')
  (with_unfolding_all (first
    | refine drawn [] _ cF' cN' ?_ ?_
    | refine drawn [_] _ cF' cN' ?_ ?_
    | refine drawn [_, _] _ cF' cN' ?_ ?_
    | refine drawn [_, _, _] _ cF' cN' ?_ ?_))
  (all_goals show _)
  intro _ _ _ _ _ _ z9 dF' dN'
  rotate_left
  intro _ _ _ _ _ _ _ _ hlo' hhi' dF' dN'
  rotate_right
  (all_goals (clear cF' cN'))
  (all_goals (try simp only [List.nil_append, List.cons_append] at dN'))
  (all_goals (try k_sweep))
  (all_goals (try k_fold))))
local macro_rules | `(tactic| walk_at "Drawn") => `(tactic| (
  refine drawn_end (by with_unfolding_all rfl) rfl ?db1 ?db2 (by k_asm) (by k_asm) (by first | (with_reducible kcj_in) | kcj_all)
  (case db1 => exact PySem.W.fmod_lo _ (by decide))
  (case db2 => exact PySem.W.fmod_hi _ (by decide))))
local macro_rules | `(tactic| walk_at "CompSrc") => `(tactic| (
  k_here
  (with_unfolding_all (
    refine LCg.CompSrc.range (by rfl) (by k_asm) (by k_asm) (by k_asm) (small_one (by decide) (by decide) (by omega) (by omega)) (rangeSize_nat _ _) (by rw [PySem.sizeLine_eq]; omega) ?_
    intro g'
    first
    | refine oct_rest [] _ ?_ ?_
    | refine oct_rest [_] _ ?_ ?_))
  (all_goals show _)
  intro _ _ _ _ _ _ I' oI' C' oC' D' m' ys' h' tk' E' hC' hx' F' N' off' ne'
  rotate_left
  intro ys' ns' _ _ _ _ hy' hlen' hb'
  rotate_right
  (all_goals (try simp only [List.nil_append, List.cons_append] at *))
  (all_goals (try simp only [LCg.Off3, and_true] at off'))
  (all_goals (try k_fold))))
local macro_rules | `(tactic| walk_at "OctEl") => `(tactic| (
  refine oct_el (by with_unfolding_all rfl) ?oe1 ?oe2 (by with_unfolding_all rfl)
  (case oe1 => first | omega | exact PySem.W.fmod_lo _ (by decide))
  (case oe2 => first | omega | exact PySem.W.fmod_hi _ (by decide))))
local macro_rules | `(tactic| walk_at "call type:bytes") => `(tactic| (
  k_here
  (rename Fr _ _ _ _ => cF')
  (rename News _ _ _ _ => cN')
  (rename IntsAre _ _ => ci')
  (refine octets_K cF' cN' ci' (by k_asm) (by omega) (by with_unfolding_all rfl) ?_)
  (show _)
  intro _ _ _ _ hoct' dF' dN'
  (clear ci' cF' cN')
  (try k_sweep)
  (try k_fold)))
local macro_rules | `(tactic| walk_at "binaryOp Mult int int") => `(tactic| (
  (with_reducible show wpAny _ _ (binaryOp Operator.Mult (Value.int (List.getD _ _ _) _) (Value.int (List.getD _ _ _) _)) _ _ _)
  (with_reducible refine mul_int ?_ mulOk_src)))
-- the turn: the row of six by the law's bits
local macro_rules | `(tactic| walk_at "CompSrc") => `(tactic| (
  k_here
  (with_unfolding_all (
    refine LCg.CompSrc.range (n := 6) (a := 0) (by rfl) (by k_asm) (by k_asm) (by k_asm) (by decide) (by rfl) (by rw [PySem.sizeLine_eq]; omega) ?_
    intro g'
    refine' six_rest _ (fun k' t' I' oI' C' oC' D' m' ys' h' tk' E' hlo' hhi' hC' hx' F' N' off' ne' => ?_) ?_))
  (all_goals (try (simp only [LCg.Off3, and_true] at off')))
  kcf_last))
-- the row of six by has
local macro_rules | `(tactic| walk_at "CompSrc") => `(tactic| (
  k_here
  (with_unfolding_all (
    refine LCg.CompSrc.ledger (by rfl) (by k_asm) (by k_asm) (by k_mem) (by first | size_fits | exact Nat.le_of_ble_eq_true rfl) ?_
    intro g'
    refine' has_rest _ (fun k' t' I' oI' C' oC' D' m' ys' h' tk' E' hC' hx' F' N' off' ne' => ?_) ?_))
  (all_goals (try (simp only [LCg.Off3, and_true] at off')))
  kcf_last))
-- the row of six by and
local macro_rules | `(tactic| walk_at "CompSrc") => `(tactic| (
  k_here
  (with_reducible show LCg.CompSrc _ _ _ _ _ _ _ (PySem.Expr.BoolOp _ _ _) _ _ _ _ _ _)
  (with_unfolding_all (
    refine LCg.CompSrc.range (n := 6) (a := 0) (by rfl) (by k_asm) (by k_asm) (by k_asm) (by decide) (by rfl) (by rw [PySem.sizeLine_eq]; omega) ?_
    intro g'
    refine and_rest (by rfl) (by k_mem) (by k_asm) (by k_mem) (by rfl) (by k_mem) (by k_asm) (by k_mem) ?_ ?_))
  (all_goals show _)
  intro k' t' I' oI' C' oC' D' m' ys' h' tk' E' hlo' hhi' hC' hx' F' N' off' ne'
  (try (simp only [LCg.Off3, and_true] at off'))
  kcf_last))
local macro_rules | `(tactic| walk_at "CompEnd") => `(tactic| (
  refine six_end (by k_asm) (by k_asm) (by kcf_all) (by first | assumption | (simp only [LCg.Off3, and_true]; done) | (simp only [LCg.Off3, and_true]; assumption)) (by first | lcg_src | assumption) (by first | (with_unfolding_all rfl) | (exact and_on (by k_asm)) | (exact and_off (by k_asm)))))
local macro_rules | `(tactic| walk_at "compareOp NotEq ref ref") => `(tactic| (
  k_here
  (with_reducible show wpAny _ _ (compareOp CmpOp.NotEq (Value.ref _) (Value.ref _)) _ _ _)
  (with_unfolding_all refine ne_sixes (by k_asm) (by k_mem) (by k_mem) (by k_asm) (by k_asm) (by ke_room) ?_)))
local macro_rules | `(tactic| walk_at "compareOp NotEq int int") => `(tactic| (with_reducible refine ne_int_same ?_))
local macro_rules | `(tactic| walk_at "compareOp NotEq bool bool") => `(tactic| (with_reducible refine ne_bool_same ?_))
local macro_rules | `(tactic| walk_at "subscriptTail Name Name ref int") => `(tactic| (
  k_here
  (with_unfolding_all refine bits_item (by k_asm) (by k_mem) (by k_asm) (by k_asm) ?_)))
local macro_rules | `(tactic| walk_at "call builtin:any") => `(tactic| (
  k_here
  (with_unfolding_all refine any_six (by k_asm) (by k_asm) (by rfl) (by k_mem) (by k_asm) (by k_asm) (by k_asm) ?_)
  (show _)
  (intro h' tk' F' N')
  (try k_sweep)))
local macro_rules | `(tactic| walk_at "call ref") => `(tactic| (
  k_here
  (with_reducible show wpAny _ _ (PySem.call (Value.ref 50) _) _ _ _)
  (with_unfolding_all show wpAny _ _ (PySem.call (Value.ref _) [Value.ref _]) _ _ _)
  (fail_if_success (have z9 : Within := by with_reducible assumption))
  (rename (_ < (64 : Int)) => hk9)
  (rename (_ ≤ 9) => hB9)
  (rename Fr _ _ _ _ => cF')
  (rename News _ _ _ _ => cN')
  (refine len_join hk9 hB9 cF' cN' ?_ ?_)
  (all_goals show _)
  intro z9
  rotate_left
  intro _ _ _ dF' dN'
  clear cF' cN'
  rotate_right
  (all_goals (try k_sweep))
  (all_goals (try k_fold))))
local macro_rules | `(tactic| walk_at "IntIs") => `(tactic| (
  refine int_is_end (by with_unfolding_all rfl) ?ii (by rfl) (by k_asm) (by k_asm) (by first | (with_reducible kcj_in) | kcj_all)
  (case ii => first | exact seg11 (by k_asm) (by k_asm) (by k_asm) (by k_asm) | exact seg10 (by k_asm) (by k_asm) (by k_asm) (by k_asm) | exact seg01 (by k_asm) (by k_asm) (by k_asm) (by k_asm) | exact seg00 (by k_asm) (by k_asm) (by k_asm) (by k_asm))))
-- the loop over the two sets of flags that are asked for
local macro_rules | `(tactic| walk_at "pyIter ref") => `(tactic| (
  k_here
  (with_reducible show wpAny _ _ (pyIter (Value.ref _)) (fun it s₂ => LoopAtV _ _ _ _ _ _ _ _ _ it s₂) _ _)
  (rename Fr _ _ _ _ => cF')
  (rename News _ _ _ _ => cN')
  (with_unfolding_all refine asked_loop [_, _, _, _] (_ :: _ :: _) (by rfl) (by k_memK) (by k_asm) (by k_asm) cF' (narrow2 cN') (by k_asm) ?_ ?_)
  (all_goals show _)
  intro _ _ before' k' t' u' h' tk' own' hlo' kOff hd1' kMark' F' N'
  rotate_left
  intro _ _ u' h' tk' hd1' kMark' F' N'
  rotate_right
  (all_goals clear cF' cN')
  (all_goals (try simp only [List.nil_append, List.cons_append, List.append_nil] at N'))
  (all_goals (try simp only [List.nil_append, List.cons_append, List.append_nil, List.map_cons, List.map_nil] at kOff))
  (all_goals (try k_fold))))
local macro_rules | `(tactic| walk_at "InvEndN") => `(tactic| (
  (with_reducible show InvEndN _ _ (KstS _ _ _ _ [_] _ _ _) _ _ _ _)
  (with_unfolding_all refine flags_end ⟨_, _, _, _, _, _⟩ (by k_asm) (by k_asm) (by first | (with_reducible kcj_in) | kcj_all) (by first | (with_reducible kcj_in) | kcj_all) (by rfl) (by k_asm) (by k_asm) (by k_asm))))
local macro_rules | `(tactic| walk_at "InvEndN") => `(tactic| (
  (with_reducible show InvEndN _ _ (KstS _ _ _ _ [] _ _ _) _ _ _ _)
  (with_unfolding_all refine asked_end ⟨_, _⟩ (by k_asm) (by k_asm) (by first | (with_reducible kcj_in) | kcj_all) (by first | (with_reducible kcj_in) | kcj_all) (by rfl) (by k_asm))))
-- the loop over the flags
local macro_rules | `(tactic| walk_at "pyIter ref") => `(tactic| (
  k_here
  (with_reducible show wpAny _ _ (pyIter (Value.ref _)) (fun it s₂ => LoopAtV _ _ _ _ _ _ _ _ _ it s₂) _ _)
  (rename IsRange _ _ 0 64 1 _ _ _ => rg')
  (rename Fr _ _ _ _ => cF')
  (rename News _ _ _ _ => cN')
  (with_unfolding_all refine flags_loop [_] [] [Str.ofString "asked"] (by rfl) rg' cF' (narrow cN') (by k_asm) (by k_asm) (by k_asm) ?_ ?_)
  (all_goals show _)
  intro _ _ _ _ _ _ before' k' t' u' h' tk' own' hlo' hhi' kOff hd1' hd2' hd3' kMark' F' N'
  rotate_left
  intro _ _ _ _ _ _ u' h' tk' kMark' F' N'
  rotate_right
  (all_goals clear cF' cN' rg')
  (all_goals (try simp only [List.nil_append, List.cons_append, List.append_nil] at N'))
  (all_goals (try simp only [List.nil_append, List.cons_append, List.append_nil, List.map_cons, List.map_nil] at kOff))
  (all_goals (try k_fold))))
set_option maxRecDepth 100000 in
set_option maxHeartbeats 16000000 in
theorem PySem.Challenge.cw_xw0323_01_holds : PySem.Challenge.rw_xw0323_01.Holds := by
  w_on
  o_law
  k_head
  case hw => w_witness2
  w_strict (k_go0; (all_goals try k_fold); k_steps; (all_goals (try k_data)); all_goals w_report)
