import PyProof.Rows.All
import Wide.All
import OpenK.AllK
import Wide.FinOn
import HandS.ForMost
import HandS.ForExc
import HandS.IsInst
import HandS.Wide
import HandS.WideBits
import HandS.Flow
import HandS.Steps
import HandS.ExcInit
import HandS.HotCalls
import HandS.ExcIs
import HandS.Evl
import PySem.Challenge.RW_shadowpages_k05_places
set_option Elab.async false
set_option linter.all false
set_option maxRecDepth 100000
namespace Z
open PySem PySem.Spec PyProof.Rows L2 Evl
/-! defs packed: a def of the top by its name; a method of a class; a class made -/
structure Dn (P : Program) (w : World) (K : PySem.W.Frag) (mg : Str → Option Value) (base : Heap) (k : Nat) (x : Str) (sp : Sp) : Prop where
  ex : ∃ (f : Addr) (fd : FuncData) (ps : List Str), FnOk P w K mg base (L2.CX P w) k f fd ps sp ∧ mg x = some (.ref f) ∧ PySem.W.keepIn K (.ref f) = true ∧ Binds K fd ps []
structure Mn (P : Program) (w : World) (K : PySem.W.Frag) (mg : Str → Option Value) (base : Heap) (k : Nat) (C : Addr) (m : Str) (sp : Sp) : Prop where
  ex : ∃ (f : Addr) (fd : FuncData) (ps : List Str), FnOk P w K mg base (L2.CX P w) k f fd ps sp ∧ Cls K C ∧ Meth K C m f ∧ Binds K fd ps []
/-- the def as the top left it -/
structure Df (K : PySem.W.Frag) (mg : Str → Option Value) (x : Str) (st : Stmt) (ps : List Str) : Prop where
  ex : ∃ (f : Addr) (fd : FuncData), Fun K x x st f fd ∧ mg x = some (.ref f) ∧ ∀ us : List Value, us.length = ps.length → bindArgs fd ⟨us, []⟩ = pure (ps.zip us)
structure Mf (K : PySem.W.Frag) (C : Addr) (m q : Str) (st : Stmt) (ps : List Str) : Prop where
  ex : ∃ (f : Addr) (fd : FuncData), Fun K m q st f fd ∧ Meth K C m f ∧ Binds K fd ps []
section
variable {P : Program} {w : World} {K : PySem.W.Frag} {mg : Str → Option Value} {base : Heap} {x : Str} {st : Stmt} {ps N : List Str} {k : Nat} {sp : Sp} {C : Addr} {m q : Str}
/-- a def keeps its promise by its body -/
theorem Df.dn (F : Df K mg x st ps) (S : FnScope N ps (defScope st)) (len : ∀ vs H Q E, sp vs H Q E → vs.length = ps.length)
    (hbody : ∀ (cdv : Value) (f : Addr) (A : Around) (outer : List Env) (s : Shared) (H : Hp) (vs : List V) (Q : VK) (E : XK), Room k (A.deeper (envOfC x (defScope st) s.heap.objs.size f cdv)) → sp vs H Q E →
      ∃ t, PSs (cxOf (L2.CX P w) P w K mg base N x (defScope st) f cdv A outer s H E) (defBody st) t ∧ t { nx := fun _ H' => Q .non H', rt := Q } (start N vs) H) : Dn P w K mg base (k + 1) x sp := by
  obtain ⟨f, fd, F1, hm, hb⟩ := F.ex
  exact ⟨f, fd, ps, F1.okX S len (fun cdv A outer s H vs Q E hr h => hbody cdv f A outer s H vs Q E hr h), hm, F1.kp, .all hb⟩
/-- the law's own def -/
theorem Df.law {p : Str} {fa : Addr} (F : Df K mg x st [p]) (hfa : mg x = some (.ref fa)) (S : FnScope N [p] (defScope st)) (len : ∀ vs H Q E, sp vs H Q E → vs.length = [p].length)
    (hbody : ∀ base : Heap, K.In base → base.Ns mainGlobals mg → ∀ (cdv : Value) (f : Addr) (A : Around) (outer : List Env) (s : Shared) (H : Hp) (vs : List V) (Q : VK) (E : XK), Room k (A.deeper (envOfC x (defScope st) s.heap.objs.size f cdv)) → sp vs H Q E →
      ∃ t, PSs (cxOf (L2.CX P w) P w K mg base N x (defScope st) f cdv A outer s H E) (defBody st) t ∧ t { nx := fun _ H' => Q .non H', rt := Q } (start N vs) H) :
    ∃ fd : FuncData, (∀ (s : Shared) (u : Value), BindsTo s fd ⟨[u], []⟩ [(p, u)]) ∧ ∀ base : Heap, K.In base → base.Ns mainGlobals mg → FnOk P w K mg base (L2.CX P w) (k + 1) fa fd [p] sp := by
  obtain ⟨f, fd, F1, hm, hb⟩ := F.ex
  rw [hfa] at hm
  cases hm
  exact ⟨fd, fun s u => .of_eq (hb [u] rfl), fun base kb gb => F1.okX S len (fun cdv A outer s H vs Q E hr h => hbody base kb gb cdv _ A outer s H vs Q E hr h)⟩
theorem Mf.mn (F : Mf K C m q st ps) (c : Cls K C) (S : FnScope N ps (defScope st)) (len : ∀ vs H Q E, sp vs H Q E → vs.length = ps.length)
    (hbody : ∀ (cdv : Value) (f : Addr) (A : Around) (outer : List Env) (s : Shared) (H : Hp) (vs : List V) (Q : VK) (E : XK), Room k (A.deeper (envOfC q (defScope st) s.heap.objs.size f cdv)) → sp vs H Q E →
      ∃ t, PSs (cxOf (L2.CX P w) P w K mg base N q (defScope st) f cdv A outer s H E) (defBody st) t ∧ t { nx := fun _ H' => Q .non H', rt := Q } (start N vs) H) : Mn P w K mg base (k + 1) C m sp := by
  obtain ⟨f, fd, F1, hm, hb⟩ := F.ex
  exact ⟨f, fd, ps, F1.okX S len (fun cdv A outer s H vs Q E hr h => hbody cdv f A outer s H vs Q E hr h), c, hm, hb⟩
end
section
variable {X : Cx} {k j : Nat} {C : Addr} {sp : Sp} {W : WX} {x m : Str} {p pos apos : Pos} {e o : Expr} {es : List Expr} {ta : TE} {t : TA}
/-- f(e, ..) -/
theorem pe_d (D : Dn X.prog X.w X.K X.mg X.base k x sp) (hr : Room j X.A) (hk : k ≤ j) (tk : Takes X W) (ha : PA X (e :: es) t) (hg : Gl X x := by rfl) (hdb : (x == ("__debug__" : Str)) = false := by decide)
    (he : starEach (e :: es) X.env = (false, eval e X.env) :: starEach es X.env := by rfl) (hpl : (backTo pos (starEach es X.env)).any (·.1) = false := by rfl) : PE X (.Call (.Name x p) (e :: es) [] pos) (tCallS sp (WE W) t) := by
  obtain ⟨f, fd, ps, F, hm, kp, hb⟩ := D.ex
  exact pe_callS F (hr.mono hk) hg hm kp hb (fun σ => passAt tk σ) ha hdb he hpl
end
end Z
namespace Z
open PySem PySem.Spec PyProof.Rows L2 Evl
section
variable {X : Cx} {k j : Nat} {C : Addr} {sp : Sp} {W : WX} {x m : Str} {p pos apos : Pos} {e o : Expr} {es : List Expr} {ta : TE} {t : TA}
theorem pe_d0 (D : Dn X.prog X.w X.K X.mg X.base k x sp) (hr : Room j X.A) (hk : k ≤ j) (tk : Takes X W) (hg : Gl X x := by rfl) (hdb : (x == ("__debug__" : Str)) = false := by decide) : PE X (.Call (.Name x p) [] [] pos) (tCallS sp (WE W) tNil) := by
  obtain ⟨f, fd, ps, F, hm, kp, hb⟩ := D.ex
  refine ⟨fun pins s σ H Q I h => ?_⟩
  refine wpAny_Call_Name_kw (ld_glob I hg hm ?_ hdb)
  exact PySem.W.callWith_K0 I.kIn kp (run_fnS (us := []) (vs := []) (E := WE W) F (hr.mono hk) hb (passAt tk σ) I .nil h)
/-- o.m(e, ..) -/
def tMS (C : Addr) (m : Str) (sp : Sp) (E : L2.St → XK) (ta : TE) (t : TA) : TE := fun σ H Q => ta σ H fun x H1 => ∃ a dx fs, x = .ref a ∧ H1 a = some (.ins C dx fs) ∧ fs.lookup m = none ∧ t σ H1 fun vs H2 => sp (x :: vs) H2 Q (E σ)
theorem pe_m {pl : Sem Bool} (he : PE X o ta) (M : Mn X.prog X.w X.K X.mg X.base k C m sp) (hr : Room j X.A) (hk : k ≤ j) (tk : Takes X W) (ha : PA X (e :: es) t)
    (hst : starEach (e :: es) X.env = (false, eval e X.env) :: starEach es X.env := by rfl) (hpl : (backTo pos (starEach es X.env)).any (·.1) = false := by rfl)
    (ht : eval (.Call (.Attribute o m apos) (e :: es) [] pos) X.env = (do
      let ov ← eval o X.env
      standAt apos.atName
      let (f, first) ← holding [ov] (getMethod ov m pl)
      callWith pos f first (backTo pos (starEach (e :: es) X.env)) (backToKw pos (keywordEach [] X.env))) := by rfl) :
    PE X (.Call (.Attribute o m apos) (e :: es) [] pos) (tMS C m sp (WE W) ta t) := by
  obtain ⟨f, fd, ps, F, c, hm, hb⟩ := M.ex
  refine ⟨fun pins s σ H Q I h => ?_⟩
  refine PySem.W.methodCall_KW (pl := pl) (thn (he.run pins s σ H _ I h) fun u s1 ⟨x, H1, I1, rx, a, dx, fs, ex, ea, l, q⟩ => ?_) ht
  subst ex
  obtain rfl : u = Value.ref a := rx
  refine getmeth_ok I1 ea c hm l (PySem.W.callWith_K (first := [.ref a]) (h₀ := X.base) I.ok.mod.kin hm.kp (thn (ha.run pos pins s1 σ H1 _ I1 q) fun us s2 ⟨vs, H2, I2, r, q2⟩ => ⟨I2.kIn, ?_⟩) hst hpl)
  exact run_fnS (us := .ref a :: us) (vs := .ref a :: vs) (E := WE W) F (hr.mono hk) hb (passAt tk σ) I2 (.cons rfl r) q2
theorem pe_m0 {pl : Sem Bool} (he : PE X o ta) (M : Mn X.prog X.w X.K X.mg X.base k C m sp) (hr : Room j X.A) (hk : k ≤ j) (tk : Takes X W)
    (ht : eval (.Call (.Attribute o m apos) [] [] pos) X.env = (do
      let ov ← eval o X.env
      standAt apos.atName
      let (f, first) ← holding [ov] (getMethod ov m pl)
      callWith pos f first (backTo pos (starEach [] X.env)) (backToKw pos (keywordEach [] X.env))) := by rfl) :
    PE X (.Call (.Attribute o m apos) [] [] pos) (tMS C m sp (WE W) ta tNil) := by
  obtain ⟨f, fd, ps, F, c, hm, hb⟩ := M.ex
  refine ⟨fun pins s σ H Q I h => ?_⟩
  refine PySem.W.methodCall_KW (pl := pl) (thn (he.run pins s σ H _ I h) fun u s1 ⟨x, H1, I1, rx, a, dx, fs, ex, ea, l, q⟩ => ?_) ht
  subst ex
  obtain rfl : u = Value.ref a := rx
  refine getmeth_ok I1 ea c hm l (PySem.W.callWith_K0 (first := [.ref a]) I1.kIn hm.kp ?_)
  exact run_fnS (us := [.ref a]) (vs := [.ref a]) (E := WE W) F (hr.mono hk) hb (passAt tk σ) I1 (.cons rfl .nil) q
end
/-! ### steps of a reading -/
section
variable {σ : L2.St} {H : Hp} {Q : VK} {QT : Bool → Hp → Prop} {QA : List V → Hp → Prop} {D : Ends} {ta tb tc : TE} {t u : TT} {tu tw : TS} {v : V} {K : PySem.W.Frag}
theorem r_var {i : Nat} (h : σ[i]? = some (some v)) (k : Q v H) : tVar i σ H Q := ⟨v, h, k⟩
theorem r_c (k : Q v H) : tC v σ H Q := k
theorem r_op {r : R2} (k : ta σ H fun x H1 => tb σ H1 fun y H2 => r x y H2 Q) : tOp r ta tb σ H Q := k
theorem r_un {r : V → Hp → VK → Prop} (k : ta σ H fun x H1 => r x H1 Q) : tUn r ta σ H Q := k
theorem r_I0 {g : Int → Int → V} {i j : Int} (k : Q (g i j) H) : rI0 g (.int i) (.int j) H Q := ⟨i, j, rfl, rfl, k⟩
theorem r_I {c : Int → Int → Prop} {g : Int → Int → V} {i j : Int} (hc : c i j) (k : Q (g i j) H) : rI c g (.int i) (.int j) H Q := ⟨i, j, rfl, rfl, hc, k⟩
theorem r_U {g : Int → V} {i : Int} (k : Q (g i) H) : rU g (.int i) H Q := ⟨i, rfl, k⟩
theorem r_eq {x y : V} (h : scal x y = true) (k : Q (.bl (decide (x = y))) H) : rEq x y H Q := ⟨h, k⟩
theorem r_ne {x y : V} (h : scal x y = true) (k : Q (.bl (!decide (x = y))) H) : rNe x y H Q := ⟨h, k⟩
theorem r_eqI {i j : Int} (k : Q (.bl (decide (i = j))) H) : rEq (.int i) (.int j) H Q := ⟨rfl, by rw [show decide (V.int i = V.int j) = decide (i = j) from by simp]; exact k⟩
theorem r_neI {i j : Int} (k : Q (.bl (!decide (i = j))) H) : rNe (.int i) (.int j) H Q := ⟨rfl, by rw [show decide (V.int i = V.int j) = decide (i = j) from by simp]; exact k⟩
theorem r_eqB {i j : Bool} (k : Q (.bl (decide (i = j))) H) : rEq (.bl i) (.bl j) H Q := ⟨rfl, by rw [show decide (V.bl i = V.bl j) = decide (i = j) from by simp]; exact k⟩
theorem r_neB {i j : Bool} (k : Q (.bl (!decide (i = j))) H) : rNe (.bl i) (.bl j) H Q := ⟨rfl, by rw [show decide (V.bl i = V.bl j) = decide (i = j) from by simp]; exact k⟩
theorem r_test {te : TE} (k : te σ H fun x H1 => ∃ b, x = .bl b ∧ QT b H1) : tTest te σ H QT := k
theorem r_B {te : TE} (k : te σ H fun x H1 => ∃ b, x = .bl b ∧ QT b H1) : tB te σ H QT := k
theorem r_bl {b : Bool} {R : Bool → Prop} (k : R b) : ∃ c, V.bl b = .bl c ∧ R c := ⟨b, rfl, k⟩
theorem r_and (k : t σ H fun c H1 => if c = true then u σ H1 QT else QT false H1) : tAnd t u σ H QT := k
theorem r_or (k : t σ H fun c H1 => if c = true then QT true H1 else u σ H1 QT) : tOr t u σ H QT := k
theorem r_not (k : t σ H fun c H1 => QT (!c) H1) : tNot t σ H QT := k
theorem r_andV (k : ta σ H fun x H1 => ∃ c, x = .bl c ∧ if c = true then tb σ H1 Q else Q (.bl false) H1) : tAndV ta tb σ H Q := k
theorem r_orV (k : ta σ H fun x H1 => ∃ c, x = .bl c ∧ if c = true then Q (.bl true) H1 else tb σ H1 Q) : tOrV ta tb σ H Q := k
theorem r_notV (k : ta σ H fun x H1 => ∃ c, x = .bl c ∧ Q (.bl (!c)) H1) : tNotV ta σ H Q := k
theorem r_if (k : t σ H fun c H1 => if c = true then ta σ H1 Q else tb σ H1 Q) : tIf t ta tb σ H Q := k
theorem r_chain {r r' : R2} (k : ta σ H fun x H1 => tb σ H1 fun y H2 => r x y H2 fun z H3 => ∃ k, z = .bl k ∧ (if k = true then tc σ H3 fun w' H4 => r' y w' H4 Q else Q (.bl false) H3)) : tChain r r' ta tb tc σ H Q := k
theorem r_ifS (k : t σ H fun b H1 => if b = true then tu D σ H1 else tw D σ H1) : tIfS t tu tw D σ H := k
theorem r_nx {a : L2.St → Hp → Prop} {b : VK} {c d : L2.St → Hp → Prop} (k : a σ H) : (Ends.mk a b c d).nx σ H := k
theorem r_rt {a : L2.St → Hp → Prop} {b : VK} {c d : L2.St → Hp → Prop} (k : b v H) : (Ends.mk a b c d).rt v H := k
theorem r_bk {a : L2.St → Hp → Prop} {b : VK} {c d : L2.St → Hp → Prop} (k : c σ H) : (Ends.mk a b c d).bk σ H := k
theorem r_ct {a : L2.St → Hp → Prop} {b : VK} {c d : L2.St → Hp → Prop} (k : d σ H) : (Ends.mk a b c d).ct σ H := k
theorem r_seq (k : tu ⟨tw D, D.rt, D.bk, D.ct⟩ σ H) : tSeq tu tw D σ H := k
theorem r_next (k : D.nx σ H) : tNext D σ H := k
theorem r_ret (k : ta σ H D.rt) : tRet ta D σ H := k
theorem r_retN (k : D.rt .non H) : tRetN D σ H := k
theorem r_asg {g : TG} (k : ta σ H fun x H1 => g x σ H1 D.nx) : tAsg ta g D σ H := k
theorem r_name {i : Nat} {q : L2.St → Hp → Prop} (k : q (σ.set i (some v)) H) : gName i v σ H q := k
theorem r_drop (k : ta σ H fun _ H1 => D.nx σ H1) : tDrop ta D σ H := k
theorem r_brk (k : D.bk σ H) : tBreak D σ H := k
theorem r_cont (k : D.ct σ H) : tCont D σ H := k
theorem r_nil (k : QA [] H) : tNil σ H QA := k
theorem r_cons {tr : TA} (k : ta σ H fun x H1 => tr σ H1 fun xs H2 => QA (x :: xs) H2) : tCons ta tr σ H QA := k
theorem r_callS {sp : Sp} {E : L2.St → XK} {tr : TA} (k : tr σ H fun vs H1 => sp vs H1 Q (E σ)) : tCallS sp E tr σ H Q := k
theorem r_CB {r : List V → Hp → VK → Prop} {tr : TA} (k : tr σ H fun vs H1 => r vs H1 Q) : tCB r tr σ H Q := k
theorem r_ite {p A B : Prop} [Decidable p] (h1 : p → A) (h2 : ¬p → B) : if decide p = true then A else B := by
  by_cases h : p
  · rw [if_pos (decide_eq_true h)]; exact h1 h
  · rw [if_neg (by simpa using h)]; exact h2 h
theorem r_iteT {p A B : Prop} [Decidable p] (h : p) (k : A) : if decide p = true then A else B := by rw [if_pos (decide_eq_true h)]; exact k
theorem r_iteF {p A B : Prop} [Decidable p] (h : ¬p) (k : B) : if decide p = true then A else B := by rw [if_neg (by simpa using h)]; exact k
theorem r_iteN {p A B : Prop} [Decidable p] (h1 : p → B) (h2 : ¬p → A) : if (!decide p) = true then A else B := by
  by_cases h : p
  · rw [if_neg (by simpa using h)]; exact h1 h
  · rw [if_pos (by simpa using h)]; exact h2 h
theorem r_iteNT {p A B : Prop} [Decidable p] (h : p) (k : B) : if (!decide p) = true then A else B := by rw [if_neg (by simpa using h)]; exact k
theorem r_iteNF {p A B : Prop} [Decidable p] (h : ¬p) (k : A) : if (!decide p) = true then A else B := by rw [if_pos (by simpa using h)]; exact k
theorem r_tt {A B : Prop} (k : A) : if true = true then A else B := by rw [if_pos rfl]; exact k
theorem r_ff {A B : Prop} (k : B) : if false = true then A else B := by rw [if_neg Bool.false_ne_true]; exact k
theorem r_nt {A B : Prop} (k : B) : if (!true) = true then A else B := by rw [if_neg (by decide)]; exact k
theorem r_nf {A B : Prop} (k : A) : if (!false) = true then A else B := by rw [if_pos (by decide)]; exact k
theorem r_tb {b : Bool} {A B : Prop} (h : b = true) (k : A) : if b = true then A else B := by rw [if_pos h]; exact k
theorem r_fb {b : Bool} {A B : Prop} (h : b = false) (k : B) : if b = true then A else B := by rw [if_neg (by rw [h]; decide)]; exact k
end
end Z
namespace Z
open PySem PySem.Spec PyProof.Rows L2 Evl
section
variable {σ : L2.St} {H H1 : Hp} {Q : VK} {D : Ends} {ta tl : TE} {tb tw : TS} {g : TG} {v : V} {K : PySem.W.Frag} {wi : TI} {J : It} {a : Addr} {xs : List V}
/-- what a loop over J asks -/
def ForW (J : It) (g : TG) (tb : TS) (D : Ends) (σ : L2.St) (H1 : Hp) : Prop := ∃ W : Nat → Nat → L2.St → Hp → Prop, (∃ m, W 0 m σ H1) ∧ ∀ i m σ H, W i m σ H →
  (J.stop i H ∧ D.nx σ H) ∨ (J.go i H ∧ ∃ N : L2.St → Hp → Prop, (∀ σ' H', N σ' H' → ∃ m', m' < m ∧ W (i + 1) m' σ' H') ∧ ∀ x H', J.yld i H x H' → g x σ H' fun σ2 H2 => tb { D with nx := N, ct := N, bk := D.nx } σ2 H2)
theorem r_for (k : wi σ H fun J H1 => ForW J g tb D σ H1) : tFor wi g tb D σ H := k
theorem r_iList {R : It → Hp → Prop} (k : tl σ H fun x H1 => ∃ a, x = .ref a ∧ (∃ xs, SqL K H1 a xs) ∧ R (Itl K a) H1) : iList K tl σ H R := k
theorem r_iL (hS : SqL K H a xs) (Pv : Nat → L2.St → Hp → Prop) (h0 : Pv 0 σ H) (hl : ∀ i σ H, i ≤ xs.length → Pv i σ H → SqL K H a xs)
    (hs : ∀ i x σ H, xs[i]? = some x → Pv i σ H → g x σ H fun σ2 H2 => tb ⟨Pv (i + 1), D.rt, D.nx, Pv (i + 1)⟩ σ2 H2) (hd : ∀ σ H, Pv xs.length σ H → D.nx σ H) :
    ∃ b, V.ref a = .ref b ∧ (∃ xs, SqL K H b xs) ∧ ForW (Itl K b) g tb D σ H := ⟨a, rfl, ⟨_, hS⟩, for_list (K := K) Pv h0 hl hs hd⟩
theorem r_iT (hS : SqT K H a xs) (Pv : Nat → L2.St → Hp → Prop) (h0 : Pv 0 σ H) (hl : ∀ i σ H, i ≤ xs.length → Pv i σ H → SqT K H a xs)
    (hs : ∀ i x σ H, xs[i]? = some x → Pv i σ H → g x σ H fun σ2 H2 => tb ⟨Pv (i + 1), D.rt, D.nx, Pv (i + 1)⟩ σ2 H2) (hd : ∀ σ H, Pv xs.length σ H → D.nx σ H) :
    ∃ b, V.ref a = .ref b ∧ (∃ xs, SqT K H b xs) ∧ ForW (Itt K b) g tb D σ H := ⟨a, rfl, ⟨_, hS⟩, for_tup (K := K) Pv h0 hl hs hd⟩
theorem r_iTup {R : It → Hp → Prop} (k : tl σ H fun x H1 => ∃ a, x = .ref a ∧ (∃ xs, SqT K H1 a xs) ∧ R (Itt K a) H1) : iTup K tl σ H R := k
theorem r_iRng1 {tr : TA} {R : It → Hp → Prop} (k : tr σ H fun vs H1 => ∃ j : Int, vs = [.int j] ∧ -(2 ^ 62) ≤ j ∧ j < 2 ^ 62 ∧ R (Itr 0 j.toNat) H1) : iRng1 tr σ H R := k
theorem r_iR1 {j : Int} {n : Nat} (hj : j = n) (hn : n < 2 ^ 62) (Pv : Nat → L2.St → Hp → Prop) (h0 : Pv 0 σ H)
    (hs : ∀ (i : Nat) σ H, i < n → Pv i σ H → g (.int (i : Int)) σ H fun σ2 H2 => tb ⟨Pv (i + 1), D.rt, D.nx, Pv (i + 1)⟩ σ2 H2) (hd : ∀ σ H, Pv n σ H → D.nx σ H) :
    ∃ j' : Int, [V.int j] = [.int j'] ∧ -(2 ^ 62) ≤ j' ∧ j' < 2 ^ 62 ∧ ForW (Itr 0 j'.toNat) g tb D σ H := by
  subst hj
  refine ⟨_, rfl, by omega, by omega, ?_⟩
  rw [Int.toNat_natCast]
  refine for_range (lo := 0) Pv h0 (fun i σ H hi p => ?_) hd
  have q := hs i σ H hi p
  rw [Int.zero_add]
  exact q
theorem r_sl {r : V → Option Int → Option Int → Hp → VK → Prop} {t1 t2 : TO} (k : ta σ H fun x H1 => t1 σ H1 fun l H2 => t2 σ H2 fun u H3 => r x l u H3 Q) : tSl r ta t1 t2 σ H Q := k
theorem r_np {q : Option Int → Hp → Prop} (k : q none H) : tNoPart σ H q := k
theorem r_pt {q : Option Int → Hp → Prop} (k : ta σ H fun x H1 => ∃ i, x = .int i ∧ q (some i) H1) : tPart ta σ H q := k
theorem r_in {i : Int} {q : Int → Prop} (k : q i) : ∃ j, V.int i = .int j ∧ q j := ⟨i, rfl, k⟩
theorem r_slL {lo hi : Option Int} (hS : SqL K H a xs) (k : ∀ p H2, H p = none → Ex H H2 → H2 p = some (.lst (cutV xs lo hi)) → Q (.ref p) H2) : rSlL K (.ref a) lo hi H Q := ⟨a, xs, rfl, hS, fun p n => k p _ n (Ex.new n) upd_same⟩
theorem cut_int (ns : List Int) (lo hi : Option Int) : ∃ ms : List Int, cutV (ns.map V.int) lo hi = ms.map V.int ∧ ms.length ≤ ns.length ∧ ∀ z ∈ ms, z ∈ ns := by
  refine ⟨(ns.drop (HT.sIx (ns.map V.int).length 0 lo)).take (HT.sIx (ns.map V.int).length (ns.map V.int).length hi - HT.sIx (ns.map V.int).length 0 lo), ?_, ?_, ?_⟩
  · unfold cutV
    rw [List.map_take, List.map_drop]
  · rw [List.length_take, List.length_drop]
    omega
  · intro z hz
    exact List.mem_of_mem_drop (List.mem_of_mem_take hz)
theorem int_at {ns : List Int} {i : Nat} {y : V} (h : (ns.map V.int)[i]? = some y) : ∃ z, ns[i]? = some z ∧ y = V.int z := by
  rw [List.getElem?_map] at h
  cases e : ns[i]? with
  | none => rw [e] at h; cases h
  | some z => rw [e] at h; exact ⟨z, rfl, (Option.some.inj h).symm⟩
theorem Same.new {p : Addr} {o : HO} (h : H p = none) : Same H (upd H p o) := fun b u e => by rw [upd_ne (ne_of_none e h)]; exact e
/-- an object that was not there at H may change -/
theorem Same.mut {p : Addr} {o : HO} (s : Same H H1) (h : H p = none) : Same H (upd H1 p o) := fun b u e => by rw [upd_ne (ne_of_none e h)]; exact s b u e
end
/-- the law's promise -/
def sp_law (K : PySem.W.Frag) : Sp := fun vs H Q _ => ∃ (a : Addr) (ns : List Int), vs = [.ref a] ∧ SqL K H a (ns.map V.int) ∧ ns.length ≤ 63 ∧ ∀ H', Q (.bl true) H'
/-! ### what the top has left -/
section
open PySem.W
variable {K : Frag} {h : Heap} {mg : Str → Option Value} {x q : Str} {st : Stmt} {ps : List Str} {C : Addr}
theorem Df.mk' {f : Addr} {od an : Option Addr} {sl : Array (Option Value)} {oc kV dc pm cd ct : Value} (X : K.In h) (G : h.Ns mainGlobals mg) (a : nsIn K mainGlobals x = some (some (.ref f)))
    (l : K.lookup f = some ⟨oc, od, .func (fnOf x x (defArgs st) (defBody st) (defScope st) .none kV dc pm an cd ct), sl⟩) (c : codeIn K cd x = true) (k : keepIn K (.ref f) = true)
    (hb : ∀ (kV doc pm : Value) (an : Option Addr) (cdv ct : Value) (us : List Value), us.length = ps.length → bindArgs (PySem.W.fnOf x x (defArgs st) (defBody st) (defScope st) .none kV doc pm an cdv ct) ⟨us, []⟩ = pure (ps.zip us)) : Df K mg x st ps :=
  have F := fun_mk (st := st) l c k
  ⟨f, _, F, mg_of X G a, hb kV dc pm an cd ct⟩
theorem Mf.mk' {f : Addr} {m : Str} {od an : Option Addr} {sl : Array (Option Value)} {oc kV dc pm cd ct : Value} (a : findIn K (.ref C) m = some (some (.ref f))) (i : isFn K (.ref f) = true)
    (l : K.lookup f = some ⟨oc, od, .func (fnOf m q (defArgs st) (defBody st) (defScope st) .none kV dc pm an cd ct), sl⟩) (c : codeIn K cd q = true) (k : keepIn K (.ref f) = true)
    (hb : ∀ (kV doc pm : Value) (an : Option Addr) (cdv ct : Value) (us : List Value), us.length = ps.length → bindArgs (PySem.W.fnOf m q (defArgs st) (defBody st) (defScope st) .none kV doc pm an cdv ct) ⟨us, []⟩ = pure (ps.zip us)) : Mf K C m q st ps :=
  have F := fun_mk (st := st) l c k
  ⟨f, _, F, ⟨a, i, k⟩, F.binds hb⟩
theorem cst_of (X : K.In h) (G : h.Ns mainGlobals mg) {i : Int} {t : Tok} (a : nsIn K mainGlobals x = some (some (.int i t))) : ∃ t, mg x = some (.int i t) := ⟨t, mg_of X G a⟩
end
theorem walk_z {l : PySem.W.OpenLaw} {k : Nat} {q : Program} {loose : List Str} {XP : (Str → Option Value) → Heap → Prop} {YP : World → Heap → Prop} {d : DefRec} {K : Params → PySem.W.Frag} (hn : l.most = some 63) (hdf : d.params.defaults = []) (hk : k ≤ 60)
    (hY : ∀ (w : World) (h : Heap), YP w h → (K w.params).In h)
    (F : ∀ (w : World) (mg : Str → Option Value) (fa : Addr) (h : Heap), (K w.params).In h → h.Ns mainGlobals mg → mg d.name = some (.ref fa) →
      ∃ fd : FuncData, (∀ (s : Shared) (u : Value), BindsTo s fd ⟨[u], []⟩ [("_law_script", u)]) ∧ ∀ base : Heap, (K w.params).In base → base.Ns mainGlobals mg → FnOk l.prog w (K w.params) mg base (L2.CX l.prog w) k fa fd ["_law_script"] (sp_law (K w.params))) :
    PySem.W.WalkO q loose XP YP l.row.toRowW d [] (fun f vs => PySem.call f vs) :=
  L2.walk_of (n := 63) (k := k) (x := "_law_script") (CX := fun w => L2.CX l.prog w) (sp := fun w => sp_law (K w.params)) hn (by decide) hdf ((⟨rfl, by decide, by decide⟩ : Room 60 callerA).mono hk) hY F (fun _ _ a ns hl _ hS => ⟨a, ns, rfl, hS, hl, fun _ => rfl⟩)
    fun _ _ _ _ _ h => by
      obtain ⟨_, _, _, _, _, _, _, _, _, _, _, _, z⟩ := h
      exact z.elim
section
variable {σ : L2.St} {H : Hp} {Q : VK} {K : PySem.W.Frag} {tu tw : TS}
theorem r_seq' {a : L2.St → Hp → Prop} {b : VK} {c d : L2.St → Hp → Prop} (k : tu ⟨tw ⟨a, b, c, d⟩, b, c, d⟩ σ H) : tSeq tu tw ⟨a, b, c, d⟩ σ H := k
theorem r_isi {x : V} {a n : String} {b : Bool} (t : TyX K H x (.type a)) (h : kitB a n = some b) (k : Q (.bl b) H) : rIsi K [x, .ty n] H Q := ⟨x, .ty n, _, _, b, rfl, .ty n, t, kit_ty h, k⟩
end
end Z
namespace Z
open PySem PySem.Spec PyProof.Rows L2 Evl
/-! ### a def that is called in an except suite with the caught exception: p its object, cls its class, d its dict -/
abbrev SpE := Addr → Value → Option Addr → Sp
structure FnE (P : Program) (w : World) (K : PySem.W.Frag) (mg : Str → Option Value) (base : Heap) (k : Nat) (f : Addr) (fd : FuncData) (ps : List Str) (sp : SpE) : Prop where
  len : ∀ a c d vs H Q E, sp a c d vs H Q E → vs.length = ps.length
  run : ∀ (A : Around) (outer : List Env) (s : Shared) (H : Hp) (args : Args) (us : List Value) (vs : List V) (Q : VK) (p : Addr × Obj) (c : Value) (d : Option Addr), L2H.RoomH k A → L2H.PinOk outer H s p → Zc c d p.2 → (∃ fs, p.2.data = .fields fs) →
    Env0 P w K mg base A outer s H → BindsTo s fd args (ps.zip us) → Vals vs us → sp p.1 c d vs H Q (fun _ _ _ => False) → codeAny (model P w) A (.call (.ref f) args) (CR CX0 outer P w H s Q fun _ _ _ => False) s
theorem fn_e {P : Program} {w : World} {K : PySem.W.Frag} {mg : Str → Option Value} {base : Heap} {k : Nat} {f : Addr} {fd : FuncData} {x qual : Str} {st : Stmt} {N ps : List Str} {sp : SpE} (F : Fun K x qual st f fd) (S : FnScope N ps (defScope st))
    (len : ∀ a c d vs H Q E, sp a c d vs H Q E → vs.length = ps.length)
    (hbody : ∀ (cdv : Value) (A : Around) (outer : List Env) (s : Shared) (H : Hp) (vs : List V) (Q : VK) (p : Addr × Obj) (c : Value) (d : Option Addr), Zc c d p.2 → (∃ fs, p.2.data = .fields fs) → sp p.1 c d vs H Q (fun _ _ _ => False) →
      ∃ t, PSs (L2H.cxH CX0 P w K mg base N qual (defScope st) f cdv A outer s H (fun _ _ _ => False) p) (defBody st) t ∧ t { nx := fun _ H' => Q .non H', rt := Q } (start N vs) H) : FnE P w K mg base (k + 1) f fd ps sp := by
  obtain ⟨oc, od, kV, doc, pm, an, cdv, ct, osl, rfl, lk, hcd⟩ := F.ex
  refine ⟨len, fun A outer s H args us vs Q p c d room pin zc fl e0 bnd rel want => ?_⟩
  have grows : ∀ b o, base.get? b = some o → s.heap.get? b = some o := fun b o e => (e0.bs b o e).1
  have inK : K.In s.heap := e0.mod.kin.keeps grows
  refine codeAny_call_function room.depth (inK _ _ lk) rfl S.co S.gen rfl (PySem.W.codeRec_of inK hcd) (bnd _ _ _ _ ?_)
  refine wpAny_newFunctionEnv_cells S.kind (fun y hy => ?_) fun env he s1 frame => ?_
  · obtain ⟨n, v⟩ := y
    exact (S.par n (List.of_mem_zip hy).1).elim .inl fun q => .inr ⟨q, PySem.W.cellsFrom_some _ _ _ (.inl q)⟩
  · subst he
    obtain ⟨t, ht, hq⟩ := hbody cdv A outer s H vs Q p c d zc fl want
    have start0 := L2H.inv_startH (CX := CX0) (qual := qual) (f := f) (cd := cdv) (E := fun _ _ _ => False) S pin e0 (len _ _ _ _ _ _ _ want) rel frame
    refine ⟨(e0.mod.nolimit.keeps grows).keeps frame.toInCall.keep, codeAny_func (wpAny_mono (ht.run [] s1 (start N vs) H _ start0 hq) (fun fl s' done => ?_) fun _ _ z => z)⟩
    cases fl with
    | brk => exact done.elim fun _ z => z.elim fun _ z => z.2.elim
    | cont => exact done.elim fun _ z => z.elim fun _ z => z.2.elim
    | ret u =>
      obtain ⟨v, σ', H', J, rv, q⟩ := done
      exact ⟨v, H', J.os, J.bare, J.base, J.hok, rv, q⟩
    | next =>
      obtain ⟨σ', H', J, q⟩ := done
      exact ⟨.non, H', J.os, J.bare, J.base, J.hok, rfl, q⟩
structure En (P : Program) (w : World) (K : PySem.W.Frag) (mg : Str → Option Value) (base : Heap) (k : Nat) (x : Str) (sp : SpE) : Prop where
  ex : ∃ (f : Addr) (fd : FuncData) (ps : List Str), FnE P w K mg base k f fd ps sp ∧ mg x = some (.ref f) ∧ PySem.W.keepIn K (.ref f) = true ∧ Binds K fd ps []
theorem Df.en {P : Program} {w : World} {K : PySem.W.Frag} {mg : Str → Option Value} {base : Heap} {x : Str} {st : Stmt} {ps N : List Str} {k : Nat} {sp : SpE} (F : Df K mg x st ps) (S : FnScope N ps (defScope st)) (len : ∀ a c d vs H Q E, sp a c d vs H Q E → vs.length = ps.length)
    (hbody : ∀ (cdv : Value) (f : Addr) (A : Around) (outer : List Env) (s : Shared) (H : Hp) (vs : List V) (Q : VK) (p : Addr × Obj) (c : Value) (d : Option Addr), Zc c d p.2 → (∃ fs, p.2.data = .fields fs) → sp p.1 c d vs H Q (fun _ _ _ => False) →
      ∃ t, PSs (L2H.cxH CX0 P w K mg base N x (defScope st) f cdv A outer s H (fun _ _ _ => False) p) (defBody st) t ∧ t { nx := fun _ H' => Q .non H', rt := Q } (start N vs) H) : En P w K mg base (k + 1) x sp := by
  obtain ⟨f, fd, F1, hm, hb⟩ := F.ex
  exact ⟨f, fd, ps, fn_e F1 S len (fun cdv A outer s H vs Q p c d => hbody cdv f A outer s H vs Q p c d), hm, F1.kp, .all hb⟩
section
variable {X : Cx} {k j : Nat} {sp : SpE} {x : Str} {p q pos : Pos} {e : Expr} {es : List Expr} {t : TA} {a : Addr} {oe : Obj} {cls : Value} {d : Option Addr} {pn : List (Addr × Obj)} {Y : Cx}
/-- f(e, ..) within the suite that caught a -/
theorem pe_e (D : En Y.prog Y.w Y.K Y.mg Y.base k x sp) (hr : Room j Y.A) (hk : k ≤ j) (hz : Zc cls d oe) (hf : ∃ vs, oe.data = .fields vs) (ha : PA (Y.suite a ((a, oe) :: pn)) (e :: es) t) (hg : Gl Y x := by rfl) (hdb : (x == ("__debug__" : Str)) = false := by decide)
    (he : starEach (e :: es) Y.env = (false, eval e Y.env) :: starEach es Y.env := by rfl) (hpl : (backTo pos (starEach es Y.env)).any (·.1) = false := by rfl) :
    PE (Y.suite a ((a, oe) :: pn)) (.Call (.Name x q) (e :: es) [] pos) (fun σ H Q => t σ H fun vs H1 => sp a cls d vs H1 Q fun _ _ _ => False) := by
  obtain ⟨f, fd, ps, F, hm, kp, hb⟩ := D.ex
  refine ⟨fun pins s σ H Q I h => wpAny_Call_Name_kw (ld_glob I hg hm ?_ hdb)⟩
  refine PySem.W.callWith_K (h₀ := Y.base) I.ok.mod.kin kp (thn (ha.run pos pins s σ H _ I h) fun us s1 ⟨vs, H1, I1, r, want⟩ => ⟨I1.kIn, ?_⟩) he hpl
  have here := I1.pin (a, oe) (List.mem_append_left _ List.mem_cons_self)
  have pin : L2H.PinOk (Y.suite a ((a, oe) :: pn)).stack H1 s1 (a, oe) := ⟨here.1, here.2.1, fun m => (List.mem_cons.mp (I1.stkSub a m)).elim here.2.2.1 here.2.2.2.1, here.2.2.2.2⟩
  have nargs : us.length = ps.length := r.length.symm.trans (F.len _ _ _ _ _ _ _ want)
  have b := hb s1 us I1.kIn (by rw [List.append_nil]; exact nargs)
  rw [List.append_nil] at b
  refine wpAny_call (codeAny_mono (F.run _ (Y.suite a ((a, oe) :: pn)).stack s1 H1 ⟨us, []⟩ us vs Q (a, oe) cls d ⟨by have := hr.dp; show Y.A.depth + 3 * k + 5 < _; omega, by have := hr.un; show Y.A.units + 16 * k + 200 < _; omega⟩ pin hz hf I1.env0 b r want) fun res s' hq => ?_)
  match res, hq with
  | .error _, hq => exact hq.elim
  | .ok (.ret _), hq => exact I1.after hq
  | .ok .next, hq => exact hq.elim
  | .ok .brk, hq => exact hq.elim
  | .ok .cont, hq => exact hq.elim
/-- isinstance(e, C), e the caught one (its class without own fields) -/
def rIsP (K : PySem.W.Frag) (a : Addr) (cls : Value) (d : Option Addr) : List V → Hp → VK → Prop := fun xs H Q => ∃ (D : Addr) (c : V) (cv : Value) (b : Bool), cls = .ref D ∧ d = none ∧ ExcC K D ∧ xs = [.ref a, c] ∧ (∀ u, RelV c u → u = cv) ∧ PySem.W.kitOne K (.ref D) cv = some b ∧ Q (.bl b) H
theorem call_isP {K : PySem.W.Frag} (hK : X.K = K) (hp : (a, oe) ∈ X.pn) (hz : Zc cls d oe) (hf : ∃ vs, oe.data = .fields vs) : CallR X (.builtin "isinstance") (rIsP K a cls d) := by
  subst hK
  intro pins s σ H xs us Q I r h
  obtain ⟨D, c, cv, b, rfl, rfl, C, rfl, hcv, e, q⟩ := h
  obtain ⟨u1, u2, rfl, r1, r2⟩ := vals2 r
  cases r1
  cases hcv _ r2
  obtain ⟨fs, hv⟩ := hf
  have J : PySem.W.InstAt s.heap a oe D none := by
    have g := (I.pin (a, oe) (List.mem_append_left _ hp)).1
    cases oe
    obtain ⟨z1, z2⟩ := hz
    cases z1; cases z2; cases hv
    exact ⟨g, rfl, rfl, trivial⟩
  exact PySem.W.kia_one (PySem.W.handS_kitx_exc C.hg C.hk C.hs C.hd C.ha C.hn C.ht C.hm) I.kIn J e (fun z => nomatch z) fun tk => ⟨.bl b, H, I.tok tk, rfl, q⟩
end
end Z
namespace Z
open PySem PySem.Spec PyProof.Rows L2 Evl
/-! ### refusals: own exception classes without own fields -/
structure ExD (K : PySem.W.Frag) (B D : Addr) : Prop where
  q : PySem.W.excIn K D [.type "ValueError", .type "Exception", .type "BaseException", .type "object"] "ValueError.__new__" = true
  k : PySem.W.keepIn K (.ref D) = true
  b : PySem.W.subIn K (.ref D) (.type "BaseException") = some true
  t : PySem.W.typeIn K (.ref D) = some (.type "type")
  c : ExcC K D
  m : PySem.W.exmOne K (.ref D) (.ref B) = some true
theorem pmk_o {X : Cx} {x m : Str} {C B : Addr} {j : Nat} {p p2 pos : Pos} (E : ExD X.K B C) (gC : X.mg x = some (.ref C)) (hg : Gl X x := by rfl) (hdb : (x == ("__debug__" : Str)) = false := by decide) :
    PMk X (.Call (.Name x p) [.Constant (.str m) j p2] [] pos) (fun _ H Q => Q (.ref C) none H) := pmk_own PySem.F.excBase_ValueError E.q gC E.k (raises_own E.b E.t) hg hdb
/-! ### things of any kind -/
def objK : Option HO → String
  | some (.lst _) => "list"
  | some (.tup _) => "tuple"
  | some (.dK _) => "dict"
  | some (.dT _) => "dict"
  | some (.frz _ (.lst _)) => "list"
  | _ => "?"
def kindV (H : Hp) : V → String
  | .non => "NoneType"
  | .bl _ => "bool"
  | .int _ => "int"
  | .str _ => "str"
  | .ref a => objK (H a)
  | _ => "?"
/-- a thing whose kind is known -/
def AnyV (H : Hp) (x : V) : Prop := kindV H x ≠ "?"
def wholeV : V → Bool
  | .int _ => true
  | _ => false
def boolV : V → Bool
  | .bl _ => true
  | _ => false
theorem AnyV.elim {H : Hp} {x : V} {C : Prop} (h : AnyV H x) (non : x = .non → C) (bl : ∀ b, x = .bl b → C) (int : ∀ i, x = .int i → C) (str : ∀ z, x = .str z → C) (lst : ∀ a xs, x = .ref a → H a = some (.lst xs) → C) (frz : ∀ a o xs, x = .ref a → H a = some (.frz o (.lst xs)) → C)
    (tup : ∀ a xs, x = .ref a → H a = some (.tup xs) → C) (dK : ∀ a xs, x = .ref a → H a = some (.dK xs) → C) (dT : ∀ a xs, x = .ref a → H a = some (.dT xs) → C) : C := by
  cases x with
  | non => exact non rfl
  | bl b => exact bl b rfl
  | int i => exact int i rfl
  | str z => exact str z rfl
  | byt b => exact (h rfl).elim
  | flt b => exact (h rfl).elim
  | ty n => exact (h rfl).elim
  | ref a =>
    have h' : objK (H a) ≠ "?" := h
    cases e : H a with
    | none => rw [e] at h'; exact (h' rfl).elim
    | some o =>
      rw [e] at h'
      cases o with
      | lst xs => exact lst a xs rfl e
      | tup xs => exact tup a xs rfl e
      | dK xs => exact dK a xs rfl e
      | dT xs => exact dT a xs rfl e
      | frz o u =>
        cases u with
        | lst xs => exact frz a o xs rfl e
        | _ => exact (h' rfl).elim
      | _ => exact (h' rfl).elim
theorem kind_ref {H : Hp} {a : Addr} {o : HO} (e : H a = some o) : kindV H (.ref a) = objK (some o) := by
  show objK (H a) = _
  rw [e]
theorem AnyV.ty {K : PySem.W.Frag} {H : Hp} {x : V} (h : AnyV H x) : TyX K H x (.type (kindV H x)) := by
  refine h.elim ?_ ?_ ?_ ?_ ?_ ?_ ?_ ?_ ?_
  · rintro rfl; exact .base .non
  · rintro b rfl; exact .base (.bl b)
  · rintro b rfl; exact .base (.int b)
  · rintro b rfl; exact .base (.str b)
  · rintro a xs rfl e; rw [kind_ref e]; exact .base (.lst e)
  · rintro a o xs rfl e; rw [kind_ref e]; exact .base (.frz e)
  · rintro a xs rfl e; rw [kind_ref e]; exact .base (.tup e)
  · rintro a xs rfl e; rw [kind_ref e]; exact .base (.dK e)
  · rintro a xs rfl e; rw [kind_ref e]; exact .base (.dT e)
theorem kit_int {H : Hp} {x : V} (h : AnyV H x) : kitB (kindV H x) "int" = some (wholeV x || boolV x) := by
  refine h.elim ?_ ?_ ?_ ?_ ?_ ?_ ?_ ?_ ?_
  · rintro rfl; rfl
  · rintro b rfl; rfl
  · rintro b rfl; rfl
  · rintro b rfl; rfl
  · rintro a xs rfl e; rw [kind_ref e]; rfl
  · rintro a o xs rfl e; rw [kind_ref e]; rfl
  · rintro a xs rfl e; rw [kind_ref e]; rfl
  · rintro a xs rfl e; rw [kind_ref e]; rfl
  · rintro a xs rfl e; rw [kind_ref e]; rfl
theorem kit_bool {H : Hp} {x : V} (h : AnyV H x) : kitB (kindV H x) "bool" = some (boolV x) := by
  refine h.elim ?_ ?_ ?_ ?_ ?_ ?_ ?_ ?_ ?_
  · rintro rfl; rfl
  · rintro b rfl; rfl
  · rintro b rfl; rfl
  · rintro b rfl; rfl
  · rintro a xs rfl e; rw [kind_ref e]; rfl
  · rintro a o xs rfl e; rw [kind_ref e]; rfl
  · rintro a xs rfl e; rw [kind_ref e]; rfl
  · rintro a xs rfl e; rw [kind_ref e]; rfl
  · rintro a xs rfl e; rw [kind_ref e]; rfl
section
variable {H : Hp} {Q : VK} {K : PySem.W.Frag} {x : V}
theorem r_isi_int (h : AnyV H x) (k : Q (.bl (wholeV x || boolV x)) H) : rIsi K [x, .ty "int"] H Q := r_isi h.ty (kit_int h) k
theorem r_isi_bool (h : AnyV H x) (k : Q (.bl (boolV x)) H) : rIsi K [x, .ty "bool"] H Q := r_isi h.ty (kit_bool h) k
end
theorem p2_48 {H : Hp} {Q : VK} (k : Q (.int 281474976710656) H) : rI CPow (fun i j => .int (i ^ j.toNat)) (.int 2) (.int 48) H Q := ⟨2, 48, rfl, rfl, ⟨by decide, by decide, by decide⟩, k⟩
theorem p2_40 {H : Hp} {Q : VK} (k : Q (.int 1099511627776) H) : rI CPow (fun i j => .int (i ^ j.toNat)) (.int 2) (.int 40) H Q := ⟨2, 40, rfl, rfl, ⟨by decide, by decide, by decide⟩, k⟩
theorem p10_60 {H : Hp} {Q : VK} (k : Q (.int 1000000000000000000000000000000000000000000000000000000000000) H) : rI CPow (fun i j => .int (i ^ j.toNat)) (.int 10) (.int 60) H Q := ⟨10, 60, rfl, rfl, ⟨by decide, by decide, by decide⟩, k⟩
theorem p10_59 {H : Hp} {Q : VK} (k : Q (.int 100000000000000000000000000000000000000000000000000000000000) H) : rI CPow (fun i j => .int (i ^ j.toNat)) (.int 10) (.int 59) H Q := ⟨10, 59, rfl, rfl, ⟨by decide, by decide, by decide⟩, k⟩
theorem p10_30 {H : Hp} {Q : VK} (k : Q (.int 1000000000000000000000000000000) H) : rI CPow (fun i j => .int (i ^ j.toNat)) (.int 10) (.int 30) H Q := ⟨10, 30, rfl, rfl, ⟨by decide, by decide, by decide⟩, k⟩
/-- a list of truths -/
theorem dpAll_bools {K : PySem.W.Frag} {H : Hp} : ∀ bs : List Bool, DpAll K H (bs.map V.bl) (bs.map PyData.bool)
  | [] => .nil
  | b :: bs => .cons (.bl b) (dpAll_bools bs)
theorem dpAll_ints {K : PySem.W.Frag} {H : Hp} : ∀ ns : List Int, DpAll K H (ns.map V.int) (ns.map PyData.int)
  | [] => .nil
  | b :: bs => .cons (.int b) (dpAll_ints bs)
theorem sh_bools (bs : List Bool) : SeqAt.shaped (.list (bs.map PyData.bool)) = true := by
  have h1 : ∀ bs : List Bool, PyData.canLayAll0 (bs.map PyData.bool) = true := fun bs => by
    induction bs with
    | nil => rfl
    | cons b bs ih => simp [PyData.canLayAll0, PyData.canLay0, ih]
  have h2 : ∀ bs : List Bool, PyData.depthAll (bs.map PyData.bool) ≤ 1 := fun bs => by
    induction bs with
    | nil => simp [PyData.depthAll]
    | cons b bs ih => simp [PyData.depthAll, PyData.depth]; omega
  have h3 := h2 bs
  simp [SeqAt.shaped, PyData.canLay0, PyData.depth, h1]
  omega
end Z
namespace Z
open PySem PySem.Spec PyProof.Rows L2 Evl
section
variable {σ : L2.St} {H : Hp} {ta tb : TE} {K : PySem.W.Frag} {a : Addr} {xs ys : List V} {cls : Value} {d : Option Addr} {v : V} {i : Nat}
theorem el_cat (ha : Ev ta σ H (.ref a)) (h : H a = some (.lst xs)) (hb : EvL tb σ H ys) (hl : xs.length + ys.length ≤ 100000) : EvL (tOp rCat ta tb) σ H (xs ++ ys) := fun H1 e Q q =>
  ha H1 e _ fun H2 e2 => hb H2 (e.trans e2) _ fun p H3 hp e3 h3 => ⟨a, p, xs, ys, rfl, rfl, (e.trans e2).trans e3 _ _ h, h3, sz_of hl, fun r nr => q r _ (fresh_back (e2.trans e3) nr) ((e2.trans e3).trans (Ex.new nr)) upd_same⟩
theorem el_cat2 (ha : EvL ta σ H xs) (hb : EvL tb σ H ys) (hl : xs.length + ys.length ≤ 100000) : EvL (tOp rCat ta tb) σ H (xs ++ ys) := fun H1 e Q q =>
  ha H1 e _ fun p H2 hp e2 h2 => hb H2 (e.trans e2) _ fun r H3 hr e3 h3 => ⟨p, r, xs, ys, rfl, rfl, e3 _ _ h2, h3, sz_of hl, fun z nz => q z _ (fresh_back (e2.trans e3) nz) ((e2.trans e3).trans (Ex.new nz)) upd_same⟩
theorem el_rep {k : Int} (ha : EvL ta σ H xs) (hb : Ev tb σ H (.int k)) (h0 : 0 ≤ k) (h1 : k < 1000) (hl : xs.length * k.toNat ≤ 100000) : EvL (tOp rRep ta tb) σ H (List.replicate k.toNat xs).flatten := fun H1 e Q q =>
  ha H1 e _ fun p H2 hp e2 h2 => hb H2 (e.trans e2) _ fun H3 e3 => ⟨p, k, xs, rfl, rfl, e3 _ _ h2, by omega, by omega, sz_of hl, fun z nz => q z _ (fresh_back (e2.trans e3) nz) ((e2.trans e3).trans (Ex.new nz)) upd_same⟩
theorem ev_isP {C : Value} {c : V} {D : Addr} {b : Bool} {tc : TE} (hC : ExcC K D) (h : PySem.W.kitOne K (.ref D) C = some b) (he : Ev ta σ H (.ref a) := by exact ev_var rfl) (hc : Ev tc σ H c := by exact ev_c) (hv : ∀ u, RelV c u → u = C := by intro u r; exact r) :
    Ev (tCB (rIsP K a (.ref D) none) (tCons ta (tCons tc tNil))) σ H (.bl b) :=
  ev_cb (ea_cons he (ea_cons hc ea_nil)) fun H1 _ _ q => ⟨D, c, C, b, rfl, rfl, hC, rfl, hv, h, q H1 (Ex.refl H1)⟩
end
end Z
namespace Z
open PySem PySem.Spec PyProof.Rows L2 Evl
theorem atI_mod {xs : List V} {c m : Int} (hm : (xs.length : Int) = m) (h0 : 0 < m) : ∃ v, atI xs (c % m) = some v ∧ v ∈ xs := by
  have h1 := Int.emod_nonneg c (by omega : m ≠ 0)
  have h2 := Int.emod_lt_of_pos c h0
  have hl : (c % m).toNat < xs.length := by omega
  refine ⟨xs[(c % m).toNat], ?_, List.getElem_mem hl⟩
  have e := atI_nat (xs := xs) (j := (c % m).toNat) (v := xs[(c % m).toNat]) (List.getElem?_eq_getElem hl)
  rwa [Int.toNat_of_nonneg h1] at e
theorem r_ixL {K : PySem.W.Frag} {H : Hp} {Q : VK} {a : Addr} {xs : List V} {i : Int} {v : V} (hS : SqL K H a xs) (h : atI xs i = some v) (k : Q v H) : rIxL K (.ref a) (.int i) H Q := ⟨a, xs, i, v, rfl, rfl, hS, h, k⟩
theorem r_ixT {K : PySem.W.Frag} {H : Hp} {Q : VK} {a : Addr} {xs : List V} {i : Int} {v : V} (hS : SqT K H a xs) (h : atI xs i = some v) (k : Q v H) : rIxT K (.ref a) (.int i) H Q := ⟨a, xs, i, v, rfl, rfl, hS, h, k⟩
theorem AnyV.mono {H H' : Hp} {x : V} (h : AnyV H x) (e : Ex H H') : AnyV H' x := by
  unfold AnyV at h ⊢
  cases x with
  | ref a =>
    have h' : objK (H a) ≠ "?" := h
    show objK (H' a) ≠ "?"
    cases q : H a with
    | none => rw [q] at h'; exact (h' rfl).elim
    | some o => rw [e a o q]; rw [q] at h'; exact h'
  | _ => exact h
theorem AnyV.lst {H : Hp} {a : Addr} {xs : List V} (h : H a = some (.lst xs)) : AnyV H (.ref a) := by
  show objK (H a) ≠ "?"; rw [h]; exact (by decide : ("list" : String) ≠ "?")
theorem AnyV.tup {H : Hp} {a : Addr} {xs : List V} (h : H a = some (.tup xs)) : AnyV H (.ref a) := by
  show objK (H a) ≠ "?"; rw [h]; exact (by decide : ("tuple" : String) ≠ "?")
theorem AnyV.dK {H : Hp} {a : Addr} {xs : List (Key × V)} (h : H a = some (.dK xs)) : AnyV H (.ref a) := by
  show objK (H a) ≠ "?"; rw [h]; exact (by decide : ("dict" : String) ≠ "?")
theorem AnyV.non {H : Hp} : AnyV H .non := by show "NoneType" ≠ "?"; decide
theorem AnyV.bl {H : Hp} {b : Bool} : AnyV H (.bl b) := by show "bool" ≠ "?"; decide
theorem AnyV.int {H : Hp} {b : Int} : AnyV H (.int b) := by show "int" ≠ "?"; decide
theorem AnyV.str {H : Hp} {b : Str} : AnyV H (.str b) := by show "str" ≠ "?"; decide
theorem whole_not {x : V} (h : (wholeV x || boolV x) = true) : (!boolV x) = wholeV x := by cases x <;> first | rfl | cases h
theorem whole_no {x : V} (h : (wholeV x || boolV x) = false) : wholeV x = false := by cases x <;> first | rfl | cases h
theorem whole_int {x : V} (h : wholeV x = true) : ∃ i, x = .int i := by
  cases x with
  | int i => exact ⟨i, rfl⟩
  | _ => exact nomatch h
def wordV : V → Bool
  | .int i => decide (0 ≤ i) && decide (i < 281474976710656)
  | _ => false
theorem word_no {x : V} (h : wholeV x = false) : wordV x = false := by
  cases x with
  | int i => exact nomatch h
  | _ => rfl
end Z
namespace Z
theorem r_ntb {b : Bool} {A B : Prop} (h : b = true) (k : B) : if (!b) = true then A else B := by rw [if_neg (by rw [h]; decide)]; exact k
theorem r_nfb {b : Bool} {A B : Prop} (h : b = false) (k : A) : if (!b) = true then A else B := by rw [if_pos (by rw [h]; decide)]; exact k
end Z
namespace Z
open PySem PySem.Spec PyProof.Rows L2 Evl
section
variable {K : PySem.W.Frag} {H : Hp} {Q : VK} {σ : L2.St} {te : TE} {a b l : Addr} {xs ys : List V}
theorem r_isP {C : Value} {c : V} {D : Addr} {z : Bool} (hC : ExcC K D) (h : PySem.W.kitOne K (.ref D) C = some z) (hv : ∀ u, RelV c u → u = C) (k : Q (.bl z) H) : rIsP K a (.ref D) none [.ref a, c] H Q := ⟨D, c, C, z, rfl, rfl, hC, rfl, hv, h, k⟩
theorem r_cat (h1 : H l = some (.lst xs)) (h2 : H b = some (.lst ys)) (hl : xs.length + ys.length ≤ 100000) (k : ∀ p H2, H p = none → Ex H H2 → H2 p = some (.lst (xs ++ ys)) → Q (.ref p) H2) : rCat (.ref l) (.ref b) H Q := ⟨l, b, xs, ys, rfl, rfl, h1, h2, sz_of hl, fun p n => k p _ n (Ex.new n) upd_same⟩
theorem r_rep {m : Int} (h1 : H l = some (.lst xs)) (h0 : 0 ≤ m) (hm : m < 1000) (hl : xs.length * m.toNat ≤ 100000) (k : ∀ p H2, H p = none → Ex H H2 → H2 p = some (.lst (List.replicate m.toNat xs).flatten) → Q (.ref p) H2) : rRep (.ref l) (.int m) H Q := ⟨l, m, xs, rfl, rfl, h1, by omega, by omega, sz_of hl, fun p n => k p _ n (Ex.new n) upd_same⟩
theorem evl_use (h : EvL te σ H xs) (k : ∀ p H2, H p = none → Ex H H2 → H2 p = some (.lst xs) → Q (.ref p) H2) : te σ H Q := h H (Ex.refl H) Q k
theorem eqvAll_bools : ∀ bs cs : List Bool, PyData.eqvAll (bs.map PyData.bool) (cs.map PyData.bool) = decide (bs = cs)
  | [], [] => rfl
  | [], c :: cs => rfl
  | b :: bs, [] => rfl
  | b :: bs, c :: cs => by
    show (PyData.eqv (.bool b) (.bool c) && PyData.eqvAll (bs.map PyData.bool) (cs.map PyData.bool)) = _
    rw [eqvAll_bools bs cs]
    show ((b == c) && decide (bs = cs)) = decide (b :: bs = c :: cs)
    by_cases h1 : b = c
    · subst h1; by_cases h2 : bs = cs
      · subst h2; simp
      · simp [h2]
    · simp [h1]
theorem r_eqBs {bs cs : List Bool} (h1 : SqL K H a (bs.map V.bl)) (h2 : SqL K H b (cs.map V.bl)) (k : Q (.bl (decide (bs = cs))) H) : rEqD K (.ref a) (.ref b) H Q := by
  refine ⟨.list (bs.map PyData.bool), .list (cs.map PyData.bool), .lst h1 (dpAll_bools _), .lst h2 (dpAll_bools _), sh_bools _, sh_bools _, ?_⟩
  show Q (.bl (PyData.eqvAll _ _)) H
  rw [eqvAll_bools]
  exact k
end
end Z
namespace Z
open PySem PySem.Spec PyProof.Rows L2 Evl
section
variable {H : Hp} {Q : VK} {σ : L2.St}
/-- a new object o, then Q -/
def NewO (Q : VK) (H : Hp) (o : HO) : Prop := ∀ p, H p = none → Q (.ref p) (upd H p o)
theorem r_new {o : HO} (k : ∀ p H2, H p = none → Ex H H2 → H2 p = some o → Q (.ref p) H2) : NewO Q H o := fun p n => k p _ n (Ex.new n) upd_same
theorem r_tup {tr : TA} (k : tr σ H fun xs H1 => xs.length ≤ sizeLine ∧ NewO Q H1 (.tup xs)) : tTup tr σ H Q := k
theorem r_lst {tr : TA} (k : tr σ H fun xs H1 => xs.length ≤ sizeLine ∧ NewO Q H1 (.lst xs)) : tLst tr σ H Q := k
theorem r_dnew (k : ∀ p H2, H p = none → Ex H H2 → H2 p = some (.dK []) → Q (.ref p) H2) : tDNewK σ H Q := fun p n => k p _ n (Ex.new n) upd_same
theorem r_szA {n : Nat} {R : Prop} (h : Nat.ble n 100000 = true) (k : R) : n ≤ sizeLine ∧ R := ⟨sz_of (Nat.le_of_ble_eq_true h), k⟩
end
end Z
namespace Z
open PySem PySem.Spec PyProof.Rows L2 Evl
theorem r_len {K : PySem.W.Frag} {H : Hp} {Q : VK} {a : Addr} {xs : List V} (h : SqL K H a xs) (k : Q (.int (xs.length : Int)) H) : (fun (vs : List V) (H : Hp) (Q : VK) => ∃ p ys, vs = [.ref p] ∧ (SqL K H p ys ∨ SqT K H p ys) ∧ Q (.int ys.length) H) [.ref a] H Q := ⟨a, xs, rfl, .inl h, k⟩
end Z
namespace Z
open PySem PySem.Spec PyProof.Rows L2 Evl
/-! ### bits of words -/
theorem bXor {x y : Int} (hx : 0 ≤ x) (hy : 0 ≤ y) : Builtin.bitXor x y = ((x.toNat ^^^ y.toNat : Nat) : Int) := Bits.bitXor_pp hx hy
theorem bOr {x y : Int} (hx : 0 ≤ x) (hy : 0 ≤ y) : Builtin.bitOr x y = ((x.toNat ||| y.toNat : Nat) : Int) := Bits.bitOr_pp hx hy
theorem bAnd {x y : Int} (hx : 0 ≤ x) (hy : 0 ≤ y) : Builtin.bitAnd x y = ((x.toNat &&& y.toNat : Nat) : Int) := bitAnd_pp hx hy
theorem half_nat (x : Int) (hx : 0 ≤ x) : (x / 2).toNat = x.toNat / 2 := by omega
theorem and_half {x y : Int} (hx : 0 ≤ x) (hy : 0 ≤ y) : Builtin.bitAnd x y / 2 = Builtin.bitAnd (x / 2) (y / 2) := by
  rw [bAnd hx hy, bAnd (by omega) (by omega), half_nat x hx, half_nat y hy, ← Nat.and_div_two]
  omega
theorem and_low {x y : Int} (hx : 0 ≤ x) (hy : 0 ≤ y) : Builtin.bitAnd x y % 2 = x % 2 * (y % 2) := by
  rw [bAnd hx hy]
  have h := @Nat.and_mod_two_eq_one x.toNat y.toNat
  have a1 : x % 2 = 0 ∨ x % 2 = 1 := by omega
  have a2 : y % 2 = 0 ∨ y % 2 = 1 := by omega
  rcases a1 with a1 | a1 <;> rcases a2 with a2 | a2 <;> rw [a1, a2] <;> omega
theorem xor_half {x y : Int} (hx : 0 ≤ x) (hy : 0 ≤ y) : Builtin.bitXor x y / 2 = Builtin.bitXor (x / 2) (y / 2) := by
  rw [bXor hx hy, bXor (by omega) (by omega), half_nat x hx, half_nat y hy, ← Nat.xor_div_two]
  omega
theorem xor_low {x y : Int} (hx : 0 ≤ x) (hy : 0 ≤ y) : Builtin.bitXor x y % 2 = (x + y) % 2 := by
  rw [bXor hx hy]
  have h : (x.toNat ^^^ y.toNat) % 2 = ((x.toNat % 2) ^^^ (y.toNat % 2)) := @Nat.xor_mod_two_pow x.toNat y.toNat 1
  have a1 : x.toNat % 2 = 0 ∨ x.toNat % 2 = 1 := by omega
  have a2 : y.toNat % 2 = 0 ∨ y.toNat % 2 = 1 := by omega
  rcases a1 with a1 | a1 <;> rcases a2 with a2 | a2 <;> rw [a1, a2] at h <;> simp only [Nat.xor_self, Nat.xor_zero, Nat.zero_xor] at h <;> omega
theorem bAnd0 {x y : Int} (hx : 0 ≤ x) (hy : 0 ≤ y) : 0 ≤ Builtin.bitAnd x y := by rw [bAnd hx hy]; omega
theorem bXor0 {x y : Int} (hx : 0 ≤ x) (hy : 0 ≤ y) : 0 ≤ Builtin.bitXor x y := by rw [bXor hx hy]; omega
theorem bOr0 {x y : Int} (hx : 0 ≤ x) (hy : 0 ≤ y) : 0 ≤ Builtin.bitOr x y := by rw [bOr hx hy]; omega
theorem atI_int {ns : List Int} {i : Int} (h0 : -(ns.length : Int) ≤ i) (h1 : i < ns.length) : ∃ z, atI (ns.map V.int) i = some (.int z) ∧ z ∈ ns := by
  by_cases c : 0 ≤ i
  · have hl : i.toNat < ns.length := by omega
    have e := atI_nat (xs := ns.map V.int) (j := i.toNat) (v := .int ns[i.toNat]) (by simp [List.getElem?_eq_getElem hl])
    rw [Int.toNat_of_nonneg c] at e
    exact ⟨_, e, List.getElem_mem hl⟩
  · have hl : (i + ns.length).toNat < ns.length := by omega
    refine ⟨ns[(i + ns.length).toNat], ?_, List.getElem_mem hl⟩
    unfold atI ixN
    rw [List.length_map, if_neg c, if_pos h0]
    simp [List.getElem?_eq_getElem hl]
theorem atI_intN {ns : List Int} {i : Nat} {z : Int} (h : ns[i]? = some z) : atI (ns.map V.int) (i : Int) = some (.int z) := atI_nat (by rw [List.getElem?_map, h]; rfl)
theorem get_lt {α : Type} {xs : List α} {i : Nat} (h : i < xs.length) : ∃ z, xs[i]? = some z ∧ z ∈ xs := ⟨xs[i], List.getElem?_eq_getElem h, List.getElem_mem h⟩
end Z
namespace Z
open PySem PySem.Spec PyProof.Rows L2 Evl
/-! ### comprehensions -/
section
variable {σ : L2.St} {H : Hp} {Q : VK} {K : PySem.W.Frag} {wi : TI} {g : TG} {tt : TT} {te : TE} {vs : List Nat} {a : Addr} {xs : List V} {j : Nat}
def LcW (J : It) (g : TG) (tt : TT) (te : TE) (vs : List Nat) (σ : L2.St) (H1 : Hp) (Q : VK) : Prop := ∀ D, H1 D = none → ∃ W : Nat → Nat → Hp → Prop, (∃ m, W 0 m (upd H1 D (.lst []))) ∧ ∀ i m H, W i m H →
  (J.stop i H ∧ Q (.ref D) H) ∨ (J.go i H ∧ ∃ Nx : Hp → Prop, (∀ H', Nx H' → ∃ m', m' < m ∧ W (i + 1) m' H') ∧ ∀ x H', J.yld i H x H' → g x (wipe σ vs) H' fun σ2 H2 => wipe σ2 vs = wipe σ vs ∧ tt σ2 H2 fun b H3 =>
    if b = true then te σ2 H3 fun y H4 => ∃ acc, H4 D = some (.lst acc) ∧ acc.length < sizeLine ∧ Nx (upd H4 D (.lst (acc ++ [y]))) else Nx H3)
theorem r_lc (k : wi σ H fun J H1 => LcW J g tt te vs σ H1 Q) : tLc wi g tt te vs σ H Q := k
/-- all that stood stands, but at D -/
def ExB (D : Addr) (H H' : Hp) : Prop := ∀ b o, b ≠ D → H b = some o → H' b = some o
structure LcP (R : Addr → Nat → V → Hp → Prop) (H : Hp) (D : Addr) (i : Nat) (H' : Hp) : Prop where
  ex : ∃ ys, H' D = some (.lst ys) ∧ ys.length = i ∧ ∀ n y, ys[n]? = some y → R D n y H'
  same : Ex H H'
theorem LcP.start {R : Addr → Nat → V → Hp → Prop} {D : Addr} (n : H D = none) : LcP R H D 0 (upd H D (.lst [])) := ⟨⟨[], upd_same, rfl, fun n y e => by simp at e⟩, Ex.new n⟩
theorem LcP.more {R : Addr → Nat → V → Hp → Prop} {D : Addr} {i : Nat} {H1 H4 : Hp} {y : V} (st : ∀ D i y H1 H2, R D i y H1 → ExB D H1 H2 → R D i y H2) (n : H D = none) (p : LcP R H D i H1) (e : Ex H1 H4) (r : R D i y H4) (hi : i < 100000) :
    ∃ acc, H4 D = some (.lst acc) ∧ acc.length < sizeLine ∧ LcP R H D (i + 1) (upd H4 D (.lst (acc ++ [y]))) := by
  obtain ⟨⟨ys, h1, h2, h3⟩, s⟩ := p
  have up : ExB D H4 (upd H4 D (.lst (ys ++ [y]))) := fun b o nb h => by rw [upd_ne nb]; exact h
  refine ⟨ys, e _ _ h1, sz_lt (by omega), ⟨ys ++ [y], upd_same, by simp [h2], fun m z hz => ?_⟩, (s.trans e).mut n⟩
  by_cases c : m < ys.length
  · rw [List.getElem?_append_left c] at hz
    exact st _ _ _ _ _ (st _ _ _ _ _ (h3 m z hz) fun b o _ h => e b o h) up
  · rw [List.getElem?_append_right (by omega)] at hz
    have em : m = i := by
      have := (List.getElem?_eq_some_iff.mp hz).1
      simp at this
      omega
    subst em
    rw [show m - ys.length = 0 by omega] at hz
    cases hz
    exact st _ _ _ _ _ r up
theorem r_lcG (hS : SqL K H a xs) (hl : xs.length ≤ 100000) (R : Addr → Nat → V → Hp → Prop) (st : ∀ D i y H1 H2, R D i y H1 → ExB D H1 H2 → R D i y H2) (hw : ∀ x, wipe ((wipe σ vs).set j (some x)) vs = wipe σ vs)
    (hs : ∀ D i x H', H D = none → (∃ ys, H' D = some (.lst ys)) → xs[i]? = some x → Ex H H' → ∀ Qk : VK, (∀ y H4, Ex H' H4 → R D i y H4 → Qk y H4) → te ((wipe σ vs).set j (some x)) H' Qk)
    (k : ∀ D ys H5, H D = none → Ex H H5 → H5 D = some (.lst ys) → ys.length = xs.length → (∀ i y, ys[i]? = some y → R D i y H5) → Q (.ref D) H5) :
    ∃ b, V.ref a = .ref b ∧ (∃ xs, SqL K H b xs) ∧ LcW (Itl K b) (gName j) tYes te vs σ H Q := by
  refine ⟨a, rfl, ⟨_, hS⟩, fun D n => lc_list (K := K) (a := a) (xs := xs) (LcP R H D) (LcP.start n) (fun i H' _ p => Same.seq p.same hS) (fun i x H' hx p => ?_) (fun H' p => ?_)⟩
  · refine ⟨hw x, ?_⟩
    refine (show if (true : Bool) = true then te ((wipe σ vs).set j (some x)) H' (fun y H4 => ∃ acc, H4 D = some (.lst acc) ∧ acc.length < sizeLine ∧ LcP R H D (i + 1) (upd H4 D (.lst (acc ++ [y])))) else LcP R H D (i + 1) H' from r_tt ?_)
    have hi : i < 100000 := by have := (List.getElem?_eq_some_iff.mp hx).1; omega
    obtain ⟨ys, q, _⟩ := p.ex
    exact hs D i x H' n ⟨ys, q⟩ hx p.same _ fun y H4 e r => p.more st n e r hi
  · obtain ⟨⟨ys, h1, h2, h3⟩, s⟩ := p
    exact k D ys H' n s h1 h2 h3
theorem r_lcRG {m : Int} {n : Nat} (hm : m = n) (hl : n ≤ 100000) (R : Addr → Nat → V → Hp → Prop) (st : ∀ D i y H1 H2, R D i y H1 → ExB D H1 H2 → R D i y H2) (hw : ∀ x, wipe ((wipe σ vs).set j (some x)) vs = wipe σ vs)
    (hs : ∀ D (i : Nat) H', H D = none → (∃ ys, H' D = some (.lst ys)) → i < n → Ex H H' → ∀ Qk : VK, (∀ y H4, Ex H' H4 → R D i y H4 → Qk y H4) → te ((wipe σ vs).set j (some (.int (i : Int)))) H' Qk)
    (k : ∀ D ys H5, H D = none → Ex H H5 → H5 D = some (.lst ys) → ys.length = n → (∀ i y, ys[i]? = some y → R D i y H5) → Q (.ref D) H5) :
    ∃ j' : Int, [V.int m] = [.int j'] ∧ -(2 ^ 62) ≤ j' ∧ j' < 2 ^ 62 ∧ LcW (Itr 0 j'.toNat) (gName j) tYes te vs σ H Q := by
  subst hm
  refine ⟨_, rfl, by omega, by omega, ?_⟩
  rw [Int.toNat_natCast]
  refine fun D nD => lc_range (lo := 0) (LcP R H D) (LcP.start nD) (fun i H' hi p => ?_) (fun H' p => ?_)
  · refine ⟨hw _, ?_⟩
    refine (show if (true : Bool) = true then te ((wipe σ vs).set j (some (.int (0 + (i : Int))))) H' (fun y H4 => ∃ acc, H4 D = some (.lst acc) ∧ acc.length < sizeLine ∧ LcP R H D (i + 1) (upd H4 D (.lst (acc ++ [y])))) else LcP R H D (i + 1) H' from r_tt ?_)
    rw [Int.zero_add]
    obtain ⟨ys, q, _⟩ := p.ex
    exact hs D i H' nD ⟨ys, q⟩ hi p.same _ fun y H4 e r => p.more st nD e r (by omega)
  · obtain ⟨⟨ys, h1, h2, h3⟩, s⟩ := p
    exact k D ys H' nD s h1 h2 h3
/-- .. whose elements are values that hang on nothing -/
theorem r_lcP (hS : SqL K H a xs) (hl : xs.length ≤ 100000) (R : Nat → V → Prop) (hw : ∀ x, wipe ((wipe σ vs).set j (some x)) vs = wipe σ vs)
    (hs : ∀ D i x H', H D = none → (∃ ys, H' D = some (.lst ys)) → xs[i]? = some x → Ex H H' → ∀ Qk : VK, (∀ y H4, Ex H' H4 → R i y → Qk y H4) → te ((wipe σ vs).set j (some x)) H' Qk)
    (k : ∀ D ys H5, H D = none → Ex H H5 → H5 D = some (.lst ys) → ys.length = xs.length → (∀ i y, ys[i]? = some y → R i y) → Q (.ref D) H5) :
    ∃ b, V.ref a = .ref b ∧ (∃ xs, SqL K H b xs) ∧ LcW (Itl K b) (gName j) tYes te vs σ H Q :=
  r_lcG hS hl (fun _ i y _ => R i y) (fun _ _ _ _ _ r _ => r) hw hs k
theorem r_lcRP {m : Int} {n : Nat} (hm : m = n) (hl : n ≤ 100000) (R : Nat → V → Prop) (hw : ∀ x, wipe ((wipe σ vs).set j (some x)) vs = wipe σ vs)
    (hs : ∀ D (i : Nat) H', H D = none → (∃ ys, H' D = some (.lst ys)) → i < n → Ex H H' → ∀ Qk : VK, (∀ y H4, Ex H' H4 → R i y → Qk y H4) → te ((wipe σ vs).set j (some (.int (i : Int)))) H' Qk)
    (k : ∀ D ys H5, H D = none → Ex H H5 → H5 D = some (.lst ys) → ys.length = n → (∀ i y, ys[i]? = some y → R i y) → Q (.ref D) H5) :
    ∃ j' : Int, [V.int m] = [.int j'] ∧ -(2 ^ 62) ≤ j' ∧ j' < 2 ^ 62 ∧ LcW (Itr 0 j'.toNat) (gName j) tYes te vs σ H Q :=
  r_lcRG hm hl (fun _ i y _ => R i y) (fun _ _ _ _ _ r _ => r) hw hs k
/-- all ints -/
theorem all_ints : ∀ {ys : List V} {R : Nat → Int → Prop}, (∀ i y, ys[i]? = some y → ∃ z, y = .int z ∧ R i z) → ∃ zs : List Int, ys = zs.map V.int ∧ ∀ i z, zs[i]? = some z → R i z
  | [], _, _ => ⟨[], rfl, fun i z e => by simp at e⟩
  | y :: ys, R, h => by
    obtain ⟨z, rfl, r⟩ := h 0 y rfl
    obtain ⟨zs, rfl, rs⟩ := all_ints (ys := ys) (R := fun i z => R (i + 1) z) fun i y e => h (i + 1) y (by simpa using e)
    refine ⟨z :: zs, rfl, fun i w e => ?_⟩
    cases i with
    | zero => cases e; exact r
    | succ i => exact rs i w (by simpa using e)
end
end Z
namespace Z
open PySem PySem.Spec PyProof.Rows L2 Evl
section
variable {σ : L2.St} {H : Hp} {Q : VK} {K : PySem.W.Frag} {tt : TT} {te : TE} {vs : List Nat} {a b : Addr} {xs : List V} {j : Nat}
theorem r_ixMod {c m : Int} (h : H a = some (.lst xs)) (hm : (xs.length : Int) = m) (h0 : 0 < m) (k : ∀ v, v ∈ xs → Q v H) : rIxL K (.ref a) (.int (c % m)) H Q := by
  obtain ⟨v, hv, hmem⟩ := atI_mod (c := c) hm h0
  exact r_ixL (SqL.of h) hv (k v hmem)
theorem eqvAll_ints : ∀ bs cs : List Int, PyData.eqvAll (bs.map PyData.int) (cs.map PyData.int) = decide (bs = cs)
  | [], [] => rfl
  | [], c :: cs => rfl
  | b :: bs, [] => rfl
  | b :: bs, c :: cs => by
    show (PyData.eqv (.int b) (.int c) && PyData.eqvAll (bs.map PyData.int) (cs.map PyData.int)) = _
    rw [eqvAll_ints bs cs]
    show ((b == c) && decide (bs = cs)) = decide (b :: bs = c :: cs)
    by_cases h1 : b = c
    · subst h1; by_cases h2 : bs = cs
      · subst h2; simp
      · simp [h2]
    · simp [h1]
theorem sh_ints (bs : List Int) : SeqAt.shaped (.list (bs.map PyData.int)) = true := by
  have h1 : ∀ bs : List Int, PyData.canLayAll0 (bs.map PyData.int) = true := fun bs => by
    induction bs with
    | nil => rfl
    | cons b bs ih => simp [PyData.canLayAll0, PyData.canLay0, ih]
  have h2 : ∀ bs : List Int, PyData.depthAll (bs.map PyData.int) ≤ 1 := fun bs => by
    induction bs with
    | nil => simp [PyData.depthAll]
    | cons b bs ih => simp [PyData.depthAll, PyData.depth]; omega
  have h3 := h2 bs
  simp [SeqAt.shaped, PyData.canLay0, PyData.depth, h1]
  omega
theorem r_eqIs {bs cs : List Int} (h1 : SqL K H a (bs.map V.int)) (h2 : SqL K H b (cs.map V.int)) (k : Q (.bl (decide (bs = cs))) H) : rEqD K (.ref a) (.ref b) H Q := by
  refine ⟨.list (bs.map PyData.int), .list (cs.map PyData.int), .lst h1 (dpAll_ints _), .lst h2 (dpAll_ints _), sh_ints _, sh_ints _, ?_⟩
  show Q (.bl (PyData.eqvAll _ _)) H
  rw [eqvAll_ints]
  exact k
theorem r_neIs {bs cs : List Int} (h1 : SqL K H a (bs.map V.int)) (h2 : SqL K H b (cs.map V.int)) (k : Q (.bl (!decide (bs = cs))) H) : rNeD K (.ref a) (.ref b) H Q := by
  refine ⟨.list (bs.map PyData.int), .list (cs.map PyData.int), .lst h1 (dpAll_ints _), .lst h2 (dpAll_ints _), sh_ints _, sh_ints _, ?_⟩
  show Q (.bl (!PyData.eqvAll _ _)) H
  rw [eqvAll_ints]
  exact k
theorem r_neBs {bs cs : List Bool} (h1 : SqL K H a (bs.map V.bl)) (h2 : SqL K H b (cs.map V.bl)) (k : Q (.bl (!decide (bs = cs))) H) : rNeD K (.ref a) (.ref b) H Q := by
  refine ⟨.list (bs.map PyData.bool), .list (cs.map PyData.bool), .lst h1 (dpAll_bools _), .lst h2 (dpAll_bools _), sh_bools _, sh_bools _, ?_⟩
  show Q (.bl (!PyData.eqvAll _ _)) H
  rw [eqvAll_bools]
  exact k
theorem r_lcF (hS : SqL K H a xs) (hl : xs.length ≤ 40000) (f : Nat → Bool) (v : Nat → V) (hw : ∀ x, wipe ((wipe σ vs).set j (some x)) vs = wipe σ vs)
    (ht : ∀ (i : Nat) (x : V) H1, Ex H H1 → xs[i]? = some x → EvT tt ((wipe σ vs).set j (some x)) H1 (f i)) (he : ∀ (i : Nat) (x : V) H1, Ex H H1 → xs[i]? = some x → f i = true → Ev te ((wipe σ vs).set j (some x)) H1 (v i))
    (k : ∀ D H5, H D = none → Ex H H5 → H5 D = some (.lst (given xs.length f v)) → Q (.ref D) H5) : ∃ b, V.ref a = .ref b ∧ (∃ xs, SqL K H b xs) ∧ LcW (Itl K b) (gName j) tt te vs σ H Q :=
  (el_lcL (K := K) (tl := tC (.ref a)) f v ev_c hS hl hw ht he) H (Ex.refl H) Q k
theorem r_lcRF {n : Int} (h0 : 0 ≤ n) (hl : n ≤ 40000) (f : Nat → Bool) (v : Nat → V) (hw : ∀ x, wipe ((wipe σ vs).set j (some x)) vs = wipe σ vs)
    (ht : ∀ (i : Nat) H1, Ex H H1 → (i : Int) < n → EvT tt ((wipe σ vs).set j (some (.int (i : Int)))) H1 (f i)) (he : ∀ (i : Nat) H1, Ex H H1 → (i : Int) < n → f i = true → Ev te ((wipe σ vs).set j (some (.int (i : Int)))) H1 (v i))
    (k : ∀ D H5, H D = none → Ex H H5 → H5 D = some (.lst (given n.toNat f v)) → Q (.ref D) H5) : ∃ j' : Int, [V.int n] = [.int j'] ∧ -(2 ^ 62) ≤ j' ∧ j' < 2 ^ 62 ∧ LcW (Itr 0 j'.toNat) (gName j) tt te vs σ H Q :=
  (el_lcR1 (ta := tCons (tC (.int n)) tNil) f v (ea_cons ev_c ea_nil) ⟨h0, hl⟩ hw ht he) H (Ex.refl H) Q k
theorem ev_callS {sp : Sp} {E : L2.St → XK} {tr : TA} {ws : List V} {z : V} (h : EvA tr σ H ws) (hs : SpV sp ws H z) : Ev (tCallS sp E tr) σ H z := fun H1 e Q q => h H1 e _ fun H2 e2 => hs H2 (e.trans e2) _ (fun H3 e3 => q H3 (e2.trans e3)) _
theorem et_yes : EvT tYes σ H true := fun H1 _ _ q => q H1 (Ex.refl H1)
end
end Z
namespace Z
open PySem PySem.Spec PyProof.Rows L2 Evl
section
variable {σ : L2.St} {H : Hp} {Q : VK} {K : PySem.W.Frag} {a : Addr} {xs : List V} {v : V} {q : L2.St → Hp → Prop}
def rDm : List V → Hp → VK → Prop := fun xs H Q => ∃ i j : Int, xs = [.int i, .int j] ∧ CDiv i j ∧ NewO Q H (.tup [.int (i / j), .int (i % j)])
theorem call_dm {X : Cx} : CallR X (.builtin "divmod") rDm := call_divmod
theorem r_dm {i j : Int} (hj : CDiv i j) (k : ∀ p H2, H p = none → Ex H H2 → H2 p = some (.tup [.int (i / j), .int (i % j)]) → Q (.ref p) H2) : rDm [.int i, .int j] H Q := ⟨i, j, rfl, hj, r_new k⟩
def rLs (K : PySem.W.Frag) : List V → Hp → VK → Prop := fun xs H Q => ∃ p items, xs = [.ref p] ∧ (SqL K H p items ∨ SqT K H p items) ∧ NewO Q H (.lst items)
theorem r_ls {xs : List V} (h : SqL K H a xs) (k : ∀ p H2, H p = none → Ex H H2 → H2 p = some (.lst xs) → Q (.ref p) H2) : rLs K [.ref a] H Q := ⟨a, xs, rfl, .inl h, r_new k⟩
theorem r_lsT {xs : List V} (h : SqT K H a xs) (k : ∀ p H2, H p = none → Ex H H2 → H2 p = some (.lst xs) → Q (.ref p) H2) : rLs K [.ref a] H Q := ⟨a, xs, rfl, .inr h, r_new k⟩
theorem r_gtup {n : Nat} {t : TGs} (h : SqT K H a xs) (hl : xs.length = n) (k : t xs σ H q) : gTup K n t (.ref a) σ H q := ⟨a, xs, rfl, h, hl, k⟩
theorem r_gcons {t : TG} {u : TGs} (k : t v σ H fun σ' H' => u xs σ' H' q) : gCons t u (v :: xs) σ H q := ⟨v, xs, rfl, k⟩
theorem r_gnil (k : q σ H) : gNil [] σ H q := ⟨rfl, k⟩
def rLen (K : PySem.W.Frag) : List V → Hp → VK → Prop := fun xs H Q => ∃ p ys, xs = [.ref p] ∧ (SqL K H p ys ∨ SqT K H p ys) ∧ Q (.int (ys.length : Int)) H
theorem call_lnS {X : Cx} : CallR X (.builtin "len") (rLen X.K) := call_len_seq
theorem r_lenT (h : SqT K H a xs) (k : Q (.int (xs.length : Int)) H) : rLen K [.ref a] H Q := ⟨a, xs, rfl, .inr h, k⟩
theorem r_lenL (h : SqL K H a xs) (k : Q (.int (xs.length : Int)) H) : rLen K [.ref a] H Q := ⟨a, xs, rfl, .inl h, k⟩
end
end Z
namespace Z
open PySem PySem.Spec PyProof.Rows L2 Evl
theorem call_ls {X : Cx} : CallR X (.type "list") (rLs X.K) := call_list_of
theorem AnyV.upd {H : Hp} {v : V} {p : Addr} {xs : List V} (h : AnyV H v) : AnyV (L2.upd H p (.lst xs)) v := by
  cases v with
  | ref a =>
    have h' : objK (H a) ≠ "?" := h
    show objK (L2.upd H p (.lst xs) a) ≠ "?"
    by_cases c : a = p
    · rw [c, upd_same]; exact (by decide : ("list" : String) ≠ "?")
    · rw [upd_ne c]; exact h'
  | _ => exact h
section
variable {H : Hp} {a : Addr} {xs : List V} {v : V} {q : Hp → Prop}
/-- xs[k] = v -/
theorem r_setL {k : Int} {j : Nat} (h : H a = some (.lst xs)) (hj : ixN xs.length k = some j) (kk : q (L2.upd H a (.lst (xs.set j v)))) : rSetL (.ref a) (.int k) v H q := ⟨a, xs, k, j, rfl, rfl, h, hj, kk⟩
theorem r_gsub {σ : L2.St} {to ti : TE} {t : TSet} {q : L2.St → Hp → Prop} (k : to σ H fun o H1 => ti σ H1 fun i H2 => t o i v H2 fun H3 => q σ H3) : gSub to ti t v σ H q := k
end
end Z

namespace Gx
open PySem PySem.Spec PyProof.Rows L2 Evl Z
def top (i : Nat) : Stmt := PySem.Challenge.pw_shadowpages_k05_places.main.body.getD i (.Pass ⟨0, 0, 0, 0⟩)
abbrev s_NoProgram___init__ : Stmt := inClass (top 16) 0
theorem sc_NoProgram___init__ : FnScope ["self", "place"] ["self", "place"] (defScope s_NoProgram___init__) := ⟨rfl, rfl, rfl, by decide +kernel, rfl, by decide +kernel, by decide +kernel⟩
abbrev s_NoText___init__ : Stmt := inClass (top 17) 0
theorem sc_NoText___init__ : FnScope ["self", "place"] ["self", "place"] (defScope s_NoText___init__) := ⟨rfl, rfl, rfl, by decide +kernel, rfl, by decide +kernel, by decide +kernel⟩
abbrev s_Fault___init__ : Stmt := inClass (top 18) 0
theorem sc_Fault___init__ : FnScope ["self", "kind", "place", "level"] ["self", "kind", "place", "level"] (defScope s_Fault___init__) := ⟨rfl, rfl, rfl, by decide +kernel, rfl, by decide +kernel, by decide +kernel⟩
abbrev s_is_whole : Stmt := top 20
theorem sc_is_whole : FnScope ["thing"] ["thing"] (defScope s_is_whole) := ⟨rfl, rfl, rfl, by decide +kernel, rfl, by decide +kernel, by decide +kernel⟩
abbrev s_is_part : Stmt := top 22
theorem sc_is_part : FnScope ["thing"] ["thing"] (defScope s_is_part) := ⟨rfl, rfl, rfl, by decide +kernel, rfl, by decide +kernel, by decide +kernel⟩
abbrev s_place_of : Stmt := top 23
theorem sc_place_of : FnScope ["outer", "inner", "cell"] ["outer", "inner", "cell"] (defScope s_place_of) := ⟨rfl, rfl, rfl, by decide +kernel, rfl, by decide +kernel, by decide +kernel⟩
abbrev s_look_at : Stmt := top 24
theorem sc_look_at : FnScope ["place"] ["place"] (defScope s_look_at) := ⟨rfl, rfl, rfl, by decide +kernel, rfl, by decide +kernel, by decide +kernel⟩
abbrev s_number_of : Stmt := top 25
theorem sc_number_of : FnScope ["place"] ["place"] (defScope s_number_of) := ⟨rfl, rfl, rfl, by decide +kernel, rfl, by decide +kernel, by decide +kernel⟩
abbrev s_parts_of : Stmt := top 26
theorem sc_parts_of : FnScope ["place", "number", "cell", "outer", "inner"] ["place"] (defScope s_parts_of) := ⟨rfl, rfl, rfl, by decide +kernel, rfl, by decide +kernel, by decide +kernel⟩
abbrev s__law_whole : Stmt := top 28
theorem sc__law_whole : FnScope ["_law_found"] ["_law_found"] (defScope s__law_whole) := ⟨rfl, rfl, rfl, by decide +kernel, rfl, by decide +kernel, by decide +kernel⟩
abbrev s__law_kinds : Stmt := top 29
theorem sc__law_kinds : FnScope ["_law_e", "_law_some"] ["_law_e"] (defScope s__law_kinds) := ⟨rfl, rfl, rfl, by decide +kernel, rfl, by decide +kernel, by decide +kernel⟩
abbrev s__law_ask : Stmt := top 30
theorem sc__law_ask : FnScope ["_law_way", "_law_things"] ["_law_way", "_law_things"] (defScope s__law_ask) := ⟨rfl, rfl, rfl, by decide +kernel, rfl, by decide +kernel, by decide +kernel⟩
abbrev s__law_refused : Stmt := top 31
theorem sc__law_refused : FnScope ["_law_way", "_law_things", "_law_kinds_here", "_law_e"] ["_law_way", "_law_things"] (defScope s__law_refused) := ⟨rfl, rfl, rfl, by decide +kernel, rfl, by decide +kernel, by decide +kernel⟩
abbrev s__law_odd : Stmt := top 32
theorem sc__law_odd : FnScope ["_law_cell", "_law_least", "_law_far"] ["_law_cell", "_law_least"] (defScope s__law_odd) := ⟨rfl, rfl, rfl, by decide +kernel, rfl, by decide +kernel, by decide +kernel⟩
abbrev s__law_told : Stmt := top 33
theorem sc__law_told : FnScope ["_law_place", "_law_parts", "_law_part", "_law_outer", "_law_inner", "_law_cell", "_law_number", "_law_again"] ["_law_place"] (defScope s__law_told) := ⟨rfl, rfl, rfl, by decide +kernel, rfl, by decide +kernel, by decide +kernel⟩
abbrev s_law : Stmt := top 34
theorem sc_law : FnScope ["_law_script", "_law_cell", "_law_part", "_law_things", "_law_wrong"] ["_law_script"] (defScope s_law) := ⟨rfl, rfl, rfl, by decide +kernel, rfl, by decide +kernel, by decide +kernel⟩
structure Ad where
  z : Unit := ()
  C_HouseError : Addr
  C_NoWord : Addr
  C_NoRow : Addr
  C_NoPlace : Addr
  C_NoPage : Addr
  C_NoImage : Addr
  C_NoShelf : Addr
  C_NoFrame : Addr
  C_NoRoom : Addr
  C_NoBound : Addr
  C_NoName : Addr
  C_NoWay : Addr
  C_Busy : Addr
  C_Over : Addr
  C_NoOrder : Addr
  C_NoProgram : Addr
  C_NoText : Addr
  C_Fault : Addr
structure Txt (K : PySem.W.Frag) (mg : Str → Option Value) (A : Ad) : Prop where
  b_ValueError : mg "ValueError" = none
  b_bool : mg "bool" = none
  b_divmod : mg "divmod" = none
  b_int : mg "int" = none
  b_isinstance : mg "isinstance" = none
  b_len : mg "len" = none
  b_tuple : mg "tuple" = none
  k_HouseError : mg "HouseError" = some (.ref A.C_HouseError)
  k_NoWord : mg "NoWord" = some (.ref A.C_NoWord)
  k_NoRow : mg "NoRow" = some (.ref A.C_NoRow)
  k_NoPlace : mg "NoPlace" = some (.ref A.C_NoPlace)
  k_NoPage : mg "NoPage" = some (.ref A.C_NoPage)
  k_NoImage : mg "NoImage" = some (.ref A.C_NoImage)
  k_NoShelf : mg "NoShelf" = some (.ref A.C_NoShelf)
  k_NoFrame : mg "NoFrame" = some (.ref A.C_NoFrame)
  k_NoRoom : mg "NoRoom" = some (.ref A.C_NoRoom)
  k_NoBound : mg "NoBound" = some (.ref A.C_NoBound)
  k_NoName : mg "NoName" = some (.ref A.C_NoName)
  k_NoWay : mg "NoWay" = some (.ref A.C_NoWay)
  k_Busy : mg "Busy" = some (.ref A.C_Busy)
  k_Over : mg "Over" = some (.ref A.C_Over)
  k_NoOrder : mg "NoOrder" = some (.ref A.C_NoOrder)
  k_NoProgram : mg "NoProgram" = some (.ref A.C_NoProgram)
  k_NoText : mg "NoText" = some (.ref A.C_NoText)
  k_Fault : mg "Fault" = some (.ref A.C_Fault)
  x_NoPlace : ExD K A.C_HouseError A.C_NoPlace
  kt_NoPlace_NoWord : PySem.W.kitOne K (.ref A.C_NoPlace) (.ref A.C_NoWord) = some false
  kt_NoPlace_NoRow : PySem.W.kitOne K (.ref A.C_NoPlace) (.ref A.C_NoRow) = some false
  kt_NoPlace_NoPlace : PySem.W.kitOne K (.ref A.C_NoPlace) (.ref A.C_NoPlace) = some true
  kt_NoPlace_NoPage : PySem.W.kitOne K (.ref A.C_NoPlace) (.ref A.C_NoPage) = some false
  kt_NoPlace_NoImage : PySem.W.kitOne K (.ref A.C_NoPlace) (.ref A.C_NoImage) = some false
  kt_NoPlace_NoShelf : PySem.W.kitOne K (.ref A.C_NoPlace) (.ref A.C_NoShelf) = some false
  kt_NoPlace_NoFrame : PySem.W.kitOne K (.ref A.C_NoPlace) (.ref A.C_NoFrame) = some false
  kt_NoPlace_NoRoom : PySem.W.kitOne K (.ref A.C_NoPlace) (.ref A.C_NoRoom) = some false
  kt_NoPlace_NoBound : PySem.W.kitOne K (.ref A.C_NoPlace) (.ref A.C_NoBound) = some false
  kt_NoPlace_NoName : PySem.W.kitOne K (.ref A.C_NoPlace) (.ref A.C_NoName) = some false
  kt_NoPlace_NoWay : PySem.W.kitOne K (.ref A.C_NoPlace) (.ref A.C_NoWay) = some false
  kt_NoPlace_Busy : PySem.W.kitOne K (.ref A.C_NoPlace) (.ref A.C_Busy) = some false
  kt_NoPlace_Over : PySem.W.kitOne K (.ref A.C_NoPlace) (.ref A.C_Over) = some false
  kt_NoPlace_NoOrder : PySem.W.kitOne K (.ref A.C_NoPlace) (.ref A.C_NoOrder) = some false
  kt_NoPlace_NoProgram : PySem.W.kitOne K (.ref A.C_NoPlace) (.ref A.C_NoProgram) = some false
  kt_NoPlace_NoText : PySem.W.kitOne K (.ref A.C_NoPlace) (.ref A.C_NoText) = some false
  kt_NoPlace_Fault : PySem.W.kitOne K (.ref A.C_NoPlace) (.ref A.C_Fault) = some false
  kt_NoPlace_ValueError : PySem.W.kitOne K (.ref A.C_NoPlace) (.type "ValueError") = some true
local macro_rules | `(tactic| walk_at "rd1") => `(tactic| first
  | with_reducible refine r_nx ?_
  | with_reducible refine r_seq' ?_
  | with_reducible refine r_seq ?_
  | ((with_reducible refine' r_var ?zh ?_); (case zh => exact rfl))
  | with_reducible refine r_c ?_
  | with_reducible refine r_op ?_
  | with_reducible refine r_I0 ?_
  | with_reducible refine r_test ?_
  | with_reducible refine r_bl ?_
  | with_reducible refine r_tt ?_
  | with_reducible refine r_ff ?_
  | with_reducible refine r_nt ?_
  | with_reducible refine r_nf ?_
  | with_reducible refine r_asg ?_
  | with_reducible refine r_name ?_
  | with_reducible refine r_ifS ?_
  | with_reducible refine r_ret ?_
  | with_reducible refine r_rt ?_
  | with_reducible refine r_eqI ?_
  | with_reducible refine r_neI ?_
  | with_reducible refine r_eqB ?_
  | with_reducible refine r_neB ?_
  | ((with_reducible refine r_eq ?zh ?_); (case zh => exact rfl))
  | ((with_reducible refine r_ne ?zh ?_); (case zh => exact rfl))
  | with_reducible refine p2_48 ?_
  | with_reducible refine p2_40 ?_
  | with_reducible refine p10_60 ?_
  | with_reducible refine p10_59 ?_
  | with_reducible refine p10_30 ?_
  | ((with_reducible refine r_I ?zh ?_); (case zh => first | decide | omega | exact ⟨by decide, by decide⟩ | exact ⟨by omega, by omega⟩ | exact .inr ⟨by omega, by omega⟩ | exact .inl ⟨by omega, by omega⟩))
  | with_reducible refine r_and ?_
  | with_reducible refine r_or ?_
  | with_reducible refine r_not ?_
  | with_reducible refine r_andV ?_
  | with_reducible refine r_orV ?_
  | with_reducible refine r_notV ?_
  | with_reducible refine r_if ?_
  | with_reducible refine r_chain ?_
  | with_reducible refine r_callS ?_
  | with_reducible refine r_cons ?_
  | with_reducible refine r_nil ?_
  | with_reducible refine r_CB ?_
  | with_reducible refine r_B ?_
  | with_reducible refine r_un ?_
  | with_reducible refine r_U ?_
  | with_reducible refine r_next ?_
  | with_reducible refine r_drop ?_
  | with_reducible refine r_tup ?_
  | with_reducible refine r_lst ?_
  | with_reducible refine r_for ?_
  | with_reducible refine r_iList ?_
  | with_reducible refine r_iTup ?_
  | with_reducible refine r_iRng1 ?_
  | ((with_reducible refine' r_gtup ?zt ?zh ?_); (case zt => exact SqT.of (by assumption)); (case zh => exact rfl))
  | with_reducible refine r_gcons ?_
  | with_reducible refine r_gnil ?_
  | with_reducible refine r_gsub ?_
  | with_reducible refine r_lc ?_
  | with_reducible refine r_sl ?_
  | with_reducible refine r_np ?_
  | with_reducible refine r_pt ?_
  | with_reducible refine r_in ?_
  | with_reducible refine r_isi_int (by assumption) ?_
  | with_reducible refine r_isi_bool (by assumption) ?_
  | ((with_reducible refine' r_isi ?zt ?zh ?_); (case zt => first | exact .base (.int _) | exact .base (.bl _) | exact .base .non | exact .base (.str _) | exact .base (.lst (by assumption)) | exact .base (.tup (by assumption)) | exact .base (.lst upd_same) | exact .base (.tup upd_same)); (case zh => first | exact (show kitB _ _ = some true from rfl) | exact (show kitB _ _ = some false from rfl)))
  | with_reducible refine r_cont ?_
  | with_reducible refine r_brk ?_
  | with_reducible refine r_ct ?_
  | with_reducible refine r_bk ?_
  | with_reducible refine r_iteNT (by first | rfl | assumption) ?_
  | with_reducible refine r_iteT (by first | rfl | assumption) ?_
  | with_reducible refine r_iteF (by assumption) ?_
  | with_reducible refine r_iteNF (by assumption) ?_
  | ((with_reducible refine r_szA ?zh ?_); (case zh => exact rfl))
  | with_reducible refine r_retN ?_
  | refine r_tb (by first | assumption | rfl) ?_
  | refine r_fb (by first | assumption | rfl) ?_
  | refine r_ntb (by first | assumption | rfl) ?_
  | refine r_nfb (by first | assumption | rfl) ?_)
local macro_rules | `(tactic| walk_at "rd") => `(tactic| (walk_at "rd1"; repeat walk_at "rd1"))
local macro_rules | `(tactic| walk_at "rs") => `(tactic| repeat' (first | walk_at "rd1" | refine r_ite (fun _ => ?_) (fun _ => ?_) | refine r_iteN (fun _ => ?_) (fun _ => ?_)))
local macro_rules | `(tactic| walk_at "ro") => `(tactic| repeat (first | walk_at "rd1" | refine r_iteF (by omega) ?_ | refine r_iteT (by omega) ?_ | refine r_iteNT (by omega) ?_ | refine r_iteNF (by omega) ?_))

section
variable {P : Program} {w : World} {K : PySem.W.Frag} {mg : Str → Option Value} {base : Heap} {A : Ad}

def sp_is_whole (K : PySem.W.Frag) (A : Ad) : Sp := fun vs H Q _ => ∃ x, vs = [x] ∧ AnyV H x ∧ Q (.bl (wholeV x)) H
theorem ok_is_whole (F : Df K mg "is_whole" s_is_whole ["thing"]) (T : Txt K mg A) : Dn P w K mg base 1 "is_whole" (sp_is_whole K A) := by
  refine F.dn sc_is_whole (fun vs H Q E h => ?_) (fun cdv f Ar outer s H vs Q E hr h => ?_)
  · obtain ⟨x, rfl, hx, h⟩ := h; rfl
  obtain ⟨x, rfl, hx, h⟩ := h
  refine ⟨_, (pss_one (ps_ret (pe_and (pe_callB call_isi (by rfl) T.b_isinstance (by decide +kernel) (pa_cons (pv 0) (pa_cons (pe_bltn (v := .ty "int") (by rfl) T.b_int (by decide +kernel) rfl) pa_nil))) (pe_one (pe_not (pe_callB call_isi (by rfl) T.b_isinstance (by decide +kernel) (pa_cons (pv 0) (pa_cons (pe_bltn (v := .ty "bool") (by rfl) T.b_bool (by decide +kernel) rfl) pa_nil)))))))), ?_⟩
  walk_at "rd"
  by_cases c : (wholeV x || boolV x) = true
  · refine r_tb c ?_
    walk_at "rd"
    rw [whole_not c]
    exact h
  · rw [Bool.not_eq_true] at c
    refine r_fb c ?_
    rw [whole_no c] at h
    exact h

def sp__law_whole (K : PySem.W.Frag) (A : Ad) : Sp := fun vs H Q _ => ∃ x, vs = [x] ∧ AnyV H x ∧ Q (.bl (wholeV x)) H
theorem ok__law_whole (F : Df K mg "_law_whole" s__law_whole ["_law_found"]) (T : Txt K mg A) : Dn P w K mg base 1 "_law_whole" (sp__law_whole K A) := by
  refine F.dn sc__law_whole (fun vs H Q E h => ?_) (fun cdv f Ar outer s H vs Q E hr h => ?_)
  · obtain ⟨x, rfl, hx, h⟩ := h; rfl
  obtain ⟨x, rfl, hx, h⟩ := h
  refine ⟨_, (pss_one (ps_ret (pe_and (pe_callB call_isi (by rfl) T.b_isinstance (by decide +kernel) (pa_cons (pv 0) (pa_cons (pe_bltn (v := .ty "int") (by rfl) T.b_int (by decide +kernel) rfl) pa_nil))) (pe_one (pe_not (pe_callB call_isi (by rfl) T.b_isinstance (by decide +kernel) (pa_cons (pv 0) (pa_cons (pe_bltn (v := .ty "bool") (by rfl) T.b_bool (by decide +kernel) rfl) pa_nil)))))))), ?_⟩
  walk_at "rd"
  by_cases c : (wholeV x || boolV x) = true
  · refine r_tb c ?_
    walk_at "rd"
    rw [whole_not c]
    exact h
  · rw [Bool.not_eq_true] at c
    refine r_fb c ?_
    rw [whole_no c] at h
    exact h

def ptV : V → Bool
  | .int i => decide (0 ≤ i) && decide (i ≤ 7)
  | _ => false
def plV : V → Bool
  | .int i => decide (0 ≤ i) && decide (i ≤ 511)
  | _ => false
theorem pl_no {x : V} (h : wholeV x = false) : plV x = false := by cases x <;> first | rfl | cases h
theorem pt_no {x : V} (h : wholeV x = false) : ptV x = false := by cases x <;> first | rfl | cases h
def sp_is_part (K : PySem.W.Frag) (A : Ad) : Sp := fun vs H Q _ => ∃ x, vs = [x] ∧ AnyV H x ∧ Q (.bl (ptV x)) H
theorem ok_is_part (F : Df K mg "is_part" s_is_part ["thing"]) (T : Txt K mg A) (D_is_whole : Dn P w K mg base 1 "is_whole" (sp_is_whole K A)) : Dn P w K mg base 2 "is_part" (sp_is_part K A) := by
  refine F.dn sc_is_part (fun vs H Q E h => ?_) (fun cdv f Ar outer s H vs Q E hr h => ?_)
  · obtain ⟨x, rfl, hx, h⟩ := h; rfl
  obtain ⟨x, rfl, hx, h⟩ := h
  refine ⟨_, (pss_one (ps_ret (pe_and (pe_d D_is_whole hr (by decide) takes0 (pa_cons (pv 0) pa_nil)) (pe_one (pe_chain op_le op_le pe_int (pv 0) pe_int))))), ?_⟩
  walk_at "rd"
  refine ⟨x, rfl, hx, ?_⟩
  walk_at "rd"
  by_cases c : wholeV x = true
  · refine r_tb c ?_
    obtain ⟨i, rfl⟩ := whole_int c
    have h' : Q (.bl (decide (0 ≤ i) && decide (i ≤ 7))) H := h
    walk_at "rd"
    refine r_ite (fun c1 => ?_) (fun c1 => ?_)
    · walk_at "rd"
      rw [decide_eq_true c1, Bool.true_and] at h'
      exact h'
    · rw [decide_eq_false c1, Bool.false_and] at h'
      exact h'
  · rw [Bool.not_eq_true] at c
    refine r_fb c ?_
    rw [pt_no c] at h
    exact h
def sp_place_of (K : PySem.W.Frag) (A : Ad) : Sp := fun vs H Q E => ∃ x y z, vs = [x, y, z] ∧ AnyV H x ∧ AnyV H y ∧ AnyV H z ∧ (∀ i j k, x = .int i → y = .int j → z = .int k → 0 ≤ i → i ≤ 7 → 0 ≤ j → j ≤ 7 → 0 ≤ k → k ≤ 7 → Q (.int (64 * i + 8 * j + k)) H) ∧
  ((ptV x && ptV y && ptV z) = false → E (.ref A.C_NoPlace) none H)
theorem pt_int {x : V} (h : ptV x = true) : ∃ i, x = .int i ∧ 0 ≤ i ∧ i ≤ 7 := by
  cases x with
  | int i =>
    have h' : (decide (0 ≤ i) && decide (i ≤ 7)) = true := h
    simp at h'
    exact ⟨i, rfl, h'.1, h'.2⟩
  | _ => cases h
theorem ok_place_of (F : Df K mg "place_of" s_place_of ["outer", "inner", "cell"]) (T : Txt K mg A) (D_is_part : Dn P w K mg base 2 "is_part" (sp_is_part K A)) : Dn P w K mg base 3 "place_of" (sp_place_of K A) := by
  refine F.dn sc_place_of (fun vs H Q E h => ?_) (fun cdv f Ar outer s H vs Q E hr h => ?_)
  · obtain ⟨x, y, z, rfl, hx, hy, hz, h, hE⟩ := h; rfl
  obtain ⟨x, y, z, rfl, hx, hy, hz, h, hE⟩ := h
  refine ⟨_, (pss_cons (ps_if (PW.pt (pw_or (pt_not (pt_val (pe_d D_is_part hr (by decide) takes0 (pa_cons (pv 0) pa_nil)))) (pw_or (pt_not (pt_val (pe_d D_is_part hr (by decide) takes0 (pa_cons (pv 1) pa_nil)))) (pw_or1 (pt_not (pt_val (pe_d D_is_part hr (by decide) takes0 (pa_cons (pv 2) pa_nil)))))))) (pss_one (ps_raise rfl (takes_of rfl rfl rfl rfl) (pmk_o T.x_NoPlace T.k_NoPlace))) pss_nil)
  (pss_one (ps_ret (pe_op op_add (pe_op op_add (pe_op op_mul pe_int (pv 0)) (pe_op op_mul pe_int (pv 1))) (pv 2))))), ?_⟩
  walk_at "rd"
  refine ⟨x, rfl, hx, ?_⟩
  walk_at "rd"
  by_cases c : ptV x = true
  case neg =>
    rw [Bool.not_eq_true] at c
    refine r_nfb c ?_
    exact hE (by rw [c]; rfl)
  refine r_ntb c ?_
  walk_at "rd"
  refine ⟨y, rfl, hy, ?_⟩
  walk_at "rd"
  by_cases d : ptV y = true
  case neg =>
    rw [Bool.not_eq_true] at d
    refine r_nfb d ?_
    exact hE (by rw [d, Bool.and_false]; rfl)
  refine r_ntb d ?_
  walk_at "rd"
  refine ⟨z, rfl, hz, ?_⟩
  walk_at "rd"
  by_cases e : ptV z = true
  case neg =>
    rw [Bool.not_eq_true] at e
    refine r_nfb e ?_
    exact hE (by rw [e, Bool.and_false])
  refine r_ntb e ?_
  obtain ⟨i, rfl, i0, i1⟩ := pt_int c
  obtain ⟨j, rfl, j0, j1⟩ := pt_int d
  obtain ⟨k, rfl, k0, k1⟩ := pt_int e
  walk_at "rd"
  exact h i j k rfl rfl rfl i0 i1 j0 j1 k0 k1
def sp_look_at (K : PySem.W.Frag) (A : Ad) : Sp := fun vs H Q E => ∃ x, vs = [x] ∧ AnyV H x ∧ (∀ i, x = .int i → 0 ≤ i → i ≤ 511 → Q .non H) ∧ (plV x = false → E (.ref A.C_NoPlace) none H)
theorem ok_look_at (F : Df K mg "look_at" s_look_at ["place"]) (T : Txt K mg A) (D_is_whole : Dn P w K mg base 1 "is_whole" (sp_is_whole K A)) : Dn P w K mg base 2 "look_at" (sp_look_at K A) := by
  refine F.dn sc_look_at (fun vs H Q E h => ?_) (fun cdv f Ar outer s H vs Q E hr h => ?_)
  · obtain ⟨x, rfl, hx, h, hE⟩ := h; rfl
  obtain ⟨x, rfl, hx, h, hE⟩ := h
  refine ⟨_, (pss_one (ps_if (PW.pt (pw_or (pt_not (pt_val (pe_d D_is_whole hr (by decide) takes0 (pa_cons (pv 0) pa_nil)))) (pw_or (pt_cmpR op_lt (pv 0) pe_int (nomark _)) (pw_or1 (pt_cmpR op_gt (pv 0) pe_int (nomark _)))))) (pss_one (ps_raise rfl (takes_of rfl rfl rfl rfl) (pmk_o T.x_NoPlace T.k_NoPlace))) pss_nil)), ?_⟩
  walk_at "rd"
  refine ⟨x, rfl, hx, ?_⟩
  walk_at "rd"
  by_cases c : wholeV x = true
  case neg =>
    rw [Bool.not_eq_true] at c
    refine r_nfb c ?_
    exact hE (pl_no c)
  obtain ⟨p, rfl⟩ := whole_int c
  have hb : plV (.int p) = (decide (0 ≤ p) && decide (p ≤ 511)) := rfl
  walk_at "rd"
  refine r_ite (fun c1 => ?_) (fun c1 => ?_)
  · walk_at "rd"
    exact hE (by rw [hb, decide_eq_false (by omega)]; rfl)
  walk_at "rd"
  refine r_ite (fun c2 => ?_) (fun c2 => ?_)
  · exact hE (by rw [hb, decide_eq_false (show ¬ p ≤ 511 by omega), Bool.and_false])
  walk_at "rd"
  exact h p rfl (by omega) (by omega)
def sp_number_of (K : PySem.W.Frag) (A : Ad) : Sp := fun vs H Q E => ∃ x, vs = [x] ∧ AnyV H x ∧ (∀ i, x = .int i → 0 ≤ i → i ≤ 511 → Q (.int (i / 8)) H) ∧ (plV x = false → E (.ref A.C_NoPlace) none H)
theorem ok_number_of (F : Df K mg "number_of" s_number_of ["place"]) (T : Txt K mg A) (D_look_at : Dn P w K mg base 2 "look_at" (sp_look_at K A)) : Dn P w K mg base 3 "number_of" (sp_number_of K A) := by
  refine F.dn sc_number_of (fun vs H Q E h => ?_) (fun cdv f Ar outer s H vs Q E hr h => ?_)
  · obtain ⟨x, rfl, hx, h, hE⟩ := h; rfl
  obtain ⟨x, rfl, hx, h, hE⟩ := h
  refine ⟨_, (pss_cons (ps_expr (pe_d D_look_at hr (by decide) (takes_of rfl rfl rfl rfl) (pa_cons (pv 0) pa_nil)))
  (pss_one (ps_ret (pe_op op_fdiv (pv 0) pe_int)))), ?_⟩
  walk_at "rd"
  refine ⟨x, rfl, hx, fun i ei i0 i1 => ?_, hE⟩
  subst ei
  walk_at "rd"
  exact h i rfl i0 i1
def sp_parts_of (K : PySem.W.Frag) (A : Ad) : Sp := fun vs H Q E => ∃ x, vs = [x] ∧ AnyV H x ∧ (∀ i, x = .int i → 0 ≤ i → i ≤ 511 → ∀ p H', Ex H H' → H p = none → H' p = some (.tup [.int (i / 64), .int (i / 8 % 8), .int (i % 8)]) → Q (.ref p) H') ∧ (plV x = false → E (.ref A.C_NoPlace) none H)
theorem ok_parts_of (F : Df K mg "parts_of" s_parts_of ["place"]) (T : Txt K mg A) (D_look_at : Dn P w K mg base 2 "look_at" (sp_look_at K A)) : Dn P w K mg base 3 "parts_of" (sp_parts_of K A) := by
  refine F.dn sc_parts_of (fun vs H Q E h => ?_) (fun cdv f Ar outer s H vs Q E hr h => ?_)
  · obtain ⟨x, rfl, hx, h, hE⟩ := h; rfl
  obtain ⟨x, rfl, hx, h, hE⟩ := h
  refine ⟨_, (pss_cons (ps_expr (pe_d D_look_at hr (by decide) (takes_of rfl rfl rfl rfl) (pa_cons (pv 0) pa_nil)))
  (pss_cons (ps_asg (pe_callB call_dm (by rfl) T.b_divmod (by decide +kernel) (pa_cons (pv 0) (pa_cons pe_int pa_nil))) (pg_tup (by rfl) (pgs_cons (pg_name (i := 1) sc_parts_of.nd rfl (Or.inl rfl)) (pgs_cons (pg_name (i := 2) sc_parts_of.nd rfl (Or.inl rfl)) pgs_nil))))
  (pss_cons (ps_asg (pe_callB call_dm (by rfl) T.b_divmod (by decide +kernel) (pa_cons (pv 1) (pa_cons pe_int pa_nil))) (pg_tup (by rfl) (pgs_cons (pg_name (i := 3) sc_parts_of.nd rfl (Or.inl rfl)) (pgs_cons (pg_name (i := 4) sc_parts_of.nd rfl (Or.inl rfl)) pgs_nil))))
  (pss_one (ps_ret (pe_tup (pa_cons (pv 3) (pa_cons (pv 4) (pa_cons (pv 2) pa_nil))))))))), ?_⟩
  walk_at "rd"
  refine ⟨x, rfl, hx, fun i ei i0 i1 => ?_, hE⟩
  subst ei
  walk_at "rd"
  refine r_dm ⟨by decide, by decide⟩ fun p1 H1 n1 e1 h1 => ?_
  walk_at "rd"
  refine r_dm ⟨by decide, by decide⟩ fun p2 H2 n2 e2 h2 => ?_
  walk_at "rd"
  refine r_new fun p3 H3 n3 e3 h3 => ?_
  refine h i rfl i0 i1 p3 H3 (e1.trans (e2.trans e3)) (fresh_back e1 (fresh_back e2 n3)) ?_
  rw [h3, show i / 8 / 8 = i / 64 by omega]
/-- what isinstance says of an exception of the class at D -/
structure KD (K : PySem.W.Frag) (A : Ad) (D : Addr) (b0 b1 b2 b3 b4 b5 b6 b7 b8 b9 b10 b11 b12 b13 b14 b15 b16 : Bool) : Prop where
  h0 : PySem.W.kitOne K (.ref D) (.ref A.C_NoWord) = some b0
  h1 : PySem.W.kitOne K (.ref D) (.ref A.C_NoRow) = some b1
  h2 : PySem.W.kitOne K (.ref D) (.ref A.C_NoPlace) = some b2
  h3 : PySem.W.kitOne K (.ref D) (.ref A.C_NoPage) = some b3
  h4 : PySem.W.kitOne K (.ref D) (.ref A.C_NoImage) = some b4
  h5 : PySem.W.kitOne K (.ref D) (.ref A.C_NoShelf) = some b5
  h6 : PySem.W.kitOne K (.ref D) (.ref A.C_NoFrame) = some b6
  h7 : PySem.W.kitOne K (.ref D) (.ref A.C_NoRoom) = some b7
  h8 : PySem.W.kitOne K (.ref D) (.ref A.C_NoBound) = some b8
  h9 : PySem.W.kitOne K (.ref D) (.ref A.C_NoName) = some b9
  h10 : PySem.W.kitOne K (.ref D) (.ref A.C_NoWay) = some b10
  h11 : PySem.W.kitOne K (.ref D) (.ref A.C_Busy) = some b11
  h12 : PySem.W.kitOne K (.ref D) (.ref A.C_Over) = some b12
  h13 : PySem.W.kitOne K (.ref D) (.ref A.C_NoOrder) = some b13
  h14 : PySem.W.kitOne K (.ref D) (.ref A.C_NoProgram) = some b14
  h15 : PySem.W.kitOne K (.ref D) (.ref A.C_NoText) = some b15
  h16 : PySem.W.kitOne K (.ref D) (.ref A.C_Fault) = some b16
def sp__law_kinds (K : PySem.W.Frag) (A : Ad) : SpE := fun a cls d vs H Q _ => ∃ (D : Addr) (b0 b1 b2 b3 b4 b5 b6 b7 b8 b9 b10 b11 b12 b13 b14 b15 b16 : Bool), vs = [.ref a] ∧ cls = .ref D ∧ d = none ∧ ExcC K D ∧ KD K A D b0 b1 b2 b3 b4 b5 b6 b7 b8 b9 b10 b11 b12 b13 b14 b15 b16 ∧ ∀ l H1, Ex H H1 → H l = none → H1 l = some (.lst ([b0, b1, b2, b3, b4, b5, b6, b7, b8, b9, b10, b11, b12, b13, b14, b15, b16].map V.bl)) → Q (.ref l) H1
theorem ok__law_kinds (F : Df K mg "_law_kinds" s__law_kinds ["_law_e"]) (T : Txt K mg A) : En P w K mg base 1 "_law_kinds" (sp__law_kinds K A) := by
  refine F.en sc__law_kinds (fun a c d vs H Q E h => ?_) (fun cdv f Ar outer s H vs Q p cls d hz hf h => ?_)
  · obtain ⟨D, b0, b1, b2, b3, b4, b5, b6, b7, b8, b9, b10, b11, b12, b13, b14, b15, b16, rfl, rfl, rfl, hC, ⟨h0, h1, h2, h3, h4, h5, h6, h7, h8, h9, h10, h11, h12, h13, h14, h15, h16⟩, k⟩ := h; rfl
  obtain ⟨D, b0, b1, b2, b3, b4, b5, b6, b7, b8, b9, b10, b11, b12, b13, b14, b15, b16, rfl, rfl, rfl, hC, ⟨h0, h1, h2, h3, h4, h5, h6, h7, h8, h9, h10, h11, h12, h13, h14, h15, h16⟩, k⟩ := h
  refine ⟨_, (pss_cons (ps_set (i := 1) sc__law_kinds.nd rfl (Or.inl rfl) (pe_lst (pa_cons (pe_callB (call_isP (K := K) rfl List.mem_cons_self hz hf) (by rfl) T.b_isinstance (by decide +kernel) (pa_cons (pv 0) (pa_cons (pe_glob (v := .ref A.C_NoWord) rfl T.k_NoWord rfl) pa_nil))) (pa_cons (pe_callB (call_isP (K := K) rfl List.mem_cons_self hz hf) (by rfl) T.b_isinstance (by decide +kernel) (pa_cons (pv 0) (pa_cons (pe_glob (v := .ref A.C_NoRow) rfl T.k_NoRow rfl) pa_nil))) (pa_cons (pe_callB (call_isP (K := K) rfl List.mem_cons_self hz hf) (by rfl) T.b_isinstance (by decide +kernel) (pa_cons (pv 0) (pa_cons (pe_glob (v := .ref A.C_NoPlace) rfl T.k_NoPlace rfl) pa_nil))) (pa_cons (pe_callB (call_isP (K := K) rfl List.mem_cons_self hz hf) (by rfl) T.b_isinstance (by decide +kernel) (pa_cons (pv 0) (pa_cons (pe_glob (v := .ref A.C_NoPage) rfl T.k_NoPage rfl) pa_nil))) pa_nil))))))
  (pss_cons (ps_set (i := 1) sc__law_kinds.nd rfl (Or.inl rfl) (pe_op op_cat (pv 1) (pe_lst (pa_cons (pe_callB (call_isP (K := K) rfl List.mem_cons_self hz hf) (by rfl) T.b_isinstance (by decide +kernel) (pa_cons (pv 0) (pa_cons (pe_glob (v := .ref A.C_NoImage) rfl T.k_NoImage rfl) pa_nil))) (pa_cons (pe_callB (call_isP (K := K) rfl List.mem_cons_self hz hf) (by rfl) T.b_isinstance (by decide +kernel) (pa_cons (pv 0) (pa_cons (pe_glob (v := .ref A.C_NoShelf) rfl T.k_NoShelf rfl) pa_nil))) (pa_cons (pe_callB (call_isP (K := K) rfl List.mem_cons_self hz hf) (by rfl) T.b_isinstance (by decide +kernel) (pa_cons (pv 0) (pa_cons (pe_glob (v := .ref A.C_NoFrame) rfl T.k_NoFrame rfl) pa_nil))) (pa_cons (pe_callB (call_isP (K := K) rfl List.mem_cons_self hz hf) (by rfl) T.b_isinstance (by decide +kernel) (pa_cons (pv 0) (pa_cons (pe_glob (v := .ref A.C_NoRoom) rfl T.k_NoRoom rfl) pa_nil))) pa_nil)))))))
  (pss_cons (ps_set (i := 1) sc__law_kinds.nd rfl (Or.inl rfl) (pe_op op_cat (pv 1) (pe_lst (pa_cons (pe_callB (call_isP (K := K) rfl List.mem_cons_self hz hf) (by rfl) T.b_isinstance (by decide +kernel) (pa_cons (pv 0) (pa_cons (pe_glob (v := .ref A.C_NoBound) rfl T.k_NoBound rfl) pa_nil))) (pa_cons (pe_callB (call_isP (K := K) rfl List.mem_cons_self hz hf) (by rfl) T.b_isinstance (by decide +kernel) (pa_cons (pv 0) (pa_cons (pe_glob (v := .ref A.C_NoName) rfl T.k_NoName rfl) pa_nil))) (pa_cons (pe_callB (call_isP (K := K) rfl List.mem_cons_self hz hf) (by rfl) T.b_isinstance (by decide +kernel) (pa_cons (pv 0) (pa_cons (pe_glob (v := .ref A.C_NoWay) rfl T.k_NoWay rfl) pa_nil))) (pa_cons (pe_callB (call_isP (K := K) rfl List.mem_cons_self hz hf) (by rfl) T.b_isinstance (by decide +kernel) (pa_cons (pv 0) (pa_cons (pe_glob (v := .ref A.C_Busy) rfl T.k_Busy rfl) pa_nil))) pa_nil)))))))
  (pss_cons (ps_set (i := 1) sc__law_kinds.nd rfl (Or.inl rfl) (pe_op op_cat (pv 1) (pe_lst (pa_cons (pe_callB (call_isP (K := K) rfl List.mem_cons_self hz hf) (by rfl) T.b_isinstance (by decide +kernel) (pa_cons (pv 0) (pa_cons (pe_glob (v := .ref A.C_Over) rfl T.k_Over rfl) pa_nil))) (pa_cons (pe_callB (call_isP (K := K) rfl List.mem_cons_self hz hf) (by rfl) T.b_isinstance (by decide +kernel) (pa_cons (pv 0) (pa_cons (pe_glob (v := .ref A.C_NoOrder) rfl T.k_NoOrder rfl) pa_nil))) (pa_cons (pe_callB (call_isP (K := K) rfl List.mem_cons_self hz hf) (by rfl) T.b_isinstance (by decide +kernel) (pa_cons (pv 0) (pa_cons (pe_glob (v := .ref A.C_NoProgram) rfl T.k_NoProgram rfl) pa_nil))) (pa_cons (pe_callB (call_isP (K := K) rfl List.mem_cons_self hz hf) (by rfl) T.b_isinstance (by decide +kernel) (pa_cons (pv 0) (pa_cons (pe_glob (v := .ref A.C_NoText) rfl T.k_NoText rfl) pa_nil))) pa_nil)))))))
  (pss_one (ps_ret (pe_op op_cat (pv 1) (pe_lst (pa_cons (pe_callB (call_isP (K := K) rfl List.mem_cons_self hz hf) (by rfl) T.b_isinstance (by decide +kernel) (pa_cons (pv 0) (pa_cons (pe_glob (v := .ref A.C_Fault) rfl T.k_Fault rfl) pa_nil))) pa_nil))))))))), ?_⟩
  have e : Ex H H := Ex.refl H
  refine q_asgL (el_lst (ea_cons (ev_isP hC h0) (ea_cons (ev_isP hC h1) (ea_cons (ev_isP hC h2) (ea_cons (ev_isP hC h3) ea_nil)))) (by show 4 ≤ 100000; decide)) fun p H3 hp e3 z => ?_
  replace e := Ex.trans e e3
  refine q_asgL (el_cat (ev_var rfl) z (el_lst (ea_cons (ev_isP hC h4) (ea_cons (ev_isP hC h5) (ea_cons (ev_isP hC h6) (ea_cons (ev_isP hC h7) ea_nil)))) (by show 4 ≤ 100000; decide)) (by show 4 + 4 ≤ 100000; decide)) fun p H3 hp e3 z => ?_
  replace e := Ex.trans e e3
  refine q_asgL (el_cat (ev_var rfl) z (el_lst (ea_cons (ev_isP hC h8) (ea_cons (ev_isP hC h9) (ea_cons (ev_isP hC h10) (ea_cons (ev_isP hC h11) ea_nil)))) (by show 4 ≤ 100000; decide)) (by show 8 + 4 ≤ 100000; decide)) fun p H3 hp e3 z => ?_
  replace e := Ex.trans e e3
  refine q_asgL (el_cat (ev_var rfl) z (el_lst (ea_cons (ev_isP hC h12) (ea_cons (ev_isP hC h13) (ea_cons (ev_isP hC h14) (ea_cons (ev_isP hC h15) ea_nil)))) (by show 4 ≤ 100000; decide)) (by show 12 + 4 ≤ 100000; decide)) fun p H3 hp e3 z => ?_
  replace e := Ex.trans e e3
  exact s_retL (el_cat (ev_var rfl) z (el_lst (ea_cons (ev_isP hC h16) ea_nil) (by show 1 ≤ 100000; decide)) (by show 16 + 1 ≤ 100000; decide)) fun p H3 hp e3 h3 => k p H3 (Ex.trans e e3) (fresh_back e hp) h3
def sp__law_ask (K : PySem.W.Frag) (A : Ad) : Sp := fun vs H Q E => ∃ (w : Int) (a : Addr) (xs : List V), vs = [.int w, .ref a] ∧ SqL K H a xs ∧ (∀ x ∈ xs, AnyV H x) ∧
  ((w = 0 ∧ ∃ x y z, xs = [x, y, z] ∧ (ptV x && ptV y && ptV z) = false) ∨ (w ≠ 0 ∧ ∃ x, xs = [x] ∧ plV x = false)) ∧ E (.ref A.C_NoPlace) none H
theorem ok__law_ask (F : Df K mg "_law_ask" s__law_ask ["_law_way", "_law_things"]) (T : Txt K mg A) (D_place_of : Dn P w K mg base 3 "place_of" (sp_place_of K A)) (D_number_of : Dn P w K mg base 3 "number_of" (sp_number_of K A)) (D_parts_of : Dn P w K mg base 3 "parts_of" (sp_parts_of K A)) : Dn P w K mg base 4 "_law_ask" (sp__law_ask K A) := by
  refine F.dn sc__law_ask (fun vs H Q E h => ?_) (fun cdv f Ar outer s H vs Q E hr h => ?_)
  · obtain ⟨w, a, xs, rfl, hS, hA, hc, hE⟩ := h; rfl
  obtain ⟨w, a, xs, rfl, hS, hA, hc, hE⟩ := h
  refine ⟨_, (pss_cons (ps_if (pt_cmpR op_eq (pv 0) pe_int (nomark _)) (pss_one (ps_ret (pe_d D_place_of hr (by decide) (takes_of rfl rfl rfl rfl) (pa_cons (pe_ix ix_list (pv 1) pe_int (fun _ _ => rfl)) (pa_cons (pe_ix ix_list (pv 1) pe_int (fun _ _ => rfl)) (pa_cons (pe_ix ix_list (pv 1) pe_int (fun _ _ => rfl)) pa_nil)))))) pss_nil)
  (pss_cons (ps_if (pt_cmpR op_eq (pv 0) pe_int (nomark _)) (pss_one (ps_ret (pe_d D_number_of hr (by decide) (takes_of rfl rfl rfl rfl) (pa_cons (pe_ix ix_list (pv 1) pe_int (fun _ _ => rfl)) pa_nil)))) pss_nil)
  (pss_one (ps_ret (pe_d D_parts_of hr (by decide) (takes_of rfl rfl rfl rfl) (pa_cons (pe_ix ix_list (pv 1) pe_int (fun _ _ => rfl)) pa_nil)))))), ?_⟩
  walk_at "rd"
  rcases hc with ⟨w0, x, y, z, rfl, hf⟩ | ⟨w0, x, rfl, hf⟩
  · subst w0
    walk_at "rd"
    refine r_ixL hS rfl ?_
    walk_at "rd"
    refine r_ixL hS rfl ?_
    walk_at "rd"
    refine r_ixL hS rfl ?_
    walk_at "rd"
    refine ⟨x, y, z, rfl, hA _ (by simp), hA _ (by simp), hA _ (by simp), fun i j k ex ey ez i0 i1 j0 j1 k0 k1 => ?_, fun _ => hE⟩
    subst ex ey ez
    have : (decide (0 ≤ i) && decide (i ≤ 7) && (decide (0 ≤ j) && decide (j ≤ 7)) && (decide (0 ≤ k) && decide (k ≤ 7))) = false := hf
    simp at this; omega
  · walk_at "rd"
    refine r_ite (fun c => ?_) (fun c => ?_)
    · walk_at "rd"
      refine r_ixL hS rfl ?_
      walk_at "rd"
      refine ⟨x, rfl, hA _ (by simp), fun i ex i0 i1 => ?_, fun _ => hE⟩
      subst ex
      have : (decide (0 ≤ i) && decide (i ≤ 511)) = false := hf
      simp at this; omega
    · walk_at "rd"
      refine r_ixL hS rfl ?_
      walk_at "rd"
      refine ⟨x, rfl, hA _ (by simp), fun i ex i0 i1 => ?_, fun _ => hE⟩
      subst ex
      have : (decide (0 ≤ i) && decide (i ≤ 511)) = false := hf
      simp at this; omega
def sp__law_refused (K : PySem.W.Frag) (A : Ad) : Sp := fun vs H Q _ => ∃ (w : Int) (a : Addr) (xs : List V), vs = [.int w, .ref a] ∧ SqL K H a xs ∧ (∀ x ∈ xs, AnyV H x) ∧
  ((w = 0 ∧ ∃ x y z, xs = [x, y, z] ∧ (ptV x && ptV y && ptV z) = false) ∨ (w ≠ 0 ∧ ∃ x, xs = [x] ∧ plV x = false)) ∧ ∀ H', Ex H H' → Q (.bl true) H'
theorem ok__law_refused (F : Df K mg "_law_refused" s__law_refused ["_law_way", "_law_things"]) (T : Txt K mg A) (D__law_kinds : En P w K mg base 1 "_law_kinds" (sp__law_kinds K A)) (D__law_ask : Dn P w K mg base 4 "_law_ask" (sp__law_ask K A)) : Dn P w K mg base 5 "_law_refused" (sp__law_refused K A) := by
  refine F.dn sc__law_refused (fun vs H Q E h => ?_) (fun cdv f Ar outer s H vs Q E hr h => ?_)
  · obtain ⟨w, a, xs, rfl, hS, hA, hc, h⟩ := h; rfl
  obtain ⟨w, a, xs, rfl, hS, hA, hc, h⟩ := h
  refine ⟨_, (pss_cons (ps_set (i := 2) sc__law_refused.nd rfl (Or.inl rfl) (pe_lst pa_nil))
  (pss_cons (ps_try_as (i := 3) rfl rfl sc__law_refused.nd rfl rfl ⟨rfl, by decide, .inl T.k_HouseError⟩ takes0 (fun W pn xe tk pw => (pss_one (ps_expr (pe_d D__law_ask hr (by decide) tk (pa_cons (pv 0) (pa_cons (pv 1) pa_nil))))))
  (fun ea eo ecls ed pn hz hf => (pss_one (ps_set (i := 2) sc__law_refused.nd rfl (Or.inl rfl) (pe_op op_cat (pe_e D__law_kinds hr (by decide) hz hf (pa_cons (pv 3) pa_nil)) (pe_lst (pa_cons (pe_callB (call_isP (K := K) rfl List.mem_cons_self hz hf) (by rfl) T.b_isinstance (by decide +kernel) (pa_cons (pv 3) (pa_cons (pe_bltn (v := .ty "ValueError") (by rfl) T.b_ValueError (by decide +kernel) rfl) pa_nil))) pa_nil)))))))
  (pss_one (ps_ret (pe_cmpR (op_eqD hr.units) (pv 2) (pe_op op_cat (pe_op op_cat (pe_lst (pa_cons pe_bl (pa_cons pe_bl (pa_cons pe_bl pa_nil)))) (pe_op op_rep (pe_lst (pa_cons pe_bl pa_nil)) pe_int)) (pe_lst (pa_cons pe_bl pa_nil))) (nomark _)))))), ?_⟩
  walk_at "rd"
  refine r_new fun p H1 n1 e1 h1 => ?_
  walk_at "rd"
  refine ⟨w, a, xs, rfl, ex_l e1 hS, fun x hx => (hA x hx).mono e1, hc, ?_⟩
  refine ⟨true, T.x_NoPlace.m, fun _ a ha => ?_, fun q => nomatch q⟩
  walk_at "rd"
  refine ⟨A.C_NoPlace, _, _, _, _, _, _, _, _, _, _, _, _, _, _, _, _, _, rfl, rfl, rfl, T.x_NoPlace.c, ⟨T.kt_NoPlace_NoWord, T.kt_NoPlace_NoRow, T.kt_NoPlace_NoPlace, T.kt_NoPlace_NoPage, T.kt_NoPlace_NoImage, T.kt_NoPlace_NoShelf, T.kt_NoPlace_NoFrame, T.kt_NoPlace_NoRoom, T.kt_NoPlace_NoBound, T.kt_NoPlace_NoName, T.kt_NoPlace_NoWay, T.kt_NoPlace_Busy, T.kt_NoPlace_Over, T.kt_NoPlace_NoOrder, T.kt_NoPlace_NoProgram, T.kt_NoPlace_NoText, T.kt_NoPlace_Fault⟩, fun l H2 e2 nl hl => ?_⟩
  walk_at "rd"
  refine r_isP T.x_NoPlace.c T.kt_NoPlace_ValueError (fun u r => r) ?_
  walk_at "rd"
  refine r_new fun p3 H3 n3 e3 h3 => ?_
  refine r_cat (e3 _ _ hl) h3 (by show 17 + 1 ≤ 100000; decide) (fun p4 H4 n4 e4 h4 => ?_)
  walk_at "rd1"
  walk_at "rd1"
  walk_at "rd1"
  refine r_ret (r_op (r_var rfl (evl_use (el_cat2 (el_cat2 (el_lst (ea_cons ev_c (ea_cons ev_c (ea_cons ev_c ea_nil))) (by show 3 ≤ 100000; decide)) (el_rep (k := 14) (el_lst (ea_cons ev_c ea_nil) (by show 1 ≤ 100000; decide)) ev_c (by decide) (by decide) (by show 1 * 14 ≤ 100000; decide)) (by show 3 + 14 ≤ 100000; decide)) (el_lst (ea_cons ev_c ea_nil) (by show 1 ≤ 100000; decide)) (by show 17 + 1 ≤ 100000; decide)) fun p5 H5 n5 e5 h5 => ?_)))
  refine r_eqBs (bs := [false, false, true, false, false, false, false, false, false, false, false, false, false, false, false, false, false, true]) (cs := [false, false, true, false, false, false, false, false, false, false, false, false, false, false, false, false, false, true]) (SqL.of (e5 _ _ h4)) (SqL.of h5) ?_
  exact h _ (e1.trans (e2.trans (e3.trans (e4.trans e5))))
def sp__law_odd (K : PySem.W.Frag) (A : Ad) : Sp := fun vs H Q _ => ∃ c l : Int, vs = [.int c, .int l] ∧ ∀ v H', Ex H H' → AnyV H' v → (∀ i, v = .int i → i < 0 ∨ l ≤ i) → Q v H'
theorem ok__law_odd (F : Df K mg "_law_odd" s__law_odd ["_law_cell", "_law_least"]) (T : Txt K mg A) : Dn P w K mg base 1 "_law_odd" (sp__law_odd K A) := by
  refine F.dn sc__law_odd (fun vs H Q E h => ?_) (fun cdv f Ar outer s H vs Q E hr h => ?_)
  · obtain ⟨c, l, rfl, h⟩ := h; rfl
  obtain ⟨c, l, rfl, h⟩ := h
  refine ⟨_, (pss_cons (ps_set (i := 2) sc__law_odd.nd rfl (Or.inl rfl) (pe_op op_add (pv 1) (pe_op op_mod (pe_op op_fdiv (pv 0) pe_int) (pe_op op_pow pe_int pe_int))))
  (pss_one (ps_ret (pe_ix ix_list (pe_lst (pa_cons (pe_un un_neg pe_int) (pa_cons (pv 1) (pa_cons (pv 2) (pa_cons pe_bl (pa_cons pe_bl (pa_cons pe_non (pa_cons pe_str (pa_cons (pe_lst (pa_cons pe_int pa_nil)) (pa_cons (pe_tup (pa_cons pe_int pa_nil)) pa_nil)))))))))) (pe_op op_mod (pv 0) pe_int) (fun _ _ => rfl))))), ?_⟩
  walk_at "rd"
  refine r_new fun p1 H1 n1 e1 h1 => ?_
  walk_at "rd"
  refine r_new fun p2 H2 n2 e2 h2 => ?_
  walk_at "rd"
  refine r_new fun p3 H3 n3 e3 h3 => ?_
  walk_at "rd"
  have a1 := (AnyV.lst h1).mono (e2.trans e3)
  have a2 := (AnyV.tup h2).mono e3
  refine r_ixMod h3 rfl (by decide) fun v hm => ?_
  walk_at "rd"
  refine h v H3 (e1.trans (e2.trans e3)) ?_ ?_
  · simp only [List.mem_cons, List.not_mem_nil, or_false] at hm
    rcases hm with rfl | rfl | rfl | rfl | rfl | rfl | rfl | rfl | rfl
    · exact .int
    · exact .int
    · exact .int
    · exact .bl
    · exact .bl
    · exact .non
    · exact .str
    · exact a1
    · exact a2
  · simp only [List.mem_cons, List.not_mem_nil, or_false] at hm
    have b := Int.emod_nonneg (c / 9) (show (1000000000000000000000000000000000000000000000000000000000000 : Int) ≠ 0 by decide)
    intro i ei
    subst ei
    rcases hm with e | e | e | e | e | e | e | e | e <;> first | cases e | skip
    · left; decide
    · right; exact Int.le_refl _
    · right; omega

def sp__law_told (K : PySem.W.Frag) (A : Ad) : Sp := fun vs H Q _ => ∃ i : Int, vs = [.int i] ∧ 0 ≤ i ∧ i ≤ 511 ∧ ∀ H', Ex H H' → Q (.bl true) H'
theorem ok__law_told (F : Df K mg "_law_told" s__law_told ["_law_place"]) (T : Txt K mg A) (D_place_of : Dn P w K mg base 3 "place_of" (sp_place_of K A)) (D_number_of : Dn P w K mg base 3 "number_of" (sp_number_of K A)) (D_parts_of : Dn P w K mg base 3 "parts_of" (sp_parts_of K A)) (D__law_whole : Dn P w K mg base 1 "_law_whole" (sp__law_whole K A)) : Dn P w K mg base 4 "_law_told" (sp__law_told K A) := by
  refine F.dn sc__law_told (fun vs H Q E h => ?_) (fun cdv f Ar outer s H vs Q E hr h => ?_)
  · obtain ⟨i, rfl, i0, i1, h⟩ := h; rfl
  obtain ⟨i, rfl, i0, i1, h⟩ := h
  refine ⟨_, (pss_cons (ps_set (i := 1) sc__law_told.nd rfl (Or.inl rfl) (pe_d D_parts_of hr (by decide) (takes_of rfl rfl rfl rfl) (pa_cons (pv 0) pa_nil)))
  (pss_cons (ps_if (PW.pt (pw_or (pt_not (pt_val (pe_callB call_isi (by rfl) T.b_isinstance (by decide +kernel) (pa_cons (pv 1) (pa_cons (pe_bltn (v := .ty "tuple") (by rfl) T.b_tuple (by decide +kernel) rfl) pa_nil))))) (pw_or1 (pt_cmpR op_ne (pe_callB call_lnS (by rfl) T.b_len (by decide +kernel) (pa_cons (pv 1) pa_nil)) pe_int (nomark _))))) (pss_one (ps_ret pe_bl)) pss_nil)
  (pss_cons (ps_for (passes_of rfl) rfl (pi_tup (pv 1)) (pg_name (i := 2) sc__law_told.nd rfl (Or.inl rfl))
  (pss_one (ps_if (PW.pt (pw_or (pt_not (pt_val (pe_d D__law_whole hr (by decide) takes0 (pa_cons (pv 2) pa_nil)))) (pw_or (pt_cmpR op_lt (pv 2) pe_int (nomark _)) (pw_or1 (pt_cmpR op_gt (pv 2) pe_int (nomark _)))))) (pss_one (ps_ret pe_bl)) pss_nil)))
  (pss_cons (ps_asg (pv 1) (pg_tup (by rfl) (pgs_cons (pg_name (i := 3) sc__law_told.nd rfl (Or.inl rfl)) (pgs_cons (pg_name (i := 4) sc__law_told.nd rfl (Or.inl rfl)) (pgs_cons (pg_name (i := 5) sc__law_told.nd rfl (Or.inl rfl)) pgs_nil)))))
  (pss_cons (ps_if (pt_cmpR op_ne (pe_op op_add (pe_op op_add (pe_op op_mul pe_int (pv 3)) (pe_op op_mul pe_int (pv 4))) (pv 5)) (pv 0) (nomark _)) (pss_one (ps_ret pe_bl)) pss_nil)
  (pss_cons (ps_set (i := 6) sc__law_told.nd rfl (Or.inl rfl) (pe_d D_number_of hr (by decide) (takes_of rfl rfl rfl rfl) (pa_cons (pv 0) pa_nil)))
  (pss_cons (ps_set (i := 7) sc__law_told.nd rfl (Or.inl rfl) (pe_d D_place_of hr (by decide) (takes_of rfl rfl rfl rfl) (pa_cons (pv 3) (pa_cons (pv 4) (pa_cons (pv 5) pa_nil)))))
  (pss_one (ps_ret (pe_and (pe_d D__law_whole hr (by decide) takes0 (pa_cons (pv 6) pa_nil)) (pe_and (pe_cmpR op_eq (pv 6) (pe_op op_add (pe_op op_mul pe_int (pv 3)) (pv 4)) (nomark _)) (pe_and (pe_d D__law_whole hr (by decide) takes0 (pa_cons (pv 7) pa_nil)) (pe_one (pe_cmpR op_eq (pv 7) (pv 0) (nomark _))))))))))))))), ?_⟩
  have no : ¬ plV (.int i) = false := by
    show ¬ (decide (0 ≤ i) && decide (i ≤ 511)) = false
    simp; omega
  walk_at "rd"
  refine ⟨_, rfl, .int, fun i' ei _ _ p1 H1 e1 n1 h1 => ?_, fun q => (no q).elim⟩
  cases ei
  walk_at "rd"
  refine r_lenT (SqT.of h1) ?_
  walk_at "rd"
  refine r_iT (SqT.of h1) (fun k σ H' => Ex H1 H' ∧ ∃ x2 x3 x4 x5 x6 x7, σ = [some (.int i), some (.ref p1), x2, x3, x4, x5, x6, x7]) ⟨Ex.refl _, _, _, _, _, _, _, rfl⟩ (fun k σ H' _ q => SqT.of (q.1 _ _ h1)) ?_ ?_
  · rintro k y σ H' hk ⟨hs, x2, x3, x4, x5, x6, x7, rfl⟩
    obtain ⟨z, ez, z0, z1⟩ : ∃ z, y = .int z ∧ 0 ≤ z ∧ z ≤ 7 := by
      have hm := List.mem_of_getElem? hk
      simp only [List.mem_cons, List.not_mem_nil, or_false] at hm
      rcases hm with e | e | e
      · exact ⟨_, e, by omega, by omega⟩
      · exact ⟨_, e, by omega, by omega⟩
      · exact ⟨_, e, by omega, by omega⟩
    subst ez
    walk_at "rd"
    refine ⟨_, rfl, .int, ?_⟩
    walk_at "ro"
    exact ⟨hs, _, _, _, _, _, _, rfl⟩
  · rintro σ H' ⟨hs, x2, x3, x4, x5, x6, x7, rfl⟩
    have h1' := hs _ _ h1
    walk_at "ro"
    refine ⟨_, rfl, .int, fun i' ei _ _ => ?_, fun q => (no q).elim⟩
    cases ei
    walk_at "ro"
    refine ⟨_, _, _, rfl, .int, .int, .int, fun a b c ea eb ec _ _ _ _ _ _ => ?_, fun q => ?_⟩
    case refine_2 =>
      have : (decide (0 ≤ i / 64) && decide (i / 64 ≤ 7) && (decide (0 ≤ i / 8 % 8) && decide (i / 8 % 8 ≤ 7)) && (decide (0 ≤ i % 8) && decide (i % 8 ≤ 7))) = false := q
      simp at this; omega
    cases ea; cases eb; cases ec
    walk_at "ro"
    refine ⟨_, rfl, .int, ?_⟩
    walk_at "ro"
    refine ⟨_, rfl, .int, ?_⟩
    walk_at "ro"
    rw [show decide (64 * (i / 64) + 8 * (i / 8 % 8) + i % 8 = i) = true from decide_eq_true (by omega)]
    exact h _ (e1.trans hs)
theorem L_law {fa : Addr} (hfa : mg "law" = some (.ref fa)) (T : Txt K mg A) (F_NoProgram___init__ : Mf K A.C_NoProgram "__init__" "NoProgram.__init__" s_NoProgram___init__ ["self", "place"]) (F_NoText___init__ : Mf K A.C_NoText "__init__" "NoText.__init__" s_NoText___init__ ["self", "place"]) (F_Fault___init__ : Mf K A.C_Fault "__init__" "Fault.__init__" s_Fault___init__ ["self", "kind", "place", "level"]) (F_is_whole : Df K mg "is_whole" s_is_whole ["thing"]) (F_is_part : Df K mg "is_part" s_is_part ["thing"]) (F_place_of : Df K mg "place_of" s_place_of ["outer", "inner", "cell"]) (F_look_at : Df K mg "look_at" s_look_at ["place"]) (F_number_of : Df K mg "number_of" s_number_of ["place"]) (F_parts_of : Df K mg "parts_of" s_parts_of ["place"]) (F__law_whole : Df K mg "_law_whole" s__law_whole ["_law_found"]) (F__law_kinds : Df K mg "_law_kinds" s__law_kinds ["_law_e"]) (F__law_ask : Df K mg "_law_ask" s__law_ask ["_law_way", "_law_things"]) (F__law_refused : Df K mg "_law_refused" s__law_refused ["_law_way", "_law_things"]) (F__law_odd : Df K mg "_law_odd" s__law_odd ["_law_cell", "_law_least"]) (F__law_told : Df K mg "_law_told" s__law_told ["_law_place"]) (F_law : Df K mg "law" s_law ["_law_script"]) :
    ∃ fd : FuncData, (∀ (s : Shared) (u : Value), BindsTo s fd ⟨[u], []⟩ [("_law_script", u)]) ∧ ∀ base : Heap, K.In base → base.Ns mainGlobals mg → FnOk P w K mg base (L2.CX P w) 6 fa fd ["_law_script"] (sp_law K) := by
  refine F_law.law hfa sc_law (fun vs H Q E h => ?_) (fun base _ _ cdv f Ar outer s H vs Q E hr h => ?_)
  · obtain ⟨a, ns, rfl, _⟩ := h; rfl
  obtain ⟨a, ns, rfl, hS, hl, k⟩ := h
  have D__law_kinds : En P w K mg base 1 "_law_kinds" (sp__law_kinds K A) := ok__law_kinds F__law_kinds T
  have D_is_whole : Dn P w K mg base 1 "is_whole" (sp_is_whole K A) := ok_is_whole F_is_whole T
  have D__law_odd : Dn P w K mg base 1 "_law_odd" (sp__law_odd K A) := ok__law_odd F__law_odd T
  have D__law_whole : Dn P w K mg base 1 "_law_whole" (sp__law_whole K A) := ok__law_whole F__law_whole T
  have D_is_part : Dn P w K mg base 2 "is_part" (sp_is_part K A) := ok_is_part F_is_part T D_is_whole
  have D_look_at : Dn P w K mg base 2 "look_at" (sp_look_at K A) := ok_look_at F_look_at T D_is_whole
  have D_place_of : Dn P w K mg base 3 "place_of" (sp_place_of K A) := ok_place_of F_place_of T D_is_part
  have D_number_of : Dn P w K mg base 3 "number_of" (sp_number_of K A) := ok_number_of F_number_of T D_look_at
  have D_parts_of : Dn P w K mg base 3 "parts_of" (sp_parts_of K A) := ok_parts_of F_parts_of T D_look_at
  have D__law_ask : Dn P w K mg base 4 "_law_ask" (sp__law_ask K A) := ok__law_ask F__law_ask T D_place_of D_number_of D_parts_of
  have D__law_told : Dn P w K mg base 4 "_law_told" (sp__law_told K A) := ok__law_told F__law_told T D_place_of D_number_of D_parts_of D__law_whole
  have D__law_refused : Dn P w K mg base 5 "_law_refused" (sp__law_refused K A) := ok__law_refused F__law_refused T D__law_kinds D__law_ask
  refine ⟨_, (pss_cons (ps_for (passes_of rfl) rfl (pi_list (pe_op op_cat (pe_slice sl_list (pv 0) po_none (po_some pe_int)) (pe_lst (pa_cons (pe_callB call_lnS (by rfl) T.b_len (by decide +kernel) (pa_cons (pv 0) pa_nil)) pa_nil)))) (pg_name (i := 1) sc_law.nd rfl (Or.inl rfl))
  (pss_cons (ps_if (pt_not (pt_val (pe_d D__law_told hr (by decide) takes0 (pa_cons (pe_op op_mod (pv 1) pe_int) pa_nil)))) (pss_one (ps_ret pe_bl)) pss_nil)
  (pss_cons (ps_set (i := 2) sc_law.nd rfl (Or.inl rfl) (pe_op op_fdiv (pv 1) pe_int))
  (pss_cons (ps_set (i := 3) sc_law.nd rfl (Or.inl rfl) (pe_lst (pa_cons (pe_op op_mod (pv 1) pe_int) (pa_cons (pe_op op_mod (pe_op op_fdiv (pv 1) pe_int) pe_int) (pa_cons (pe_op op_mod (pe_op op_fdiv (pv 1) pe_int) pe_int) pa_nil)))))
  (pss_cons (ps_asg (pe_d D__law_odd hr (by decide) takes0 (pa_cons (pe_op op_fdiv (pv 2) pe_int) (pa_cons pe_int pa_nil))) (pg_sub (pv 3) (pe_op op_mod (pv 2) pe_int) set_list))
  (pss_cons (ps_if (pt_not (pt_val (pe_d D__law_refused hr (by decide) takes0 (pa_cons pe_int (pa_cons (pv 3) pa_nil))))) (pss_one (ps_ret pe_bl)) pss_nil)
  (pss_cons (ps_set (i := 4) sc_law.nd rfl (Or.inl rfl) (pe_lst (pa_cons (pe_d D__law_odd hr (by decide) takes0 (pa_cons (pe_op op_fdiv (pv 1) pe_int) (pa_cons pe_int pa_nil))) pa_nil)))
  (pss_one (ps_if (PW.pt (pw_or (pt_not (pt_val (pe_d D__law_refused hr (by decide) takes0 (pa_cons pe_int (pa_cons (pv 4) pa_nil))))) (pw_or1 (pt_not (pt_val (pe_d D__law_refused hr (by decide) takes0 (pa_cons pe_int (pa_cons (pv 4) pa_nil)))))))) (pss_one (ps_ret pe_bl)) pss_nil)))))))))
  (pss_one (ps_ret pe_bl))), ?_⟩
  walk_at "rd"
  refine r_slL hS (fun p1 H1 n1 e1 h1 => ?_)
  obtain ⟨ms, em, hms, _⟩ := cut_int ns none (some 60)
  rw [em] at h1
  walk_at "rd"
  refine ⟨_, _, rfl, .inl (Same.seq e1 hS), ?_⟩
  walk_at "rd"
  refine r_new fun p2 H2 n2 e2 h2 => ?_
  refine r_cat (e2 _ _ h1) h2 (by rw [List.length_map]; show _ + 1 ≤ 100000; omega) fun p3 H3 n3 e3 h3 => ?_
  obtain ⟨zs, hz, hzl⟩ : ∃ zs : List Int, ms.map V.int ++ [V.int ((ns.map V.int).length : Int)] = zs.map V.int ∧ zs.length ≤ 64 := ⟨ms ++ [((ns.map V.int).length : Int)], by rw [List.map_append]; rfl, by simp; omega⟩
  rw [hz] at h3
  refine r_iL (SqL.of h3) (fun i σ H' => Ex H3 H' ∧ ∃ x1 x2 x3 x4, σ = [some (.ref a), x1, x2, x3, x4]) ⟨Ex.refl _, _, _, _, _, rfl⟩ (fun i σ H' _ q => SqL.of (q.1 _ _ h3)) ?_ ?_
  · rintro i y σ H' hi ⟨hs, x1, x2, x3, x4, rfl⟩
    obtain ⟨z, _, rfl⟩ := int_at hi
    walk_at "rd"
    refine ⟨_, rfl, by omega, by omega, fun H4 e4 => ?_⟩
    walk_at "rd"
    refine r_new fun p5 H5 n5 e5 h5 => ?_
    walk_at "rd"
    refine ⟨_, _, rfl, fun w H6 e6 aw hw => ?_⟩
    walk_at "rd"
    have n5' : H3 p5 = none := fresh_back hs (fresh_back e4 n5)
    have hwp : ptV w = false := by
      cases w <;> first | rfl | skip
      rename_i i
      have := hw i rfl
      show (decide (0 ≤ i) && decide (i ≤ 7)) = false
      simp; omega
    have hp : z / 5 % 3 = 0 ∨ z / 5 % 3 = 1 ∨ z / 5 % 3 = 2 := by omega
    have key : ∃ j, ixN 3 (z / 5 % 3) = some j ∧ ∃ a b c, ([V.int (z % 8), V.int (z / 8 % 8), V.int (z / 64 % 8)] : List V).set j w = [a, b, c] ∧ AnyV H6 a ∧ AnyV H6 b ∧ AnyV H6 c ∧ (ptV a && ptV b && ptV c) = false := by
      rcases hp with e | e | e <;> rw [e]
      · exact ⟨0, rfl, _, _, _, rfl, aw, .int, .int, by rw [hwp]; rfl⟩
      · exact ⟨1, rfl, _, _, _, rfl, .int, aw, .int, by rw [hwp, Bool.and_false]; rfl⟩
      · exact ⟨2, rfl, _, _, _, rfl, .int, .int, aw, by rw [hwp, Bool.and_false]⟩
    obtain ⟨j, hj, a', b', c', hset, aa, ab, ac, hf⟩ := key
    refine r_setL (e6 _ _ h5) hj ?_
    rw [hset]
    walk_at "rd"
    refine ⟨_, p5, [a', b', c'], rfl, SqL.of upd_same, ?_, .inl ⟨rfl, a', b', c', rfl, hf⟩, fun H7 e7 => ?_⟩
    · intro x hx
      simp only [List.mem_cons, List.not_mem_nil, or_false] at hx
      rcases hx with rfl | rfl | rfl
      · exact aa.upd
      · exact ab.upd
      · exact ac.upd
    walk_at "rd"
    refine ⟨_, _, rfl, fun v H8 e8 av hv => ?_⟩
    walk_at "rd"
    refine r_new fun p9 H9 n9 e9 h9 => ?_
    have hvp : plV v = false := by
      cases v <;> first | rfl | skip
      rename_i i
      have := hv i rfl
      show (decide (0 ≤ i) && decide (i ≤ 511)) = false
      simp; omega
    walk_at "rd"
    refine ⟨_, p9, [v], rfl, SqL.of h9, fun x hx => by rw [List.mem_singleton.mp hx]; exact av.mono e9, .inr ⟨by decide, v, rfl, hvp⟩, fun H10 e10 => ?_⟩
    walk_at "rd"
    refine ⟨_, p9, [v], rfl, SqL.of (e10 _ _ h9), fun x hx => by rw [List.mem_singleton.mp hx]; exact (av.mono e9).mono e10, .inr ⟨by decide, v, rfl, hvp⟩, fun H11 e11 => ?_⟩
    walk_at "rd"
    exact ⟨((hs.trans (e4.trans (e5.trans e6))).mut n5').trans (e7.trans (e8.trans (e9.trans (e10.trans e11)))), _, _, _, _, rfl⟩
  · rintro σ H' ⟨hs, x1, x2, x3, x4, rfl⟩
    walk_at "rd"
    exact k _
end
theorem all_mk {P : Program} {w : World} {K : PySem.W.Frag} {h : Heap} {mg : Str → Option Value} {fa : Addr} {C_HouseError C_NoWord C_NoRow C_NoPlace C_NoPage C_NoImage C_NoShelf C_NoFrame C_NoRoom C_NoBound C_NoName C_NoWay C_Busy C_Over C_NoOrder C_NoProgram C_NoText C_Fault : Addr} (X : K.In h) (G : h.Ns mainGlobals mg) (hfa : mg "law" = some (.ref fa))
    (b_ValueError : PySem.W.nsIn K mainGlobals "ValueError" = some none)
    (b_bool : PySem.W.nsIn K mainGlobals "bool" = some none)
    (b_divmod : PySem.W.nsIn K mainGlobals "divmod" = some none)
    (b_int : PySem.W.nsIn K mainGlobals "int" = some none)
    (b_isinstance : PySem.W.nsIn K mainGlobals "isinstance" = some none)
    (b_len : PySem.W.nsIn K mainGlobals "len" = some none)
    (b_tuple : PySem.W.nsIn K mainGlobals "tuple" = some none)
    (k_HouseError : PySem.W.nsIn K mainGlobals "HouseError" = some (some (.ref C_HouseError)))
    (hb_HouseError : PySem.W.subIn K (.ref C_HouseError) (.type "BaseException") = some true)
    (hd_HouseError : PySem.W.hasDictIn K C_HouseError = true)
    (ht_HouseError : PySem.W.typeIn K (.ref C_HouseError) = some (.type "type"))
    (k_NoWord : PySem.W.nsIn K mainGlobals "NoWord" = some (some (.ref C_NoWord)))
    (k_NoRow : PySem.W.nsIn K mainGlobals "NoRow" = some (some (.ref C_NoRow)))
    (k_NoPlace : PySem.W.nsIn K mainGlobals "NoPlace" = some (some (.ref C_NoPlace)))
    (xq_NoPlace : PySem.W.excIn K C_NoPlace [.type "ValueError", .type "Exception", .type "BaseException", .type "object"] "ValueError.__new__" = true)
    (xk_NoPlace : PySem.W.keepIn K (.ref C_NoPlace) = true)
    (xb_NoPlace : PySem.W.subIn K (.ref C_NoPlace) (.type "BaseException") = some true)
    (xt_NoPlace : PySem.W.typeIn K (.ref C_NoPlace) = some (.type "type"))
    (x1_NoPlace : PySem.W.findIn K (.ref C_NoPlace) "__getattribute__" = some (some (.builtin "BaseException.__getattribute__")))
    (x2_NoPlace : PySem.W.findIn K (.ref C_NoPlace) "__getattr__" = some none)
    (x3_NoPlace : PySem.W.hasDictIn K C_NoPlace = true)
    (x4_NoPlace : PySem.W.findIn K (.ref C_NoPlace) "__class__" = some (some (.builtin "object.__class__")))
    (x5_NoPlace : PySem.W.specialIn K (.builtin "object.__class__") "__get__" = some (some (.builtin "getset_descriptor.__get__")))
    (x6_NoPlace : PySem.W.takesIn K (.builtin "object.__class__") = some true)
    (x7_NoPlace : PySem.W.mroIn K C_NoPlace (.type "object") = some true)
    (x8_NoPlace : PySem.W.subIn K (.ref C_NoPlace) (.ref C_HouseError) = some true)
    (k_NoPage : PySem.W.nsIn K mainGlobals "NoPage" = some (some (.ref C_NoPage)))
    (k_NoImage : PySem.W.nsIn K mainGlobals "NoImage" = some (some (.ref C_NoImage)))
    (k_NoShelf : PySem.W.nsIn K mainGlobals "NoShelf" = some (some (.ref C_NoShelf)))
    (k_NoFrame : PySem.W.nsIn K mainGlobals "NoFrame" = some (some (.ref C_NoFrame)))
    (k_NoRoom : PySem.W.nsIn K mainGlobals "NoRoom" = some (some (.ref C_NoRoom)))
    (k_NoBound : PySem.W.nsIn K mainGlobals "NoBound" = some (some (.ref C_NoBound)))
    (k_NoName : PySem.W.nsIn K mainGlobals "NoName" = some (some (.ref C_NoName)))
    (k_NoWay : PySem.W.nsIn K mainGlobals "NoWay" = some (some (.ref C_NoWay)))
    (k_Busy : PySem.W.nsIn K mainGlobals "Busy" = some (some (.ref C_Busy)))
    (k_Over : PySem.W.nsIn K mainGlobals "Over" = some (some (.ref C_Over)))
    (k_NoOrder : PySem.W.nsIn K mainGlobals "NoOrder" = some (some (.ref C_NoOrder)))
    (k_NoProgram : PySem.W.nsIn K mainGlobals "NoProgram" = some (some (.ref C_NoProgram)))
    (k_NoText : PySem.W.nsIn K mainGlobals "NoText" = some (some (.ref C_NoText)))
    (k_Fault : PySem.W.nsIn K mainGlobals "Fault" = some (some (.ref C_Fault)))
    (kt_NoPlace_NoWord : PySem.W.kitOne K (.ref C_NoPlace) (.ref C_NoWord) = some false)
    (kt_NoPlace_NoRow : PySem.W.kitOne K (.ref C_NoPlace) (.ref C_NoRow) = some false)
    (kt_NoPlace_NoPlace : PySem.W.kitOne K (.ref C_NoPlace) (.ref C_NoPlace) = some true)
    (kt_NoPlace_NoPage : PySem.W.kitOne K (.ref C_NoPlace) (.ref C_NoPage) = some false)
    (kt_NoPlace_NoImage : PySem.W.kitOne K (.ref C_NoPlace) (.ref C_NoImage) = some false)
    (kt_NoPlace_NoShelf : PySem.W.kitOne K (.ref C_NoPlace) (.ref C_NoShelf) = some false)
    (kt_NoPlace_NoFrame : PySem.W.kitOne K (.ref C_NoPlace) (.ref C_NoFrame) = some false)
    (kt_NoPlace_NoRoom : PySem.W.kitOne K (.ref C_NoPlace) (.ref C_NoRoom) = some false)
    (kt_NoPlace_NoBound : PySem.W.kitOne K (.ref C_NoPlace) (.ref C_NoBound) = some false)
    (kt_NoPlace_NoName : PySem.W.kitOne K (.ref C_NoPlace) (.ref C_NoName) = some false)
    (kt_NoPlace_NoWay : PySem.W.kitOne K (.ref C_NoPlace) (.ref C_NoWay) = some false)
    (kt_NoPlace_Busy : PySem.W.kitOne K (.ref C_NoPlace) (.ref C_Busy) = some false)
    (kt_NoPlace_Over : PySem.W.kitOne K (.ref C_NoPlace) (.ref C_Over) = some false)
    (kt_NoPlace_NoOrder : PySem.W.kitOne K (.ref C_NoPlace) (.ref C_NoOrder) = some false)
    (kt_NoPlace_NoProgram : PySem.W.kitOne K (.ref C_NoPlace) (.ref C_NoProgram) = some false)
    (kt_NoPlace_NoText : PySem.W.kitOne K (.ref C_NoPlace) (.ref C_NoText) = some false)
    (kt_NoPlace_Fault : PySem.W.kitOne K (.ref C_NoPlace) (.ref C_Fault) = some false)
    (kt_NoPlace_ValueError : PySem.W.kitOne K (.ref C_NoPlace) (.type "ValueError") = some true)
    {f_NoProgram___init__ : Addr} {od_NoProgram___init__ an_NoProgram___init__ : Option Addr} {sl_NoProgram___init__ : Array (Option Value)} {oc_NoProgram___init__ kV_NoProgram___init__ dc_NoProgram___init__ pm_NoProgram___init__ cd_NoProgram___init__ ct_NoProgram___init__ : Value}
    (a_NoProgram___init__ : PySem.W.findIn K (.ref C_NoProgram) "__init__" = some (some (.ref f_NoProgram___init__)))
    (i_NoProgram___init__ : PySem.W.isFn K (.ref f_NoProgram___init__) = true)
    (l_NoProgram___init__ : K.lookup f_NoProgram___init__ = some ⟨oc_NoProgram___init__, od_NoProgram___init__, .func (PySem.W.fnOf "__init__" "NoProgram.__init__" (defArgs s_NoProgram___init__) (defBody s_NoProgram___init__) (defScope s_NoProgram___init__) .none kV_NoProgram___init__ dc_NoProgram___init__ pm_NoProgram___init__ an_NoProgram___init__ cd_NoProgram___init__ ct_NoProgram___init__), sl_NoProgram___init__⟩)
    (d_NoProgram___init__ : PySem.W.codeIn K cd_NoProgram___init__ "NoProgram.__init__" = true)
    (e_NoProgram___init__ : PySem.W.keepIn K (.ref f_NoProgram___init__) = true)
    {f_NoText___init__ : Addr} {od_NoText___init__ an_NoText___init__ : Option Addr} {sl_NoText___init__ : Array (Option Value)} {oc_NoText___init__ kV_NoText___init__ dc_NoText___init__ pm_NoText___init__ cd_NoText___init__ ct_NoText___init__ : Value}
    (a_NoText___init__ : PySem.W.findIn K (.ref C_NoText) "__init__" = some (some (.ref f_NoText___init__)))
    (i_NoText___init__ : PySem.W.isFn K (.ref f_NoText___init__) = true)
    (l_NoText___init__ : K.lookup f_NoText___init__ = some ⟨oc_NoText___init__, od_NoText___init__, .func (PySem.W.fnOf "__init__" "NoText.__init__" (defArgs s_NoText___init__) (defBody s_NoText___init__) (defScope s_NoText___init__) .none kV_NoText___init__ dc_NoText___init__ pm_NoText___init__ an_NoText___init__ cd_NoText___init__ ct_NoText___init__), sl_NoText___init__⟩)
    (d_NoText___init__ : PySem.W.codeIn K cd_NoText___init__ "NoText.__init__" = true)
    (e_NoText___init__ : PySem.W.keepIn K (.ref f_NoText___init__) = true)
    {f_Fault___init__ : Addr} {od_Fault___init__ an_Fault___init__ : Option Addr} {sl_Fault___init__ : Array (Option Value)} {oc_Fault___init__ kV_Fault___init__ dc_Fault___init__ pm_Fault___init__ cd_Fault___init__ ct_Fault___init__ : Value}
    (a_Fault___init__ : PySem.W.findIn K (.ref C_Fault) "__init__" = some (some (.ref f_Fault___init__)))
    (i_Fault___init__ : PySem.W.isFn K (.ref f_Fault___init__) = true)
    (l_Fault___init__ : K.lookup f_Fault___init__ = some ⟨oc_Fault___init__, od_Fault___init__, .func (PySem.W.fnOf "__init__" "Fault.__init__" (defArgs s_Fault___init__) (defBody s_Fault___init__) (defScope s_Fault___init__) .none kV_Fault___init__ dc_Fault___init__ pm_Fault___init__ an_Fault___init__ cd_Fault___init__ ct_Fault___init__), sl_Fault___init__⟩)
    (d_Fault___init__ : PySem.W.codeIn K cd_Fault___init__ "Fault.__init__" = true)
    (e_Fault___init__ : PySem.W.keepIn K (.ref f_Fault___init__) = true)
    {f_is_whole : Addr} {od_is_whole an_is_whole : Option Addr} {sl_is_whole : Array (Option Value)} {oc_is_whole kV_is_whole dc_is_whole pm_is_whole cd_is_whole ct_is_whole : Value}
    (a_is_whole : PySem.W.nsIn K mainGlobals "is_whole" = some (some (.ref f_is_whole)))
    (l_is_whole : K.lookup f_is_whole = some ⟨oc_is_whole, od_is_whole, .func (PySem.W.fnOf "is_whole" "is_whole" (defArgs s_is_whole) (defBody s_is_whole) (defScope s_is_whole) .none kV_is_whole dc_is_whole pm_is_whole an_is_whole cd_is_whole ct_is_whole), sl_is_whole⟩)
    (d_is_whole : PySem.W.codeIn K cd_is_whole "is_whole" = true)
    (e_is_whole : PySem.W.keepIn K (.ref f_is_whole) = true)
    {f_is_part : Addr} {od_is_part an_is_part : Option Addr} {sl_is_part : Array (Option Value)} {oc_is_part kV_is_part dc_is_part pm_is_part cd_is_part ct_is_part : Value}
    (a_is_part : PySem.W.nsIn K mainGlobals "is_part" = some (some (.ref f_is_part)))
    (l_is_part : K.lookup f_is_part = some ⟨oc_is_part, od_is_part, .func (PySem.W.fnOf "is_part" "is_part" (defArgs s_is_part) (defBody s_is_part) (defScope s_is_part) .none kV_is_part dc_is_part pm_is_part an_is_part cd_is_part ct_is_part), sl_is_part⟩)
    (d_is_part : PySem.W.codeIn K cd_is_part "is_part" = true)
    (e_is_part : PySem.W.keepIn K (.ref f_is_part) = true)
    {f_place_of : Addr} {od_place_of an_place_of : Option Addr} {sl_place_of : Array (Option Value)} {oc_place_of kV_place_of dc_place_of pm_place_of cd_place_of ct_place_of : Value}
    (a_place_of : PySem.W.nsIn K mainGlobals "place_of" = some (some (.ref f_place_of)))
    (l_place_of : K.lookup f_place_of = some ⟨oc_place_of, od_place_of, .func (PySem.W.fnOf "place_of" "place_of" (defArgs s_place_of) (defBody s_place_of) (defScope s_place_of) .none kV_place_of dc_place_of pm_place_of an_place_of cd_place_of ct_place_of), sl_place_of⟩)
    (d_place_of : PySem.W.codeIn K cd_place_of "place_of" = true)
    (e_place_of : PySem.W.keepIn K (.ref f_place_of) = true)
    {f_look_at : Addr} {od_look_at an_look_at : Option Addr} {sl_look_at : Array (Option Value)} {oc_look_at kV_look_at dc_look_at pm_look_at cd_look_at ct_look_at : Value}
    (a_look_at : PySem.W.nsIn K mainGlobals "look_at" = some (some (.ref f_look_at)))
    (l_look_at : K.lookup f_look_at = some ⟨oc_look_at, od_look_at, .func (PySem.W.fnOf "look_at" "look_at" (defArgs s_look_at) (defBody s_look_at) (defScope s_look_at) .none kV_look_at dc_look_at pm_look_at an_look_at cd_look_at ct_look_at), sl_look_at⟩)
    (d_look_at : PySem.W.codeIn K cd_look_at "look_at" = true)
    (e_look_at : PySem.W.keepIn K (.ref f_look_at) = true)
    {f_number_of : Addr} {od_number_of an_number_of : Option Addr} {sl_number_of : Array (Option Value)} {oc_number_of kV_number_of dc_number_of pm_number_of cd_number_of ct_number_of : Value}
    (a_number_of : PySem.W.nsIn K mainGlobals "number_of" = some (some (.ref f_number_of)))
    (l_number_of : K.lookup f_number_of = some ⟨oc_number_of, od_number_of, .func (PySem.W.fnOf "number_of" "number_of" (defArgs s_number_of) (defBody s_number_of) (defScope s_number_of) .none kV_number_of dc_number_of pm_number_of an_number_of cd_number_of ct_number_of), sl_number_of⟩)
    (d_number_of : PySem.W.codeIn K cd_number_of "number_of" = true)
    (e_number_of : PySem.W.keepIn K (.ref f_number_of) = true)
    {f_parts_of : Addr} {od_parts_of an_parts_of : Option Addr} {sl_parts_of : Array (Option Value)} {oc_parts_of kV_parts_of dc_parts_of pm_parts_of cd_parts_of ct_parts_of : Value}
    (a_parts_of : PySem.W.nsIn K mainGlobals "parts_of" = some (some (.ref f_parts_of)))
    (l_parts_of : K.lookup f_parts_of = some ⟨oc_parts_of, od_parts_of, .func (PySem.W.fnOf "parts_of" "parts_of" (defArgs s_parts_of) (defBody s_parts_of) (defScope s_parts_of) .none kV_parts_of dc_parts_of pm_parts_of an_parts_of cd_parts_of ct_parts_of), sl_parts_of⟩)
    (d_parts_of : PySem.W.codeIn K cd_parts_of "parts_of" = true)
    (e_parts_of : PySem.W.keepIn K (.ref f_parts_of) = true)
    {f__law_whole : Addr} {od__law_whole an__law_whole : Option Addr} {sl__law_whole : Array (Option Value)} {oc__law_whole kV__law_whole dc__law_whole pm__law_whole cd__law_whole ct__law_whole : Value}
    (a__law_whole : PySem.W.nsIn K mainGlobals "_law_whole" = some (some (.ref f__law_whole)))
    (l__law_whole : K.lookup f__law_whole = some ⟨oc__law_whole, od__law_whole, .func (PySem.W.fnOf "_law_whole" "_law_whole" (defArgs s__law_whole) (defBody s__law_whole) (defScope s__law_whole) .none kV__law_whole dc__law_whole pm__law_whole an__law_whole cd__law_whole ct__law_whole), sl__law_whole⟩)
    (d__law_whole : PySem.W.codeIn K cd__law_whole "_law_whole" = true)
    (e__law_whole : PySem.W.keepIn K (.ref f__law_whole) = true)
    {f__law_kinds : Addr} {od__law_kinds an__law_kinds : Option Addr} {sl__law_kinds : Array (Option Value)} {oc__law_kinds kV__law_kinds dc__law_kinds pm__law_kinds cd__law_kinds ct__law_kinds : Value}
    (a__law_kinds : PySem.W.nsIn K mainGlobals "_law_kinds" = some (some (.ref f__law_kinds)))
    (l__law_kinds : K.lookup f__law_kinds = some ⟨oc__law_kinds, od__law_kinds, .func (PySem.W.fnOf "_law_kinds" "_law_kinds" (defArgs s__law_kinds) (defBody s__law_kinds) (defScope s__law_kinds) .none kV__law_kinds dc__law_kinds pm__law_kinds an__law_kinds cd__law_kinds ct__law_kinds), sl__law_kinds⟩)
    (d__law_kinds : PySem.W.codeIn K cd__law_kinds "_law_kinds" = true)
    (e__law_kinds : PySem.W.keepIn K (.ref f__law_kinds) = true)
    {f__law_ask : Addr} {od__law_ask an__law_ask : Option Addr} {sl__law_ask : Array (Option Value)} {oc__law_ask kV__law_ask dc__law_ask pm__law_ask cd__law_ask ct__law_ask : Value}
    (a__law_ask : PySem.W.nsIn K mainGlobals "_law_ask" = some (some (.ref f__law_ask)))
    (l__law_ask : K.lookup f__law_ask = some ⟨oc__law_ask, od__law_ask, .func (PySem.W.fnOf "_law_ask" "_law_ask" (defArgs s__law_ask) (defBody s__law_ask) (defScope s__law_ask) .none kV__law_ask dc__law_ask pm__law_ask an__law_ask cd__law_ask ct__law_ask), sl__law_ask⟩)
    (d__law_ask : PySem.W.codeIn K cd__law_ask "_law_ask" = true)
    (e__law_ask : PySem.W.keepIn K (.ref f__law_ask) = true)
    {f__law_refused : Addr} {od__law_refused an__law_refused : Option Addr} {sl__law_refused : Array (Option Value)} {oc__law_refused kV__law_refused dc__law_refused pm__law_refused cd__law_refused ct__law_refused : Value}
    (a__law_refused : PySem.W.nsIn K mainGlobals "_law_refused" = some (some (.ref f__law_refused)))
    (l__law_refused : K.lookup f__law_refused = some ⟨oc__law_refused, od__law_refused, .func (PySem.W.fnOf "_law_refused" "_law_refused" (defArgs s__law_refused) (defBody s__law_refused) (defScope s__law_refused) .none kV__law_refused dc__law_refused pm__law_refused an__law_refused cd__law_refused ct__law_refused), sl__law_refused⟩)
    (d__law_refused : PySem.W.codeIn K cd__law_refused "_law_refused" = true)
    (e__law_refused : PySem.W.keepIn K (.ref f__law_refused) = true)
    {f__law_odd : Addr} {od__law_odd an__law_odd : Option Addr} {sl__law_odd : Array (Option Value)} {oc__law_odd kV__law_odd dc__law_odd pm__law_odd cd__law_odd ct__law_odd : Value}
    (a__law_odd : PySem.W.nsIn K mainGlobals "_law_odd" = some (some (.ref f__law_odd)))
    (l__law_odd : K.lookup f__law_odd = some ⟨oc__law_odd, od__law_odd, .func (PySem.W.fnOf "_law_odd" "_law_odd" (defArgs s__law_odd) (defBody s__law_odd) (defScope s__law_odd) .none kV__law_odd dc__law_odd pm__law_odd an__law_odd cd__law_odd ct__law_odd), sl__law_odd⟩)
    (d__law_odd : PySem.W.codeIn K cd__law_odd "_law_odd" = true)
    (e__law_odd : PySem.W.keepIn K (.ref f__law_odd) = true)
    {f__law_told : Addr} {od__law_told an__law_told : Option Addr} {sl__law_told : Array (Option Value)} {oc__law_told kV__law_told dc__law_told pm__law_told cd__law_told ct__law_told : Value}
    (a__law_told : PySem.W.nsIn K mainGlobals "_law_told" = some (some (.ref f__law_told)))
    (l__law_told : K.lookup f__law_told = some ⟨oc__law_told, od__law_told, .func (PySem.W.fnOf "_law_told" "_law_told" (defArgs s__law_told) (defBody s__law_told) (defScope s__law_told) .none kV__law_told dc__law_told pm__law_told an__law_told cd__law_told ct__law_told), sl__law_told⟩)
    (d__law_told : PySem.W.codeIn K cd__law_told "_law_told" = true)
    (e__law_told : PySem.W.keepIn K (.ref f__law_told) = true)
    {f_law : Addr} {od_law an_law : Option Addr} {sl_law : Array (Option Value)} {oc_law kV_law dc_law pm_law cd_law ct_law : Value}
    (a_law : PySem.W.nsIn K mainGlobals "law" = some (some (.ref f_law)))
    (l_law : K.lookup f_law = some ⟨oc_law, od_law, .func (PySem.W.fnOf "law" "law" (defArgs s_law) (defBody s_law) (defScope s_law) .none kV_law dc_law pm_law an_law cd_law ct_law), sl_law⟩)
    (d_law : PySem.W.codeIn K cd_law "law" = true)
    (e_law : PySem.W.keepIn K (.ref f_law) = true)
    : ∃ fd : FuncData, (∀ (s : Shared) (u : Value), BindsTo s fd ⟨[u], []⟩ [("_law_script", u)]) ∧ ∀ base : Heap, K.In base → base.Ns mainGlobals mg → FnOk P w K mg base (L2.CX P w) 6 fa fd ["_law_script"] (sp_law K) := by
  let A : Ad := { C_HouseError := C_HouseError, C_NoWord := C_NoWord, C_NoRow := C_NoRow, C_NoPlace := C_NoPlace, C_NoPage := C_NoPage, C_NoImage := C_NoImage, C_NoShelf := C_NoShelf, C_NoFrame := C_NoFrame, C_NoRoom := C_NoRoom, C_NoBound := C_NoBound, C_NoName := C_NoName, C_NoWay := C_NoWay, C_Busy := C_Busy, C_Over := C_Over, C_NoOrder := C_NoOrder, C_NoProgram := C_NoProgram, C_NoText := C_NoText, C_Fault := C_Fault }
  have T : Txt K mg A := { b_ValueError := PySem.W.mg_none_of X G b_ValueError, b_bool := PySem.W.mg_none_of X G b_bool, b_divmod := PySem.W.mg_none_of X G b_divmod, b_int := PySem.W.mg_none_of X G b_int, b_isinstance := PySem.W.mg_none_of X G b_isinstance, b_len := PySem.W.mg_none_of X G b_len, b_tuple := PySem.W.mg_none_of X G b_tuple, k_HouseError := PySem.W.mg_of X G k_HouseError, k_NoWord := PySem.W.mg_of X G k_NoWord, k_NoRow := PySem.W.mg_of X G k_NoRow, k_NoPlace := PySem.W.mg_of X G k_NoPlace, k_NoPage := PySem.W.mg_of X G k_NoPage, k_NoImage := PySem.W.mg_of X G k_NoImage, k_NoShelf := PySem.W.mg_of X G k_NoShelf, k_NoFrame := PySem.W.mg_of X G k_NoFrame, k_NoRoom := PySem.W.mg_of X G k_NoRoom, k_NoBound := PySem.W.mg_of X G k_NoBound, k_NoName := PySem.W.mg_of X G k_NoName, k_NoWay := PySem.W.mg_of X G k_NoWay, k_Busy := PySem.W.mg_of X G k_Busy, k_Over := PySem.W.mg_of X G k_Over, k_NoOrder := PySem.W.mg_of X G k_NoOrder, k_NoProgram := PySem.W.mg_of X G k_NoProgram, k_NoText := PySem.W.mg_of X G k_NoText, k_Fault := PySem.W.mg_of X G k_Fault, x_NoPlace := ⟨xq_NoPlace, xk_NoPlace, xb_NoPlace, xt_NoPlace, ⟨x1_NoPlace, x2_NoPlace, xb_NoPlace, x3_NoPlace, x4_NoPlace, x5_NoPlace, x6_NoPlace, x7_NoPlace⟩, PySem.W.exm_ref hb_HouseError hd_HouseError ht_HouseError x8_NoPlace⟩, kt_NoPlace_NoWord := kt_NoPlace_NoWord, kt_NoPlace_NoRow := kt_NoPlace_NoRow, kt_NoPlace_NoPlace := kt_NoPlace_NoPlace, kt_NoPlace_NoPage := kt_NoPlace_NoPage, kt_NoPlace_NoImage := kt_NoPlace_NoImage, kt_NoPlace_NoShelf := kt_NoPlace_NoShelf, kt_NoPlace_NoFrame := kt_NoPlace_NoFrame, kt_NoPlace_NoRoom := kt_NoPlace_NoRoom, kt_NoPlace_NoBound := kt_NoPlace_NoBound, kt_NoPlace_NoName := kt_NoPlace_NoName, kt_NoPlace_NoWay := kt_NoPlace_NoWay, kt_NoPlace_Busy := kt_NoPlace_Busy, kt_NoPlace_Over := kt_NoPlace_Over, kt_NoPlace_NoOrder := kt_NoPlace_NoOrder, kt_NoPlace_NoProgram := kt_NoPlace_NoProgram, kt_NoPlace_NoText := kt_NoPlace_NoText, kt_NoPlace_Fault := kt_NoPlace_Fault, kt_NoPlace_ValueError := kt_NoPlace_ValueError }
  have F_NoProgram___init__ : Mf K C_NoProgram "__init__" "NoProgram.__init__" s_NoProgram___init__ ["self", "place"] := .mk' a_NoProgram___init__ i_NoProgram___init__ l_NoProgram___init__ d_NoProgram___init__ e_NoProgram___init__ (fun _ _ _ _ _ _ us hl => match us, hl with | [_, _], _ => rfl)
  have F_NoText___init__ : Mf K C_NoText "__init__" "NoText.__init__" s_NoText___init__ ["self", "place"] := .mk' a_NoText___init__ i_NoText___init__ l_NoText___init__ d_NoText___init__ e_NoText___init__ (fun _ _ _ _ _ _ us hl => match us, hl with | [_, _], _ => rfl)
  have F_Fault___init__ : Mf K C_Fault "__init__" "Fault.__init__" s_Fault___init__ ["self", "kind", "place", "level"] := .mk' a_Fault___init__ i_Fault___init__ l_Fault___init__ d_Fault___init__ e_Fault___init__ (fun _ _ _ _ _ _ us hl => match us, hl with | [_, _, _, _], _ => rfl)
  have F_is_whole : Df K mg "is_whole" s_is_whole ["thing"] := .mk' X G a_is_whole l_is_whole d_is_whole e_is_whole (fun _ _ _ _ _ _ us hl => match us, hl with | [_], _ => rfl)
  have F_is_part : Df K mg "is_part" s_is_part ["thing"] := .mk' X G a_is_part l_is_part d_is_part e_is_part (fun _ _ _ _ _ _ us hl => match us, hl with | [_], _ => rfl)
  have F_place_of : Df K mg "place_of" s_place_of ["outer", "inner", "cell"] := .mk' X G a_place_of l_place_of d_place_of e_place_of (fun _ _ _ _ _ _ us hl => match us, hl with | [_, _, _], _ => rfl)
  have F_look_at : Df K mg "look_at" s_look_at ["place"] := .mk' X G a_look_at l_look_at d_look_at e_look_at (fun _ _ _ _ _ _ us hl => match us, hl with | [_], _ => rfl)
  have F_number_of : Df K mg "number_of" s_number_of ["place"] := .mk' X G a_number_of l_number_of d_number_of e_number_of (fun _ _ _ _ _ _ us hl => match us, hl with | [_], _ => rfl)
  have F_parts_of : Df K mg "parts_of" s_parts_of ["place"] := .mk' X G a_parts_of l_parts_of d_parts_of e_parts_of (fun _ _ _ _ _ _ us hl => match us, hl with | [_], _ => rfl)
  have F__law_whole : Df K mg "_law_whole" s__law_whole ["_law_found"] := .mk' X G a__law_whole l__law_whole d__law_whole e__law_whole (fun _ _ _ _ _ _ us hl => match us, hl with | [_], _ => rfl)
  have F__law_kinds : Df K mg "_law_kinds" s__law_kinds ["_law_e"] := .mk' X G a__law_kinds l__law_kinds d__law_kinds e__law_kinds (fun _ _ _ _ _ _ us hl => match us, hl with | [_], _ => rfl)
  have F__law_ask : Df K mg "_law_ask" s__law_ask ["_law_way", "_law_things"] := .mk' X G a__law_ask l__law_ask d__law_ask e__law_ask (fun _ _ _ _ _ _ us hl => match us, hl with | [_, _], _ => rfl)
  have F__law_refused : Df K mg "_law_refused" s__law_refused ["_law_way", "_law_things"] := .mk' X G a__law_refused l__law_refused d__law_refused e__law_refused (fun _ _ _ _ _ _ us hl => match us, hl with | [_, _], _ => rfl)
  have F__law_odd : Df K mg "_law_odd" s__law_odd ["_law_cell", "_law_least"] := .mk' X G a__law_odd l__law_odd d__law_odd e__law_odd (fun _ _ _ _ _ _ us hl => match us, hl with | [_, _], _ => rfl)
  have F__law_told : Df K mg "_law_told" s__law_told ["_law_place"] := .mk' X G a__law_told l__law_told d__law_told e__law_told (fun _ _ _ _ _ _ us hl => match us, hl with | [_], _ => rfl)
  have F_law : Df K mg "law" s_law ["_law_script"] := .mk' X G a_law l_law d_law e_law (fun _ _ _ _ _ _ us hl => match us, hl with | [_], _ => rfl)
  exact L_law hfa T F_NoProgram___init__ F_NoText___init__ F_Fault___init__ F_is_whole F_is_part F_place_of F_look_at F_number_of F_parts_of F__law_whole F__law_kinds F__law_ask F__law_refused F__law_odd F__law_told F_law
end Gx
open PySem PySem.W PyProof.Rows
set_option maxRecDepth 100000 in
set_option maxHeartbeats 0 in
theorem PySem.Challenge.cw_shadowpages_k05_places_holds : PySem.Challenge.rw_shadowpages_k05_places.Holds := by
  w_on; o_law; k_head; (case hw => w_witness2)
  k_fill
  refine Z.walk_z (l := PySem.Challenge.rw_shadowpages_k05_places) (k := 6) rfl rfl (by decide) (fun w h Y => PySem.W.kIn_of Y) ?F
  case F =>
    intro w mg fa h KX G hmg
    refine' Gx.all_mk KX G hmg ?b_ValueError ?b_bool ?b_divmod ?b_int ?b_isinstance ?b_len ?b_tuple ?k_HouseError ?hb_HouseError ?hd_HouseError ?ht_HouseError ?k_NoWord ?k_NoRow ?k_NoPlace ?xq_NoPlace ?xk_NoPlace ?xb_NoPlace ?xt_NoPlace ?x1_NoPlace ?x2_NoPlace ?x3_NoPlace ?x4_NoPlace ?x5_NoPlace ?x6_NoPlace ?x7_NoPlace ?x8_NoPlace ?k_NoPage ?k_NoImage ?k_NoShelf ?k_NoFrame ?k_NoRoom ?k_NoBound ?k_NoName ?k_NoWay ?k_Busy ?k_Over ?k_NoOrder ?k_NoProgram ?k_NoText ?k_Fault ?kt_NoPlace_NoWord ?kt_NoPlace_NoRow ?kt_NoPlace_NoPlace ?kt_NoPlace_NoPage ?kt_NoPlace_NoImage ?kt_NoPlace_NoShelf ?kt_NoPlace_NoFrame ?kt_NoPlace_NoRoom ?kt_NoPlace_NoBound ?kt_NoPlace_NoName ?kt_NoPlace_NoWay ?kt_NoPlace_Busy ?kt_NoPlace_Over ?kt_NoPlace_NoOrder ?kt_NoPlace_NoProgram ?kt_NoPlace_NoText ?kt_NoPlace_Fault ?kt_NoPlace_ValueError ?a_NoProgram___init__ ?i_NoProgram___init__ ?l_NoProgram___init__ ?d_NoProgram___init__ ?e_NoProgram___init__ ?a_NoText___init__ ?i_NoText___init__ ?l_NoText___init__ ?d_NoText___init__ ?e_NoText___init__ ?a_Fault___init__ ?i_Fault___init__ ?l_Fault___init__ ?d_Fault___init__ ?e_Fault___init__ ?a_is_whole ?l_is_whole ?d_is_whole ?e_is_whole ?a_is_part ?l_is_part ?d_is_part ?e_is_part ?a_place_of ?l_place_of ?d_place_of ?e_place_of ?a_look_at ?l_look_at ?d_look_at ?e_look_at ?a_number_of ?l_number_of ?d_number_of ?e_number_of ?a_parts_of ?l_parts_of ?d_parts_of ?e_parts_of ?a__law_whole ?l__law_whole ?d__law_whole ?e__law_whole ?a__law_kinds ?l__law_kinds ?d__law_kinds ?e__law_kinds ?a__law_ask ?l__law_ask ?d__law_ask ?e__law_ask ?a__law_refused ?l__law_refused ?d__law_refused ?e__law_refused ?a__law_odd ?l__law_odd ?d__law_odd ?e__law_odd ?a__law_told ?l__law_told ?d__law_told ?e__law_told ?a_law ?l_law ?d_law ?e_law
    (case b_ValueError => k_is)
    (case b_bool => k_is)
    (case b_divmod => k_is)
    (case b_int => k_is)
    (case b_isinstance => k_is)
    (case b_len => k_is)
    (case b_tuple => k_is)
    (case k_HouseError => k_is)
    (case hb_HouseError => k_is)
    (case hd_HouseError => k_is)
    (case ht_HouseError => k_is)
    (case k_NoWord => k_is)
    (case k_NoRow => k_is)
    (case k_NoPlace => k_is)
    (case xq_NoPlace => k_exc)
    (case xk_NoPlace => first | k_is | rfl)
    (case xb_NoPlace => first | k_is | rfl)
    (case xt_NoPlace => first | k_is | rfl)
    (case x1_NoPlace => first | k_is | rfl)
    (case x2_NoPlace => first | k_is | rfl)
    (case x3_NoPlace => first | k_is | rfl)
    (case x4_NoPlace => first | k_is | rfl)
    (case x5_NoPlace => first | k_is | rfl)
    (case x6_NoPlace => first | k_is | rfl)
    (case x7_NoPlace => first | k_is | rfl)
    (case x8_NoPlace => first | k_is | rfl)
    (case k_NoPage => k_is)
    (case k_NoImage => k_is)
    (case k_NoShelf => k_is)
    (case k_NoFrame => k_is)
    (case k_NoRoom => k_is)
    (case k_NoBound => k_is)
    (case k_NoName => k_is)
    (case k_NoWay => k_is)
    (case k_Busy => k_is)
    (case k_Over => k_is)
    (case k_NoOrder => k_is)
    (case k_NoProgram => k_is)
    (case k_NoText => k_is)
    (case k_Fault => k_is)
    (case kt_NoPlace_NoWord => first | k_is | rfl)
    (case kt_NoPlace_NoRow => first | k_is | rfl)
    (case kt_NoPlace_NoPlace => first | k_is | rfl)
    (case kt_NoPlace_NoPage => first | k_is | rfl)
    (case kt_NoPlace_NoImage => first | k_is | rfl)
    (case kt_NoPlace_NoShelf => first | k_is | rfl)
    (case kt_NoPlace_NoFrame => first | k_is | rfl)
    (case kt_NoPlace_NoRoom => first | k_is | rfl)
    (case kt_NoPlace_NoBound => first | k_is | rfl)
    (case kt_NoPlace_NoName => first | k_is | rfl)
    (case kt_NoPlace_NoWay => first | k_is | rfl)
    (case kt_NoPlace_Busy => first | k_is | rfl)
    (case kt_NoPlace_Over => first | k_is | rfl)
    (case kt_NoPlace_NoOrder => first | k_is | rfl)
    (case kt_NoPlace_NoProgram => first | k_is | rfl)
    (case kt_NoPlace_NoText => first | k_is | rfl)
    (case kt_NoPlace_Fault => first | k_is | rfl)
    (case kt_NoPlace_ValueError => first | k_is | rfl)
    (case a_NoProgram___init__ => k_is)
    (case i_NoProgram___init__ => k_is)
    (case l_NoProgram___init__ => k_is)
    (case d_NoProgram___init__ => k_is)
    (case e_NoProgram___init__ => k_is)
    (case a_NoText___init__ => k_is)
    (case i_NoText___init__ => k_is)
    (case l_NoText___init__ => k_is)
    (case d_NoText___init__ => k_is)
    (case e_NoText___init__ => k_is)
    (case a_Fault___init__ => k_is)
    (case i_Fault___init__ => k_is)
    (case l_Fault___init__ => k_is)
    (case d_Fault___init__ => k_is)
    (case e_Fault___init__ => k_is)
    (case a_is_whole => k_is)
    (case l_is_whole => k_is)
    (case d_is_whole => k_is)
    (case e_is_whole => k_is)
    (case a_is_part => k_is)
    (case l_is_part => k_is)
    (case d_is_part => k_is)
    (case e_is_part => k_is)
    (case a_place_of => k_is)
    (case l_place_of => k_is)
    (case d_place_of => k_is)
    (case e_place_of => k_is)
    (case a_look_at => k_is)
    (case l_look_at => k_is)
    (case d_look_at => k_is)
    (case e_look_at => k_is)
    (case a_number_of => k_is)
    (case l_number_of => k_is)
    (case d_number_of => k_is)
    (case e_number_of => k_is)
    (case a_parts_of => k_is)
    (case l_parts_of => k_is)
    (case d_parts_of => k_is)
    (case e_parts_of => k_is)
    (case a__law_whole => k_is)
    (case l__law_whole => k_is)
    (case d__law_whole => k_is)
    (case e__law_whole => k_is)
    (case a__law_kinds => k_is)
    (case l__law_kinds => k_is)
    (case d__law_kinds => k_is)
    (case e__law_kinds => k_is)
    (case a__law_ask => k_is)
    (case l__law_ask => k_is)
    (case d__law_ask => k_is)
    (case e__law_ask => k_is)
    (case a__law_refused => k_is)
    (case l__law_refused => k_is)
    (case d__law_refused => k_is)
    (case e__law_refused => k_is)
    (case a__law_odd => k_is)
    (case l__law_odd => k_is)
    (case d__law_odd => k_is)
    (case e__law_odd => k_is)
    (case a__law_told => k_is)
    (case l__law_told => k_is)
    (case d__law_told => k_is)
    (case e__law_told => k_is)
    (case a_law => k_is)
    (case l_law => k_is)
    (case d_law => k_is)
    (case e_law => k_is)
#print axioms PySem.Challenge.cw_shadowpages_k05_places_holds
