import PyProof.Rows.All
import Wide.All
import OpenK.AllK
import Wide.FinOn
import HandS.ForMost
import HandS.ForExc
import HandS.IsInst
import HandS.Wide
import HandS.WideBits
import HandS.Flow
import HandS.Steps
import HandS.ExcInit
import HandS.HotCalls
import HandS.ExcIs
import PySem.Challenge.RW_shadowpages_k16_rights
set_option Elab.async false
set_option linter.all false
set_option maxRecDepth 100000
namespace Z
open PySem PySem.Spec PyProof.Rows L2
/-! defs packed: a def of the top by its name; a method of a class; a class made -/
structure Dn (P : Program) (w : World) (K : PySem.W.Frag) (mg : Str → Option Value) (base : Heap) (k : Nat) (x : Str) (sp : Sp) : Prop where
  ex : ∃ (f : Addr) (fd : FuncData) (ps : List Str), FnOk P w K mg base (L2.CX P w) k f fd ps sp ∧ mg x = some (.ref f) ∧ PySem.W.keepIn K (.ref f) = true ∧ Binds K fd ps []
structure Mn (P : Program) (w : World) (K : PySem.W.Frag) (mg : Str → Option Value) (base : Heap) (k : Nat) (C : Addr) (m : Str) (sp : Sp) : Prop where
  ex : ∃ (f : Addr) (fd : FuncData) (ps : List Str), FnOk P w K mg base (L2.CX P w) k f fd ps sp ∧ Cls K C ∧ Meth K C m f ∧ Binds K fd ps []
/-- the def as the top left it -/
structure Df (K : PySem.W.Frag) (mg : Str → Option Value) (x : Str) (st : Stmt) (ps : List Str) : Prop where
  ex : ∃ (f : Addr) (fd : FuncData), Fun K x x st f fd ∧ mg x = some (.ref f) ∧ ∀ us : List Value, us.length = ps.length → bindArgs fd ⟨us, []⟩ = pure (ps.zip us)
structure Mf (K : PySem.W.Frag) (C : Addr) (m q : Str) (st : Stmt) (ps : List Str) : Prop where
  ex : ∃ (f : Addr) (fd : FuncData), Fun K m q st f fd ∧ Meth K C m f ∧ Binds K fd ps []
section
variable {P : Program} {w : World} {K : PySem.W.Frag} {mg : Str → Option Value} {base : Heap} {x : Str} {st : Stmt} {ps N : List Str} {k : Nat} {sp : Sp} {C : Addr} {m q : Str}
/-- a def keeps its promise by its body -/
theorem Df.dn (F : Df K mg x st ps) (S : FnScope N ps (defScope st)) (len : ∀ vs H Q E, sp vs H Q E → vs.length = ps.length)
    (hbody : ∀ (cdv : Value) (f : Addr) (A : Around) (outer : List Env) (s : Shared) (H : Hp) (vs : List V) (Q : VK) (E : XK), Room k (A.deeper (envOfC x (defScope st) s.heap.objs.size f cdv)) → sp vs H Q E →
      ∃ t, PSs (cxOf (L2.CX P w) P w K mg base N x (defScope st) f cdv A outer s H E) (defBody st) t ∧ t { nx := fun _ H' => Q .non H', rt := Q } (start N vs) H) : Dn P w K mg base (k + 1) x sp := by
  obtain ⟨f, fd, F1, hm, hb⟩ := F.ex
  exact ⟨f, fd, ps, F1.okX S len (fun cdv A outer s H vs Q E hr h => hbody cdv f A outer s H vs Q E hr h), hm, F1.kp, .all hb⟩
/-- the law's own def -/
theorem Df.law {p : Str} {fa : Addr} (F : Df K mg x st [p]) (hfa : mg x = some (.ref fa)) (S : FnScope N [p] (defScope st)) (len : ∀ vs H Q E, sp vs H Q E → vs.length = [p].length)
    (hbody : ∀ base : Heap, K.In base → base.Ns mainGlobals mg → ∀ (cdv : Value) (f : Addr) (A : Around) (outer : List Env) (s : Shared) (H : Hp) (vs : List V) (Q : VK) (E : XK), Room k (A.deeper (envOfC x (defScope st) s.heap.objs.size f cdv)) → sp vs H Q E →
      ∃ t, PSs (cxOf (L2.CX P w) P w K mg base N x (defScope st) f cdv A outer s H E) (defBody st) t ∧ t { nx := fun _ H' => Q .non H', rt := Q } (start N vs) H) :
    ∃ fd : FuncData, (∀ (s : Shared) (u : Value), BindsTo s fd ⟨[u], []⟩ [(p, u)]) ∧ ∀ base : Heap, K.In base → base.Ns mainGlobals mg → FnOk P w K mg base (L2.CX P w) (k + 1) fa fd [p] sp := by
  obtain ⟨f, fd, F1, hm, hb⟩ := F.ex
  rw [hfa] at hm
  cases hm
  exact ⟨fd, fun s u => .of_eq (hb [u] rfl), fun base kb gb => F1.okX S len (fun cdv A outer s H vs Q E hr h => hbody base kb gb cdv _ A outer s H vs Q E hr h)⟩
theorem Mf.mn (F : Mf K C m q st ps) (c : Cls K C) (S : FnScope N ps (defScope st)) (len : ∀ vs H Q E, sp vs H Q E → vs.length = ps.length)
    (hbody : ∀ (cdv : Value) (f : Addr) (A : Around) (outer : List Env) (s : Shared) (H : Hp) (vs : List V) (Q : VK) (E : XK), Room k (A.deeper (envOfC q (defScope st) s.heap.objs.size f cdv)) → sp vs H Q E →
      ∃ t, PSs (cxOf (L2.CX P w) P w K mg base N q (defScope st) f cdv A outer s H E) (defBody st) t ∧ t { nx := fun _ H' => Q .non H', rt := Q } (start N vs) H) : Mn P w K mg base (k + 1) C m sp := by
  obtain ⟨f, fd, F1, hm, hb⟩ := F.ex
  exact ⟨f, fd, ps, F1.okX S len (fun cdv A outer s H vs Q E hr h => hbody cdv f A outer s H vs Q E hr h), c, hm, hb⟩
end
section
variable {X : Cx} {k j : Nat} {C : Addr} {sp : Sp} {W : WX} {x m : Str} {p pos apos : Pos} {e o : Expr} {es : List Expr} {ta : TE} {t : TA}
/-- f(e, ..) -/
theorem pe_d (D : Dn X.prog X.w X.K X.mg X.base k x sp) (hr : Room j X.A) (hk : k ≤ j) (tk : Takes X W) (ha : PA X (e :: es) t) (hg : Gl X x := by rfl) (hdb : (x == ("__debug__" : Str)) = false := by decide)
    (he : starEach (e :: es) X.env = (false, eval e X.env) :: starEach es X.env := by rfl) (hpl : (backTo pos (starEach es X.env)).any (·.1) = false := by rfl) : PE X (.Call (.Name x p) (e :: es) [] pos) (tCallS sp (WE W) t) := by
  obtain ⟨f, fd, ps, F, hm, kp, hb⟩ := D.ex
  exact pe_callS F (hr.mono hk) hg hm kp hb (fun σ => passAt tk σ) ha hdb he hpl
end
end Z
namespace Z
open PySem PySem.Spec PyProof.Rows L2
section
variable {X : Cx} {k j : Nat} {C : Addr} {sp : Sp} {W : WX} {x m : Str} {p pos apos : Pos} {e o : Expr} {es : List Expr} {ta : TE} {t : TA}
theorem pe_d0 (D : Dn X.prog X.w X.K X.mg X.base k x sp) (hr : Room j X.A) (hk : k ≤ j) (tk : Takes X W) (hg : Gl X x := by rfl) (hdb : (x == ("__debug__" : Str)) = false := by decide) : PE X (.Call (.Name x p) [] [] pos) (tCallS sp (WE W) tNil) := by
  obtain ⟨f, fd, ps, F, hm, kp, hb⟩ := D.ex
  refine ⟨fun pins s σ H Q I h => ?_⟩
  refine wpAny_Call_Name_kw (ld_glob I hg hm ?_ hdb)
  exact PySem.W.callWith_K0 I.kIn kp (run_fnS (us := []) (vs := []) (E := WE W) F (hr.mono hk) hb (passAt tk σ) I .nil h)
/-- o.m(e, ..) -/
def tMS (C : Addr) (m : Str) (sp : Sp) (E : L2.St → XK) (ta : TE) (t : TA) : TE := fun σ H Q => ta σ H fun x H1 => ∃ a dx fs, x = .ref a ∧ H1 a = some (.ins C dx fs) ∧ fs.lookup m = none ∧ t σ H1 fun vs H2 => sp (x :: vs) H2 Q (E σ)
theorem pe_m {pl : Sem Bool} (he : PE X o ta) (M : Mn X.prog X.w X.K X.mg X.base k C m sp) (hr : Room j X.A) (hk : k ≤ j) (tk : Takes X W) (ha : PA X (e :: es) t)
    (hst : starEach (e :: es) X.env = (false, eval e X.env) :: starEach es X.env := by rfl) (hpl : (backTo pos (starEach es X.env)).any (·.1) = false := by rfl)
    (ht : eval (.Call (.Attribute o m apos) (e :: es) [] pos) X.env = (do
      let ov ← eval o X.env
      standAt apos.atName
      let (f, first) ← holding [ov] (getMethod ov m pl)
      callWith pos f first (backTo pos (starEach (e :: es) X.env)) (backToKw pos (keywordEach [] X.env))) := by rfl) :
    PE X (.Call (.Attribute o m apos) (e :: es) [] pos) (tMS C m sp (WE W) ta t) := by
  obtain ⟨f, fd, ps, F, c, hm, hb⟩ := M.ex
  refine ⟨fun pins s σ H Q I h => ?_⟩
  refine PySem.W.methodCall_KW (pl := pl) (thn (he.run pins s σ H _ I h) fun u s1 ⟨x, H1, I1, rx, a, dx, fs, ex, ea, l, q⟩ => ?_) ht
  subst ex
  obtain rfl : u = Value.ref a := rx
  refine getmeth_ok I1 ea c hm l (PySem.W.callWith_K (first := [.ref a]) (h₀ := X.base) I.ok.mod.kin hm.kp (thn (ha.run pos pins s1 σ H1 _ I1 q) fun us s2 ⟨vs, H2, I2, r, q2⟩ => ⟨I2.kIn, ?_⟩) hst hpl)
  exact run_fnS (us := .ref a :: us) (vs := .ref a :: vs) (E := WE W) F (hr.mono hk) hb (passAt tk σ) I2 (.cons rfl r) q2
theorem pe_m0 {pl : Sem Bool} (he : PE X o ta) (M : Mn X.prog X.w X.K X.mg X.base k C m sp) (hr : Room j X.A) (hk : k ≤ j) (tk : Takes X W)
    (ht : eval (.Call (.Attribute o m apos) [] [] pos) X.env = (do
      let ov ← eval o X.env
      standAt apos.atName
      let (f, first) ← holding [ov] (getMethod ov m pl)
      callWith pos f first (backTo pos (starEach [] X.env)) (backToKw pos (keywordEach [] X.env))) := by rfl) :
    PE X (.Call (.Attribute o m apos) [] [] pos) (tMS C m sp (WE W) ta tNil) := by
  obtain ⟨f, fd, ps, F, c, hm, hb⟩ := M.ex
  refine ⟨fun pins s σ H Q I h => ?_⟩
  refine PySem.W.methodCall_KW (pl := pl) (thn (he.run pins s σ H _ I h) fun u s1 ⟨x, H1, I1, rx, a, dx, fs, ex, ea, l, q⟩ => ?_) ht
  subst ex
  obtain rfl : u = Value.ref a := rx
  refine getmeth_ok I1 ea c hm l (PySem.W.callWith_K0 (first := [.ref a]) I1.kIn hm.kp ?_)
  exact run_fnS (us := [.ref a]) (vs := [.ref a]) (E := WE W) F (hr.mono hk) hb (passAt tk σ) I1 (.cons rfl .nil) q
end
/-! ### steps of a reading -/
section
variable {σ : L2.St} {H : Hp} {Q : VK} {QT : Bool → Hp → Prop} {QA : List V → Hp → Prop} {D : Ends} {ta tb tc : TE} {t u : TT} {tu tw : TS} {v : V} {K : PySem.W.Frag}
theorem r_var {i : Nat} (h : σ[i]? = some (some v)) (k : Q v H) : tVar i σ H Q := ⟨v, h, k⟩
theorem r_c (k : Q v H) : tC v σ H Q := k
theorem r_op {r : R2} (k : ta σ H fun x H1 => tb σ H1 fun y H2 => r x y H2 Q) : tOp r ta tb σ H Q := k
theorem r_un {r : V → Hp → VK → Prop} (k : ta σ H fun x H1 => r x H1 Q) : tUn r ta σ H Q := k
theorem r_I0 {g : Int → Int → V} {i j : Int} (k : Q (g i j) H) : rI0 g (.int i) (.int j) H Q := ⟨i, j, rfl, rfl, k⟩
theorem r_I {c : Int → Int → Prop} {g : Int → Int → V} {i j : Int} (hc : c i j) (k : Q (g i j) H) : rI c g (.int i) (.int j) H Q := ⟨i, j, rfl, rfl, hc, k⟩
theorem r_U {g : Int → V} {i : Int} (k : Q (g i) H) : rU g (.int i) H Q := ⟨i, rfl, k⟩
theorem r_eq {x y : V} (h : scal x y = true) (k : Q (.bl (decide (x = y))) H) : rEq x y H Q := ⟨h, k⟩
theorem r_ne {x y : V} (h : scal x y = true) (k : Q (.bl (!decide (x = y))) H) : rNe x y H Q := ⟨h, k⟩
theorem r_eqI {i j : Int} (k : Q (.bl (decide (i = j))) H) : rEq (.int i) (.int j) H Q := ⟨rfl, by rw [show decide (V.int i = V.int j) = decide (i = j) from by simp]; exact k⟩
theorem r_neI {i j : Int} (k : Q (.bl (!decide (i = j))) H) : rNe (.int i) (.int j) H Q := ⟨rfl, by rw [show decide (V.int i = V.int j) = decide (i = j) from by simp]; exact k⟩
theorem r_eqB {i j : Bool} (k : Q (.bl (decide (i = j))) H) : rEq (.bl i) (.bl j) H Q := ⟨rfl, by rw [show decide (V.bl i = V.bl j) = decide (i = j) from by simp]; exact k⟩
theorem r_neB {i j : Bool} (k : Q (.bl (!decide (i = j))) H) : rNe (.bl i) (.bl j) H Q := ⟨rfl, by rw [show decide (V.bl i = V.bl j) = decide (i = j) from by simp]; exact k⟩
theorem r_test {te : TE} (k : te σ H fun x H1 => ∃ b, x = .bl b ∧ QT b H1) : tTest te σ H QT := k
theorem r_B {te : TE} (k : te σ H fun x H1 => ∃ b, x = .bl b ∧ QT b H1) : tB te σ H QT := k
theorem r_bl {b : Bool} {R : Bool → Prop} (k : R b) : ∃ c, V.bl b = .bl c ∧ R c := ⟨b, rfl, k⟩
theorem r_and (k : t σ H fun c H1 => if c = true then u σ H1 QT else QT false H1) : tAnd t u σ H QT := k
theorem r_or (k : t σ H fun c H1 => if c = true then QT true H1 else u σ H1 QT) : tOr t u σ H QT := k
theorem r_not (k : t σ H fun c H1 => QT (!c) H1) : tNot t σ H QT := k
theorem r_andV (k : ta σ H fun x H1 => ∃ c, x = .bl c ∧ if c = true then tb σ H1 Q else Q (.bl false) H1) : tAndV ta tb σ H Q := k
theorem r_orV (k : ta σ H fun x H1 => ∃ c, x = .bl c ∧ if c = true then Q (.bl true) H1 else tb σ H1 Q) : tOrV ta tb σ H Q := k
theorem r_notV (k : ta σ H fun x H1 => ∃ c, x = .bl c ∧ Q (.bl (!c)) H1) : tNotV ta σ H Q := k
theorem r_if (k : t σ H fun c H1 => if c = true then ta σ H1 Q else tb σ H1 Q) : tIf t ta tb σ H Q := k
theorem r_chain {r r' : R2} (k : ta σ H fun x H1 => tb σ H1 fun y H2 => r x y H2 fun z H3 => ∃ k, z = .bl k ∧ (if k = true then tc σ H3 fun w' H4 => r' y w' H4 Q else Q (.bl false) H3)) : tChain r r' ta tb tc σ H Q := k
theorem r_ifS (k : t σ H fun b H1 => if b = true then tu D σ H1 else tw D σ H1) : tIfS t tu tw D σ H := k
theorem r_nx {a : L2.St → Hp → Prop} {b : VK} {c d : L2.St → Hp → Prop} (k : a σ H) : (Ends.mk a b c d).nx σ H := k
theorem r_rt {a : L2.St → Hp → Prop} {b : VK} {c d : L2.St → Hp → Prop} (k : b v H) : (Ends.mk a b c d).rt v H := k
theorem r_bk {a : L2.St → Hp → Prop} {b : VK} {c d : L2.St → Hp → Prop} (k : c σ H) : (Ends.mk a b c d).bk σ H := k
theorem r_ct {a : L2.St → Hp → Prop} {b : VK} {c d : L2.St → Hp → Prop} (k : d σ H) : (Ends.mk a b c d).ct σ H := k
theorem r_seq (k : tu ⟨tw D, D.rt, D.bk, D.ct⟩ σ H) : tSeq tu tw D σ H := k
theorem r_next (k : D.nx σ H) : tNext D σ H := k
theorem r_ret (k : ta σ H D.rt) : tRet ta D σ H := k
theorem r_retN (k : D.rt .non H) : tRetN D σ H := k
theorem r_asg {g : TG} (k : ta σ H fun x H1 => g x σ H1 D.nx) : tAsg ta g D σ H := k
theorem r_name {i : Nat} {q : L2.St → Hp → Prop} (k : q (σ.set i (some v)) H) : gName i v σ H q := k
theorem r_drop (k : ta σ H fun _ H1 => D.nx σ H1) : tDrop ta D σ H := k
theorem r_brk (k : D.bk σ H) : tBreak D σ H := k
theorem r_cont (k : D.ct σ H) : tCont D σ H := k
theorem r_nil (k : QA [] H) : tNil σ H QA := k
theorem r_cons {tr : TA} (k : ta σ H fun x H1 => tr σ H1 fun xs H2 => QA (x :: xs) H2) : tCons ta tr σ H QA := k
theorem r_callS {sp : Sp} {E : L2.St → XK} {tr : TA} (k : tr σ H fun vs H1 => sp vs H1 Q (E σ)) : tCallS sp E tr σ H Q := k
theorem r_CB {r : List V → Hp → VK → Prop} {tr : TA} (k : tr σ H fun vs H1 => r vs H1 Q) : tCB r tr σ H Q := k
theorem r_tup {tr : TA} (k : tr σ H fun xs H1 => xs.length ≤ sizeLine ∧ ∀ p, H1 p = none → Q (.ref p) (upd H1 p (.tup xs))) : tTup tr σ H Q := k
theorem r_lst {tr : TA} (k : tr σ H fun xs H1 => xs.length ≤ sizeLine ∧ ∀ p, H1 p = none → Q (.ref p) (upd H1 p (.lst xs))) : tLst tr σ H Q := k
theorem r_ite {p A B : Prop} [Decidable p] (h1 : p → A) (h2 : ¬p → B) : if decide p = true then A else B := by
  by_cases h : p
  · rw [if_pos (decide_eq_true h)]; exact h1 h
  · rw [if_neg (by simpa using h)]; exact h2 h
theorem r_iteT {p A B : Prop} [Decidable p] (h : p) (k : A) : if decide p = true then A else B := by rw [if_pos (decide_eq_true h)]; exact k
theorem r_iteF {p A B : Prop} [Decidable p] (h : ¬p) (k : B) : if decide p = true then A else B := by rw [if_neg (by simpa using h)]; exact k
theorem r_iteN {p A B : Prop} [Decidable p] (h1 : p → B) (h2 : ¬p → A) : if (!decide p) = true then A else B := by
  by_cases h : p
  · rw [if_neg (by simpa using h)]; exact h1 h
  · rw [if_pos (by simpa using h)]; exact h2 h
theorem r_iteNT {p A B : Prop} [Decidable p] (h : p) (k : B) : if (!decide p) = true then A else B := by rw [if_neg (by simpa using h)]; exact k
theorem r_iteNF {p A B : Prop} [Decidable p] (h : ¬p) (k : A) : if (!decide p) = true then A else B := by rw [if_pos (by simpa using h)]; exact k
theorem r_tt {A B : Prop} (k : A) : if true = true then A else B := by rw [if_pos rfl]; exact k
theorem r_ff {A B : Prop} (k : B) : if false = true then A else B := by rw [if_neg Bool.false_ne_true]; exact k
theorem r_nt {A B : Prop} (k : B) : if (!true) = true then A else B := by rw [if_neg (by decide)]; exact k
theorem r_nf {A B : Prop} (k : A) : if (!false) = true then A else B := by rw [if_pos (by decide)]; exact k
theorem r_tb {b : Bool} {A B : Prop} (h : b = true) (k : A) : if b = true then A else B := by rw [if_pos h]; exact k
theorem r_fb {b : Bool} {A B : Prop} (h : b = false) (k : B) : if b = true then A else B := by rw [if_neg (by rw [h]; decide)]; exact k
end
end Z
namespace Z
open PySem PySem.Spec PyProof.Rows L2
section
variable {σ : L2.St} {H H1 : Hp} {Q : VK} {D : Ends} {ta tl : TE} {tb tw : TS} {g : TG} {v : V} {K : PySem.W.Frag} {wi : TI} {J : It} {a : Addr} {xs : List V}
/-- what a loop over J asks -/
def ForW (J : It) (g : TG) (tb : TS) (D : Ends) (σ : L2.St) (H1 : Hp) : Prop := ∃ W : Nat → Nat → L2.St → Hp → Prop, (∃ m, W 0 m σ H1) ∧ ∀ i m σ H, W i m σ H →
  (J.stop i H ∧ D.nx σ H) ∨ (J.go i H ∧ ∃ N : L2.St → Hp → Prop, (∀ σ' H', N σ' H' → ∃ m', m' < m ∧ W (i + 1) m' σ' H') ∧ ∀ x H', J.yld i H x H' → g x σ H' fun σ2 H2 => tb { D with nx := N, ct := N, bk := D.nx } σ2 H2)
theorem r_for (k : wi σ H fun J H1 => ForW J g tb D σ H1) : tFor wi g tb D σ H := k
theorem r_iList {R : It → Hp → Prop} (k : tl σ H fun x H1 => ∃ a, x = .ref a ∧ (∃ xs, SqL K H1 a xs) ∧ R (Itl K a) H1) : iList K tl σ H R := k
theorem r_iL (hS : SqL K H a xs) (Pv : Nat → L2.St → Hp → Prop) (h0 : Pv 0 σ H) (hl : ∀ i σ H, i ≤ xs.length → Pv i σ H → SqL K H a xs)
    (hs : ∀ i x σ H, xs[i]? = some x → Pv i σ H → g x σ H fun σ2 H2 => tb ⟨Pv (i + 1), D.rt, D.nx, Pv (i + 1)⟩ σ2 H2) (hd : ∀ σ H, Pv xs.length σ H → D.nx σ H) :
    ∃ b, V.ref a = .ref b ∧ (∃ xs, SqL K H b xs) ∧ ForW (Itl K b) g tb D σ H := ⟨a, rfl, ⟨_, hS⟩, for_list (K := K) Pv h0 hl hs hd⟩
theorem r_iT (hS : SqT K H a xs) (Pv : Nat → L2.St → Hp → Prop) (h0 : Pv 0 σ H) (hl : ∀ i σ H, i ≤ xs.length → Pv i σ H → SqT K H a xs)
    (hs : ∀ i x σ H, xs[i]? = some x → Pv i σ H → g x σ H fun σ2 H2 => tb ⟨Pv (i + 1), D.rt, D.nx, Pv (i + 1)⟩ σ2 H2) (hd : ∀ σ H, Pv xs.length σ H → D.nx σ H) :
    ∃ b, V.ref a = .ref b ∧ (∃ xs, SqT K H b xs) ∧ ForW (Itt K b) g tb D σ H := ⟨a, rfl, ⟨_, hS⟩, for_tup (K := K) Pv h0 hl hs hd⟩
theorem r_iTup {R : It → Hp → Prop} (k : tl σ H fun x H1 => ∃ a, x = .ref a ∧ (∃ xs, SqT K H1 a xs) ∧ R (Itt K a) H1) : iTup K tl σ H R := k
theorem r_iRng1 {tr : TA} {R : It → Hp → Prop} (k : tr σ H fun vs H1 => ∃ j : Int, vs = [.int j] ∧ -(2 ^ 62) ≤ j ∧ j < 2 ^ 62 ∧ R (Itr 0 j.toNat) H1) : iRng1 tr σ H R := k
theorem r_iR1 {j : Int} {n : Nat} (hj : j = n) (hn : n < 2 ^ 62) (Pv : Nat → L2.St → Hp → Prop) (h0 : Pv 0 σ H)
    (hs : ∀ (i : Nat) σ H, i < n → Pv i σ H → g (.int (i : Int)) σ H fun σ2 H2 => tb ⟨Pv (i + 1), D.rt, D.nx, Pv (i + 1)⟩ σ2 H2) (hd : ∀ σ H, Pv n σ H → D.nx σ H) :
    ∃ j' : Int, [V.int j] = [.int j'] ∧ -(2 ^ 62) ≤ j' ∧ j' < 2 ^ 62 ∧ ForW (Itr 0 j'.toNat) g tb D σ H := by
  subst hj
  refine ⟨_, rfl, by omega, by omega, ?_⟩
  rw [Int.toNat_natCast]
  refine for_range (lo := 0) Pv h0 (fun i σ H hi p => ?_) hd
  have q := hs i σ H hi p
  rw [Int.zero_add]
  exact q
theorem r_sl {r : V → Option Int → Option Int → Hp → VK → Prop} {t1 t2 : TO} (k : ta σ H fun x H1 => t1 σ H1 fun l H2 => t2 σ H2 fun u H3 => r x l u H3 Q) : tSl r ta t1 t2 σ H Q := k
theorem r_np {q : Option Int → Hp → Prop} (k : q none H) : tNoPart σ H q := k
theorem r_pt {q : Option Int → Hp → Prop} (k : ta σ H fun x H1 => ∃ i, x = .int i ∧ q (some i) H1) : tPart ta σ H q := k
theorem r_in {i : Int} {q : Int → Prop} (k : q i) : ∃ j, V.int i = .int j ∧ q j := ⟨i, rfl, k⟩
theorem r_slL {lo hi : Option Int} (hS : SqL K H a xs) (k : ∀ p, H p = none → Q (.ref p) (upd H p (.lst (cutV xs lo hi)))) : rSlL K (.ref a) lo hi H Q := ⟨a, xs, rfl, hS, k⟩
theorem cut_int (ns : List Int) (lo hi : Option Int) : ∃ ms : List Int, cutV (ns.map V.int) lo hi = ms.map V.int ∧ ms.length ≤ ns.length ∧ ∀ z ∈ ms, z ∈ ns := by
  refine ⟨(ns.drop (HT.sIx (ns.map V.int).length 0 lo)).take (HT.sIx (ns.map V.int).length (ns.map V.int).length hi - HT.sIx (ns.map V.int).length 0 lo), ?_, ?_, ?_⟩
  · unfold cutV
    rw [List.map_take, List.map_drop]
  · rw [List.length_take, List.length_drop]
    omega
  · intro z hz
    exact List.mem_of_mem_drop (List.mem_of_mem_take hz)
theorem int_at {ns : List Int} {i : Nat} {y : V} (h : (ns.map V.int)[i]? = some y) : ∃ z, ns[i]? = some z ∧ y = V.int z := by
  rw [List.getElem?_map] at h
  cases e : ns[i]? with
  | none => rw [e] at h; cases h
  | some z => rw [e] at h; exact ⟨z, rfl, (Option.some.inj h).symm⟩
theorem Same.new {p : Addr} {o : HO} (h : H p = none) : Same H (upd H p o) := fun b u e => by rw [upd_ne (ne_of_none e h)]; exact e
/-- an object that was not there at H may change -/
theorem Same.mut {p : Addr} {o : HO} (s : Same H H1) (h : H p = none) : Same H (upd H1 p o) := fun b u e => by rw [upd_ne (ne_of_none e h)]; exact s b u e
end
/-- the law's promise -/
def sp_law (K : PySem.W.Frag) : Sp := fun vs H Q _ => ∃ (a : Addr) (ns : List Int), vs = [.ref a] ∧ SqL K H a (ns.map V.int) ∧ ns.length ≤ 63 ∧ ∀ H', Q (.bl true) H'
/-! ### what the top has left -/
section
open PySem.W
variable {K : Frag} {h : Heap} {mg : Str → Option Value} {x q : Str} {st : Stmt} {ps : List Str} {C : Addr}
theorem Df.mk' {f : Addr} {od an : Option Addr} {sl : Array (Option Value)} {oc kV dc pm cd ct : Value} (X : K.In h) (G : h.Ns mainGlobals mg) (a : nsIn K mainGlobals x = some (some (.ref f)))
    (l : K.lookup f = some ⟨oc, od, .func (fnOf x x (defArgs st) (defBody st) (defScope st) .none kV dc pm an cd ct), sl⟩) (c : codeIn K cd x = true) (k : keepIn K (.ref f) = true)
    (hb : ∀ (kV doc pm : Value) (an : Option Addr) (cdv ct : Value) (us : List Value), us.length = ps.length → bindArgs (PySem.W.fnOf x x (defArgs st) (defBody st) (defScope st) .none kV doc pm an cdv ct) ⟨us, []⟩ = pure (ps.zip us)) : Df K mg x st ps :=
  have F := fun_mk (st := st) l c k
  ⟨f, _, F, mg_of X G a, hb kV dc pm an cd ct⟩
theorem Mf.mk' {f : Addr} {m : Str} {od an : Option Addr} {sl : Array (Option Value)} {oc kV dc pm cd ct : Value} (a : findIn K (.ref C) m = some (some (.ref f))) (i : isFn K (.ref f) = true)
    (l : K.lookup f = some ⟨oc, od, .func (fnOf m q (defArgs st) (defBody st) (defScope st) .none kV dc pm an cd ct), sl⟩) (c : codeIn K cd q = true) (k : keepIn K (.ref f) = true)
    (hb : ∀ (kV doc pm : Value) (an : Option Addr) (cdv ct : Value) (us : List Value), us.length = ps.length → bindArgs (PySem.W.fnOf m q (defArgs st) (defBody st) (defScope st) .none kV doc pm an cdv ct) ⟨us, []⟩ = pure (ps.zip us)) : Mf K C m q st ps :=
  have F := fun_mk (st := st) l c k
  ⟨f, _, F, ⟨a, i, k⟩, F.binds hb⟩
theorem cst_of (X : K.In h) (G : h.Ns mainGlobals mg) {i : Int} {t : Tok} (a : nsIn K mainGlobals x = some (some (.int i t))) : ∃ t, mg x = some (.int i t) := ⟨t, mg_of X G a⟩
end
theorem walk_z {l : PySem.W.OpenLaw} {k : Nat} {q : Program} {loose : List Str} {XP : (Str → Option Value) → Heap → Prop} {YP : World → Heap → Prop} {d : DefRec} {K : Params → PySem.W.Frag} (hn : l.most = some 63) (hdf : d.params.defaults = []) (hk : k ≤ 60)
    (hY : ∀ (w : World) (h : Heap), YP w h → (K w.params).In h)
    (F : ∀ (w : World) (mg : Str → Option Value) (fa : Addr) (h : Heap), (K w.params).In h → h.Ns mainGlobals mg → mg d.name = some (.ref fa) →
      ∃ fd : FuncData, (∀ (s : Shared) (u : Value), BindsTo s fd ⟨[u], []⟩ [("_law_script", u)]) ∧ ∀ base : Heap, (K w.params).In base → base.Ns mainGlobals mg → FnOk l.prog w (K w.params) mg base (L2.CX l.prog w) k fa fd ["_law_script"] (sp_law (K w.params))) :
    PySem.W.WalkO q loose XP YP l.row.toRowW d [] (fun f vs => PySem.call f vs) :=
  L2.walk_of (n := 63) (k := k) (x := "_law_script") (CX := fun w => L2.CX l.prog w) (sp := fun w => sp_law (K w.params)) hn (by decide) hdf ((⟨rfl, by decide, by decide⟩ : Room 60 callerA).mono hk) hY F (fun _ _ a ns hl _ hS => ⟨a, ns, rfl, hS, hl, fun _ => rfl⟩)
    fun _ _ _ _ _ h => by
      obtain ⟨_, _, _, _, _, _, _, _, _, _, _, _, z⟩ := h
      exact z.elim
section
variable {σ : L2.St} {H : Hp} {Q : VK} {K : PySem.W.Frag} {tu tw : TS}
theorem r_seq' {a : L2.St → Hp → Prop} {b : VK} {c d : L2.St → Hp → Prop} (k : tu ⟨tw ⟨a, b, c, d⟩, b, c, d⟩ σ H) : tSeq tu tw ⟨a, b, c, d⟩ σ H := k
theorem r_isi {x : V} {a n : String} {b : Bool} (t : TyX K H x (.type a)) (h : kitB a n = some b) (k : Q (.bl b) H) : rIsi K [x, .ty n] H Q := ⟨x, .ty n, _, _, b, rfl, .ty n, t, kit_ty h, k⟩
end
end Z

namespace Gx
open PySem PySem.Spec PyProof.Rows L2 Z
def top (i : Nat) : Stmt := PySem.Challenge.pw_shadowpages_k16_rights.main.body.getD i (.Pass ⟨0, 0, 0, 0⟩)
abbrev s_has : Stmt := top 4
theorem sc_has : FnScope ["row", "marks"] ["row", "marks"] (defScope s_has) := ⟨rfl, rfl, rfl, by decide +kernel, rfl, by decide +kernel, by decide +kernel⟩
abbrev s_lets : Stmt := top 6
theorem sc_lets : FnScope ["rights", "write", "kernel"] ["rights", "write", "kernel"] (defScope s_lets) := ⟨rfl, rfl, rfl, by decide +kernel, rfl, by decide +kernel, by decide +kernel⟩
abbrev s_law : Stmt := top 8
theorem sc_law : FnScope ["_law_script", "_law_cell", "_law_rights", "_law_write", "_law_kernel", "_law_due", "_law_found"] ["_law_script"] (defScope s_law) := ⟨rfl, rfl, rfl, by decide +kernel, rfl, by decide +kernel, by decide +kernel⟩
structure Ad where
  z : Unit := ()
structure Txt (K : PySem.W.Frag) (mg : Str → Option Value) (A : Ad) : Prop where
  b_bool : mg "bool" = none
  b_isinstance : mg "isinstance" = none
  c_WRITABLE : ∃ t, mg "WRITABLE" = some (.int 2 t)
  c_KERNEL : ∃ t, mg "KERNEL" = some (.int 4 t)
  c_SOILED : ∃ t, mg "SOILED" = some (.int 16 t)
local macro_rules | `(tactic| walk_at "rd1") => `(tactic| first
  | with_reducible refine r_nx ?_
  | with_reducible refine r_seq' ?_
  | with_reducible refine r_seq ?_
  | ((with_reducible refine' r_var ?zh ?_); (case zh => exact rfl))
  | with_reducible refine r_c ?_
  | with_reducible refine r_op ?_
  | with_reducible refine r_I0 ?_
  | with_reducible refine r_test ?_
  | with_reducible refine r_bl ?_
  | with_reducible refine r_tt ?_
  | with_reducible refine r_ff ?_
  | with_reducible refine r_nt ?_
  | with_reducible refine r_nf ?_
  | with_reducible refine r_asg ?_
  | with_reducible refine r_name ?_
  | with_reducible refine r_ifS ?_
  | with_reducible refine r_ret ?_
  | with_reducible refine r_rt ?_
  | with_reducible refine r_eqI ?_
  | with_reducible refine r_neI ?_
  | with_reducible refine r_eqB ?_
  | with_reducible refine r_neB ?_
  | ((with_reducible refine r_eq ?zh ?_); (case zh => exact rfl))
  | ((with_reducible refine r_ne ?zh ?_); (case zh => exact rfl))
  | ((with_reducible refine r_I ?zh ?_); (case zh => first | decide | omega | exact ⟨by decide, by decide⟩ | exact ⟨by omega, by omega⟩ | exact .inr ⟨by omega, by omega⟩ | exact .inl ⟨by omega, by omega⟩))
  | with_reducible refine r_and ?_
  | with_reducible refine r_or ?_
  | with_reducible refine r_not ?_
  | with_reducible refine r_andV ?_
  | with_reducible refine r_orV ?_
  | with_reducible refine r_notV ?_
  | with_reducible refine r_if ?_
  | with_reducible refine r_chain ?_
  | with_reducible refine r_callS ?_
  | with_reducible refine r_cons ?_
  | with_reducible refine r_nil ?_
  | with_reducible refine r_CB ?_
  | with_reducible refine r_B ?_
  | with_reducible refine r_un ?_
  | with_reducible refine r_U ?_
  | with_reducible refine r_next ?_
  | with_reducible refine r_drop ?_
  | with_reducible refine r_tup ?_
  | with_reducible refine r_lst ?_
  | with_reducible refine r_for ?_
  | with_reducible refine r_iList ?_
  | with_reducible refine r_iTup ?_
  | with_reducible refine r_iRng1 ?_
  | with_reducible refine r_sl ?_
  | with_reducible refine r_np ?_
  | with_reducible refine r_pt ?_
  | with_reducible refine r_in ?_
  | ((with_reducible refine' r_isi ?zt ?zh ?_); (case zt => first | exact .base (.int _) | exact .base (.bl _) | exact .base .non | exact .base (.str _) | exact .base (.lst (by assumption)) | exact .base (.tup (by assumption)) | exact .base (.lst upd_same) | exact .base (.tup upd_same)); (case zh => first | exact (show kitB _ _ = some true from rfl) | exact (show kitB _ _ = some false from rfl)))
  | with_reducible refine r_cont ?_
  | with_reducible refine r_brk ?_
  | with_reducible refine r_ct ?_
  | with_reducible refine r_bk ?_
  | with_reducible refine r_retN ?_)
local macro_rules | `(tactic| walk_at "rd") => `(tactic| (walk_at "rd1"; repeat walk_at "rd1"))
local macro_rules | `(tactic| walk_at "rs") => `(tactic| repeat' (first | walk_at "rd1" | refine r_ite (fun _ => ?_) (fun _ => ?_) | refine r_iteN (fun _ => ?_) (fun _ => ?_)))

section
variable {P : Program} {w : World} {K : PySem.W.Frag} {mg : Str → Option Value} {base : Heap} {A : Ad}
def sp_has : Sp := fun vs H Q _ => ∃ r m : Int, vs = [.int r, .int m] ∧ Q (.bl (decide (Builtin.bitAnd r m = m))) H
theorem ok_has (F : Df K mg "has" s_has ["row", "marks"]) (T : Txt K mg A) : Dn P w K mg base 1 "has" sp_has := by
  refine F.dn sc_has (fun vs H Q E h => ?_) (fun cdv f Ar outer s H vs Q E hr h => ?_)
  · obtain ⟨r, m, rfl, _⟩ := h; rfl
  · obtain ⟨r, m, rfl, h⟩ := h
    refine ⟨_, (pss_one (ps_ret (pe_cmpR op_eq (pe_op op_and (pv 0) (pv 1)) (pv 1) (nomark _)))), ?_⟩
    walk_at "rd"
    exact h
def letsM (r : Int) (wr kn : Bool) : Bool := if (decide (Builtin.bitAnd r 4 = 4) && !kn) = true then false else (!wr || decide (Builtin.bitAnd r 18 = 18))
def sp_lets : Sp := fun vs H Q _ => ∃ (r : Int) (wr kn : Bool), vs = [.int r, .bl wr, .bl kn] ∧ Q (.bl (letsM r wr kn)) H
theorem ok_lets (F : Df K mg "lets" s_lets ["rights", "write", "kernel"]) (T : Txt K mg A) (D_has : Dn P w K mg base 1 "has" sp_has) : Dn P w K mg base 2 "lets" sp_lets := by
  refine F.dn sc_lets (fun vs H Q E h => ?_) (fun cdv f Ar outer s H vs Q E hr h => ?_)
  · obtain ⟨r, m, n, rfl, _⟩ := h; rfl
  · obtain ⟨r, wr, kn, rfl, h⟩ := h
    unfold letsM at h
    refine ⟨_, (pss_cons (ps_if (PW.pt (pw_and (pt_val (pe_d D_has hr (by decide) takes0 (pa_cons (pv 0) (pa_cons (pe_glob (v := .int 4) rfl (T.c_KERNEL).choose_spec ⟨_, rfl⟩) pa_nil)))) (pw_and1 (pt_not (pt_val (pv 2)))))) (pss_one (ps_ret pe_bl)) pss_nil)
  (pss_one (ps_ret (pe_or (pe_not (pv 1)) (pe_one (pe_d D_has hr (by decide) takes0 (pa_cons (pv 0) (pa_cons (pe_op op_or (pe_glob (v := .int 2) rfl (T.c_WRITABLE).choose_spec ⟨_, rfl⟩) (pe_glob (v := .int 16) rfl (T.c_SOILED).choose_spec ⟨_, rfl⟩)) pa_nil)))))))), ?_⟩
    walk_at "rd"
    refine ⟨r, 4, rfl, ?_⟩
    walk_at "rd"
    cases kn <;> cases wr <;> refine r_ite (fun c => ?_) (fun c => ?_) <;> (simp only [c, decide_true, decide_false, Bool.not_true, Bool.not_false, Bool.and_self, Bool.and_true, Bool.true_and, Bool.false_and, Bool.and_false, Bool.false_or, Bool.true_or, if_true, if_false, reduceIte, Bool.false_eq_true] at h) <;> walk_at "rd" <;> first | exact h | (refine ⟨r, 18, rfl, ?_⟩; walk_at "rd"; exact h) | skip
theorem lets_eq (z : Int) (wr kn : Bool) : letsM (2 * (z % 2) + 4 * (z / 2 % 2) + 16 * (z / 4 % 2)) wr kn = ((kn || decide (z / 2 % 2 = 0)) && !(wr && (decide (z % 2 = 0) || decide (z / 4 % 2 = 0)))) := by
  have h1 : z % 2 = 0 ∨ z % 2 = 1 := by omega
  have h2 : z / 2 % 2 = 0 ∨ z / 2 % 2 = 1 := by omega
  have h3 : z / 4 % 2 = 0 ∨ z / 4 % 2 = 1 := by omega
  rcases h1 with h1 | h1 <;> rcases h2 with h2 | h2 <;> rcases h3 with h3 | h3 <;> rw [h1, h2, h3] <;> cases wr <;> cases kn <;> decide
theorem L_law {fa : Addr} (hfa : mg "law" = some (.ref fa)) (T : Txt K mg A) (F_has : Df K mg "has" s_has ["row", "marks"]) (F_lets : Df K mg "lets" s_lets ["rights", "write", "kernel"]) (F_law : Df K mg "law" s_law ["_law_script"]) :
    ∃ fd : FuncData, (∀ (s : Shared) (u : Value), BindsTo s fd ⟨[u], []⟩ [("_law_script", u)]) ∧ ∀ base : Heap, K.In base → base.Ns mainGlobals mg → FnOk P w K mg base (L2.CX P w) 3 fa fd ["_law_script"] (sp_law K) := by
  refine F_law.law hfa sc_law (fun vs H Q E h => ?_) (fun base _ _ cdv f Ar outer s H vs Q E hr h => ?_)
  · obtain ⟨a, ns, rfl, _⟩ := h; rfl
  · obtain ⟨a, ns, rfl, hS, hl, k⟩ := h
    have D_has : Dn P w K mg base 1 "has" sp_has := ok_has F_has T
    have D_lets : Dn P w K mg base 2 "lets" sp_lets := ok_lets F_lets T D_has
    refine ⟨_, (pss_cons (ps_for (passes_of rfl) rfl (pi_list (pe_slice sl_list (pv 0) po_none (po_some pe_int))) (pg_name (i := 1) sc_law.nd rfl (Or.inl rfl))
  (pss_cons (ps_set (i := 2) sc_law.nd rfl (Or.inl rfl) (pe_op op_add (pe_op op_add (pe_op op_mul pe_int (pe_op op_mod (pv 1) pe_int)) (pe_op op_mul pe_int (pe_op op_mod (pe_op op_fdiv (pv 1) pe_int) pe_int))) (pe_op op_mul pe_int (pe_op op_mod (pe_op op_fdiv (pv 1) pe_int) pe_int))))
  (pss_cons (ps_set (i := 3) sc_law.nd rfl (Or.inl rfl) (pe_cmpR op_eq (pe_op op_mod (pe_op op_fdiv (pv 1) pe_int) pe_int) pe_int (nomark _)))
  (pss_cons (ps_set (i := 4) sc_law.nd rfl (Or.inl rfl) (pe_cmpR op_eq (pe_op op_mod (pe_op op_fdiv (pv 1) pe_int) pe_int) pe_int (nomark _)))
  (pss_cons (ps_set (i := 5) sc_law.nd rfl (Or.inl rfl) (pe_or (pv 4) (pe_one (pe_cmpR op_eq (pe_op op_mod (pe_op op_fdiv (pv 1) pe_int) pe_int) pe_int (nomark _)))))
  (pss_cons (ps_if (PW.pt (pw_and (pt_val (pv 3)) (pw_and1 (PW.pt (pw_or (pt_cmpR op_eq (pe_op op_mod (pv 1) pe_int) pe_int (nomark _)) (pw_or1 (pt_cmpR op_eq (pe_op op_mod (pe_op op_fdiv (pv 1) pe_int) pe_int) pe_int (nomark _)))))))) (pss_one (ps_set (i := 5) sc_law.nd rfl (Or.inl rfl) pe_bl)) pss_nil)
  (pss_cons (ps_set (i := 6) sc_law.nd rfl (Or.inl rfl) (pe_d D_lets hr (by decide) takes0 (pa_cons (pv 2) (pa_cons (pv 3) (pa_cons (pv 4) pa_nil)))))
  (pss_one (ps_if (PW.pt (pw_or (pt_not (pt_val (pe_callB call_isi (by rfl) T.b_isinstance (by decide +kernel) (pa_cons (pv 6) (pa_cons (pe_bltn (v := .ty "bool") (by rfl) T.b_bool (by decide +kernel) rfl) pa_nil))))) (pw_or1 (pt_cmpR op_ne (pv 6) (pv 5) (nomark _))))) (pss_one (ps_ret pe_bl)) pss_nil)))))))))
  (pss_one (ps_ret pe_bl))), ?_⟩
    walk_at "rd"
    refine r_slL hS (fun p np => ?_)
    obtain ⟨ms, e, _, _⟩ := cut_int ns none (some 84)
    rw [e]
    refine r_iL (SqL.of upd_same) (fun i σ H' => Same (upd H p (.lst (ms.map V.int))) H' ∧ ∃ x1 x2 x3 x4 x5 x6, σ = [some (.ref a), x1, x2, x3, x4, x5, x6]) ⟨Same.refl _, _, _, _, _, _, _, rfl⟩ (fun i σ H' _ h => h.1.seq (SqL.of upd_same)) ?_ ?_
    · rintro i y σ H' hi ⟨hs, x1, x2, x3, x4, x5, x6, rfl⟩
      obtain ⟨z, _, rfl⟩ := int_at hi
      walk_at "rs"
      all_goals (refine ⟨_, _, _, rfl, ?_⟩; rw [lets_eq])
      all_goals walk_at "rd"
      all_goals (refine r_iteNT ?_ ?_)
      any_goals (simp [*]; done)
      all_goals (walk_at "rd"; exact ⟨hs, _, _, _, _, _, _, rfl⟩)
    · rintro σ H' ⟨hs, x1, x2, x3, x4, x5, x6, rfl⟩
      walk_at "rd"
      exact k _
end
theorem all_mk {P : Program} {w : World} {K : PySem.W.Frag} {h : Heap} {mg : Str → Option Value} {fa : Addr} (X : K.In h) (G : h.Ns mainGlobals mg) (hfa : mg "law" = some (.ref fa))
    (b_bool : PySem.W.nsIn K mainGlobals "bool" = some none)
    (b_isinstance : PySem.W.nsIn K mainGlobals "isinstance" = some none)
    {t1 : Tok}
    (c_WRITABLE : PySem.W.nsIn K mainGlobals "WRITABLE" = some (some (.int 2 t1)))
    {t2 : Tok}
    (c_KERNEL : PySem.W.nsIn K mainGlobals "KERNEL" = some (some (.int 4 t2)))
    {t3 : Tok}
    (c_SOILED : PySem.W.nsIn K mainGlobals "SOILED" = some (some (.int 16 t3)))
    {f_has : Addr} {od_has an_has : Option Addr} {sl_has : Array (Option Value)} {oc_has kV_has dc_has pm_has cd_has ct_has : Value}
    (a_has : PySem.W.nsIn K mainGlobals "has" = some (some (.ref f_has)))
    (l_has : K.lookup f_has = some ⟨oc_has, od_has, .func (PySem.W.fnOf "has" "has" (defArgs s_has) (defBody s_has) (defScope s_has) .none kV_has dc_has pm_has an_has cd_has ct_has), sl_has⟩)
    (d_has : PySem.W.codeIn K cd_has "has" = true)
    (e_has : PySem.W.keepIn K (.ref f_has) = true)
    {f_lets : Addr} {od_lets an_lets : Option Addr} {sl_lets : Array (Option Value)} {oc_lets kV_lets dc_lets pm_lets cd_lets ct_lets : Value}
    (a_lets : PySem.W.nsIn K mainGlobals "lets" = some (some (.ref f_lets)))
    (l_lets : K.lookup f_lets = some ⟨oc_lets, od_lets, .func (PySem.W.fnOf "lets" "lets" (defArgs s_lets) (defBody s_lets) (defScope s_lets) .none kV_lets dc_lets pm_lets an_lets cd_lets ct_lets), sl_lets⟩)
    (d_lets : PySem.W.codeIn K cd_lets "lets" = true)
    (e_lets : PySem.W.keepIn K (.ref f_lets) = true)
    {f_law : Addr} {od_law an_law : Option Addr} {sl_law : Array (Option Value)} {oc_law kV_law dc_law pm_law cd_law ct_law : Value}
    (a_law : PySem.W.nsIn K mainGlobals "law" = some (some (.ref f_law)))
    (l_law : K.lookup f_law = some ⟨oc_law, od_law, .func (PySem.W.fnOf "law" "law" (defArgs s_law) (defBody s_law) (defScope s_law) .none kV_law dc_law pm_law an_law cd_law ct_law), sl_law⟩)
    (d_law : PySem.W.codeIn K cd_law "law" = true)
    (e_law : PySem.W.keepIn K (.ref f_law) = true)
    : ∃ fd : FuncData, (∀ (s : Shared) (u : Value), BindsTo s fd ⟨[u], []⟩ [("_law_script", u)]) ∧ ∀ base : Heap, K.In base → base.Ns mainGlobals mg → FnOk P w K mg base (L2.CX P w) 3 fa fd ["_law_script"] (sp_law K) := by
  let A : Ad := {}
  have T : Txt K mg A := { b_bool := PySem.W.mg_none_of X G b_bool, b_isinstance := PySem.W.mg_none_of X G b_isinstance, c_WRITABLE := cst_of X G c_WRITABLE, c_KERNEL := cst_of X G c_KERNEL, c_SOILED := cst_of X G c_SOILED }
  have F_has : Df K mg "has" s_has ["row", "marks"] := .mk' X G a_has l_has d_has e_has (fun _ _ _ _ _ _ us hl => match us, hl with | [_, _], _ => rfl)
  have F_lets : Df K mg "lets" s_lets ["rights", "write", "kernel"] := .mk' X G a_lets l_lets d_lets e_lets (fun _ _ _ _ _ _ us hl => match us, hl with | [_, _, _], _ => rfl)
  have F_law : Df K mg "law" s_law ["_law_script"] := .mk' X G a_law l_law d_law e_law (fun _ _ _ _ _ _ us hl => match us, hl with | [_], _ => rfl)
  exact L_law hfa T F_has F_lets F_law
end Gx
open PySem PySem.W PyProof.Rows
set_option maxRecDepth 100000 in
set_option maxHeartbeats 0 in
theorem PySem.Challenge.cw_shadowpages_k16_rights_holds : PySem.Challenge.rw_shadowpages_k16_rights.Holds := by
  w_on; o_law; k_head; (case hw => w_witness2)
  k_fill
  refine Z.walk_z (l := PySem.Challenge.rw_shadowpages_k16_rights) (k := 3) rfl rfl (by decide) (fun w h Y => PySem.W.kIn_of Y) ?F
  case F =>
    intro w mg fa h KX G hmg
    refine' Gx.all_mk KX G hmg ?b_bool ?b_isinstance ?c_WRITABLE ?c_KERNEL ?c_SOILED ?a_has ?l_has ?d_has ?e_has ?a_lets ?l_lets ?d_lets ?e_lets ?a_law ?l_law ?d_law ?e_law
    (case b_bool => k_is)
    (case b_isinstance => k_is)
    (case c_WRITABLE => k_is)
    (case c_KERNEL => k_is)
    (case c_SOILED => k_is)
    (case a_has => k_is)
    (case l_has => k_is)
    (case d_has => k_is)
    (case e_has => k_is)
    (case a_lets => k_is)
    (case l_lets => k_is)
    (case d_lets => k_is)
    (case e_lets => k_is)
    (case a_law => k_is)
    (case l_law => k_is)
    (case d_law => k_is)
    (case e_law => k_is)
#print axioms PySem.Challenge.cw_shadowpages_k16_rights_holds
