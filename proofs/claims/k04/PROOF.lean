import PyProof.Rows.All
import Wide.All
import OpenK.AllK
import Wide.FinOn
import HandS.ForMost
import HandS.ForExc
import HandS.IsInst
import HandS.Wide
import HandS.WideBits
import HandS.Flow
import HandS.Steps
import HandS.ExcInit
import HandS.HotCalls
import HandS.ExcIs
import HandS.Evl
import PySem.Challenge.RW_shadowpages_k04_marks_put_and_taken
set_option maxHeartbeats 8000000
set_option Elab.async false
set_option linter.all false
set_option maxRecDepth 100000
namespace Z
open PySem PySem.Spec PyProof.Rows L2 Evl
/-! defs packed: a def of the top by its name; a method of a class; a class made -/
structure Dn (P : Program) (w : World) (K : PySem.W.Frag) (mg : Str → Option Value) (base : Heap) (k : Nat) (x : Str) (sp : Sp) : Prop where
  ex : ∃ (f : Addr) (fd : FuncData) (ps : List Str), FnOk P w K mg base (L2.CX P w) k f fd ps sp ∧ mg x = some (.ref f) ∧ PySem.W.keepIn K (.ref f) = true ∧ Binds K fd ps []
structure Mn (P : Program) (w : World) (K : PySem.W.Frag) (mg : Str → Option Value) (base : Heap) (k : Nat) (C : Addr) (m : Str) (sp : Sp) : Prop where
  ex : ∃ (f : Addr) (fd : FuncData) (ps : List Str), FnOk P w K mg base (L2.CX P w) k f fd ps sp ∧ Cls K C ∧ Meth K C m f ∧ Binds K fd ps []
/-- the def as the top left it -/
structure Df (K : PySem.W.Frag) (mg : Str → Option Value) (x : Str) (st : Stmt) (ps : List Str) : Prop where
  ex : ∃ (f : Addr) (fd : FuncData), Fun K x x st f fd ∧ mg x = some (.ref f) ∧ ∀ us : List Value, us.length = ps.length → bindArgs fd ⟨us, []⟩ = pure (ps.zip us)
structure Mf (K : PySem.W.Frag) (C : Addr) (m q : Str) (st : Stmt) (ps : List Str) : Prop where
  ex : ∃ (f : Addr) (fd : FuncData), Fun K m q st f fd ∧ Meth K C m f ∧ Binds K fd ps []
section
variable {P : Program} {w : World} {K : PySem.W.Frag} {mg : Str → Option Value} {base : Heap} {x : Str} {st : Stmt} {ps N : List Str} {k : Nat} {sp : Sp} {C : Addr} {m q : Str}
/-- a def keeps its promise by its body -/
theorem Df.dn (F : Df K mg x st ps) (S : FnScope N ps (defScope st)) (len : ∀ vs H Q E, sp vs H Q E → vs.length = ps.length)
    (hbody : ∀ (cdv : Value) (f : Addr) (A : Around) (outer : List Env) (s : Shared) (H : Hp) (vs : List V) (Q : VK) (E : XK), Room k (A.deeper (envOfC x (defScope st) s.heap.objs.size f cdv)) → sp vs H Q E →
      ∃ t, PSs (cxOf (L2.CX P w) P w K mg base N x (defScope st) f cdv A outer s H E) (defBody st) t ∧ t { nx := fun _ H' => Q .non H', rt := Q } (start N vs) H) : Dn P w K mg base (k + 1) x sp := by
  obtain ⟨f, fd, F1, hm, hb⟩ := F.ex
  exact ⟨f, fd, ps, F1.okX S len (fun cdv A outer s H vs Q E hr h => hbody cdv f A outer s H vs Q E hr h), hm, F1.kp, .all hb⟩
/-- the law's own def -/
theorem Df.law {p : Str} {fa : Addr} (F : Df K mg x st [p]) (hfa : mg x = some (.ref fa)) (S : FnScope N [p] (defScope st)) (len : ∀ vs H Q E, sp vs H Q E → vs.length = [p].length)
    (hbody : ∀ base : Heap, K.In base → base.Ns mainGlobals mg → ∀ (cdv : Value) (f : Addr) (A : Around) (outer : List Env) (s : Shared) (H : Hp) (vs : List V) (Q : VK) (E : XK), Room k (A.deeper (envOfC x (defScope st) s.heap.objs.size f cdv)) → sp vs H Q E →
      ∃ t, PSs (cxOf (L2.CX P w) P w K mg base N x (defScope st) f cdv A outer s H E) (defBody st) t ∧ t { nx := fun _ H' => Q .non H', rt := Q } (start N vs) H) :
    ∃ fd : FuncData, (∀ (s : Shared) (u : Value), BindsTo s fd ⟨[u], []⟩ [(p, u)]) ∧ ∀ base : Heap, K.In base → base.Ns mainGlobals mg → FnOk P w K mg base (L2.CX P w) (k + 1) fa fd [p] sp := by
  obtain ⟨f, fd, F1, hm, hb⟩ := F.ex
  rw [hfa] at hm
  cases hm
  exact ⟨fd, fun s u => .of_eq (hb [u] rfl), fun base kb gb => F1.okX S len (fun cdv A outer s H vs Q E hr h => hbody base kb gb cdv _ A outer s H vs Q E hr h)⟩
theorem Mf.mn (F : Mf K C m q st ps) (c : Cls K C) (S : FnScope N ps (defScope st)) (len : ∀ vs H Q E, sp vs H Q E → vs.length = ps.length)
    (hbody : ∀ (cdv : Value) (f : Addr) (A : Around) (outer : List Env) (s : Shared) (H : Hp) (vs : List V) (Q : VK) (E : XK), Room k (A.deeper (envOfC q (defScope st) s.heap.objs.size f cdv)) → sp vs H Q E →
      ∃ t, PSs (cxOf (L2.CX P w) P w K mg base N q (defScope st) f cdv A outer s H E) (defBody st) t ∧ t { nx := fun _ H' => Q .non H', rt := Q } (start N vs) H) : Mn P w K mg base (k + 1) C m sp := by
  obtain ⟨f, fd, F1, hm, hb⟩ := F.ex
  exact ⟨f, fd, ps, F1.okX S len (fun cdv A outer s H vs Q E hr h => hbody cdv f A outer s H vs Q E hr h), c, hm, hb⟩
end
section
variable {X : Cx} {k j : Nat} {C : Addr} {sp : Sp} {W : WX} {x m : Str} {p pos apos : Pos} {e o : Expr} {es : List Expr} {ta : TE} {t : TA}
/-- f(e, ..) -/
theorem pe_d (D : Dn X.prog X.w X.K X.mg X.base k x sp) (hr : Room j X.A) (hk : k ≤ j) (tk : Takes X W) (ha : PA X (e :: es) t) (hg : Gl X x := by rfl) (hdb : (x == ("__debug__" : Str)) = false := by decide)
    (he : starEach (e :: es) X.env = (false, eval e X.env) :: starEach es X.env := by rfl) (hpl : (backTo pos (starEach es X.env)).any (·.1) = false := by rfl) : PE X (.Call (.Name x p) (e :: es) [] pos) (tCallS sp (WE W) t) := by
  obtain ⟨f, fd, ps, F, hm, kp, hb⟩ := D.ex
  exact pe_callS F (hr.mono hk) hg hm kp hb (fun σ => passAt tk σ) ha hdb he hpl
end
end Z
namespace Z
open PySem PySem.Spec PyProof.Rows L2 Evl
section
variable {X : Cx} {k j : Nat} {C : Addr} {sp : Sp} {W : WX} {x m : Str} {p pos apos : Pos} {e o : Expr} {es : List Expr} {ta : TE} {t : TA}
theorem pe_d0 (D : Dn X.prog X.w X.K X.mg X.base k x sp) (hr : Room j X.A) (hk : k ≤ j) (tk : Takes X W) (hg : Gl X x := by rfl) (hdb : (x == ("__debug__" : Str)) = false := by decide) : PE X (.Call (.Name x p) [] [] pos) (tCallS sp (WE W) tNil) := by
  obtain ⟨f, fd, ps, F, hm, kp, hb⟩ := D.ex
  refine ⟨fun pins s σ H Q I h => ?_⟩
  refine wpAny_Call_Name_kw (ld_glob I hg hm ?_ hdb)
  exact PySem.W.callWith_K0 I.kIn kp (run_fnS (us := []) (vs := []) (E := WE W) F (hr.mono hk) hb (passAt tk σ) I .nil h)
/-- o.m(e, ..) -/
def tMS (C : Addr) (m : Str) (sp : Sp) (E : L2.St → XK) (ta : TE) (t : TA) : TE := fun σ H Q => ta σ H fun x H1 => ∃ a dx fs, x = .ref a ∧ H1 a = some (.ins C dx fs) ∧ fs.lookup m = none ∧ t σ H1 fun vs H2 => sp (x :: vs) H2 Q (E σ)
theorem pe_m {pl : Sem Bool} (he : PE X o ta) (M : Mn X.prog X.w X.K X.mg X.base k C m sp) (hr : Room j X.A) (hk : k ≤ j) (tk : Takes X W) (ha : PA X (e :: es) t)
    (hst : starEach (e :: es) X.env = (false, eval e X.env) :: starEach es X.env := by rfl) (hpl : (backTo pos (starEach es X.env)).any (·.1) = false := by rfl)
    (ht : eval (.Call (.Attribute o m apos) (e :: es) [] pos) X.env = (do
      let ov ← eval o X.env
      standAt apos.atName
      let (f, first) ← holding [ov] (getMethod ov m pl)
      callWith pos f first (backTo pos (starEach (e :: es) X.env)) (backToKw pos (keywordEach [] X.env))) := by rfl) :
    PE X (.Call (.Attribute o m apos) (e :: es) [] pos) (tMS C m sp (WE W) ta t) := by
  obtain ⟨f, fd, ps, F, c, hm, hb⟩ := M.ex
  refine ⟨fun pins s σ H Q I h => ?_⟩
  refine PySem.W.methodCall_KW (pl := pl) (thn (he.run pins s σ H _ I h) fun u s1 ⟨x, H1, I1, rx, a, dx, fs, ex, ea, l, q⟩ => ?_) ht
  subst ex
  obtain rfl : u = Value.ref a := rx
  refine getmeth_ok I1 ea c hm l (PySem.W.callWith_K (first := [.ref a]) (h₀ := X.base) I.ok.mod.kin hm.kp (thn (ha.run pos pins s1 σ H1 _ I1 q) fun us s2 ⟨vs, H2, I2, r, q2⟩ => ⟨I2.kIn, ?_⟩) hst hpl)
  exact run_fnS (us := .ref a :: us) (vs := .ref a :: vs) (E := WE W) F (hr.mono hk) hb (passAt tk σ) I2 (.cons rfl r) q2
theorem pe_m0 {pl : Sem Bool} (he : PE X o ta) (M : Mn X.prog X.w X.K X.mg X.base k C m sp) (hr : Room j X.A) (hk : k ≤ j) (tk : Takes X W)
    (ht : eval (.Call (.Attribute o m apos) [] [] pos) X.env = (do
      let ov ← eval o X.env
      standAt apos.atName
      let (f, first) ← holding [ov] (getMethod ov m pl)
      callWith pos f first (backTo pos (starEach [] X.env)) (backToKw pos (keywordEach [] X.env))) := by rfl) :
    PE X (.Call (.Attribute o m apos) [] [] pos) (tMS C m sp (WE W) ta tNil) := by
  obtain ⟨f, fd, ps, F, c, hm, hb⟩ := M.ex
  refine ⟨fun pins s σ H Q I h => ?_⟩
  refine PySem.W.methodCall_KW (pl := pl) (thn (he.run pins s σ H _ I h) fun u s1 ⟨x, H1, I1, rx, a, dx, fs, ex, ea, l, q⟩ => ?_) ht
  subst ex
  obtain rfl : u = Value.ref a := rx
  refine getmeth_ok I1 ea c hm l (PySem.W.callWith_K0 (first := [.ref a]) I1.kIn hm.kp ?_)
  exact run_fnS (us := [.ref a]) (vs := [.ref a]) (E := WE W) F (hr.mono hk) hb (passAt tk σ) I1 (.cons rfl .nil) q
end
/-! ### steps of a reading -/
section
variable {σ : L2.St} {H : Hp} {Q : VK} {QT : Bool → Hp → Prop} {QA : List V → Hp → Prop} {D : Ends} {ta tb tc : TE} {t u : TT} {tu tw : TS} {v : V} {K : PySem.W.Frag}
theorem r_var {i : Nat} (h : σ[i]? = some (some v)) (k : Q v H) : tVar i σ H Q := ⟨v, h, k⟩
theorem r_c (k : Q v H) : tC v σ H Q := k
theorem r_op {r : R2} (k : ta σ H fun x H1 => tb σ H1 fun y H2 => r x y H2 Q) : tOp r ta tb σ H Q := k
theorem r_un {r : V → Hp → VK → Prop} (k : ta σ H fun x H1 => r x H1 Q) : tUn r ta σ H Q := k
theorem r_I0 {g : Int → Int → V} {i j : Int} (k : Q (g i j) H) : rI0 g (.int i) (.int j) H Q := ⟨i, j, rfl, rfl, k⟩
theorem r_I {c : Int → Int → Prop} {g : Int → Int → V} {i j : Int} (hc : c i j) (k : Q (g i j) H) : rI c g (.int i) (.int j) H Q := ⟨i, j, rfl, rfl, hc, k⟩
theorem r_U {g : Int → V} {i : Int} (k : Q (g i) H) : rU g (.int i) H Q := ⟨i, rfl, k⟩
theorem r_eq {x y : V} (h : scal x y = true) (k : Q (.bl (decide (x = y))) H) : rEq x y H Q := ⟨h, k⟩
theorem r_ne {x y : V} (h : scal x y = true) (k : Q (.bl (!decide (x = y))) H) : rNe x y H Q := ⟨h, k⟩
theorem r_eqI {i j : Int} (k : Q (.bl (decide (i = j))) H) : rEq (.int i) (.int j) H Q := ⟨rfl, by rw [show decide (V.int i = V.int j) = decide (i = j) from by simp]; exact k⟩
theorem r_neI {i j : Int} (k : Q (.bl (!decide (i = j))) H) : rNe (.int i) (.int j) H Q := ⟨rfl, by rw [show decide (V.int i = V.int j) = decide (i = j) from by simp]; exact k⟩
theorem r_eqB {i j : Bool} (k : Q (.bl (decide (i = j))) H) : rEq (.bl i) (.bl j) H Q := ⟨rfl, by rw [show decide (V.bl i = V.bl j) = decide (i = j) from by simp]; exact k⟩
theorem r_neB {i j : Bool} (k : Q (.bl (!decide (i = j))) H) : rNe (.bl i) (.bl j) H Q := ⟨rfl, by rw [show decide (V.bl i = V.bl j) = decide (i = j) from by simp]; exact k⟩
theorem r_test {te : TE} (k : te σ H fun x H1 => ∃ b, x = .bl b ∧ QT b H1) : tTest te σ H QT := k
theorem r_B {te : TE} (k : te σ H fun x H1 => ∃ b, x = .bl b ∧ QT b H1) : tB te σ H QT := k
theorem r_bl {b : Bool} {R : Bool → Prop} (k : R b) : ∃ c, V.bl b = .bl c ∧ R c := ⟨b, rfl, k⟩
theorem r_and (k : t σ H fun c H1 => if c = true then u σ H1 QT else QT false H1) : tAnd t u σ H QT := k
theorem r_or (k : t σ H fun c H1 => if c = true then QT true H1 else u σ H1 QT) : tOr t u σ H QT := k
theorem r_not (k : t σ H fun c H1 => QT (!c) H1) : tNot t σ H QT := k
theorem r_andV (k : ta σ H fun x H1 => ∃ c, x = .bl c ∧ if c = true then tb σ H1 Q else Q (.bl false) H1) : tAndV ta tb σ H Q := k
theorem r_orV (k : ta σ H fun x H1 => ∃ c, x = .bl c ∧ if c = true then Q (.bl true) H1 else tb σ H1 Q) : tOrV ta tb σ H Q := k
theorem r_notV (k : ta σ H fun x H1 => ∃ c, x = .bl c ∧ Q (.bl (!c)) H1) : tNotV ta σ H Q := k
theorem r_if (k : t σ H fun c H1 => if c = true then ta σ H1 Q else tb σ H1 Q) : tIf t ta tb σ H Q := k
theorem r_chain {r r' : R2} (k : ta σ H fun x H1 => tb σ H1 fun y H2 => r x y H2 fun z H3 => ∃ k, z = .bl k ∧ (if k = true then tc σ H3 fun w' H4 => r' y w' H4 Q else Q (.bl false) H3)) : tChain r r' ta tb tc σ H Q := k
theorem r_ifS (k : t σ H fun b H1 => if b = true then tu D σ H1 else tw D σ H1) : tIfS t tu tw D σ H := k
theorem r_nx {a : L2.St → Hp → Prop} {b : VK} {c d : L2.St → Hp → Prop} (k : a σ H) : (Ends.mk a b c d).nx σ H := k
theorem r_rt {a : L2.St → Hp → Prop} {b : VK} {c d : L2.St → Hp → Prop} (k : b v H) : (Ends.mk a b c d).rt v H := k
theorem r_bk {a : L2.St → Hp → Prop} {b : VK} {c d : L2.St → Hp → Prop} (k : c σ H) : (Ends.mk a b c d).bk σ H := k
theorem r_ct {a : L2.St → Hp → Prop} {b : VK} {c d : L2.St → Hp → Prop} (k : d σ H) : (Ends.mk a b c d).ct σ H := k
theorem r_seq (k : tu ⟨tw D, D.rt, D.bk, D.ct⟩ σ H) : tSeq tu tw D σ H := k
theorem r_next (k : D.nx σ H) : tNext D σ H := k
theorem r_ret (k : ta σ H D.rt) : tRet ta D σ H := k
theorem r_retN (k : D.rt .non H) : tRetN D σ H := k
theorem r_asg {g : TG} (k : ta σ H fun x H1 => g x σ H1 D.nx) : tAsg ta g D σ H := k
theorem r_name {i : Nat} {q : L2.St → Hp → Prop} (k : q (σ.set i (some v)) H) : gName i v σ H q := k
theorem r_drop (k : ta σ H fun _ H1 => D.nx σ H1) : tDrop ta D σ H := k
theorem r_brk (k : D.bk σ H) : tBreak D σ H := k
theorem r_cont (k : D.ct σ H) : tCont D σ H := k
theorem r_nil (k : QA [] H) : tNil σ H QA := k
theorem r_cons {tr : TA} (k : ta σ H fun x H1 => tr σ H1 fun xs H2 => QA (x :: xs) H2) : tCons ta tr σ H QA := k
theorem r_callS {sp : Sp} {E : L2.St → XK} {tr : TA} (k : tr σ H fun vs H1 => sp vs H1 Q (E σ)) : tCallS sp E tr σ H Q := k
theorem r_CB {r : List V → Hp → VK → Prop} {tr : TA} (k : tr σ H fun vs H1 => r vs H1 Q) : tCB r tr σ H Q := k
theorem r_ite {p A B : Prop} [Decidable p] (h1 : p → A) (h2 : ¬p → B) : if decide p = true then A else B := by
  by_cases h : p
  · rw [if_pos (decide_eq_true h)]; exact h1 h
  · rw [if_neg (by simpa using h)]; exact h2 h
theorem r_iteT {p A B : Prop} [Decidable p] (h : p) (k : A) : if decide p = true then A else B := by rw [if_pos (decide_eq_true h)]; exact k
theorem r_iteF {p A B : Prop} [Decidable p] (h : ¬p) (k : B) : if decide p = true then A else B := by rw [if_neg (by simpa using h)]; exact k
theorem r_iteN {p A B : Prop} [Decidable p] (h1 : p → B) (h2 : ¬p → A) : if (!decide p) = true then A else B := by
  by_cases h : p
  · rw [if_neg (by simpa using h)]; exact h1 h
  · rw [if_pos (by simpa using h)]; exact h2 h
theorem r_iteNT {p A B : Prop} [Decidable p] (h : p) (k : B) : if (!decide p) = true then A else B := by rw [if_neg (by simpa using h)]; exact k
theorem r_iteNF {p A B : Prop} [Decidable p] (h : ¬p) (k : A) : if (!decide p) = true then A else B := by rw [if_pos (by simpa using h)]; exact k
theorem r_tt {A B : Prop} (k : A) : if true = true then A else B := by rw [if_pos rfl]; exact k
theorem r_ff {A B : Prop} (k : B) : if false = true then A else B := by rw [if_neg Bool.false_ne_true]; exact k
theorem r_nt {A B : Prop} (k : B) : if (!true) = true then A else B := by rw [if_neg (by decide)]; exact k
theorem r_nf {A B : Prop} (k : A) : if (!false) = true then A else B := by rw [if_pos (by decide)]; exact k
theorem r_tb {b : Bool} {A B : Prop} (h : b = true) (k : A) : if b = true then A else B := by rw [if_pos h]; exact k
theorem r_fb {b : Bool} {A B : Prop} (h : b = false) (k : B) : if b = true then A else B := by rw [if_neg (by rw [h]; decide)]; exact k
end
end Z
namespace Z
open PySem PySem.Spec PyProof.Rows L2 Evl
section
variable {σ : L2.St} {H H1 : Hp} {Q : VK} {D : Ends} {ta tl : TE} {tb tw : TS} {g : TG} {v : V} {K : PySem.W.Frag} {wi : TI} {J : It} {a : Addr} {xs : List V}
/-- what a loop over J asks -/
def ForW (J : It) (g : TG) (tb : TS) (D : Ends) (σ : L2.St) (H1 : Hp) : Prop := ∃ W : Nat → Nat → L2.St → Hp → Prop, (∃ m, W 0 m σ H1) ∧ ∀ i m σ H, W i m σ H →
  (J.stop i H ∧ D.nx σ H) ∨ (J.go i H ∧ ∃ N : L2.St → Hp → Prop, (∀ σ' H', N σ' H' → ∃ m', m' < m ∧ W (i + 1) m' σ' H') ∧ ∀ x H', J.yld i H x H' → g x σ H' fun σ2 H2 => tb { D with nx := N, ct := N, bk := D.nx } σ2 H2)
theorem r_for (k : wi σ H fun J H1 => ForW J g tb D σ H1) : tFor wi g tb D σ H := k
theorem r_iList {R : It → Hp → Prop} (k : tl σ H fun x H1 => ∃ a, x = .ref a ∧ (∃ xs, SqL K H1 a xs) ∧ R (Itl K a) H1) : iList K tl σ H R := k
theorem r_iL (hS : SqL K H a xs) (Pv : Nat → L2.St → Hp → Prop) (h0 : Pv 0 σ H) (hl : ∀ i σ H, i ≤ xs.length → Pv i σ H → SqL K H a xs)
    (hs : ∀ i x σ H, xs[i]? = some x → Pv i σ H → g x σ H fun σ2 H2 => tb ⟨Pv (i + 1), D.rt, D.nx, Pv (i + 1)⟩ σ2 H2) (hd : ∀ σ H, Pv xs.length σ H → D.nx σ H) :
    ∃ b, V.ref a = .ref b ∧ (∃ xs, SqL K H b xs) ∧ ForW (Itl K b) g tb D σ H := ⟨a, rfl, ⟨_, hS⟩, for_list (K := K) Pv h0 hl hs hd⟩
theorem r_iT (hS : SqT K H a xs) (Pv : Nat → L2.St → Hp → Prop) (h0 : Pv 0 σ H) (hl : ∀ i σ H, i ≤ xs.length → Pv i σ H → SqT K H a xs)
    (hs : ∀ i x σ H, xs[i]? = some x → Pv i σ H → g x σ H fun σ2 H2 => tb ⟨Pv (i + 1), D.rt, D.nx, Pv (i + 1)⟩ σ2 H2) (hd : ∀ σ H, Pv xs.length σ H → D.nx σ H) :
    ∃ b, V.ref a = .ref b ∧ (∃ xs, SqT K H b xs) ∧ ForW (Itt K b) g tb D σ H := ⟨a, rfl, ⟨_, hS⟩, for_tup (K := K) Pv h0 hl hs hd⟩
theorem r_iTup {R : It → Hp → Prop} (k : tl σ H fun x H1 => ∃ a, x = .ref a ∧ (∃ xs, SqT K H1 a xs) ∧ R (Itt K a) H1) : iTup K tl σ H R := k
theorem r_iRng1 {tr : TA} {R : It → Hp → Prop} (k : tr σ H fun vs H1 => ∃ j : Int, vs = [.int j] ∧ -(2 ^ 62) ≤ j ∧ j < 2 ^ 62 ∧ R (Itr 0 j.toNat) H1) : iRng1 tr σ H R := k
theorem r_iR1 {j : Int} {n : Nat} (hj : j = n) (hn : n < 2 ^ 62) (Pv : Nat → L2.St → Hp → Prop) (h0 : Pv 0 σ H)
    (hs : ∀ (i : Nat) σ H, i < n → Pv i σ H → g (.int (i : Int)) σ H fun σ2 H2 => tb ⟨Pv (i + 1), D.rt, D.nx, Pv (i + 1)⟩ σ2 H2) (hd : ∀ σ H, Pv n σ H → D.nx σ H) :
    ∃ j' : Int, [V.int j] = [.int j'] ∧ -(2 ^ 62) ≤ j' ∧ j' < 2 ^ 62 ∧ ForW (Itr 0 j'.toNat) g tb D σ H := by
  subst hj
  refine ⟨_, rfl, by omega, by omega, ?_⟩
  rw [Int.toNat_natCast]
  refine for_range (lo := 0) Pv h0 (fun i σ H hi p => ?_) hd
  have q := hs i σ H hi p
  rw [Int.zero_add]
  exact q
theorem r_sl {r : V → Option Int → Option Int → Hp → VK → Prop} {t1 t2 : TO} (k : ta σ H fun x H1 => t1 σ H1 fun l H2 => t2 σ H2 fun u H3 => r x l u H3 Q) : tSl r ta t1 t2 σ H Q := k
theorem r_np {q : Option Int → Hp → Prop} (k : q none H) : tNoPart σ H q := k
theorem r_pt {q : Option Int → Hp → Prop} (k : ta σ H fun x H1 => ∃ i, x = .int i ∧ q (some i) H1) : tPart ta σ H q := k
theorem r_in {i : Int} {q : Int → Prop} (k : q i) : ∃ j, V.int i = .int j ∧ q j := ⟨i, rfl, k⟩
theorem r_slL {lo hi : Option Int} (hS : SqL K H a xs) (k : ∀ p H2, H p = none → Ex H H2 → H2 p = some (.lst (cutV xs lo hi)) → Q (.ref p) H2) : rSlL K (.ref a) lo hi H Q := ⟨a, xs, rfl, hS, fun p n => k p _ n (Ex.new n) upd_same⟩
theorem cut_int (ns : List Int) (lo hi : Option Int) : ∃ ms : List Int, cutV (ns.map V.int) lo hi = ms.map V.int ∧ ms.length ≤ ns.length ∧ ∀ z ∈ ms, z ∈ ns := by
  refine ⟨(ns.drop (HT.sIx (ns.map V.int).length 0 lo)).take (HT.sIx (ns.map V.int).length (ns.map V.int).length hi - HT.sIx (ns.map V.int).length 0 lo), ?_, ?_, ?_⟩
  · unfold cutV
    rw [List.map_take, List.map_drop]
  · rw [List.length_take, List.length_drop]
    omega
  · intro z hz
    exact List.mem_of_mem_drop (List.mem_of_mem_take hz)
theorem int_at {ns : List Int} {i : Nat} {y : V} (h : (ns.map V.int)[i]? = some y) : ∃ z, ns[i]? = some z ∧ y = V.int z := by
  rw [List.getElem?_map] at h
  cases e : ns[i]? with
  | none => rw [e] at h; cases h
  | some z => rw [e] at h; exact ⟨z, rfl, (Option.some.inj h).symm⟩
theorem Same.new {p : Addr} {o : HO} (h : H p = none) : Same H (upd H p o) := fun b u e => by rw [upd_ne (ne_of_none e h)]; exact e
/-- an object that was not there at H may change -/
theorem Same.mut {p : Addr} {o : HO} (s : Same H H1) (h : H p = none) : Same H (upd H1 p o) := fun b u e => by rw [upd_ne (ne_of_none e h)]; exact s b u e
end
/-- the law's promise -/
def sp_law (K : PySem.W.Frag) : Sp := fun vs H Q _ => ∃ (a : Addr) (ns : List Int), vs = [.ref a] ∧ SqL K H a (ns.map V.int) ∧ ns.length ≤ 63 ∧ ∀ H', Q (.bl true) H'
/-! ### what the top has left -/
section
open PySem.W
variable {K : Frag} {h : Heap} {mg : Str → Option Value} {x q : Str} {st : Stmt} {ps : List Str} {C : Addr}
theorem Df.mk' {f : Addr} {od an : Option Addr} {sl : Array (Option Value)} {oc kV dc pm cd ct : Value} (X : K.In h) (G : h.Ns mainGlobals mg) (a : nsIn K mainGlobals x = some (some (.ref f)))
    (l : K.lookup f = some ⟨oc, od, .func (fnOf x x (defArgs st) (defBody st) (defScope st) .none kV dc pm an cd ct), sl⟩) (c : codeIn K cd x = true) (k : keepIn K (.ref f) = true)
    (hb : ∀ (kV doc pm : Value) (an : Option Addr) (cdv ct : Value) (us : List Value), us.length = ps.length → bindArgs (PySem.W.fnOf x x (defArgs st) (defBody st) (defScope st) .none kV doc pm an cdv ct) ⟨us, []⟩ = pure (ps.zip us)) : Df K mg x st ps :=
  have F := fun_mk (st := st) l c k
  ⟨f, _, F, mg_of X G a, hb kV dc pm an cd ct⟩
theorem Mf.mk' {f : Addr} {m : Str} {od an : Option Addr} {sl : Array (Option Value)} {oc kV dc pm cd ct : Value} (a : findIn K (.ref C) m = some (some (.ref f))) (i : isFn K (.ref f) = true)
    (l : K.lookup f = some ⟨oc, od, .func (fnOf m q (defArgs st) (defBody st) (defScope st) .none kV dc pm an cd ct), sl⟩) (c : codeIn K cd q = true) (k : keepIn K (.ref f) = true)
    (hb : ∀ (kV doc pm : Value) (an : Option Addr) (cdv ct : Value) (us : List Value), us.length = ps.length → bindArgs (PySem.W.fnOf m q (defArgs st) (defBody st) (defScope st) .none kV doc pm an cdv ct) ⟨us, []⟩ = pure (ps.zip us)) : Mf K C m q st ps :=
  have F := fun_mk (st := st) l c k
  ⟨f, _, F, ⟨a, i, k⟩, F.binds hb⟩
theorem cst_of (X : K.In h) (G : h.Ns mainGlobals mg) {i : Int} {t : Tok} (a : nsIn K mainGlobals x = some (some (.int i t))) : ∃ t, mg x = some (.int i t) := ⟨t, mg_of X G a⟩
end
theorem walk_z {l : PySem.W.OpenLaw} {k : Nat} {q : Program} {loose : List Str} {XP : (Str → Option Value) → Heap → Prop} {YP : World → Heap → Prop} {d : DefRec} {K : Params → PySem.W.Frag} (hn : l.most = some 63) (hdf : d.params.defaults = []) (hk : k ≤ 60)
    (hY : ∀ (w : World) (h : Heap), YP w h → (K w.params).In h)
    (F : ∀ (w : World) (mg : Str → Option Value) (fa : Addr) (h : Heap), (K w.params).In h → h.Ns mainGlobals mg → mg d.name = some (.ref fa) →
      ∃ fd : FuncData, (∀ (s : Shared) (u : Value), BindsTo s fd ⟨[u], []⟩ [("_law_script", u)]) ∧ ∀ base : Heap, (K w.params).In base → base.Ns mainGlobals mg → FnOk l.prog w (K w.params) mg base (L2.CX l.prog w) k fa fd ["_law_script"] (sp_law (K w.params))) :
    PySem.W.WalkO q loose XP YP l.row.toRowW d [] (fun f vs => PySem.call f vs) :=
  L2.walk_of (n := 63) (k := k) (x := "_law_script") (CX := fun w => L2.CX l.prog w) (sp := fun w => sp_law (K w.params)) hn (by decide) hdf ((⟨rfl, by decide, by decide⟩ : Room 60 callerA).mono hk) hY F (fun _ _ a ns hl _ hS => ⟨a, ns, rfl, hS, hl, fun _ => rfl⟩)
    fun _ _ _ _ _ h => by
      obtain ⟨_, _, _, _, _, _, _, _, _, _, _, _, z⟩ := h
      exact z.elim
section
variable {σ : L2.St} {H : Hp} {Q : VK} {K : PySem.W.Frag} {tu tw : TS}
theorem r_seq' {a : L2.St → Hp → Prop} {b : VK} {c d : L2.St → Hp → Prop} (k : tu ⟨tw ⟨a, b, c, d⟩, b, c, d⟩ σ H) : tSeq tu tw ⟨a, b, c, d⟩ σ H := k
theorem r_isi {x : V} {a n : String} {b : Bool} (t : TyX K H x (.type a)) (h : kitB a n = some b) (k : Q (.bl b) H) : rIsi K [x, .ty n] H Q := ⟨x, .ty n, _, _, b, rfl, .ty n, t, kit_ty h, k⟩
end
end Z
namespace Z
open PySem PySem.Spec PyProof.Rows L2 Evl
/-! ### a def that is called in an except suite with the caught exception: p its object, cls its class, d its dict -/
abbrev SpE := Addr → Value → Option Addr → Sp
structure FnE (P : Program) (w : World) (K : PySem.W.Frag) (mg : Str → Option Value) (base : Heap) (k : Nat) (f : Addr) (fd : FuncData) (ps : List Str) (sp : SpE) : Prop where
  len : ∀ a c d vs H Q E, sp a c d vs H Q E → vs.length = ps.length
  run : ∀ (A : Around) (outer : List Env) (s : Shared) (H : Hp) (args : Args) (us : List Value) (vs : List V) (Q : VK) (p : Addr × Obj) (c : Value) (d : Option Addr), L2H.RoomH k A → L2H.PinOk outer H s p → Zc c d p.2 → (∃ fs, p.2.data = .fields fs) →
    Env0 P w K mg base A outer s H → BindsTo s fd args (ps.zip us) → Vals vs us → sp p.1 c d vs H Q (fun _ _ _ => False) → codeAny (model P w) A (.call (.ref f) args) (CR CX0 outer P w H s Q fun _ _ _ => False) s
theorem fn_e {P : Program} {w : World} {K : PySem.W.Frag} {mg : Str → Option Value} {base : Heap} {k : Nat} {f : Addr} {fd : FuncData} {x qual : Str} {st : Stmt} {N ps : List Str} {sp : SpE} (F : Fun K x qual st f fd) (S : FnScope N ps (defScope st))
    (len : ∀ a c d vs H Q E, sp a c d vs H Q E → vs.length = ps.length)
    (hbody : ∀ (cdv : Value) (A : Around) (outer : List Env) (s : Shared) (H : Hp) (vs : List V) (Q : VK) (p : Addr × Obj) (c : Value) (d : Option Addr), Zc c d p.2 → (∃ fs, p.2.data = .fields fs) → sp p.1 c d vs H Q (fun _ _ _ => False) →
      ∃ t, PSs (L2H.cxH CX0 P w K mg base N qual (defScope st) f cdv A outer s H (fun _ _ _ => False) p) (defBody st) t ∧ t { nx := fun _ H' => Q .non H', rt := Q } (start N vs) H) : FnE P w K mg base (k + 1) f fd ps sp := by
  obtain ⟨oc, od, kV, doc, pm, an, cdv, ct, osl, rfl, lk, hcd⟩ := F.ex
  refine ⟨len, fun A outer s H args us vs Q p c d room pin zc fl e0 bnd rel want => ?_⟩
  have grows : ∀ b o, base.get? b = some o → s.heap.get? b = some o := fun b o e => (e0.bs b o e).1
  have inK : K.In s.heap := e0.mod.kin.keeps grows
  refine codeAny_call_function room.depth (inK _ _ lk) rfl S.co S.gen rfl (PySem.W.codeRec_of inK hcd) (bnd _ _ _ _ ?_)
  refine wpAny_newFunctionEnv_cells S.kind (fun y hy => ?_) fun env he s1 frame => ?_
  · obtain ⟨n, v⟩ := y
    exact (S.par n (List.of_mem_zip hy).1).elim .inl fun q => .inr ⟨q, PySem.W.cellsFrom_some _ _ _ (.inl q)⟩
  · subst he
    obtain ⟨t, ht, hq⟩ := hbody cdv A outer s H vs Q p c d zc fl want
    have start0 := L2H.inv_startH (CX := CX0) (qual := qual) (f := f) (cd := cdv) (E := fun _ _ _ => False) S pin e0 (len _ _ _ _ _ _ _ want) rel frame
    refine ⟨(e0.mod.nolimit.keeps grows).keeps frame.toInCall.keep, codeAny_func (wpAny_mono (ht.run [] s1 (start N vs) H _ start0 hq) (fun fl s' done => ?_) fun _ _ z => z)⟩
    cases fl with
    | brk => exact done.elim fun _ z => z.elim fun _ z => z.2.elim
    | cont => exact done.elim fun _ z => z.elim fun _ z => z.2.elim
    | ret u =>
      obtain ⟨v, σ', H', J, rv, q⟩ := done
      exact ⟨v, H', J.os, J.bare, J.base, J.hok, rv, q⟩
    | next =>
      obtain ⟨σ', H', J, q⟩ := done
      exact ⟨.non, H', J.os, J.bare, J.base, J.hok, rfl, q⟩
structure En (P : Program) (w : World) (K : PySem.W.Frag) (mg : Str → Option Value) (base : Heap) (k : Nat) (x : Str) (sp : SpE) : Prop where
  ex : ∃ (f : Addr) (fd : FuncData) (ps : List Str), FnE P w K mg base k f fd ps sp ∧ mg x = some (.ref f) ∧ PySem.W.keepIn K (.ref f) = true ∧ Binds K fd ps []
theorem Df.en {P : Program} {w : World} {K : PySem.W.Frag} {mg : Str → Option Value} {base : Heap} {x : Str} {st : Stmt} {ps N : List Str} {k : Nat} {sp : SpE} (F : Df K mg x st ps) (S : FnScope N ps (defScope st)) (len : ∀ a c d vs H Q E, sp a c d vs H Q E → vs.length = ps.length)
    (hbody : ∀ (cdv : Value) (f : Addr) (A : Around) (outer : List Env) (s : Shared) (H : Hp) (vs : List V) (Q : VK) (p : Addr × Obj) (c : Value) (d : Option Addr), Zc c d p.2 → (∃ fs, p.2.data = .fields fs) → sp p.1 c d vs H Q (fun _ _ _ => False) →
      ∃ t, PSs (L2H.cxH CX0 P w K mg base N x (defScope st) f cdv A outer s H (fun _ _ _ => False) p) (defBody st) t ∧ t { nx := fun _ H' => Q .non H', rt := Q } (start N vs) H) : En P w K mg base (k + 1) x sp := by
  obtain ⟨f, fd, F1, hm, hb⟩ := F.ex
  exact ⟨f, fd, ps, fn_e F1 S len (fun cdv A outer s H vs Q p c d => hbody cdv f A outer s H vs Q p c d), hm, F1.kp, .all hb⟩
section
variable {X : Cx} {k j : Nat} {sp : SpE} {x : Str} {p q pos : Pos} {e : Expr} {es : List Expr} {t : TA} {a : Addr} {oe : Obj} {cls : Value} {d : Option Addr} {pn : List (Addr × Obj)} {Y : Cx}
/-- f(e, ..) within the suite that caught a -/
theorem pe_e (D : En Y.prog Y.w Y.K Y.mg Y.base k x sp) (hr : Room j Y.A) (hk : k ≤ j) (hz : Zc cls d oe) (hf : ∃ vs, oe.data = .fields vs) (ha : PA (Y.suite a ((a, oe) :: pn)) (e :: es) t) (hg : Gl Y x := by rfl) (hdb : (x == ("__debug__" : Str)) = false := by decide)
    (he : starEach (e :: es) Y.env = (false, eval e Y.env) :: starEach es Y.env := by rfl) (hpl : (backTo pos (starEach es Y.env)).any (·.1) = false := by rfl) :
    PE (Y.suite a ((a, oe) :: pn)) (.Call (.Name x q) (e :: es) [] pos) (fun σ H Q => t σ H fun vs H1 => sp a cls d vs H1 Q fun _ _ _ => False) := by
  obtain ⟨f, fd, ps, F, hm, kp, hb⟩ := D.ex
  refine ⟨fun pins s σ H Q I h => wpAny_Call_Name_kw (ld_glob I hg hm ?_ hdb)⟩
  refine PySem.W.callWith_K (h₀ := Y.base) I.ok.mod.kin kp (thn (ha.run pos pins s σ H _ I h) fun us s1 ⟨vs, H1, I1, r, want⟩ => ⟨I1.kIn, ?_⟩) he hpl
  have here := I1.pin (a, oe) (List.mem_append_left _ List.mem_cons_self)
  have pin : L2H.PinOk (Y.suite a ((a, oe) :: pn)).stack H1 s1 (a, oe) := ⟨here.1, here.2.1, fun m => (List.mem_cons.mp (I1.stkSub a m)).elim here.2.2.1 here.2.2.2.1, here.2.2.2.2⟩
  have nargs : us.length = ps.length := r.length.symm.trans (F.len _ _ _ _ _ _ _ want)
  have b := hb s1 us I1.kIn (by rw [List.append_nil]; exact nargs)
  rw [List.append_nil] at b
  refine wpAny_call (codeAny_mono (F.run _ (Y.suite a ((a, oe) :: pn)).stack s1 H1 ⟨us, []⟩ us vs Q (a, oe) cls d ⟨by have := hr.dp; show Y.A.depth + 3 * k + 5 < _; omega, by have := hr.un; show Y.A.units + 16 * k + 200 < _; omega⟩ pin hz hf I1.env0 b r want) fun res s' hq => ?_)
  match res, hq with
  | .error _, hq => exact hq.elim
  | .ok (.ret _), hq => exact I1.after hq
  | .ok .next, hq => exact hq.elim
  | .ok .brk, hq => exact hq.elim
  | .ok .cont, hq => exact hq.elim
/-- isinstance(e, C), e the caught one (its class without own fields) -/
def rIsP (K : PySem.W.Frag) (a : Addr) (cls : Value) (d : Option Addr) : List V → Hp → VK → Prop := fun xs H Q => ∃ (D : Addr) (c : V) (cv : Value) (b : Bool), cls = .ref D ∧ d = none ∧ ExcC K D ∧ xs = [.ref a, c] ∧ (∀ u, RelV c u → u = cv) ∧ PySem.W.kitOne K (.ref D) cv = some b ∧ Q (.bl b) H
theorem call_isP {K : PySem.W.Frag} (hK : X.K = K) (hp : (a, oe) ∈ X.pn) (hz : Zc cls d oe) (hf : ∃ vs, oe.data = .fields vs) : CallR X (.builtin "isinstance") (rIsP K a cls d) := by
  subst hK
  intro pins s σ H xs us Q I r h
  obtain ⟨D, c, cv, b, rfl, rfl, C, rfl, hcv, e, q⟩ := h
  obtain ⟨u1, u2, rfl, r1, r2⟩ := vals2 r
  cases r1
  cases hcv _ r2
  obtain ⟨fs, hv⟩ := hf
  have J : PySem.W.InstAt s.heap a oe D none := by
    have g := (I.pin (a, oe) (List.mem_append_left _ hp)).1
    cases oe
    obtain ⟨z1, z2⟩ := hz
    cases z1; cases z2; cases hv
    exact ⟨g, rfl, rfl, trivial⟩
  exact PySem.W.kia_one (PySem.W.handS_kitx_exc C.hg C.hk C.hs C.hd C.ha C.hn C.ht C.hm) I.kIn J e (fun z => nomatch z) fun tk => ⟨.bl b, H, I.tok tk, rfl, q⟩
end
end Z
namespace Z
open PySem PySem.Spec PyProof.Rows L2 Evl
/-! ### refusals: own exception classes without own fields -/
structure ExD (K : PySem.W.Frag) (B D : Addr) : Prop where
  q : PySem.W.excIn K D [.type "ValueError", .type "Exception", .type "BaseException", .type "object"] "ValueError.__new__" = true
  k : PySem.W.keepIn K (.ref D) = true
  b : PySem.W.subIn K (.ref D) (.type "BaseException") = some true
  t : PySem.W.typeIn K (.ref D) = some (.type "type")
  c : ExcC K D
  m : PySem.W.exmOne K (.ref D) (.ref B) = some true
theorem pmk_o {X : Cx} {x m : Str} {C B : Addr} {j : Nat} {p p2 pos : Pos} (E : ExD X.K B C) (gC : X.mg x = some (.ref C)) (hg : Gl X x := by rfl) (hdb : (x == ("__debug__" : Str)) = false := by decide) :
    PMk X (.Call (.Name x p) [.Constant (.str m) j p2] [] pos) (fun _ H Q => Q (.ref C) none H) := pmk_own PySem.F.excBase_ValueError E.q gC E.k (raises_own E.b E.t) hg hdb
/-! ### things of any kind -/
def objK : Option HO → String
  | some (.lst _) => "list"
  | some (.tup _) => "tuple"
  | some (.dK _) => "dict"
  | some (.dT _) => "dict"
  | some (.frz _ (.lst _)) => "list"
  | _ => "?"
def kindV (H : Hp) : V → String
  | .non => "NoneType"
  | .bl _ => "bool"
  | .int _ => "int"
  | .str _ => "str"
  | .ref a => objK (H a)
  | _ => "?"
/-- a thing whose kind is known -/
def AnyV (H : Hp) (x : V) : Prop := kindV H x ≠ "?"
def wholeV : V → Bool
  | .int _ => true
  | _ => false
def boolV : V → Bool
  | .bl _ => true
  | _ => false
theorem AnyV.elim {H : Hp} {x : V} {C : Prop} (h : AnyV H x) (non : x = .non → C) (bl : ∀ b, x = .bl b → C) (int : ∀ i, x = .int i → C) (str : ∀ z, x = .str z → C) (lst : ∀ a xs, x = .ref a → H a = some (.lst xs) → C) (frz : ∀ a o xs, x = .ref a → H a = some (.frz o (.lst xs)) → C)
    (tup : ∀ a xs, x = .ref a → H a = some (.tup xs) → C) (dK : ∀ a xs, x = .ref a → H a = some (.dK xs) → C) (dT : ∀ a xs, x = .ref a → H a = some (.dT xs) → C) : C := by
  cases x with
  | non => exact non rfl
  | bl b => exact bl b rfl
  | int i => exact int i rfl
  | str z => exact str z rfl
  | byt b => exact (h rfl).elim
  | flt b => exact (h rfl).elim
  | ty n => exact (h rfl).elim
  | ref a =>
    have h' : objK (H a) ≠ "?" := h
    cases e : H a with
    | none => rw [e] at h'; exact (h' rfl).elim
    | some o =>
      rw [e] at h'
      cases o with
      | lst xs => exact lst a xs rfl e
      | tup xs => exact tup a xs rfl e
      | dK xs => exact dK a xs rfl e
      | dT xs => exact dT a xs rfl e
      | frz o u =>
        cases u with
        | lst xs => exact frz a o xs rfl e
        | _ => exact (h' rfl).elim
      | _ => exact (h' rfl).elim
theorem kind_ref {H : Hp} {a : Addr} {o : HO} (e : H a = some o) : kindV H (.ref a) = objK (some o) := by
  show objK (H a) = _
  rw [e]
theorem AnyV.ty {K : PySem.W.Frag} {H : Hp} {x : V} (h : AnyV H x) : TyX K H x (.type (kindV H x)) := by
  refine h.elim ?_ ?_ ?_ ?_ ?_ ?_ ?_ ?_ ?_
  · rintro rfl; exact .base .non
  · rintro b rfl; exact .base (.bl b)
  · rintro b rfl; exact .base (.int b)
  · rintro b rfl; exact .base (.str b)
  · rintro a xs rfl e; rw [kind_ref e]; exact .base (.lst e)
  · rintro a o xs rfl e; rw [kind_ref e]; exact .base (.frz e)
  · rintro a xs rfl e; rw [kind_ref e]; exact .base (.tup e)
  · rintro a xs rfl e; rw [kind_ref e]; exact .base (.dK e)
  · rintro a xs rfl e; rw [kind_ref e]; exact .base (.dT e)
theorem kit_int {H : Hp} {x : V} (h : AnyV H x) : kitB (kindV H x) "int" = some (wholeV x || boolV x) := by
  refine h.elim ?_ ?_ ?_ ?_ ?_ ?_ ?_ ?_ ?_
  · rintro rfl; rfl
  · rintro b rfl; rfl
  · rintro b rfl; rfl
  · rintro b rfl; rfl
  · rintro a xs rfl e; rw [kind_ref e]; rfl
  · rintro a o xs rfl e; rw [kind_ref e]; rfl
  · rintro a xs rfl e; rw [kind_ref e]; rfl
  · rintro a xs rfl e; rw [kind_ref e]; rfl
  · rintro a xs rfl e; rw [kind_ref e]; rfl
theorem kit_bool {H : Hp} {x : V} (h : AnyV H x) : kitB (kindV H x) "bool" = some (boolV x) := by
  refine h.elim ?_ ?_ ?_ ?_ ?_ ?_ ?_ ?_ ?_
  · rintro rfl; rfl
  · rintro b rfl; rfl
  · rintro b rfl; rfl
  · rintro b rfl; rfl
  · rintro a xs rfl e; rw [kind_ref e]; rfl
  · rintro a o xs rfl e; rw [kind_ref e]; rfl
  · rintro a xs rfl e; rw [kind_ref e]; rfl
  · rintro a xs rfl e; rw [kind_ref e]; rfl
  · rintro a xs rfl e; rw [kind_ref e]; rfl
section
variable {H : Hp} {Q : VK} {K : PySem.W.Frag} {x : V}
theorem r_isi_int (h : AnyV H x) (k : Q (.bl (wholeV x || boolV x)) H) : rIsi K [x, .ty "int"] H Q := r_isi h.ty (kit_int h) k
theorem r_isi_bool (h : AnyV H x) (k : Q (.bl (boolV x)) H) : rIsi K [x, .ty "bool"] H Q := r_isi h.ty (kit_bool h) k
end
theorem p2_48 {H : Hp} {Q : VK} (k : Q (.int 281474976710656) H) : rI CPow (fun i j => .int (i ^ j.toNat)) (.int 2) (.int 48) H Q := ⟨2, 48, rfl, rfl, ⟨by decide, by decide, by decide⟩, k⟩
theorem p2_40 {H : Hp} {Q : VK} (k : Q (.int 1099511627776) H) : rI CPow (fun i j => .int (i ^ j.toNat)) (.int 2) (.int 40) H Q := ⟨2, 40, rfl, rfl, ⟨by decide, by decide, by decide⟩, k⟩
theorem p10_60 {H : Hp} {Q : VK} (k : Q (.int 1000000000000000000000000000000000000000000000000000000000000) H) : rI CPow (fun i j => .int (i ^ j.toNat)) (.int 10) (.int 60) H Q := ⟨10, 60, rfl, rfl, ⟨by decide, by decide, by decide⟩, k⟩
theorem p10_59 {H : Hp} {Q : VK} (k : Q (.int 100000000000000000000000000000000000000000000000000000000000) H) : rI CPow (fun i j => .int (i ^ j.toNat)) (.int 10) (.int 59) H Q := ⟨10, 59, rfl, rfl, ⟨by decide, by decide, by decide⟩, k⟩
theorem p10_30 {H : Hp} {Q : VK} (k : Q (.int 1000000000000000000000000000000) H) : rI CPow (fun i j => .int (i ^ j.toNat)) (.int 10) (.int 30) H Q := ⟨10, 30, rfl, rfl, ⟨by decide, by decide, by decide⟩, k⟩
/-- a list of truths -/
theorem dpAll_bools {K : PySem.W.Frag} {H : Hp} : ∀ bs : List Bool, DpAll K H (bs.map V.bl) (bs.map PyData.bool)
  | [] => .nil
  | b :: bs => .cons (.bl b) (dpAll_bools bs)
theorem dpAll_ints {K : PySem.W.Frag} {H : Hp} : ∀ ns : List Int, DpAll K H (ns.map V.int) (ns.map PyData.int)
  | [] => .nil
  | b :: bs => .cons (.int b) (dpAll_ints bs)
theorem sh_bools (bs : List Bool) : SeqAt.shaped (.list (bs.map PyData.bool)) = true := by
  have h1 : ∀ bs : List Bool, PyData.canLayAll0 (bs.map PyData.bool) = true := fun bs => by
    induction bs with
    | nil => rfl
    | cons b bs ih => simp [PyData.canLayAll0, PyData.canLay0, ih]
  have h2 : ∀ bs : List Bool, PyData.depthAll (bs.map PyData.bool) ≤ 1 := fun bs => by
    induction bs with
    | nil => simp [PyData.depthAll]
    | cons b bs ih => simp [PyData.depthAll, PyData.depth]; omega
  have h3 := h2 bs
  simp [SeqAt.shaped, PyData.canLay0, PyData.depth, h1]
  omega
end Z
namespace Z
open PySem PySem.Spec PyProof.Rows L2 Evl
section
variable {σ : L2.St} {H : Hp} {ta tb : TE} {K : PySem.W.Frag} {a : Addr} {xs ys : List V} {cls : Value} {d : Option Addr} {v : V} {i : Nat}
theorem el_cat (ha : Ev ta σ H (.ref a)) (h : H a = some (.lst xs)) (hb : EvL tb σ H ys) (hl : xs.length + ys.length ≤ 100000) : EvL (tOp rCat ta tb) σ H (xs ++ ys) := fun H1 e Q q =>
  ha H1 e _ fun H2 e2 => hb H2 (e.trans e2) _ fun p H3 hp e3 h3 => ⟨a, p, xs, ys, rfl, rfl, (e.trans e2).trans e3 _ _ h, h3, sz_of hl, fun r nr => q r _ (fresh_back (e2.trans e3) nr) ((e2.trans e3).trans (Ex.new nr)) upd_same⟩
theorem el_cat2 (ha : EvL ta σ H xs) (hb : EvL tb σ H ys) (hl : xs.length + ys.length ≤ 100000) : EvL (tOp rCat ta tb) σ H (xs ++ ys) := fun H1 e Q q =>
  ha H1 e _ fun p H2 hp e2 h2 => hb H2 (e.trans e2) _ fun r H3 hr e3 h3 => ⟨p, r, xs, ys, rfl, rfl, e3 _ _ h2, h3, sz_of hl, fun z nz => q z _ (fresh_back (e2.trans e3) nz) ((e2.trans e3).trans (Ex.new nz)) upd_same⟩
theorem el_rep {k : Int} (ha : EvL ta σ H xs) (hb : Ev tb σ H (.int k)) (h0 : 0 ≤ k) (h1 : k < 1000) (hl : xs.length * k.toNat ≤ 100000) : EvL (tOp rRep ta tb) σ H (List.replicate k.toNat xs).flatten := fun H1 e Q q =>
  ha H1 e _ fun p H2 hp e2 h2 => hb H2 (e.trans e2) _ fun H3 e3 => ⟨p, k, xs, rfl, rfl, e3 _ _ h2, by omega, by omega, sz_of hl, fun z nz => q z _ (fresh_back (e2.trans e3) nz) ((e2.trans e3).trans (Ex.new nz)) upd_same⟩
theorem ev_isP {C : Value} {c : V} {D : Addr} {b : Bool} {tc : TE} (hC : ExcC K D) (h : PySem.W.kitOne K (.ref D) C = some b) (he : Ev ta σ H (.ref a) := by exact ev_var rfl) (hc : Ev tc σ H c := by exact ev_c) (hv : ∀ u, RelV c u → u = C := by intro u r; exact r) :
    Ev (tCB (rIsP K a (.ref D) none) (tCons ta (tCons tc tNil))) σ H (.bl b) :=
  ev_cb (ea_cons he (ea_cons hc ea_nil)) fun H1 _ _ q => ⟨D, c, C, b, rfl, rfl, hC, rfl, hv, h, q H1 (Ex.refl H1)⟩
end
end Z
namespace Z
open PySem PySem.Spec PyProof.Rows L2 Evl
theorem atI_mod {xs : List V} {c m : Int} (hm : (xs.length : Int) = m) (h0 : 0 < m) : ∃ v, atI xs (c % m) = some v ∧ v ∈ xs := by
  have h1 := Int.emod_nonneg c (by omega : m ≠ 0)
  have h2 := Int.emod_lt_of_pos c h0
  have hl : (c % m).toNat < xs.length := by omega
  refine ⟨xs[(c % m).toNat], ?_, List.getElem_mem hl⟩
  have e := atI_nat (xs := xs) (j := (c % m).toNat) (v := xs[(c % m).toNat]) (List.getElem?_eq_getElem hl)
  rwa [Int.toNat_of_nonneg h1] at e
theorem r_ixL {K : PySem.W.Frag} {H : Hp} {Q : VK} {a : Addr} {xs : List V} {i : Int} {v : V} (hS : SqL K H a xs) (h : atI xs i = some v) (k : Q v H) : rIxL K (.ref a) (.int i) H Q := ⟨a, xs, i, v, rfl, rfl, hS, h, k⟩
theorem r_ixT {K : PySem.W.Frag} {H : Hp} {Q : VK} {a : Addr} {xs : List V} {i : Int} {v : V} (hS : SqT K H a xs) (h : atI xs i = some v) (k : Q v H) : rIxT K (.ref a) (.int i) H Q := ⟨a, xs, i, v, rfl, rfl, hS, h, k⟩
theorem AnyV.mono {H H' : Hp} {x : V} (h : AnyV H x) (e : Ex H H') : AnyV H' x := by
  unfold AnyV at h ⊢
  cases x with
  | ref a =>
    have h' : objK (H a) ≠ "?" := h
    show objK (H' a) ≠ "?"
    cases q : H a with
    | none => rw [q] at h'; exact (h' rfl).elim
    | some o => rw [e a o q]; rw [q] at h'; exact h'
  | _ => exact h
theorem AnyV.lst {H : Hp} {a : Addr} {xs : List V} (h : H a = some (.lst xs)) : AnyV H (.ref a) := by
  show objK (H a) ≠ "?"; rw [h]; exact (by decide : ("list" : String) ≠ "?")
theorem AnyV.tup {H : Hp} {a : Addr} {xs : List V} (h : H a = some (.tup xs)) : AnyV H (.ref a) := by
  show objK (H a) ≠ "?"; rw [h]; exact (by decide : ("tuple" : String) ≠ "?")
theorem AnyV.dK {H : Hp} {a : Addr} {xs : List (Key × V)} (h : H a = some (.dK xs)) : AnyV H (.ref a) := by
  show objK (H a) ≠ "?"; rw [h]; exact (by decide : ("dict" : String) ≠ "?")
theorem AnyV.non {H : Hp} : AnyV H .non := by show "NoneType" ≠ "?"; decide
theorem AnyV.bl {H : Hp} {b : Bool} : AnyV H (.bl b) := by show "bool" ≠ "?"; decide
theorem AnyV.int {H : Hp} {b : Int} : AnyV H (.int b) := by show "int" ≠ "?"; decide
theorem AnyV.str {H : Hp} {b : Str} : AnyV H (.str b) := by show "str" ≠ "?"; decide
theorem whole_not {x : V} (h : (wholeV x || boolV x) = true) : (!boolV x) = wholeV x := by cases x <;> first | rfl | cases h
theorem whole_no {x : V} (h : (wholeV x || boolV x) = false) : wholeV x = false := by cases x <;> first | rfl | cases h
theorem whole_int {x : V} (h : wholeV x = true) : ∃ i, x = .int i := by
  cases x with
  | int i => exact ⟨i, rfl⟩
  | _ => exact nomatch h
def wordV : V → Bool
  | .int i => decide (0 ≤ i) && decide (i < 281474976710656)
  | _ => false
theorem word_no {x : V} (h : wholeV x = false) : wordV x = false := by
  cases x with
  | int i => exact nomatch h
  | _ => rfl
end Z
namespace Z
theorem r_ntb {b : Bool} {A B : Prop} (h : b = true) (k : B) : if (!b) = true then A else B := by rw [if_neg (by rw [h]; decide)]; exact k
theorem r_nfb {b : Bool} {A B : Prop} (h : b = false) (k : A) : if (!b) = true then A else B := by rw [if_pos (by rw [h]; decide)]; exact k
end Z
namespace Z
open PySem PySem.Spec PyProof.Rows L2 Evl
section
variable {K : PySem.W.Frag} {H : Hp} {Q : VK} {σ : L2.St} {te : TE} {a b l : Addr} {xs ys : List V}
theorem r_isP {C : Value} {c : V} {D : Addr} {z : Bool} (hC : ExcC K D) (h : PySem.W.kitOne K (.ref D) C = some z) (hv : ∀ u, RelV c u → u = C) (k : Q (.bl z) H) : rIsP K a (.ref D) none [.ref a, c] H Q := ⟨D, c, C, z, rfl, rfl, hC, rfl, hv, h, k⟩
theorem r_cat (h1 : H l = some (.lst xs)) (h2 : H b = some (.lst ys)) (hl : xs.length + ys.length ≤ 100000) (k : ∀ p H2, H p = none → Ex H H2 → H2 p = some (.lst (xs ++ ys)) → Q (.ref p) H2) : rCat (.ref l) (.ref b) H Q := ⟨l, b, xs, ys, rfl, rfl, h1, h2, sz_of hl, fun p n => k p _ n (Ex.new n) upd_same⟩
theorem r_rep {m : Int} (h1 : H l = some (.lst xs)) (h0 : 0 ≤ m) (hm : m < 1000) (hl : xs.length * m.toNat ≤ 100000) (k : ∀ p H2, H p = none → Ex H H2 → H2 p = some (.lst (List.replicate m.toNat xs).flatten) → Q (.ref p) H2) : rRep (.ref l) (.int m) H Q := ⟨l, m, xs, rfl, rfl, h1, by omega, by omega, sz_of hl, fun p n => k p _ n (Ex.new n) upd_same⟩
theorem evl_use (h : EvL te σ H xs) (k : ∀ p H2, H p = none → Ex H H2 → H2 p = some (.lst xs) → Q (.ref p) H2) : te σ H Q := h H (Ex.refl H) Q k
theorem eqvAll_bools : ∀ bs cs : List Bool, PyData.eqvAll (bs.map PyData.bool) (cs.map PyData.bool) = decide (bs = cs)
  | [], [] => rfl
  | [], c :: cs => rfl
  | b :: bs, [] => rfl
  | b :: bs, c :: cs => by
    show (PyData.eqv (.bool b) (.bool c) && PyData.eqvAll (bs.map PyData.bool) (cs.map PyData.bool)) = _
    rw [eqvAll_bools bs cs]
    show ((b == c) && decide (bs = cs)) = decide (b :: bs = c :: cs)
    by_cases h1 : b = c
    · subst h1; by_cases h2 : bs = cs
      · subst h2; simp
      · simp [h2]
    · simp [h1]
theorem r_eqBs {bs cs : List Bool} (h1 : SqL K H a (bs.map V.bl)) (h2 : SqL K H b (cs.map V.bl)) (k : Q (.bl (decide (bs = cs))) H) : rEqD K (.ref a) (.ref b) H Q := by
  refine ⟨.list (bs.map PyData.bool), .list (cs.map PyData.bool), .lst h1 (dpAll_bools _), .lst h2 (dpAll_bools _), sh_bools _, sh_bools _, ?_⟩
  show Q (.bl (PyData.eqvAll _ _)) H
  rw [eqvAll_bools]
  exact k
end
end Z
namespace Z
open PySem PySem.Spec PyProof.Rows L2 Evl
section
variable {H : Hp} {Q : VK} {σ : L2.St}
/-- a new object o, then Q -/
def NewO (Q : VK) (H : Hp) (o : HO) : Prop := ∀ p, H p = none → Q (.ref p) (upd H p o)
theorem r_new {o : HO} (k : ∀ p H2, H p = none → Ex H H2 → H2 p = some o → Q (.ref p) H2) : NewO Q H o := fun p n => k p _ n (Ex.new n) upd_same
theorem r_tup {tr : TA} (k : tr σ H fun xs H1 => xs.length ≤ sizeLine ∧ NewO Q H1 (.tup xs)) : tTup tr σ H Q := k
theorem r_lst {tr : TA} (k : tr σ H fun xs H1 => xs.length ≤ sizeLine ∧ NewO Q H1 (.lst xs)) : tLst tr σ H Q := k
theorem r_dnew (k : ∀ p H2, H p = none → Ex H H2 → H2 p = some (.dK []) → Q (.ref p) H2) : tDNewK σ H Q := fun p n => k p _ n (Ex.new n) upd_same
theorem r_szA {n : Nat} {R : Prop} (h : Nat.ble n 100000 = true) (k : R) : n ≤ sizeLine ∧ R := ⟨sz_of (Nat.le_of_ble_eq_true h), k⟩
end
end Z
namespace Z
open PySem PySem.Spec PyProof.Rows L2 Evl
theorem r_len {K : PySem.W.Frag} {H : Hp} {Q : VK} {a : Addr} {xs : List V} (h : SqL K H a xs) (k : Q (.int (xs.length : Int)) H) : (fun (vs : List V) (H : Hp) (Q : VK) => ∃ p ys, vs = [.ref p] ∧ (SqL K H p ys ∨ SqT K H p ys) ∧ Q (.int ys.length) H) [.ref a] H Q := ⟨a, xs, rfl, .inl h, k⟩
end Z
namespace Z
open PySem PySem.Spec PyProof.Rows L2 Evl
/-! ### bits of words -/
theorem bXor {x y : Int} (hx : 0 ≤ x) (hy : 0 ≤ y) : Builtin.bitXor x y = ((x.toNat ^^^ y.toNat : Nat) : Int) := Bits.bitXor_pp hx hy
theorem bOr {x y : Int} (hx : 0 ≤ x) (hy : 0 ≤ y) : Builtin.bitOr x y = ((x.toNat ||| y.toNat : Nat) : Int) := Bits.bitOr_pp hx hy
theorem bAnd {x y : Int} (hx : 0 ≤ x) (hy : 0 ≤ y) : Builtin.bitAnd x y = ((x.toNat &&& y.toNat : Nat) : Int) := bitAnd_pp hx hy
theorem half_nat (x : Int) (hx : 0 ≤ x) : (x / 2).toNat = x.toNat / 2 := by omega
theorem and_half {x y : Int} (hx : 0 ≤ x) (hy : 0 ≤ y) : Builtin.bitAnd x y / 2 = Builtin.bitAnd (x / 2) (y / 2) := by
  rw [bAnd hx hy, bAnd (by omega) (by omega), half_nat x hx, half_nat y hy, ← Nat.and_div_two]
  omega
theorem and_low {x y : Int} (hx : 0 ≤ x) (hy : 0 ≤ y) : Builtin.bitAnd x y % 2 = x % 2 * (y % 2) := by
  rw [bAnd hx hy]
  have h := @Nat.and_mod_two_eq_one x.toNat y.toNat
  have a1 : x % 2 = 0 ∨ x % 2 = 1 := by omega
  have a2 : y % 2 = 0 ∨ y % 2 = 1 := by omega
  rcases a1 with a1 | a1 <;> rcases a2 with a2 | a2 <;> rw [a1, a2] <;> omega
theorem xor_half {x y : Int} (hx : 0 ≤ x) (hy : 0 ≤ y) : Builtin.bitXor x y / 2 = Builtin.bitXor (x / 2) (y / 2) := by
  rw [bXor hx hy, bXor (by omega) (by omega), half_nat x hx, half_nat y hy, ← Nat.xor_div_two]
  omega
theorem xor_low {x y : Int} (hx : 0 ≤ x) (hy : 0 ≤ y) : Builtin.bitXor x y % 2 = (x + y) % 2 := by
  rw [bXor hx hy]
  have h : (x.toNat ^^^ y.toNat) % 2 = ((x.toNat % 2) ^^^ (y.toNat % 2)) := @Nat.xor_mod_two_pow x.toNat y.toNat 1
  have a1 : x.toNat % 2 = 0 ∨ x.toNat % 2 = 1 := by omega
  have a2 : y.toNat % 2 = 0 ∨ y.toNat % 2 = 1 := by omega
  rcases a1 with a1 | a1 <;> rcases a2 with a2 | a2 <;> rw [a1, a2] at h <;> simp only [Nat.xor_self, Nat.xor_zero, Nat.zero_xor] at h <;> omega
theorem bAnd0 {x y : Int} (hx : 0 ≤ x) (hy : 0 ≤ y) : 0 ≤ Builtin.bitAnd x y := by rw [bAnd hx hy]; omega
theorem bXor0 {x y : Int} (hx : 0 ≤ x) (hy : 0 ≤ y) : 0 ≤ Builtin.bitXor x y := by rw [bXor hx hy]; omega
theorem bOr0 {x y : Int} (hx : 0 ≤ x) (hy : 0 ≤ y) : 0 ≤ Builtin.bitOr x y := by rw [bOr hx hy]; omega
theorem atI_int {ns : List Int} {i : Int} (h0 : -(ns.length : Int) ≤ i) (h1 : i < ns.length) : ∃ z, atI (ns.map V.int) i = some (.int z) ∧ z ∈ ns := by
  by_cases c : 0 ≤ i
  · have hl : i.toNat < ns.length := by omega
    have e := atI_nat (xs := ns.map V.int) (j := i.toNat) (v := .int ns[i.toNat]) (by simp [List.getElem?_eq_getElem hl])
    rw [Int.toNat_of_nonneg c] at e
    exact ⟨_, e, List.getElem_mem hl⟩
  · have hl : (i + ns.length).toNat < ns.length := by omega
    refine ⟨ns[(i + ns.length).toNat], ?_, List.getElem_mem hl⟩
    unfold atI ixN
    rw [List.length_map, if_neg c, if_pos h0]
    simp [List.getElem?_eq_getElem hl]
theorem atI_intN {ns : List Int} {i : Nat} {z : Int} (h : ns[i]? = some z) : atI (ns.map V.int) (i : Int) = some (.int z) := atI_nat (by rw [List.getElem?_map, h]; rfl)
theorem get_lt {α : Type} {xs : List α} {i : Nat} (h : i < xs.length) : ∃ z, xs[i]? = some z ∧ z ∈ xs := ⟨xs[i], List.getElem?_eq_getElem h, List.getElem_mem h⟩
end Z
namespace Z
open PySem PySem.Spec PyProof.Rows L2 Evl
/-! ### comprehensions -/
section
variable {σ : L2.St} {H : Hp} {Q : VK} {K : PySem.W.Frag} {wi : TI} {g : TG} {tt : TT} {te : TE} {vs : List Nat} {a : Addr} {xs : List V} {j : Nat}
def LcW (J : It) (g : TG) (tt : TT) (te : TE) (vs : List Nat) (σ : L2.St) (H1 : Hp) (Q : VK) : Prop := ∀ D, H1 D = none → ∃ W : Nat → Nat → Hp → Prop, (∃ m, W 0 m (upd H1 D (.lst []))) ∧ ∀ i m H, W i m H →
  (J.stop i H ∧ Q (.ref D) H) ∨ (J.go i H ∧ ∃ Nx : Hp → Prop, (∀ H', Nx H' → ∃ m', m' < m ∧ W (i + 1) m' H') ∧ ∀ x H', J.yld i H x H' → g x (wipe σ vs) H' fun σ2 H2 => wipe σ2 vs = wipe σ vs ∧ tt σ2 H2 fun b H3 =>
    if b = true then te σ2 H3 fun y H4 => ∃ acc, H4 D = some (.lst acc) ∧ acc.length < sizeLine ∧ Nx (upd H4 D (.lst (acc ++ [y]))) else Nx H3)
theorem r_lc (k : wi σ H fun J H1 => LcW J g tt te vs σ H1 Q) : tLc wi g tt te vs σ H Q := k
/-- all that stood stands, but at D -/
def ExB (D : Addr) (H H' : Hp) : Prop := ∀ b o, b ≠ D → H b = some o → H' b = some o
structure LcP (R : Addr → Nat → V → Hp → Prop) (H : Hp) (D : Addr) (i : Nat) (H' : Hp) : Prop where
  ex : ∃ ys, H' D = some (.lst ys) ∧ ys.length = i ∧ ∀ n y, ys[n]? = some y → R D n y H'
  same : Ex H H'
theorem LcP.start {R : Addr → Nat → V → Hp → Prop} {D : Addr} (n : H D = none) : LcP R H D 0 (upd H D (.lst [])) := ⟨⟨[], upd_same, rfl, fun n y e => by simp at e⟩, Ex.new n⟩
theorem LcP.more {R : Addr → Nat → V → Hp → Prop} {D : Addr} {i : Nat} {H1 H4 : Hp} {y : V} (st : ∀ D i y H1 H2, R D i y H1 → ExB D H1 H2 → R D i y H2) (n : H D = none) (p : LcP R H D i H1) (e : Ex H1 H4) (r : R D i y H4) (hi : i < 100000) :
    ∃ acc, H4 D = some (.lst acc) ∧ acc.length < sizeLine ∧ LcP R H D (i + 1) (upd H4 D (.lst (acc ++ [y]))) := by
  obtain ⟨⟨ys, h1, h2, h3⟩, s⟩ := p
  have up : ExB D H4 (upd H4 D (.lst (ys ++ [y]))) := fun b o nb h => by rw [upd_ne nb]; exact h
  refine ⟨ys, e _ _ h1, sz_lt (by omega), ⟨ys ++ [y], upd_same, by simp [h2], fun m z hz => ?_⟩, (s.trans e).mut n⟩
  by_cases c : m < ys.length
  · rw [List.getElem?_append_left c] at hz
    exact st _ _ _ _ _ (st _ _ _ _ _ (h3 m z hz) fun b o _ h => e b o h) up
  · rw [List.getElem?_append_right (by omega)] at hz
    have em : m = i := by
      have := (List.getElem?_eq_some_iff.mp hz).1
      simp at this
      omega
    subst em
    rw [show m - ys.length = 0 by omega] at hz
    cases hz
    exact st _ _ _ _ _ r up
theorem r_lcG (hS : SqL K H a xs) (hl : xs.length ≤ 100000) (R : Addr → Nat → V → Hp → Prop) (st : ∀ D i y H1 H2, R D i y H1 → ExB D H1 H2 → R D i y H2) (hw : ∀ x, wipe ((wipe σ vs).set j (some x)) vs = wipe σ vs)
    (hs : ∀ D i x H', H D = none → (∃ ys, H' D = some (.lst ys)) → xs[i]? = some x → Ex H H' → ∀ Qk : VK, (∀ y H4, Ex H' H4 → R D i y H4 → Qk y H4) → te ((wipe σ vs).set j (some x)) H' Qk)
    (k : ∀ D ys H5, H D = none → Ex H H5 → H5 D = some (.lst ys) → ys.length = xs.length → (∀ i y, ys[i]? = some y → R D i y H5) → Q (.ref D) H5) :
    ∃ b, V.ref a = .ref b ∧ (∃ xs, SqL K H b xs) ∧ LcW (Itl K b) (gName j) tYes te vs σ H Q := by
  refine ⟨a, rfl, ⟨_, hS⟩, fun D n => lc_list (K := K) (a := a) (xs := xs) (LcP R H D) (LcP.start n) (fun i H' _ p => Same.seq p.same hS) (fun i x H' hx p => ?_) (fun H' p => ?_)⟩
  · refine ⟨hw x, ?_⟩
    refine (show if (true : Bool) = true then te ((wipe σ vs).set j (some x)) H' (fun y H4 => ∃ acc, H4 D = some (.lst acc) ∧ acc.length < sizeLine ∧ LcP R H D (i + 1) (upd H4 D (.lst (acc ++ [y])))) else LcP R H D (i + 1) H' from r_tt ?_)
    have hi : i < 100000 := by have := (List.getElem?_eq_some_iff.mp hx).1; omega
    obtain ⟨ys, q, _⟩ := p.ex
    exact hs D i x H' n ⟨ys, q⟩ hx p.same _ fun y H4 e r => p.more st n e r hi
  · obtain ⟨⟨ys, h1, h2, h3⟩, s⟩ := p
    exact k D ys H' n s h1 h2 h3
theorem r_lcRG {m : Int} {n : Nat} (hm : m = n) (hl : n ≤ 100000) (R : Addr → Nat → V → Hp → Prop) (st : ∀ D i y H1 H2, R D i y H1 → ExB D H1 H2 → R D i y H2) (hw : ∀ x, wipe ((wipe σ vs).set j (some x)) vs = wipe σ vs)
    (hs : ∀ D (i : Nat) H', H D = none → (∃ ys, H' D = some (.lst ys)) → i < n → Ex H H' → ∀ Qk : VK, (∀ y H4, Ex H' H4 → R D i y H4 → Qk y H4) → te ((wipe σ vs).set j (some (.int (i : Int)))) H' Qk)
    (k : ∀ D ys H5, H D = none → Ex H H5 → H5 D = some (.lst ys) → ys.length = n → (∀ i y, ys[i]? = some y → R D i y H5) → Q (.ref D) H5) :
    ∃ j' : Int, [V.int m] = [.int j'] ∧ -(2 ^ 62) ≤ j' ∧ j' < 2 ^ 62 ∧ LcW (Itr 0 j'.toNat) (gName j) tYes te vs σ H Q := by
  subst hm
  refine ⟨_, rfl, by omega, by omega, ?_⟩
  rw [Int.toNat_natCast]
  refine fun D nD => lc_range (lo := 0) (LcP R H D) (LcP.start nD) (fun i H' hi p => ?_) (fun H' p => ?_)
  · refine ⟨hw _, ?_⟩
    refine (show if (true : Bool) = true then te ((wipe σ vs).set j (some (.int (0 + (i : Int))))) H' (fun y H4 => ∃ acc, H4 D = some (.lst acc) ∧ acc.length < sizeLine ∧ LcP R H D (i + 1) (upd H4 D (.lst (acc ++ [y])))) else LcP R H D (i + 1) H' from r_tt ?_)
    rw [Int.zero_add]
    obtain ⟨ys, q, _⟩ := p.ex
    exact hs D i H' nD ⟨ys, q⟩ hi p.same _ fun y H4 e r => p.more st nD e r (by omega)
  · obtain ⟨⟨ys, h1, h2, h3⟩, s⟩ := p
    exact k D ys H' nD s h1 h2 h3
/-- .. whose elements are values that hang on nothing -/
theorem r_lcP (hS : SqL K H a xs) (hl : xs.length ≤ 100000) (R : Nat → V → Prop) (hw : ∀ x, wipe ((wipe σ vs).set j (some x)) vs = wipe σ vs)
    (hs : ∀ D i x H', H D = none → (∃ ys, H' D = some (.lst ys)) → xs[i]? = some x → Ex H H' → ∀ Qk : VK, (∀ y H4, Ex H' H4 → R i y → Qk y H4) → te ((wipe σ vs).set j (some x)) H' Qk)
    (k : ∀ D ys H5, H D = none → Ex H H5 → H5 D = some (.lst ys) → ys.length = xs.length → (∀ i y, ys[i]? = some y → R i y) → Q (.ref D) H5) :
    ∃ b, V.ref a = .ref b ∧ (∃ xs, SqL K H b xs) ∧ LcW (Itl K b) (gName j) tYes te vs σ H Q :=
  r_lcG hS hl (fun _ i y _ => R i y) (fun _ _ _ _ _ r _ => r) hw hs k
theorem r_lcRP {m : Int} {n : Nat} (hm : m = n) (hl : n ≤ 100000) (R : Nat → V → Prop) (hw : ∀ x, wipe ((wipe σ vs).set j (some x)) vs = wipe σ vs)
    (hs : ∀ D (i : Nat) H', H D = none → (∃ ys, H' D = some (.lst ys)) → i < n → Ex H H' → ∀ Qk : VK, (∀ y H4, Ex H' H4 → R i y → Qk y H4) → te ((wipe σ vs).set j (some (.int (i : Int)))) H' Qk)
    (k : ∀ D ys H5, H D = none → Ex H H5 → H5 D = some (.lst ys) → ys.length = n → (∀ i y, ys[i]? = some y → R i y) → Q (.ref D) H5) :
    ∃ j' : Int, [V.int m] = [.int j'] ∧ -(2 ^ 62) ≤ j' ∧ j' < 2 ^ 62 ∧ LcW (Itr 0 j'.toNat) (gName j) tYes te vs σ H Q :=
  r_lcRG hm hl (fun _ i y _ => R i y) (fun _ _ _ _ _ r _ => r) hw hs k
/-- all ints -/
theorem all_ints : ∀ {ys : List V} {R : Nat → Int → Prop}, (∀ i y, ys[i]? = some y → ∃ z, y = .int z ∧ R i z) → ∃ zs : List Int, ys = zs.map V.int ∧ ∀ i z, zs[i]? = some z → R i z
  | [], _, _ => ⟨[], rfl, fun i z e => by simp at e⟩
  | y :: ys, R, h => by
    obtain ⟨z, rfl, r⟩ := h 0 y rfl
    obtain ⟨zs, rfl, rs⟩ := all_ints (ys := ys) (R := fun i z => R (i + 1) z) fun i y e => h (i + 1) y (by simpa using e)
    refine ⟨z :: zs, rfl, fun i w e => ?_⟩
    cases i with
    | zero => cases e; exact r
    | succ i => exact rs i w (by simpa using e)
end
end Z
namespace Z
open PySem PySem.Spec PyProof.Rows L2 Evl
section
variable {σ : L2.St} {H : Hp} {Q : VK} {K : PySem.W.Frag} {tt : TT} {te : TE} {vs : List Nat} {a b : Addr} {xs : List V} {j : Nat}
theorem r_ixMod {c m : Int} (h : H a = some (.lst xs)) (hm : (xs.length : Int) = m) (h0 : 0 < m) (k : ∀ v, v ∈ xs → Q v H) : rIxL K (.ref a) (.int (c % m)) H Q := by
  obtain ⟨v, hv, hmem⟩ := atI_mod (c := c) hm h0
  exact r_ixL (SqL.of h) hv (k v hmem)
theorem eqvAll_ints : ∀ bs cs : List Int, PyData.eqvAll (bs.map PyData.int) (cs.map PyData.int) = decide (bs = cs)
  | [], [] => rfl
  | [], c :: cs => rfl
  | b :: bs, [] => rfl
  | b :: bs, c :: cs => by
    show (PyData.eqv (.int b) (.int c) && PyData.eqvAll (bs.map PyData.int) (cs.map PyData.int)) = _
    rw [eqvAll_ints bs cs]
    show ((b == c) && decide (bs = cs)) = decide (b :: bs = c :: cs)
    by_cases h1 : b = c
    · subst h1; by_cases h2 : bs = cs
      · subst h2; simp
      · simp [h2]
    · simp [h1]
theorem sh_ints (bs : List Int) : SeqAt.shaped (.list (bs.map PyData.int)) = true := by
  have h1 : ∀ bs : List Int, PyData.canLayAll0 (bs.map PyData.int) = true := fun bs => by
    induction bs with
    | nil => rfl
    | cons b bs ih => simp [PyData.canLayAll0, PyData.canLay0, ih]
  have h2 : ∀ bs : List Int, PyData.depthAll (bs.map PyData.int) ≤ 1 := fun bs => by
    induction bs with
    | nil => simp [PyData.depthAll]
    | cons b bs ih => simp [PyData.depthAll, PyData.depth]; omega
  have h3 := h2 bs
  simp [SeqAt.shaped, PyData.canLay0, PyData.depth, h1]
  omega
theorem r_eqIs {bs cs : List Int} (h1 : SqL K H a (bs.map V.int)) (h2 : SqL K H b (cs.map V.int)) (k : Q (.bl (decide (bs = cs))) H) : rEqD K (.ref a) (.ref b) H Q := by
  refine ⟨.list (bs.map PyData.int), .list (cs.map PyData.int), .lst h1 (dpAll_ints _), .lst h2 (dpAll_ints _), sh_ints _, sh_ints _, ?_⟩
  show Q (.bl (PyData.eqvAll _ _)) H
  rw [eqvAll_ints]
  exact k
theorem r_neIs {bs cs : List Int} (h1 : SqL K H a (bs.map V.int)) (h2 : SqL K H b (cs.map V.int)) (k : Q (.bl (!decide (bs = cs))) H) : rNeD K (.ref a) (.ref b) H Q := by
  refine ⟨.list (bs.map PyData.int), .list (cs.map PyData.int), .lst h1 (dpAll_ints _), .lst h2 (dpAll_ints _), sh_ints _, sh_ints _, ?_⟩
  show Q (.bl (!PyData.eqvAll _ _)) H
  rw [eqvAll_ints]
  exact k
theorem r_neBs {bs cs : List Bool} (h1 : SqL K H a (bs.map V.bl)) (h2 : SqL K H b (cs.map V.bl)) (k : Q (.bl (!decide (bs = cs))) H) : rNeD K (.ref a) (.ref b) H Q := by
  refine ⟨.list (bs.map PyData.bool), .list (cs.map PyData.bool), .lst h1 (dpAll_bools _), .lst h2 (dpAll_bools _), sh_bools _, sh_bools _, ?_⟩
  show Q (.bl (!PyData.eqvAll _ _)) H
  rw [eqvAll_bools]
  exact k
theorem r_lcF (hS : SqL K H a xs) (hl : xs.length ≤ 40000) (f : Nat → Bool) (v : Nat → V) (hw : ∀ x, wipe ((wipe σ vs).set j (some x)) vs = wipe σ vs)
    (ht : ∀ (i : Nat) (x : V) H1, Ex H H1 → xs[i]? = some x → EvT tt ((wipe σ vs).set j (some x)) H1 (f i)) (he : ∀ (i : Nat) (x : V) H1, Ex H H1 → xs[i]? = some x → f i = true → Ev te ((wipe σ vs).set j (some x)) H1 (v i))
    (k : ∀ D H5, H D = none → Ex H H5 → H5 D = some (.lst (given xs.length f v)) → Q (.ref D) H5) : ∃ b, V.ref a = .ref b ∧ (∃ xs, SqL K H b xs) ∧ LcW (Itl K b) (gName j) tt te vs σ H Q :=
  (el_lcL (K := K) (tl := tC (.ref a)) f v ev_c hS hl hw ht he) H (Ex.refl H) Q k
theorem r_lcRF {n : Int} (h0 : 0 ≤ n) (hl : n ≤ 40000) (f : Nat → Bool) (v : Nat → V) (hw : ∀ x, wipe ((wipe σ vs).set j (some x)) vs = wipe σ vs)
    (ht : ∀ (i : Nat) H1, Ex H H1 → (i : Int) < n → EvT tt ((wipe σ vs).set j (some (.int (i : Int)))) H1 (f i)) (he : ∀ (i : Nat) H1, Ex H H1 → (i : Int) < n → f i = true → Ev te ((wipe σ vs).set j (some (.int (i : Int)))) H1 (v i))
    (k : ∀ D H5, H D = none → Ex H H5 → H5 D = some (.lst (given n.toNat f v)) → Q (.ref D) H5) : ∃ j' : Int, [V.int n] = [.int j'] ∧ -(2 ^ 62) ≤ j' ∧ j' < 2 ^ 62 ∧ LcW (Itr 0 j'.toNat) (gName j) tt te vs σ H Q :=
  (el_lcR1 (ta := tCons (tC (.int n)) tNil) f v (ea_cons ev_c ea_nil) ⟨h0, hl⟩ hw ht he) H (Ex.refl H) Q k
theorem ev_callS {sp : Sp} {E : L2.St → XK} {tr : TA} {ws : List V} {z : V} (h : EvA tr σ H ws) (hs : SpV sp ws H z) : Ev (tCallS sp E tr) σ H z := fun H1 e Q q => h H1 e _ fun H2 e2 => hs H2 (e.trans e2) _ (fun H3 e3 => q H3 (e2.trans e3)) _
theorem et_yes : EvT tYes σ H true := fun H1 _ _ q => q H1 (Ex.refl H1)
end
end Z
namespace Z
open PySem PySem.Spec PyProof.Rows L2 Evl
section
variable {σ : L2.St} {H : Hp} {Q : VK} {K : PySem.W.Frag} {a : Addr} {xs : List V} {v : V} {q : L2.St → Hp → Prop}
def rDm : List V → Hp → VK → Prop := fun xs H Q => ∃ i j : Int, xs = [.int i, .int j] ∧ CDiv i j ∧ NewO Q H (.tup [.int (i / j), .int (i % j)])
theorem call_dm {X : Cx} : CallR X (.builtin "divmod") rDm := call_divmod
theorem r_dm {i j : Int} (hj : CDiv i j) (k : ∀ p H2, H p = none → Ex H H2 → H2 p = some (.tup [.int (i / j), .int (i % j)]) → Q (.ref p) H2) : rDm [.int i, .int j] H Q := ⟨i, j, rfl, hj, r_new k⟩
def rLs (K : PySem.W.Frag) : List V → Hp → VK → Prop := fun xs H Q => ∃ p items, xs = [.ref p] ∧ (SqL K H p items ∨ SqT K H p items) ∧ NewO Q H (.lst items)
theorem r_ls {xs : List V} (h : SqL K H a xs) (k : ∀ p H2, H p = none → Ex H H2 → H2 p = some (.lst xs) → Q (.ref p) H2) : rLs K [.ref a] H Q := ⟨a, xs, rfl, .inl h, r_new k⟩
theorem r_lsT {xs : List V} (h : SqT K H a xs) (k : ∀ p H2, H p = none → Ex H H2 → H2 p = some (.lst xs) → Q (.ref p) H2) : rLs K [.ref a] H Q := ⟨a, xs, rfl, .inr h, r_new k⟩
theorem r_gtup {n : Nat} {t : TGs} (h : SqT K H a xs) (hl : xs.length = n) (k : t xs σ H q) : gTup K n t (.ref a) σ H q := ⟨a, xs, rfl, h, hl, k⟩
theorem r_gcons {t : TG} {u : TGs} (k : t v σ H fun σ' H' => u xs σ' H' q) : gCons t u (v :: xs) σ H q := ⟨v, xs, rfl, k⟩
theorem r_gnil (k : q σ H) : gNil [] σ H q := ⟨rfl, k⟩
def rLen (K : PySem.W.Frag) : List V → Hp → VK → Prop := fun xs H Q => ∃ p ys, xs = [.ref p] ∧ (SqL K H p ys ∨ SqT K H p ys) ∧ Q (.int (ys.length : Int)) H
theorem call_lnS {X : Cx} : CallR X (.builtin "len") (rLen X.K) := call_len_seq
theorem r_lenT (h : SqT K H a xs) (k : Q (.int (xs.length : Int)) H) : rLen K [.ref a] H Q := ⟨a, xs, rfl, .inr h, k⟩
theorem r_lenL (h : SqL K H a xs) (k : Q (.int (xs.length : Int)) H) : rLen K [.ref a] H Q := ⟨a, xs, rfl, .inl h, k⟩
end
end Z
namespace Z
open PySem PySem.Spec PyProof.Rows L2 Evl
theorem call_ls {X : Cx} : CallR X (.type "list") (rLs X.K) := call_list_of
theorem AnyV.upd {H : Hp} {v : V} {p : Addr} {xs : List V} (h : AnyV H v) : AnyV (L2.upd H p (.lst xs)) v := by
  cases v with
  | ref a =>
    have h' : objK (H a) ≠ "?" := h
    show objK (L2.upd H p (.lst xs) a) ≠ "?"
    by_cases c : a = p
    · rw [c, upd_same]; exact (by decide : ("list" : String) ≠ "?")
    · rw [upd_ne c]; exact h'
  | _ => exact h
section
variable {H : Hp} {a : Addr} {xs : List V} {v : V} {q : Hp → Prop}
/-- xs[k] = v -/
theorem r_setL {k : Int} {j : Nat} (h : H a = some (.lst xs)) (hj : ixN xs.length k = some j) (kk : q (L2.upd H a (.lst (xs.set j v)))) : rSetL (.ref a) (.int k) v H q := ⟨a, xs, k, j, rfl, rfl, h, hj, kk⟩
theorem r_gsub {σ : L2.St} {to ti : TE} {t : TSet} {q : L2.St → Hp → Prop} (k : to σ H fun o H1 => ti σ H1 fun i H2 => t o i v H2 fun H3 => q σ H3) : gSub to ti t v σ H q := k
end
end Z
namespace Z
open PySem PySem.Spec PyProof.Rows L2 Evl
section
variable {σ : L2.St} {H : Hp} {Q : VK} {K : PySem.W.Frag} {a : Addr} {xs : List V} {v : V} {to : TE} {t : TA}
theorem r_bm {T : String} {r : V → List V → Hp → VK → Prop} (k : to σ H fun x H1 => tyV K T x H1 ∧ t σ H1 fun xs H2 => r x xs H2 Q) : tBM K T r to t σ H Q := k
theorem r_bm0 {T : String} {r : V → List V → Hp → VK → Prop} (k : to σ H fun x H1 => tyV K T x H1 ∧ r x [] H1 Q) : tBM0 K T r to σ H Q := k
theorem r_tyL {R : Prop} (h : H a = some (.lst xs)) (k : R) : tyV K "list" (.ref a) H ∧ R := ⟨.inl ⟨rfl, _, SqL.of h⟩, k⟩
theorem Ex.viaB {H0 H1 H2 : Hp} {p : Addr} (e : Ex H0 H1) (b : ExB p H1 H2) (n : H0 p = none) : Ex H0 H2 := fun c o h => b c o (ne_of_none h n) (e c o h)
theorem ExB.up {p : Addr} {o : HO} : ExB p H (L2.upd H p o) := fun b u nb h => by rw [upd_ne nb]; exact h
theorem r_app (h : H a = some (.lst xs)) (hl : xs.length < 100000) (k : ∀ H2, ExB a H H2 → H2 a = some (.lst (xs ++ [v])) → Q .non H2) : rAppend (.ref a) [v] H Q := ⟨a, xs, v, rfl, rfl, h, sz_lt hl, k _ ExB.up upd_same⟩
theorem r_nb {b : Bool} {R : Bool → Prop} (k : R (!b)) : R (!b) := k
theorem r_ifb {b : Bool} {A B : Prop} (h1 : b = true → A) (h2 : b = false → B) : if b = true then A else B := by
  cases b
  · exact r_ff (h2 rfl)
  · exact r_tt (h1 rfl)
end
end Z
namespace Z
open PySem PySem.Spec PyProof.Rows L2 Evl
/-! ### the rules with the written part named -/
section
variable {X : Cx} {K : PySem.W.Frag} {e o value l : Expr} {te ta tv to tl : TE} {t : TA} {f : Str} {pos p pos' tpos : Pos}
theorem kx_ixl (h : X.K = K) : IxR X (rIxL K) := h ▸ ix_list
theorem kx_ixt (h : X.K = K) : IxR X (rIxT K) := h ▸ ix_tup
theorem kx_sl (h : X.K = K) : SlR X (rSlL K) := h ▸ sl_list
theorem kx_isi (h : X.K = K) : CallR X (.builtin "isinstance") (rIsi K) := h ▸ call_isi
theorem kx_len (h : X.K = K) : CallR X (.builtin "len") (rLen K) := h ▸ call_lnS
theorem kx_ls (h : X.K = K) : CallR X (.type "list") (rLs K) := h ▸ call_ls
theorem kx_eqD (h : X.K = K) (hu : X.A.units + 64 < cLine) : OpR X (compareOp .Eq) (rEqD K) := h ▸ op_eqD hu
theorem kx_neD (h : X.K = K) (hu : X.A.units + 64 < cLine) : OpR X (compareOp .NotEq) (rNeD K) := h ▸ op_neD hu
theorem kx_in (h : X.K = K) : OpR X (compareOp .In) (rIn K false) := h ▸ op_in_seq
theorem kx_nin (h : X.K = K) : OpR X (compareOp .NotIn) (rIn K true) := h ▸ op_notIn_seq
theorem kx_sum (h : X.K = K) (hc : X.calm = true) : CallR X (.builtin "sum") (rSum K) := h ▸ cr_sum hc
theorem kx_all (h : X.K = K) (hc : X.calm = true) : CallR X (.builtin "all") (rAll K) := h ▸ cr_all hc
theorem kx_any (h : X.K = K) (hc : X.calm = true) : CallR X (.builtin "any") (rAny K) := h ▸ cr_any hc
theorem kx_il {tg : Expr} (h : X.K = K) (hl : PE X l tl) : PI X tg l (iList K tl) := h ▸ pi_list hl
theorem kx_it {tg : Expr} (h : X.K = K) (hl : PE X l tl) : PI X tg l (iTup K tl) := h ▸ pi_tup hl
theorem kx_fld (h : X.K = K) (he : PE X e ta) (hb : attributeBase e f X.env (eval e X.env) = eval e X.env := by rfl) : PE X (.Attribute e f pos) (tFld K ta f) := h ▸ pe_fld he hb
theorem kx_sfld (h : X.K = K) (ha : PE X o ta) (hv : PE X value tv) (hs : swapsWith value (some (.Attribute o f pos')) pos.line X.env = pure false := by rfl) : PS X (.Assign [.Attribute o f pos'] value pos) (sFld K ta tv f) := h ▸ ps_fld ha hv hs
theorem kx_sfldaug {op : Operator} {rd : V → V → Hp → VK → Prop} (h : X.K = K) (ha : PE X o ta) (hv : PE X value tv) (hop : InOp X op rd) : PS X (.AugAssign (.Attribute o f tpos) op value pos) (sFldAug K ta tv rd f) := h ▸ ps_fldaug ha hv hop
theorem kx_gt {es : List Expr} {k : Nat} {t : TGs} {n : Nat} (h : X.K = K) (hc : X.calm = true) (hg : PGs X es t) (hn : (assignEach es X.env).length = n := by rfl) (hst : (assignEach es X.env).findIdx? (·.1) = none := by rfl) : PG X (.Tuple es k pos) (gTup K n t) := h ▸ pg_tup hc hg hn hst
theorem kx_tbm {T : String} {r : V → List V → Hp → VK → Prop} (h : X.K = K) (q : PE X e (tBM X.K T r to t)) : PE X e (tBM K T r to t) := h ▸ q
theorem kx_tbm0 {T : String} {r : V → List V → Hp → VK → Prop} (h : X.K = K) (q : PE X e (tBM0 X.K T r to)) : PE X e (tBM0 K T r to) := h ▸ q
theorem kx_enum {tg : Expr} (h : X.K = K) (q : PI X tg e (iEnum X.K t)) : PI X tg e (iEnum K t) := h ▸ q
theorem kx_zip {tg : Expr} (h : X.K = K) (q : PI X tg e (iZip X.K t)) : PI X tg e (iZip K t) := h ▸ q
end
end Z
namespace Z
open PySem PySem.Spec PyProof.Rows L2 Evl
theorem r_cut {σ : L2.St} {H : Hp} {D : Ends} {t u : TS} (Mid : L2.St → Hp → Prop) (h1 : t ⟨Mid, D.rt, D.bk, D.ct⟩ σ H) (h2 : ∀ σ' H', Mid σ' H' → u D σ' H') : tCut t u D σ H := ⟨Mid, h1, h2⟩
theorem fl_or {α : Type} {f : α → α → α} {xs ys : List α} {i : Nat} {a b : α} (h1 : xs[i]? = some a) (h2 : ys[i]? = some b) : (List.zipWith f xs ys)[i]? = some (f a b) := by
  rw [List.getElem?_zipWith, h1, h2]
end Z
namespace Z
open PySem PySem.Spec PyProof.Rows L2 Evl
theorem list_is {α : Type} {f : α → V} {ys : List V} {bs : List α} (hl : ys.length = bs.length) (h : ∀ (i : Nat) (y : V), ys[i]? = some y → ∃ b, y = f b ∧ bs[i]? = some b) : ys = bs.map f := by
  refine List.ext_getElem? fun i => ?_
  cases e : ys[i]? with
  | none =>
    have : ys.length ≤ i := List.getElem?_eq_none_iff.mp e
    rw [List.getElem?_eq_none (by rw [List.length_map]; omega)]
  | some y =>
    obtain ⟨b, rfl, hb⟩ := h i y e
    rw [List.getElem?_map, hb]; rfl
end Z
namespace Z
open PySem L2
theorem wholeV_int {i : Int} : wholeV (.int i) = true := rfl
end Z

namespace Gx
open PySem PySem.Spec PyProof.Rows L2 Evl Z
def top (i : Nat) : Stmt := PySem.Challenge.pw_shadowpages_k04_marks_put_and_taken.main.body.getD i (.Pass ⟨0, 0, 0, 0⟩)
abbrev s_page_of : Stmt := top 1
theorem sc_page_of : FnScope ["row"] ["row"] (defScope s_page_of) := ⟨rfl, rfl, rfl, by decide +kernel, rfl, by decide +kernel, by decide +kernel⟩
abbrev s_marks_of : Stmt := top 2
theorem sc_marks_of : FnScope ["row"] ["row"] (defScope s_marks_of) := ⟨rfl, rfl, rfl, by decide +kernel, rfl, by decide +kernel, by decide +kernel⟩
abbrev s_has : Stmt := top 3
theorem sc_has : FnScope ["row", "marks"] ["row", "marks"] (defScope s_has) := ⟨rfl, rfl, rfl, by decide +kernel, rfl, by decide +kernel, by decide +kernel⟩
abbrev s_put : Stmt := top 4
theorem sc_put : FnScope ["row", "marks"] ["row", "marks"] (defScope s_put) := ⟨rfl, rfl, rfl, by decide +kernel, rfl, by decide +kernel, by decide +kernel⟩
abbrev s_taken : Stmt := top 5
theorem sc_taken : FnScope ["row", "marks"] ["row", "marks"] (defScope s_taken) := ⟨rfl, rfl, rfl, by decide +kernel, rfl, by decide +kernel, by decide +kernel⟩
abbrev s__law_whole : Stmt := top 7
theorem sc__law_whole : FnScope ["_law_found"] ["_law_found"] (defScope s__law_whole) := ⟨rfl, rfl, rfl, by decide +kernel, rfl, by decide +kernel, by decide +kernel⟩
abbrev s__law_flags : Stmt := top 8
theorem sc__law_flags : FnScope ["_law_marks", "_law_flags_here", "_law_k"] ["_law_marks"] (defScope s__law_flags) := ⟨rfl, rfl, rfl, by decide +kernel, rfl, by decide +kernel, by decide +kernel⟩
abbrev s__law_some : Stmt := top 9
theorem sc__law_some : FnScope ["_law_cell", "_law_number"] ["_law_cell"] (defScope s__law_some) := ⟨rfl, rfl, rfl, by decide +kernel, rfl, by decide +kernel, by decide +kernel⟩
abbrev s__law_all_there : Stmt := top 10
theorem sc__law_all_there : FnScope ["_law_flags_here", "_law_asked", "_law_k"] ["_law_flags_here", "_law_asked"] (defScope s__law_all_there) := ⟨rfl, rfl, rfl, by decide +kernel, rfl, by decide +kernel, by decide +kernel⟩
abbrev s__law_shows : Stmt := top 11
theorem sc__law_shows : FnScope ["_law_row", "_law_page", "_law_flags_here", "_law_marks", "_law_found"] ["_law_row", "_law_page", "_law_flags_here", "_law_marks"] (defScope s__law_shows) := ⟨rfl, rfl, rfl, by decide +kernel, rfl, by decide +kernel, by decide +kernel⟩
abbrev s_law : Stmt := top 12
theorem sc_law : FnScope ["_law_script", "_law_row", "_law_page", "_law_flags_here", "_law_cell", "_law_marks", "_law_those", "_law_k"] ["_law_script"] (defScope s_law) := ⟨rfl, rfl, rfl, by decide +kernel, rfl, by decide +kernel, by decide +kernel⟩
structure Ad where
  z : Unit := ()
structure Txt (K : PySem.W.Frag) (mg : Str → Option Value) (A : Ad) : Prop where
  b_bool : mg "bool" = none
  b_int : mg "int" = none
  b_isinstance : mg "isinstance" = none
  b_len : mg "len" = none
  b_range : mg "range" = none
local macro_rules | `(tactic| walk_at "rd1") => `(tactic| first
  | with_reducible refine r_nx ?_
  | with_reducible refine r_seq' ?_
  | with_reducible refine r_seq ?_
  | ((with_reducible refine' r_var ?zh ?_); (case zh => exact rfl))
  | with_reducible refine r_c ?_
  | with_reducible refine r_op ?_
  | with_reducible refine r_I0 ?_
  | with_reducible refine r_test ?_
  | with_reducible refine r_bl ?_
  | with_reducible refine r_tt ?_
  | with_reducible refine r_ff ?_
  | with_reducible refine r_nt ?_
  | with_reducible refine r_nf ?_
  | with_reducible refine r_asg ?_
  | with_reducible refine r_name ?_
  | with_reducible refine r_ifS ?_
  | with_reducible refine r_ret ?_
  | with_reducible refine r_rt ?_
  | with_reducible refine r_eqI ?_
  | with_reducible refine r_neI ?_
  | with_reducible refine r_eqB ?_
  | with_reducible refine r_neB ?_
  | ((with_reducible refine r_eq ?zh ?_); (case zh => exact rfl))
  | ((with_reducible refine r_ne ?zh ?_); (case zh => exact rfl))
  | with_reducible refine p2_48 ?_
  | with_reducible refine p2_40 ?_
  | with_reducible refine p10_60 ?_
  | with_reducible refine p10_59 ?_
  | with_reducible refine p10_30 ?_
  | ((with_reducible refine r_I ?zh ?_); (case zh => first | decide | omega | exact ⟨by decide, by decide⟩ | exact ⟨by omega, by omega⟩ | exact .inr ⟨by omega, by omega⟩ | exact .inl ⟨by omega, by omega⟩))
  | with_reducible refine r_and ?_
  | with_reducible refine r_or ?_
  | with_reducible refine r_not ?_
  | with_reducible refine r_andV ?_
  | with_reducible refine r_orV ?_
  | with_reducible refine r_notV ?_
  | with_reducible refine r_if ?_
  | with_reducible refine r_chain ?_
  | with_reducible refine r_callS ?_
  | with_reducible refine r_cons ?_
  | with_reducible refine r_nil ?_
  | with_reducible refine r_CB ?_
  | with_reducible refine r_B ?_
  | with_reducible refine r_un ?_
  | with_reducible refine r_U ?_
  | with_reducible refine r_next ?_
  | with_reducible refine r_drop ?_
  | with_reducible refine r_tup ?_
  | with_reducible refine r_lst ?_
  | with_reducible refine r_for ?_
  | with_reducible refine r_iList ?_
  | with_reducible refine r_iTup ?_
  | with_reducible refine r_iRng1 ?_
  | ((with_reducible refine' r_gtup ?zt ?zh ?_); (case zt => exact SqT.of (by assumption)); (case zh => exact rfl))
  | with_reducible refine r_gcons ?_
  | with_reducible refine r_gnil ?_
  | with_reducible refine r_gsub ?_
  | with_reducible refine r_bm ?_
  | with_reducible refine r_bm0 ?_
  | ((with_reducible refine' r_tyL ?zt ?_); (case zt => assumption))
  | with_reducible refine r_lc ?_
  | with_reducible refine r_sl ?_
  | with_reducible refine r_np ?_
  | with_reducible refine r_pt ?_
  | with_reducible refine r_in ?_
  | with_reducible refine r_isi_int (by assumption) ?_
  | with_reducible refine r_isi_bool (by assumption) ?_
  | ((with_reducible refine' r_isi ?zt ?zh ?_); (case zt => first | exact .base (.int _) | exact .base (.bl _) | exact .base .non | exact .base (.str _) | exact .base (.lst (by assumption)) | exact .base (.tup (by assumption)) | exact .base (.lst upd_same) | exact .base (.tup upd_same)); (case zh => first | exact (show kitB _ _ = some true from rfl) | exact (show kitB _ _ = some false from rfl)))
  | with_reducible refine r_cont ?_
  | with_reducible refine r_brk ?_
  | with_reducible refine r_ct ?_
  | with_reducible refine r_bk ?_
  | with_reducible refine r_iteNT (by first | rfl | assumption) ?_
  | with_reducible refine r_iteT (by first | rfl | assumption) ?_
  | with_reducible refine r_iteF (by assumption) ?_
  | with_reducible refine r_iteNF (by assumption) ?_
  | ((with_reducible refine r_szA ?zh ?_); (case zh => exact rfl))
  | with_reducible refine r_retN ?_
  | refine r_tb (by first | assumption | exact wholeV_int) ?_
  | refine r_fb (by first | assumption | exact wholeV_int) ?_
  | refine r_ntb (by first | assumption | exact wholeV_int) ?_
  | refine r_nfb (by first | assumption | exact wholeV_int) ?_)
local macro_rules | `(tactic| walk_at "rd") => `(tactic| (walk_at "rd1"; repeat walk_at "rd1"))
local macro_rules | `(tactic| walk_at "rs") => `(tactic| repeat' (first | walk_at "rd1" | refine r_ite (fun _ => ?_) (fun _ => ?_) | refine r_iteN (fun _ => ?_) (fun _ => ?_)))
local macro_rules | `(tactic| walk_at "ro") => `(tactic| repeat (first | walk_at "rd1" | refine r_iteF (by omega) ?_ | refine r_iteT (by omega) ?_ | refine r_iteNT (by omega) ?_ | refine r_iteNF (by omega) ?_))

section
variable {P : Program} {w : World} {K : PySem.W.Frag} {mg : Str → Option Value} {base : Heap} {A : Ad}

def sp__law_whole (K : PySem.W.Frag) (A : Ad) : Sp := fun vs H Q _ => ∃ x, vs = [x] ∧ AnyV H x ∧ Q (.bl (wholeV x)) H
theorem ok__law_whole (F : Df K mg "_law_whole" s__law_whole ["_law_found"]) (T : Txt K mg A) : Dn P w K mg base 1 "_law_whole" (sp__law_whole K A) := by
  refine F.dn sc__law_whole (fun vs H Q E h => ?_) (fun cdv f Ar outer s H vs Q E hr h => ?_)
  · obtain ⟨x, rfl, hx, h⟩ := h; rfl
  obtain ⟨x, rfl, hx, h⟩ := h
  refine ⟨_, (pss_one (ps_ret (pe_and (pe_callB (kx_isi (K := K) rfl) (by rfl) T.b_isinstance (by decide +kernel) (pa_cons (pv 0) (pa_cons (pe_bltn (v := .ty "int") (by rfl) T.b_int (by decide +kernel) rfl) pa_nil))) (pe_one (pe_not (pe_callB (kx_isi (K := K) rfl) (by rfl) T.b_isinstance (by decide +kernel) (pa_cons (pv 0) (pa_cons (pe_bltn (v := .ty "bool") (by rfl) T.b_bool (by decide +kernel) rfl) pa_nil)))))))), ?_⟩
  walk_at "rd"
  by_cases c : (wholeV x || boolV x) = true
  · refine r_tb c ?_
    walk_at "rd"
    rw [whole_not c]
    exact h
  · rw [Bool.not_eq_true] at c
    refine r_fb c ?_
    rw [whole_no c] at h
    exact h

namespace K4
def fl (m : Nat) : List Bool := (List.range 8).map fun k => m.testBit k
theorem fl_get {m k : Nat} (h : k < 8) : (fl m)[k]? = some (m.testBit k) := by
  unfold fl
  rw [List.getElem?_map, List.getElem?_range h]; rfl
theorem bit_mod {r k : Nat} (h : k < 8) : (r % 256).testBit k = r.testBit k := by
  rw [show (256 : Nat) = 2 ^ 8 from rfl, Nat.testBit_mod_two_pow]; simp [h]
theorem bit_hi {m k : Nat} (hm : m < 256) (h : ¬ k < 8) : m.testBit k = false := by
  refine Nat.testBit_lt_two_pow (Nat.lt_of_lt_of_le hm ?_)
  exact Nat.pow_le_pow_right (by decide : 0 < 2) (by omega : 8 ≤ k)
theorem has_iff {r m : Nat} (hm : m < 256) : (r &&& m = m) ↔ ∀ k, k < 8 → m.testBit k = true → (r % 256).testBit k = true := by
  constructor
  · intro e k hk hb
    rw [bit_mod hk]
    have : (r &&& m).testBit k = true := by rw [e]; exact hb
    rw [Nat.testBit_and] at this
    simp at this; exact this.1
  · intro h
    refine Nat.eq_of_testBit_eq fun k => ?_
    rw [Nat.testBit_and]
    by_cases hk : k < 8
    · have := h k hk
      rw [bit_mod hk] at this
      cases hb : m.testBit k with
      | true => rw [this hb]; rfl
      | false => rw [Bool.and_false]
    · rw [bit_hi hm hk, Bool.and_false]
theorem put_hi {r m : Nat} (hm : m < 256) : (r ||| m) / 256 = r / 256 := by
  have e : (r ||| m) >>> 8 = r >>> 8 ||| m >>> 8 := Nat.shiftRight_or_distrib
  rw [Nat.shiftRight_eq_div_pow, Nat.shiftRight_eq_div_pow, Nat.shiftRight_eq_div_pow] at e
  have z : m / 2 ^ 8 = 0 := Nat.div_eq_of_lt hm
  rw [z, Nat.or_zero] at e
  exact e
theorem put_fl {r m : Nat} : fl ((r ||| m) % 256) = List.zipWith (· || ·) (fl (r % 256)) (fl m) := by
  unfold fl
  rw [List.zipWith_map]
  refine List.ext_getElem? fun i => ?_
  rw [List.getElem?_map]
  by_cases h : i < 8
  · rw [List.getElem?_range h]
    simp [List.getElem?_zipWith, List.getElem?_range h, bit_mod h, Nat.testBit_or]
  · have e : (List.range 8)[i]? = none := List.getElem?_eq_none (by rw [List.length_range]; omega)
    simp [List.getElem?_zipWith, e]
theorem sub_tab : ((List.range 256).all fun l => (List.range 256).all fun m => l - (l &&& m) == l &&& (255 ^^^ m)) = true := by decide +kernel
theorem sub_and {l m : Nat} (hl : l < 256) (hm : m < 256) : l - (l &&& m) = l &&& (255 ^^^ m) := by
  have h := sub_tab
  rw [List.all_eq_true] at h
  have h2 := h l (List.mem_range.mpr hl)
  rw [List.all_eq_true] at h2
  exact eq_of_beq (h2 m (List.mem_range.mpr hm))
theorem and_lo {r m : Nat} (hm : m < 256) : r &&& m = (r % 256) &&& m := by
  refine Nat.eq_of_testBit_eq fun k => ?_
  rw [Nat.testBit_and, Nat.testBit_and]
  by_cases hk : k < 8
  · rw [bit_mod hk]
  · rw [bit_hi hm hk, Bool.and_false, Bool.and_false]
theorem and_le {l m : Nat} : l &&& m ≤ l := Nat.and_le_left
theorem take_eq {r m : Nat} (hm : m < 256) : r - (r &&& m) = 256 * (r / 256) + ((r % 256) &&& (255 ^^^ m)) := by
  have h1 := sub_and (Nat.mod_lt r (by decide : 256 > 0)) hm
  have h2 : (r % 256) &&& m ≤ r % 256 := Nat.and_le_left
  rw [and_lo hm]
  omega
theorem take_hi {r m : Nat} (hm : m < 256) : (r - (r &&& m)) / 256 = r / 256 := by
  rw [take_eq hm]
  have : (r % 256) &&& (255 ^^^ m) ≤ r % 256 := Nat.and_le_left
  omega
theorem take_lo {r m : Nat} (hm : m < 256) : (r - (r &&& m)) % 256 = (r % 256) &&& (255 ^^^ m) := by
  rw [take_eq hm]
  have : (r % 256) &&& (255 ^^^ m) ≤ r % 256 := Nat.and_le_left
  omega
theorem take_fl {r m : Nat} (hm : m < 256) : fl ((r - (r &&& m)) % 256) = List.zipWith (fun a b => a && !b) (fl (r % 256)) (fl m) := by
  rw [take_lo hm]
  unfold fl
  rw [List.zipWith_map]
  refine List.ext_getElem? fun i => ?_
  rw [List.getElem?_map]
  by_cases h : i < 8
  · have e : (255 : Nat).testBit i = true := by
      have : i = 0 ∨ i = 1 ∨ i = 2 ∨ i = 3 ∨ i = 4 ∨ i = 5 ∨ i = 6 ∨ i = 7 := by omega
      rcases this with rfl | rfl | rfl | rfl | rfl | rfl | rfl | rfl <;> rfl
    rw [List.getElem?_range h]
    simp [List.getElem?_zipWith, List.getElem?_range h, bit_mod h, Nat.testBit_and, Nat.testBit_xor, e]
  · have e : (List.range 8)[i]? = none := List.getElem?_eq_none (by rw [List.length_range]; omega)
    simp [List.getElem?_zipWith, e]
theorem bit_val (m k : Nat) : m.testBit k = decide (m / 2 ^ k % 2 = 1) := Nat.testBit_eq_decide_div_mod_eq
end K4

open K4
theorem fl_flags (m : Nat) : (List.range 8).map (fun k => decide (m / 2 ^ k % 2 = 1)) = fl m := by
  unfold fl
  exact List.map_congr_left fun k _ => (bit_val m k).symm
def sp_page_of (K : PySem.W.Frag) (A : Ad) : Sp := fun vs H Q _ => ∃ r : Int, vs = [.int r] ∧ Q (.int (r / 256)) H
theorem ok_page_of (F : Df K mg "page_of" s_page_of ["row"]) (T : Txt K mg A) : Dn P w K mg base 1 "page_of" (sp_page_of K A) := by
  refine F.dn sc_page_of (fun vs H Q E h => ?_) (fun cdv f Ar outer s H vs Q E hr h => ?_)
  · obtain ⟨r, rfl, h⟩ := h; rfl
  obtain ⟨r, rfl, h⟩ := h
  refine ⟨_, (pss_one (ps_ret (pe_op op_shr (pv 0) pe_int))), ?_⟩
  walk_at "rd"
  exact h
def sp_marks_of (K : PySem.W.Frag) (A : Ad) : Sp := fun vs H Q _ => ∃ r : Int, vs = [.int r] ∧ 0 ≤ r ∧ Q (.int (r % 256)) H
theorem ok_marks_of (F : Df K mg "marks_of" s_marks_of ["row"]) (T : Txt K mg A) : Dn P w K mg base 1 "marks_of" (sp_marks_of K A) := by
  refine F.dn sc_marks_of (fun vs H Q E h => ?_) (fun cdv f Ar outer s H vs Q E hr h => ?_)
  · obtain ⟨r, rfl, r0, h⟩ := h; rfl
  obtain ⟨r, rfl, r0, h⟩ := h
  refine ⟨_, (pss_one (ps_ret (pe_op op_and (pv 0) pe_int))), ?_⟩
  walk_at "rd"
  rw [show Builtin.bitAnd r 255 = r % 256 from Bits.bitAnd_mask 8 r0]
  exact h
def sp_has (K : PySem.W.Frag) (A : Ad) : Sp := fun vs H Q _ => ∃ r m : Int, vs = [.int r, .int m] ∧ Q (.bl (decide (Builtin.bitAnd r m = m))) H
theorem ok_has (F : Df K mg "has" s_has ["row", "marks"]) (T : Txt K mg A) : Dn P w K mg base 1 "has" (sp_has K A) := by
  refine F.dn sc_has (fun vs H Q E h => ?_) (fun cdv f Ar outer s H vs Q E hr h => ?_)
  · obtain ⟨r, m, rfl, h⟩ := h; rfl
  obtain ⟨r, m, rfl, h⟩ := h
  refine ⟨_, (pss_one (ps_ret (pe_cmpR op_eq (pe_op op_and (pv 0) (pv 1)) (pv 1) (nomark _)))), ?_⟩
  walk_at "rd"
  exact h
def sp_put (K : PySem.W.Frag) (A : Ad) : Sp := fun vs H Q _ => ∃ r m : Int, vs = [.int r, .int m] ∧ Q (.int (Builtin.bitOr r m)) H
theorem ok_put (F : Df K mg "put" s_put ["row", "marks"]) (T : Txt K mg A) : Dn P w K mg base 1 "put" (sp_put K A) := by
  refine F.dn sc_put (fun vs H Q E h => ?_) (fun cdv f Ar outer s H vs Q E hr h => ?_)
  · obtain ⟨r, m, rfl, h⟩ := h; rfl
  obtain ⟨r, m, rfl, h⟩ := h
  refine ⟨_, (pss_one (ps_ret (pe_op op_or (pv 0) (pv 1)))), ?_⟩
  walk_at "rd"
  exact h
def sp_taken (K : PySem.W.Frag) (A : Ad) : Sp := fun vs H Q _ => ∃ r m : Int, vs = [.int r, .int m] ∧ Q (.int (r - Builtin.bitAnd r m)) H
theorem ok_taken (F : Df K mg "taken" s_taken ["row", "marks"]) (T : Txt K mg A) : Dn P w K mg base 1 "taken" (sp_taken K A) := by
  refine F.dn sc_taken (fun vs H Q E h => ?_) (fun cdv f Ar outer s H vs Q E hr h => ?_)
  · obtain ⟨r, m, rfl, h⟩ := h; rfl
  obtain ⟨r, m, rfl, h⟩ := h
  refine ⟨_, (pss_one (ps_ret (pe_op op_sub (pv 0) (pe_op op_and (pv 0) (pv 1))))), ?_⟩
  walk_at "rd"
  exact h
def sp__law_flags (K : PySem.W.Frag) (A : Ad) : Sp := fun vs H Q _ => ∃ m : Nat, vs = [.int (m : Int)] ∧ ∀ p H', Ex H H' → H p = none → H' p = some (.lst ((fl m).map V.bl)) → Q (.ref p) H'
theorem ok__law_flags (F : Df K mg "_law_flags" s__law_flags ["_law_marks"]) (T : Txt K mg A) : Dn P w K mg base 1 "_law_flags" (sp__law_flags K A) := by
  refine F.dn sc__law_flags (fun vs H Q E h => ?_) (fun cdv f Ar outer s H vs Q E hr h => ?_)
  · obtain ⟨m, rfl, h⟩ := h; rfl
  obtain ⟨m, rfl, h⟩ := h
  refine ⟨_, (pss_cons (ps_set (i := 1) sc__law_flags.nd rfl (Or.inl rfl) (pe_lst pa_nil))
  (pss_cons (ps_for (passes_of rfl) rfl (pi_range1 (by rfl) T.b_range (pa_cons pe_int pa_nil)) (pg_name (i := 2) sc__law_flags.nd rfl (Or.inl rfl))
  (pss_cons (ps_expr (kx_tbm (K := K) rfl (pe_bm PySem.F.plainAttrs_list PySem.F.slot_list_append PySem.F.type_list_append mt_append (pv 1) (pa_cons (pe_cmpR op_eq (pe_op op_mod (pv 0) pe_int) pe_int (nomark _)) pa_nil))))
  (pss_one (ps_set (i := 0) sc__law_flags.nd rfl (Or.inl rfl) (pe_op op_fdiv (pv 0) pe_int)))))
  (pss_one (ps_ret (pv 1))))), ?_⟩
  walk_at "rd"
  refine r_new fun p H1 n1 e1 h1 => ?_
  walk_at "rd"
  refine r_iR1 (n := 8) rfl (by decide) (fun k σ H' => ∃ x, σ = [some (.int ((m / 2 ^ k : Nat) : Int)), some (.ref p), x] ∧ Ex H H' ∧ H' p = some (.lst (((List.range k).map (fun k => decide (m / 2 ^ k % 2 = 1))).map V.bl))) ⟨none, by rw [Nat.pow_zero, Nat.div_one]; rfl, e1, h1⟩ ?_ ?_
  · rintro k σ H' hk ⟨x, rfl, hs, hp⟩
    walk_at "rd"
    refine r_app hp (by simp; omega) fun H2 b2 h2 => ?_
    walk_at "rd"
    refine ⟨some (.int (k : Int)), ?_, Ex.viaB hs b2 n1, ?_⟩
    · rw [show ((m / 2 ^ k : Nat) : Int) / 2 = ((m / 2 ^ (k + 1) : Nat) : Int) by rw [Nat.pow_succ, ← Nat.div_div_eq_div_mul]; omega]
      rfl
    · rw [h2, List.range_succ, List.map_append, List.map_append]
      rw [show decide (((m / 2 ^ k : Nat) : Int) % 2 = 1) = decide (m / 2 ^ k % 2 = 1) from decide_eq_decide.mpr (by omega)]
      rfl
  · rintro σ H' ⟨x, rfl, hs, hp⟩
    walk_at "rd"
    rw [fl_flags] at hp
    exact h p H' hs n1 hp
def sp__law_some (K : PySem.W.Frag) (A : Ad) : Sp := fun vs H Q _ => ∃ c : Int, vs = [.int c] ∧ ∀ (n : Nat) H', Ex H H' → n < 256 → Q (.int (n : Int)) H'
theorem ok__law_some (F : Df K mg "_law_some" s__law_some ["_law_cell"]) (T : Txt K mg A) : Dn P w K mg base 1 "_law_some" (sp__law_some K A) := by
  refine F.dn sc__law_some (fun vs H Q E h => ?_) (fun cdv f Ar outer s H vs Q E hr h => ?_)
  · obtain ⟨c, rfl, h⟩ := h; rfl
  obtain ⟨c, rfl, h⟩ := h
  refine ⟨_, (pss_cons (ps_set (i := 1) sc__law_some.nd rfl (Or.inl rfl) (pe_op op_mod (pe_op op_add (pe_op op_mul (pe_op op_mod (pv 0) pe_int) pe_int) pe_int) pe_int))
  (pss_cons (ps_if (pt_cmpR op_eq (pe_op op_mod (pv 1) pe_int) pe_int (nomark _)) (pss_one (ps_ret (pe_ix (kx_ixl (K := K) rfl) (pe_lst (pa_cons pe_int (pa_cons pe_int (pa_cons pe_int (pa_cons pe_int (pa_cons pe_int (pa_cons pe_int (pa_cons pe_int (pa_cons pe_int pa_nil))))))))) (pe_op op_mod (pe_op op_fdiv (pv 1) pe_int) pe_int) (fun _ _ => rfl)))) pss_nil)
  (pss_one (ps_ret (pe_op op_mod (pe_op op_fdiv (pv 1) pe_int) pe_int))))), ?_⟩
  have ret : ∀ (z : Int) H', Ex H H' → 0 ≤ z → z < 256 → Q (.int z) H' := fun z H' e z0 z1 => by
    have := h z.toNat H' e (by omega)
    rwa [Int.toNat_of_nonneg z0] at this
  walk_at "rs"
  · refine r_new fun p H1 n1 e1 h1 => ?_
    walk_at "rd"
    refine r_ixMod h1 rfl (by decide) fun v hv => ?_
    walk_at "rd"
    simp only [List.mem_cons, List.not_mem_nil, or_false] at hv
    rcases hv with rfl | rfl | rfl | rfl | rfl | rfl | rfl | rfl <;> exact ret _ _ e1 (by decide) (by decide)
  · exact ret _ _ (Ex.refl _) (by omega) (by omega)
def sp__law_all_there (K : PySem.W.Frag) (A : Ad) : Sp := fun vs H Q _ => ∃ (a b : Addr) (x y : Nat), vs = [.ref a, .ref b] ∧ SqL K H a ((fl x).map V.bl) ∧ SqL K H b ((fl y).map V.bl) ∧
  ∀ b : Bool, (b = true ↔ ∀ k, k < 8 → y.testBit k = true → x.testBit k = true) → Q (.bl b) H
theorem fl_at {m k : Nat} (h : k < 8) : atI ((fl m).map V.bl) (k : Int) = some (.bl (m.testBit k)) := atI_nat (by rw [List.getElem?_map, fl_get h]; rfl)
theorem ok__law_all_there (F : Df K mg "_law_all_there" s__law_all_there ["_law_flags_here", "_law_asked"]) (T : Txt K mg A) : Dn P w K mg base 1 "_law_all_there" (sp__law_all_there K A) := by
  refine F.dn sc__law_all_there (fun vs H Q E h => ?_) (fun cdv f Ar outer s H vs Q E hr h => ?_)
  · obtain ⟨a, b, x, y, rfl, hA, hB, h⟩ := h; rfl
  obtain ⟨a, b, x, y, rfl, hA, hB, h⟩ := h
  refine ⟨_, (pss_cons (ps_for (passes_of rfl) rfl (pi_range1 (by rfl) T.b_range (pa_cons pe_int pa_nil)) (pg_name (i := 2) sc__law_all_there.nd rfl (Or.inl rfl))
  (pss_one (ps_if (PW.pt (pw_and (pt_val (pe_ix (kx_ixl (K := K) rfl) (pv 1) (pv 2) (fun _ _ => rfl))) (pw_and1 (pt_not (pt_val (pe_ix (kx_ixl (K := K) rfl) (pv 0) (pv 2) (fun _ _ => rfl))))))) (pss_one (ps_ret pe_bl)) pss_nil)))
  (pss_one (ps_ret pe_bl))), ?_⟩
  walk_at "rd"
  refine r_iR1 (n := 8) rfl (by decide) (fun k σ H' => H' = H ∧ (∀ j, j < k → y.testBit j = true → x.testBit j = true) ∧ ∃ z, σ = [some (.ref a), some (.ref b), z]) ⟨rfl, fun j hj => by omega, none, rfl⟩ ?_ ?_
  · rintro k σ H' hk ⟨rfl, hj, z, rfl⟩
    have next : (y.testBit k = true → x.testBit k = true) → ∀ j, j < k + 1 → y.testBit j = true → x.testBit j = true := fun q j hj' => by
      by_cases c : j = k
      · subst c; exact q
      · exact hj j (by omega)
    walk_at "rd"
    refine r_ixL hB (fl_at hk) ?_
    walk_at "rd"
    refine r_ifb (fun c => ?_) (fun c => ?_)
    · walk_at "rd"
      refine r_ixL hA (fl_at hk) ?_
      walk_at "rd"
      cases d : x.testBit k with
      | true =>
        walk_at "rd"
        exact ⟨rfl, next (fun _ => d), _, rfl⟩
      | false =>
        walk_at "rd"
        exact h false ⟨fun q => (by cases q), fun q => by have := q k hk c; rw [d] at this; cases this⟩
    · walk_at "rd"
      exact ⟨rfl, next (fun q => by rw [c] at q; cases q), _, rfl⟩
  · rintro σ H' ⟨rfl, hj, z, rfl⟩
    walk_at "rd"
    exact h true ⟨fun _ => hj, fun _ => rfl⟩
def sp__law_shows (K : PySem.W.Frag) (A : Ad) : Sp := fun vs H Q _ => ∃ (r m : Nat) (a : Addr), vs = [.int (r : Int), .int ((r / 256 : Nat) : Int), .ref a, .int (m : Int)] ∧ m < 256 ∧ SqL K H a ((fl (r % 256)).map V.bl) ∧ ∀ H', Ex H H' → Q (.bl true) H'
theorem and_int (r m : Nat) : decide (Builtin.bitAnd (r : Int) (m : Int) = (m : Int)) = decide (r &&& m = m) := by
  rw [bAnd (by omega) (by omega)]
  refine decide_eq_decide.mpr ?_
  rw [Int.toNat_natCast, Int.toNat_natCast]
  omega
theorem ok__law_shows (F : Df K mg "_law_shows" s__law_shows ["_law_row", "_law_page", "_law_flags_here", "_law_marks"]) (T : Txt K mg A) (D_page_of : Dn P w K mg base 1 "page_of" (sp_page_of K A)) (D_marks_of : Dn P w K mg base 1 "marks_of" (sp_marks_of K A)) (D_has : Dn P w K mg base 1 "has" (sp_has K A)) (D__law_whole : Dn P w K mg base 1 "_law_whole" (sp__law_whole K A)) (D__law_flags : Dn P w K mg base 1 "_law_flags" (sp__law_flags K A)) (D__law_all_there : Dn P w K mg base 1 "_law_all_there" (sp__law_all_there K A)) : Dn P w K mg base 2 "_law_shows" (sp__law_shows K A) := by
  refine F.dn sc__law_shows (fun vs H Q E h => ?_) (fun cdv f Ar outer s H vs Q E hr h => ?_)
  · obtain ⟨r, m, a, rfl, hm, hA, h⟩ := h; rfl
  obtain ⟨r, m, a, rfl, hm, hA, h⟩ := h
  refine ⟨_, (pss_cons (ps_if (PW.pt (pw_or (pt_not (pt_val (pe_d D__law_whole hr (by decide) takes0 (pa_cons (pv 0) pa_nil)))) (pw_or (pt_cmpR op_ne (pe_op op_fdiv (pv 0) pe_int) (pv 1) (nomark _)) (pw_or1 (pt_cmpR (kx_neD (K := K) rfl hr.units) (pe_d D__law_flags hr (by decide) takes0 (pa_cons (pe_op op_mod (pv 0) pe_int) pa_nil)) (pv 2) (nomark _)))))) (pss_one (ps_ret pe_bl)) pss_nil)
  (pss_cons (ps_set (i := 4) sc__law_shows.nd rfl (Or.inl rfl) (pe_d D_has hr (by decide) takes0 (pa_cons (pv 0) (pa_cons (pv 3) pa_nil))))
  (pss_cons (ps_if (PW.pt (pw_or (pt_not (pt_val (pe_callB (kx_isi (K := K) rfl) (by rfl) T.b_isinstance (by decide +kernel) (pa_cons (pv 4) (pa_cons (pe_bltn (v := .ty "bool") (by rfl) T.b_bool (by decide +kernel) rfl) pa_nil))))) (pw_or1 (pt_cmpR op_ne (pv 4) (pe_d D__law_all_there hr (by decide) takes0 (pa_cons (pv 2) (pa_cons (pe_d D__law_flags hr (by decide) takes0 (pa_cons (pv 3) pa_nil)) pa_nil))) (nomark _))))) (pss_one (ps_ret pe_bl)) pss_nil)
  (pss_cons (ps_if (PW.pt (pw_or (pt_not (pt_val (pe_d D__law_whole hr (by decide) takes0 (pa_cons (pe_d D_page_of hr (by decide) takes0 (pa_cons (pv 0) pa_nil)) pa_nil)))) (pw_or1 (pt_not (pt_val (pe_d D__law_whole hr (by decide) takes0 (pa_cons (pe_d D_marks_of hr (by decide) takes0 (pa_cons (pv 0) pa_nil)) pa_nil))))))) (pss_one (ps_ret pe_bl)) pss_nil)
  (pss_one (ps_ret (pe_and (pe_cmpR op_eq (pe_d D_page_of hr (by decide) takes0 (pa_cons (pv 0) pa_nil)) (pv 1) (nomark _)) (pe_one (pe_cmpR op_eq (pe_d D_marks_of hr (by decide) takes0 (pa_cons (pv 0) pa_nil)) (pe_op op_mod (pv 0) pe_int) (nomark _)))))))))), ?_⟩
  walk_at "rd"
  refine ⟨_, rfl, .int, ?_⟩
  walk_at "ro"
  refine ⟨r % 256, by rw [Int.natCast_emod]; rfl, fun p H1 e1 n1 h1 => ?_⟩
  walk_at "ro"
  refine r_neBs (SqL.of h1) (ex_l e1 hA) ?_
  walk_at "ro"
  refine ⟨r, m, rfl, ?_⟩
  rw [and_int]
  walk_at "ro"
  refine ⟨m, rfl, fun p2 H2 e2 n2 h2 => ?_⟩
  walk_at "ro"
  refine ⟨a, p2, r % 256, m, rfl, ex_l (e1.trans e2) hA, SqL.of h2, fun b hb => ?_⟩
  walk_at "rd"
  refine r_iteNT (Bool.eq_iff_iff.mpr (by rw [decide_eq_true_eq, hb]; exact has_iff hm)) ?_
  walk_at "ro"
  refine ⟨_, rfl, ?_⟩
  walk_at "ro"
  refine ⟨_, rfl, .int, ?_⟩
  walk_at "ro"
  refine ⟨_, rfl, by omega, ?_⟩
  walk_at "ro"
  refine ⟨_, rfl, .int, ?_⟩
  walk_at "ro"
  refine ⟨_, rfl, ?_⟩
  walk_at "ro"
  refine ⟨_, rfl, by omega, ?_⟩
  walk_at "ro"
  rw [decide_eq_true rfl]
  exact h _ (e1.trans e2)
theorem L_law {fa : Addr} (hfa : mg "law" = some (.ref fa)) (T : Txt K mg A) (F_page_of : Df K mg "page_of" s_page_of ["row"]) (F_marks_of : Df K mg "marks_of" s_marks_of ["row"]) (F_has : Df K mg "has" s_has ["row", "marks"]) (F_put : Df K mg "put" s_put ["row", "marks"]) (F_taken : Df K mg "taken" s_taken ["row", "marks"]) (F__law_whole : Df K mg "_law_whole" s__law_whole ["_law_found"]) (F__law_flags : Df K mg "_law_flags" s__law_flags ["_law_marks"]) (F__law_some : Df K mg "_law_some" s__law_some ["_law_cell"]) (F__law_all_there : Df K mg "_law_all_there" s__law_all_there ["_law_flags_here", "_law_asked"]) (F__law_shows : Df K mg "_law_shows" s__law_shows ["_law_row", "_law_page", "_law_flags_here", "_law_marks"]) (F_law : Df K mg "law" s_law ["_law_script"]) :
    ∃ fd : FuncData, (∀ (s : Shared) (u : Value), BindsTo s fd ⟨[u], []⟩ [("_law_script", u)]) ∧ ∀ base : Heap, K.In base → base.Ns mainGlobals mg → FnOk P w K mg base (L2.CX P w) 3 fa fd ["_law_script"] (sp_law K) := by
  refine F_law.law hfa sc_law (fun vs H Q E h => ?_) (fun base _ _ cdv f Ar outer s H vs Q E hr h => ?_)
  · obtain ⟨a, ns, rfl, _⟩ := h; rfl
  obtain ⟨a, ns, rfl, hS, hl, k⟩ := h
  have D_put : Dn P w K mg base 1 "put" (sp_put K A) := ok_put F_put T
  have D_taken : Dn P w K mg base 1 "taken" (sp_taken K A) := ok_taken F_taken T
  have D__law_flags : Dn P w K mg base 1 "_law_flags" (sp__law_flags K A) := ok__law_flags F__law_flags T
  have D__law_some : Dn P w K mg base 1 "_law_some" (sp__law_some K A) := ok__law_some F__law_some T
  have D_page_of : Dn P w K mg base 1 "page_of" (sp_page_of K A) := ok_page_of F_page_of T
  have D_marks_of : Dn P w K mg base 1 "marks_of" (sp_marks_of K A) := ok_marks_of F_marks_of T
  have D_has : Dn P w K mg base 1 "has" (sp_has K A) := ok_has F_has T
  have D__law_whole : Dn P w K mg base 1 "_law_whole" (sp__law_whole K A) := ok__law_whole F__law_whole T
  have D__law_all_there : Dn P w K mg base 1 "_law_all_there" (sp__law_all_there K A) := ok__law_all_there F__law_all_there T
  have D__law_shows : Dn P w K mg base 2 "_law_shows" (sp__law_shows K A) := ok__law_shows F__law_shows T D_page_of D_marks_of D_has D__law_whole D__law_flags D__law_all_there
  refine ⟨_, (pss_cons (ps_set (i := 1) sc_law.nd rfl (Or.inl rfl) pe_int)
  (pss_cut (ps_if (pt_cmpR op_gt (pe_callB (kx_len (K := K) rfl) (by rfl) T.b_len (by decide +kernel) (pa_cons (pv 0) pa_nil)) pe_int (nomark _)) (pss_one (ps_set (i := 1) sc_law.nd rfl (Or.inl rfl) (pe_op op_mod (pe_ix (kx_ixl (K := K) rfl) (pv 0) pe_int (fun _ _ => rfl)) (pe_op op_pow pe_int pe_int)))) pss_nil)
  (pss_cons (ps_set (i := 2) sc_law.nd rfl (Or.inl rfl) (pe_op op_fdiv (pv 1) pe_int))
  (pss_cons (ps_set (i := 3) sc_law.nd rfl (Or.inr rfl) (pe_d D__law_flags hr (by decide) takes0 (pa_cons (pe_op op_mod (pv 1) pe_int) pa_nil)))
  (pss_cons (ps_if (pt_not (pt_val (pe_d D__law_shows hr (by decide) takes0 (pa_cons (pv 1) (pa_cons (pv 2) (pa_cons (pv 3) (pa_cons (pe_op op_mod (pe_callB (kx_len (K := K) rfl) (by rfl) T.b_len (by decide +kernel) (pa_cons (pv 0) pa_nil)) pe_int) pa_nil))))))) (pss_one (ps_ret pe_bl)) pss_nil)
  (pss_cons (ps_for (passes_of rfl) rfl (kx_il (K := K) rfl (pe_slice (kx_sl (K := K) rfl) (pv 0) (po_some pe_int) (po_some pe_int))) (pg_name (i := 4) sc_law.nd rfl (Or.inl rfl))
  (pss_cons (ps_set (i := 5) sc_law.nd rfl (Or.inl rfl) (pe_op op_mod (pe_op op_fdiv (pv 4) pe_int) pe_int))
  (pss_cons (ps_set (i := 6) sc_law.nd rfl (Or.inr rfl) (pe_d D__law_flags hr (by decide) takes0 (pa_cons (pv 5) pa_nil)))
  (pss_cut (ps_if (pt_cmpR op_eq (pe_op op_mod (pv 4) pe_int) pe_int (nomark _)) (pss_cons (ps_set (i := 1) sc_law.nd rfl (Or.inl rfl) (pe_d D_put hr (by decide) takes0 (pa_cons (pv 1) (pa_cons (pv 5) pa_nil))))
  (pss_one (ps_set (i := 3) sc_law.nd rfl (Or.inr rfl) (pe_lc (own := [("_law_k", 7)]) (g := gName 7) (tt := tYes) rfl sc_law.nd (pi_range1 (by rfl) T.b_range (pa_cons pe_int pa_nil)) (blkOk_by (own := [("_law_k", 7)]) (N := ["_law_script", "_law_row", "_law_page", "_law_flags_here", "_law_cell", "_law_marks", "_law_those", "_law_k"]) (sc := defScope s_law) (by decide +kernel)) (fun _ _ _ _ _ => (pg_name (i := 7) sc_law.nd rfl (Or.inl rfl))) (fun _ _ _ _ _ => pts_nil) (fun _ _ _ _ _ => (pe_or (pe_ix (kx_ixl (K := K) rfl) (pv 3) (pv 7) (fun _ _ => rfl)) (pe_one (pe_ix (kx_ixl (K := K) rfl) (pv 6) (pv 7) (fun _ _ => rfl))))))))) (pss_cons (ps_set (i := 1) sc_law.nd rfl (Or.inl rfl) (pe_d D_taken hr (by decide) takes0 (pa_cons (pv 1) (pa_cons (pv 5) pa_nil))))
  (pss_one (ps_set (i := 3) sc_law.nd rfl (Or.inr rfl) (pe_lc (own := [("_law_k", 7)]) (g := gName 7) (tt := tYes) rfl sc_law.nd (pi_range1 (by rfl) T.b_range (pa_cons pe_int pa_nil)) (blkOk_by (own := [("_law_k", 7)]) (N := ["_law_script", "_law_row", "_law_page", "_law_flags_here", "_law_cell", "_law_marks", "_law_those", "_law_k"]) (sc := defScope s_law) (by decide +kernel)) (fun _ _ _ _ _ => (pg_name (i := 7) sc_law.nd rfl (Or.inl rfl))) (fun _ _ _ _ _ => pts_nil) (fun _ _ _ _ _ => (pe_and (pe_ix (kx_ixl (K := K) rfl) (pv 3) (pv 7) (fun _ _ => rfl)) (pe_one (pe_not (pe_ix (kx_ixl (K := K) rfl) (pv 6) (pv 7) (fun _ _ => rfl)))))))))))
  (pss_one (ps_if (pt_not (pt_val (pe_d D__law_shows hr (by decide) takes0 (pa_cons (pv 1) (pa_cons (pv 2) (pa_cons (pv 3) (pa_cons (pe_d D__law_some hr (by decide) takes0 (pa_cons (pe_op op_fdiv (pv 4) pe_int) pa_nil)) pa_nil))))))) (pss_one (ps_ret pe_bl)) pss_nil))))))
  (pss_one (ps_ret pe_bl)))))))), ?_⟩
  walk_at "rd"
  refine r_cut (fun σ' H' => H' = H ∧ ∃ r : Nat, σ' = [some (.ref a), some (.int (r : Int)), none, none, none, none, none, none]) ?_ ?_
  · walk_at "rd"
    refine r_lenL hS ?_
    rw [List.length_map]
    walk_at "rd"
    refine r_ite (fun c => ?_) (fun c => ?_)
    · walk_at "rd"
      obtain ⟨z, hz, _⟩ := atI_int (ns := ns) (i := 0) (by omega) (by omega)
      refine r_ixL hS hz ?_
      walk_at "rd"
      refine ⟨rfl, (z % 281474976710656).toNat, ?_⟩
      rw [Int.toNat_of_nonneg (by omega)]
      rfl
    · walk_at "rd"
      exact ⟨rfl, 0, rfl⟩
  rintro σ' H' ⟨rfl, r, rfl⟩
  walk_at "rd"
  refine ⟨r % 256, by rw [Int.natCast_emod]; rfl, fun p1 H1 e1 n1 h1 => ?_⟩
  walk_at "rd"
  refine r_lenL (ex_l e1 hS) ?_
  rw [List.length_map]
  walk_at "rd"
  refine ⟨r, ns.length % 256, p1, rfl, by omega, SqL.of h1, fun H2 e2 => ?_⟩
  walk_at "rd"
  refine r_slL (ex_l (e1.trans e2) hS) (fun p2 H3 n3 e3 h3 => ?_)
  obtain ⟨ms, em, hms, _⟩ := cut_int ns (some 1) (some 61)
  rw [em] at h3
  refine r_iL (SqL.of h3) (fun i σ H' => Ex H3 H' ∧ ∃ (q : Nat) (p : Addr) (x4 x5 x6 x7 : Option V), q / 256 = r / 256 ∧ σ = [some (.ref a), some (.int (q : Int)), some (.int ((r / 256 : Nat) : Int)), some (.ref p), x4, x5, x6, x7] ∧ SqL K H' p ((fl (q % 256)).map V.bl))
    ⟨Ex.refl _, r, p1, _, _, _, _, rfl, rfl, SqL.of (e3 _ _ (e2 _ _ h1))⟩ (fun i σ H' _ q => SqL.of (q.1 _ _ h3)) ?_ ?_
  · rintro i y σ H' hi ⟨hs, q, p, x4, x5, x6, x7, hq, rfl, hp⟩
    obtain ⟨z, _, rfl⟩ := int_at hi
    obtain ⟨m, em⟩ : ∃ m : Nat, z / 2 % 256 = (m : Int) := ⟨(z / 2 % 256).toNat, by omega⟩
    have hm : m < 256 := by omega
    walk_at "rd"
    rw [em]
    refine ⟨m, rfl, fun p4 H4 e4 n4 h4 => ?_⟩
    walk_at "rd"
    refine r_cut (fun σ' H' => Ex H4 H' ∧ ∃ (q : Nat) (p : Addr) (x5 x6 x7 : Option V), q / 256 = r / 256 ∧ σ' = [some (.ref a), some (.int (q : Int)), some (.int ((r / 256 : Nat) : Int)), some (.ref p), some (.int z), x5, x6, x7] ∧ SqL K H' p ((fl (q % 256)).map V.bl)) ?_ ?_
    · walk_at "rd"
      refine r_ite (fun c => ?_) (fun c => ?_)
      · walk_at "rd"
        refine ⟨_, _, rfl, ?_⟩
        rw [bOr (by omega) (by omega), Int.toNat_natCast, Int.toNat_natCast]
        walk_at "rd"
        refine r_lcRP (n := 8) rfl (by decide) (fun i v => ∃ b, v = .bl b ∧ (List.zipWith (· || ·) (fl (q % 256)) (fl m))[i]? = some b) (fun _ => rfl) (fun D i H5 nD _ hi e5 Qk kk => ?_) (fun D ys H5 nD e5 h5 hl5 hR => ?_)
        · have g := fl_or (f := (· || ·)) (fl_get (m := q % 256) hi) (fl_get (m := m) hi)
          walk_at "rd"
          refine r_ixL (ex_l (e4.trans e5) hp) (fl_at hi) ?_
          walk_at "rd"
          refine r_ifb (fun c1 => ?_) (fun c1 => ?_)
          · try walk_at "rd"
            rw [c1] at g
            exact kk _ _ (Ex.refl _) ⟨_, rfl, g⟩
          · try walk_at "rd"
            rw [c1] at g
            refine r_ixL (SqL.of (e5 _ _ h4)) (fl_at hi) ?_
            try walk_at "rd"
            exact kk _ _ (Ex.refl _) ⟨_, rfl, g⟩
        have hys : ys = (List.zipWith (· || ·) (fl (q % 256)) (fl m)).map V.bl := list_is (by rw [hl5]; simp [fl]) hR
        subst hys
        walk_at "rd"
        have hh : SqL K H5 D ((fl ((q ||| m) % 256)).map V.bl) := by rw [put_fl]; exact SqL.of h5
        exact ⟨e5, (q ||| m), D, _, _, _, by rw [put_hi hm]; exact hq, rfl, hh⟩
      · walk_at "rd"
        refine ⟨_, _, rfl, ?_⟩
        rw [bAnd (by omega) (by omega), Int.toNat_natCast, Int.toNat_natCast, show (q : Int) - ((q &&& m : Nat) : Int) = ((q - (q &&& m) : Nat) : Int) from (Int.natCast_sub Nat.and_le_left).symm]
        walk_at "rd"
        refine r_lcRP (n := 8) rfl (by decide) (fun i v => ∃ b, v = .bl b ∧ (List.zipWith (fun a b => a && !b) (fl (q % 256)) (fl m))[i]? = some b) (fun _ => rfl) (fun D i H5 nD _ hi e5 Qk kk => ?_) (fun D ys H5 nD e5 h5 hl5 hR => ?_)
        · have g := fl_or (f := (fun a b => a && !b)) (fl_get (m := q % 256) hi) (fl_get (m := m) hi)
          walk_at "rd"
          refine r_ixL (ex_l (e4.trans e5) hp) (fl_at hi) ?_
          walk_at "rd"
          refine r_ifb (fun c1 => ?_) (fun c1 => ?_)
          · try walk_at "rd"
            rw [c1] at g
            refine r_ixL (SqL.of (e5 _ _ h4)) (fl_at hi) ?_
            try walk_at "rd"
            exact kk _ _ (Ex.refl _) ⟨_, rfl, g⟩
          · try walk_at "rd"
            rw [c1] at g
            exact kk _ _ (Ex.refl _) ⟨_, rfl, g⟩
        have hys : ys = (List.zipWith (fun a b => a && !b) (fl (q % 256)) (fl m)).map V.bl := list_is (by rw [hl5]; simp [fl]) hR
        subst hys
        walk_at "rd"
        have hh : SqL K H5 D ((fl ((q - (q &&& m)) % 256)).map V.bl) := by rw [take_fl hm]; exact SqL.of h5
        exact ⟨e5, (q - (q &&& m)), D, _, _, _, by rw [take_hi hm]; exact hq, rfl, hh⟩
    · rintro σ' H'' ⟨e6, q', p', x5', x6', x7', hq', rfl, hp'⟩
      walk_at "rd"
      refine ⟨_, rfl, fun n H7 e7 hn => ?_⟩
      walk_at "rd"
      refine ⟨q', n, p', by rw [hq'], hn, ex_l e7 hp', fun H8 e8 => ?_⟩
      walk_at "rd"
      exact ⟨hs.trans (e4.trans (e6.trans (e7.trans e8))), q', p', _, _, _, _, hq', rfl, ex_l (e7.trans e8) hp'⟩
  · rintro σ H' ⟨hs, q, p, x4, x5, x6, x7, hq, rfl, hp⟩
    walk_at "rd"
    exact k _
end
theorem all_mk {P : Program} {w : World} {K : PySem.W.Frag} {h : Heap} {mg : Str → Option Value} {fa : Addr} (X : K.In h) (G : h.Ns mainGlobals mg) (hfa : mg "law" = some (.ref fa))
    (b_bool : PySem.W.nsIn K mainGlobals "bool" = some none)
    (b_int : PySem.W.nsIn K mainGlobals "int" = some none)
    (b_isinstance : PySem.W.nsIn K mainGlobals "isinstance" = some none)
    (b_len : PySem.W.nsIn K mainGlobals "len" = some none)
    (b_range : PySem.W.nsIn K mainGlobals "range" = some none)
    {f_page_of : Addr} {od_page_of an_page_of : Option Addr} {sl_page_of : Array (Option Value)} {oc_page_of kV_page_of dc_page_of pm_page_of cd_page_of ct_page_of : Value}
    (a_page_of : PySem.W.nsIn K mainGlobals "page_of" = some (some (.ref f_page_of)))
    (l_page_of : K.lookup f_page_of = some ⟨oc_page_of, od_page_of, .func (PySem.W.fnOf "page_of" "page_of" (defArgs s_page_of) (defBody s_page_of) (defScope s_page_of) .none kV_page_of dc_page_of pm_page_of an_page_of cd_page_of ct_page_of), sl_page_of⟩)
    (d_page_of : PySem.W.codeIn K cd_page_of "page_of" = true)
    (e_page_of : PySem.W.keepIn K (.ref f_page_of) = true)
    {f_marks_of : Addr} {od_marks_of an_marks_of : Option Addr} {sl_marks_of : Array (Option Value)} {oc_marks_of kV_marks_of dc_marks_of pm_marks_of cd_marks_of ct_marks_of : Value}
    (a_marks_of : PySem.W.nsIn K mainGlobals "marks_of" = some (some (.ref f_marks_of)))
    (l_marks_of : K.lookup f_marks_of = some ⟨oc_marks_of, od_marks_of, .func (PySem.W.fnOf "marks_of" "marks_of" (defArgs s_marks_of) (defBody s_marks_of) (defScope s_marks_of) .none kV_marks_of dc_marks_of pm_marks_of an_marks_of cd_marks_of ct_marks_of), sl_marks_of⟩)
    (d_marks_of : PySem.W.codeIn K cd_marks_of "marks_of" = true)
    (e_marks_of : PySem.W.keepIn K (.ref f_marks_of) = true)
    {f_has : Addr} {od_has an_has : Option Addr} {sl_has : Array (Option Value)} {oc_has kV_has dc_has pm_has cd_has ct_has : Value}
    (a_has : PySem.W.nsIn K mainGlobals "has" = some (some (.ref f_has)))
    (l_has : K.lookup f_has = some ⟨oc_has, od_has, .func (PySem.W.fnOf "has" "has" (defArgs s_has) (defBody s_has) (defScope s_has) .none kV_has dc_has pm_has an_has cd_has ct_has), sl_has⟩)
    (d_has : PySem.W.codeIn K cd_has "has" = true)
    (e_has : PySem.W.keepIn K (.ref f_has) = true)
    {f_put : Addr} {od_put an_put : Option Addr} {sl_put : Array (Option Value)} {oc_put kV_put dc_put pm_put cd_put ct_put : Value}
    (a_put : PySem.W.nsIn K mainGlobals "put" = some (some (.ref f_put)))
    (l_put : K.lookup f_put = some ⟨oc_put, od_put, .func (PySem.W.fnOf "put" "put" (defArgs s_put) (defBody s_put) (defScope s_put) .none kV_put dc_put pm_put an_put cd_put ct_put), sl_put⟩)
    (d_put : PySem.W.codeIn K cd_put "put" = true)
    (e_put : PySem.W.keepIn K (.ref f_put) = true)
    {f_taken : Addr} {od_taken an_taken : Option Addr} {sl_taken : Array (Option Value)} {oc_taken kV_taken dc_taken pm_taken cd_taken ct_taken : Value}
    (a_taken : PySem.W.nsIn K mainGlobals "taken" = some (some (.ref f_taken)))
    (l_taken : K.lookup f_taken = some ⟨oc_taken, od_taken, .func (PySem.W.fnOf "taken" "taken" (defArgs s_taken) (defBody s_taken) (defScope s_taken) .none kV_taken dc_taken pm_taken an_taken cd_taken ct_taken), sl_taken⟩)
    (d_taken : PySem.W.codeIn K cd_taken "taken" = true)
    (e_taken : PySem.W.keepIn K (.ref f_taken) = true)
    {f__law_whole : Addr} {od__law_whole an__law_whole : Option Addr} {sl__law_whole : Array (Option Value)} {oc__law_whole kV__law_whole dc__law_whole pm__law_whole cd__law_whole ct__law_whole : Value}
    (a__law_whole : PySem.W.nsIn K mainGlobals "_law_whole" = some (some (.ref f__law_whole)))
    (l__law_whole : K.lookup f__law_whole = some ⟨oc__law_whole, od__law_whole, .func (PySem.W.fnOf "_law_whole" "_law_whole" (defArgs s__law_whole) (defBody s__law_whole) (defScope s__law_whole) .none kV__law_whole dc__law_whole pm__law_whole an__law_whole cd__law_whole ct__law_whole), sl__law_whole⟩)
    (d__law_whole : PySem.W.codeIn K cd__law_whole "_law_whole" = true)
    (e__law_whole : PySem.W.keepIn K (.ref f__law_whole) = true)
    {f__law_flags : Addr} {od__law_flags an__law_flags : Option Addr} {sl__law_flags : Array (Option Value)} {oc__law_flags kV__law_flags dc__law_flags pm__law_flags cd__law_flags ct__law_flags : Value}
    (a__law_flags : PySem.W.nsIn K mainGlobals "_law_flags" = some (some (.ref f__law_flags)))
    (l__law_flags : K.lookup f__law_flags = some ⟨oc__law_flags, od__law_flags, .func (PySem.W.fnOf "_law_flags" "_law_flags" (defArgs s__law_flags) (defBody s__law_flags) (defScope s__law_flags) .none kV__law_flags dc__law_flags pm__law_flags an__law_flags cd__law_flags ct__law_flags), sl__law_flags⟩)
    (d__law_flags : PySem.W.codeIn K cd__law_flags "_law_flags" = true)
    (e__law_flags : PySem.W.keepIn K (.ref f__law_flags) = true)
    {f__law_some : Addr} {od__law_some an__law_some : Option Addr} {sl__law_some : Array (Option Value)} {oc__law_some kV__law_some dc__law_some pm__law_some cd__law_some ct__law_some : Value}
    (a__law_some : PySem.W.nsIn K mainGlobals "_law_some" = some (some (.ref f__law_some)))
    (l__law_some : K.lookup f__law_some = some ⟨oc__law_some, od__law_some, .func (PySem.W.fnOf "_law_some" "_law_some" (defArgs s__law_some) (defBody s__law_some) (defScope s__law_some) .none kV__law_some dc__law_some pm__law_some an__law_some cd__law_some ct__law_some), sl__law_some⟩)
    (d__law_some : PySem.W.codeIn K cd__law_some "_law_some" = true)
    (e__law_some : PySem.W.keepIn K (.ref f__law_some) = true)
    {f__law_all_there : Addr} {od__law_all_there an__law_all_there : Option Addr} {sl__law_all_there : Array (Option Value)} {oc__law_all_there kV__law_all_there dc__law_all_there pm__law_all_there cd__law_all_there ct__law_all_there : Value}
    (a__law_all_there : PySem.W.nsIn K mainGlobals "_law_all_there" = some (some (.ref f__law_all_there)))
    (l__law_all_there : K.lookup f__law_all_there = some ⟨oc__law_all_there, od__law_all_there, .func (PySem.W.fnOf "_law_all_there" "_law_all_there" (defArgs s__law_all_there) (defBody s__law_all_there) (defScope s__law_all_there) .none kV__law_all_there dc__law_all_there pm__law_all_there an__law_all_there cd__law_all_there ct__law_all_there), sl__law_all_there⟩)
    (d__law_all_there : PySem.W.codeIn K cd__law_all_there "_law_all_there" = true)
    (e__law_all_there : PySem.W.keepIn K (.ref f__law_all_there) = true)
    {f__law_shows : Addr} {od__law_shows an__law_shows : Option Addr} {sl__law_shows : Array (Option Value)} {oc__law_shows kV__law_shows dc__law_shows pm__law_shows cd__law_shows ct__law_shows : Value}
    (a__law_shows : PySem.W.nsIn K mainGlobals "_law_shows" = some (some (.ref f__law_shows)))
    (l__law_shows : K.lookup f__law_shows = some ⟨oc__law_shows, od__law_shows, .func (PySem.W.fnOf "_law_shows" "_law_shows" (defArgs s__law_shows) (defBody s__law_shows) (defScope s__law_shows) .none kV__law_shows dc__law_shows pm__law_shows an__law_shows cd__law_shows ct__law_shows), sl__law_shows⟩)
    (d__law_shows : PySem.W.codeIn K cd__law_shows "_law_shows" = true)
    (e__law_shows : PySem.W.keepIn K (.ref f__law_shows) = true)
    {f_law : Addr} {od_law an_law : Option Addr} {sl_law : Array (Option Value)} {oc_law kV_law dc_law pm_law cd_law ct_law : Value}
    (a_law : PySem.W.nsIn K mainGlobals "law" = some (some (.ref f_law)))
    (l_law : K.lookup f_law = some ⟨oc_law, od_law, .func (PySem.W.fnOf "law" "law" (defArgs s_law) (defBody s_law) (defScope s_law) .none kV_law dc_law pm_law an_law cd_law ct_law), sl_law⟩)
    (d_law : PySem.W.codeIn K cd_law "law" = true)
    (e_law : PySem.W.keepIn K (.ref f_law) = true)
    : ∃ fd : FuncData, (∀ (s : Shared) (u : Value), BindsTo s fd ⟨[u], []⟩ [("_law_script", u)]) ∧ ∀ base : Heap, K.In base → base.Ns mainGlobals mg → FnOk P w K mg base (L2.CX P w) 3 fa fd ["_law_script"] (sp_law K) := by
  let A : Ad := {}
  have T : Txt K mg A := { b_bool := PySem.W.mg_none_of X G b_bool, b_int := PySem.W.mg_none_of X G b_int, b_isinstance := PySem.W.mg_none_of X G b_isinstance, b_len := PySem.W.mg_none_of X G b_len, b_range := PySem.W.mg_none_of X G b_range }
  have F_page_of : Df K mg "page_of" s_page_of ["row"] := .mk' X G a_page_of l_page_of d_page_of e_page_of (fun _ _ _ _ _ _ us hl => match us, hl with | [_], _ => rfl)
  have F_marks_of : Df K mg "marks_of" s_marks_of ["row"] := .mk' X G a_marks_of l_marks_of d_marks_of e_marks_of (fun _ _ _ _ _ _ us hl => match us, hl with | [_], _ => rfl)
  have F_has : Df K mg "has" s_has ["row", "marks"] := .mk' X G a_has l_has d_has e_has (fun _ _ _ _ _ _ us hl => match us, hl with | [_, _], _ => rfl)
  have F_put : Df K mg "put" s_put ["row", "marks"] := .mk' X G a_put l_put d_put e_put (fun _ _ _ _ _ _ us hl => match us, hl with | [_, _], _ => rfl)
  have F_taken : Df K mg "taken" s_taken ["row", "marks"] := .mk' X G a_taken l_taken d_taken e_taken (fun _ _ _ _ _ _ us hl => match us, hl with | [_, _], _ => rfl)
  have F__law_whole : Df K mg "_law_whole" s__law_whole ["_law_found"] := .mk' X G a__law_whole l__law_whole d__law_whole e__law_whole (fun _ _ _ _ _ _ us hl => match us, hl with | [_], _ => rfl)
  have F__law_flags : Df K mg "_law_flags" s__law_flags ["_law_marks"] := .mk' X G a__law_flags l__law_flags d__law_flags e__law_flags (fun _ _ _ _ _ _ us hl => match us, hl with | [_], _ => rfl)
  have F__law_some : Df K mg "_law_some" s__law_some ["_law_cell"] := .mk' X G a__law_some l__law_some d__law_some e__law_some (fun _ _ _ _ _ _ us hl => match us, hl with | [_], _ => rfl)
  have F__law_all_there : Df K mg "_law_all_there" s__law_all_there ["_law_flags_here", "_law_asked"] := .mk' X G a__law_all_there l__law_all_there d__law_all_there e__law_all_there (fun _ _ _ _ _ _ us hl => match us, hl with | [_, _], _ => rfl)
  have F__law_shows : Df K mg "_law_shows" s__law_shows ["_law_row", "_law_page", "_law_flags_here", "_law_marks"] := .mk' X G a__law_shows l__law_shows d__law_shows e__law_shows (fun _ _ _ _ _ _ us hl => match us, hl with | [_, _, _, _], _ => rfl)
  have F_law : Df K mg "law" s_law ["_law_script"] := .mk' X G a_law l_law d_law e_law (fun _ _ _ _ _ _ us hl => match us, hl with | [_], _ => rfl)
  exact L_law hfa T F_page_of F_marks_of F_has F_put F_taken F__law_whole F__law_flags F__law_some F__law_all_there F__law_shows F_law
end Gx
open PySem PySem.W PyProof.Rows
set_option maxRecDepth 100000 in
set_option maxHeartbeats 0 in
theorem PySem.Challenge.cw_shadowpages_k04_marks_put_and_taken_holds : PySem.Challenge.rw_shadowpages_k04_marks_put_and_taken.Holds := by
  w_on; o_law; k_head; (case hw => w_witness2)
  k_fill
  refine Z.walk_z (l := PySem.Challenge.rw_shadowpages_k04_marks_put_and_taken) (k := 3) rfl rfl (by decide) (fun w h Y => PySem.W.kIn_of Y) ?F
  case F =>
    intro w mg fa h KX G hmg
    refine' Gx.all_mk KX G hmg ?b_bool ?b_int ?b_isinstance ?b_len ?b_range ?a_page_of ?l_page_of ?d_page_of ?e_page_of ?a_marks_of ?l_marks_of ?d_marks_of ?e_marks_of ?a_has ?l_has ?d_has ?e_has ?a_put ?l_put ?d_put ?e_put ?a_taken ?l_taken ?d_taken ?e_taken ?a__law_whole ?l__law_whole ?d__law_whole ?e__law_whole ?a__law_flags ?l__law_flags ?d__law_flags ?e__law_flags ?a__law_some ?l__law_some ?d__law_some ?e__law_some ?a__law_all_there ?l__law_all_there ?d__law_all_there ?e__law_all_there ?a__law_shows ?l__law_shows ?d__law_shows ?e__law_shows ?a_law ?l_law ?d_law ?e_law
    (case b_bool => k_is)
    (case b_int => k_is)
    (case b_isinstance => k_is)
    (case b_len => k_is)
    (case b_range => k_is)
    (case a_page_of => k_is)
    (case l_page_of => k_is)
    (case d_page_of => k_is)
    (case e_page_of => k_is)
    (case a_marks_of => k_is)
    (case l_marks_of => k_is)
    (case d_marks_of => k_is)
    (case e_marks_of => k_is)
    (case a_has => k_is)
    (case l_has => k_is)
    (case d_has => k_is)
    (case e_has => k_is)
    (case a_put => k_is)
    (case l_put => k_is)
    (case d_put => k_is)
    (case e_put => k_is)
    (case a_taken => k_is)
    (case l_taken => k_is)
    (case d_taken => k_is)
    (case e_taken => k_is)
    (case a__law_whole => k_is)
    (case l__law_whole => k_is)
    (case d__law_whole => k_is)
    (case e__law_whole => k_is)
    (case a__law_flags => k_is)
    (case l__law_flags => k_is)
    (case d__law_flags => k_is)
    (case e__law_flags => k_is)
    (case a__law_some => k_is)
    (case l__law_some => k_is)
    (case d__law_some => k_is)
    (case e__law_some => k_is)
    (case a__law_all_there => k_is)
    (case l__law_all_there => k_is)
    (case d__law_all_there => k_is)
    (case e__law_all_there => k_is)
    (case a__law_shows => k_is)
    (case l__law_shows => k_is)
    (case d__law_shows => k_is)
    (case e__law_shows => k_is)
    (case a_law => k_is)
    (case l_law => k_is)
    (case d_law => k_is)
    (case e_law => k_is)
#print axioms PySem.Challenge.cw_shadowpages_k04_marks_put_and_taken_holds
