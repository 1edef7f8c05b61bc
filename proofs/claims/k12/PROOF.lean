import PyProof.Rows.All
import Wide.All
import OpenK.AllK
import Wide.FinOn
import HandS.ForMost
import HandS.ForExc
import HandS.IsInst
import HandS.Wide
import HandS.WideBits
import HandS.Flow
import HandS.Steps
import HandS.ExcInit
import HandS.HotCalls
import HandS.ExcIs
import HandS.Evl
import HandS.DictComp
import PySem.Challenge.RW_shadowpages_k12_images
set_option maxHeartbeats 8000000
set_option Elab.async false
set_option linter.all false
set_option maxRecDepth 100000
namespace Z
open PySem PySem.Spec PyProof.Rows L2 Evl
/-! defs packed: a def of the top by its name; a method of a class; a class made -/
structure Dn (P : Program) (w : World) (K : PySem.W.Frag) (mg : Str → Option Value) (base : Heap) (k : Nat) (x : Str) (sp : Sp) : Prop where
  ex : ∃ (f : Addr) (fd : FuncData) (ps : List Str), FnOk P w K mg base (L2.CX P w) k f fd ps sp ∧ mg x = some (.ref f) ∧ PySem.W.keepIn K (.ref f) = true ∧ Binds K fd ps []
structure Mn (P : Program) (w : World) (K : PySem.W.Frag) (mg : Str → Option Value) (base : Heap) (k : Nat) (C : Addr) (m : Str) (sp : Sp) : Prop where
  ex : ∃ (f : Addr) (fd : FuncData) (ps : List Str), FnOk P w K mg base (L2.CX P w) k f fd ps sp ∧ Cls K C ∧ Meth K C m f ∧ Binds K fd ps []
/-- the def as the top left it -/
structure Df (K : PySem.W.Frag) (mg : Str → Option Value) (x : Str) (st : Stmt) (ps : List Str) : Prop where
  ex : ∃ (f : Addr) (fd : FuncData), Fun K x x st f fd ∧ mg x = some (.ref f) ∧ ∀ us : List Value, us.length = ps.length → bindArgs fd ⟨us, []⟩ = pure (ps.zip us)
structure Mf (K : PySem.W.Frag) (C : Addr) (m q : Str) (st : Stmt) (ps : List Str) : Prop where
  ex : ∃ (f : Addr) (fd : FuncData), Fun K m q st f fd ∧ Meth K C m f ∧ Binds K fd ps []
section
variable {P : Program} {w : World} {K : PySem.W.Frag} {mg : Str → Option Value} {base : Heap} {x : Str} {st : Stmt} {ps N : List Str} {k : Nat} {sp : Sp} {C : Addr} {m q : Str}
/-- a def keeps its promise by its body -/
theorem Df.dn (F : Df K mg x st ps) (S : FnScope N ps (defScope st)) (len : ∀ vs H Q E, sp vs H Q E → vs.length = ps.length)
    (hbody : ∀ (cdv : Value) (f : Addr) (A : Around) (outer : List Env) (s : Shared) (H : Hp) (vs : List V) (Q : VK) (E : XK), Room k (A.deeper (envOfC x (defScope st) s.heap.objs.size f cdv)) → sp vs H Q E →
      ∃ t, PSs (cxOf (L2.CX P w) P w K mg base N x (defScope st) f cdv A outer s H E) (defBody st) t ∧ t { nx := fun _ H' => Q .non H', rt := Q } (start N vs) H) : Dn P w K mg base (k + 1) x sp := by
  obtain ⟨f, fd, F1, hm, hb⟩ := F.ex
  exact ⟨f, fd, ps, F1.okX S len (fun cdv A outer s H vs Q E hr h => hbody cdv f A outer s H vs Q E hr h), hm, F1.kp, .all hb⟩
/-- the law's own def -/
theorem Df.law {p : Str} {fa : Addr} (F : Df K mg x st [p]) (hfa : mg x = some (.ref fa)) (S : FnScope N [p] (defScope st)) (len : ∀ vs H Q E, sp vs H Q E → vs.length = [p].length)
    (hbody : ∀ base : Heap, K.In base → base.Ns mainGlobals mg → ∀ (cdv : Value) (f : Addr) (A : Around) (outer : List Env) (s : Shared) (H : Hp) (vs : List V) (Q : VK) (E : XK), Room k (A.deeper (envOfC x (defScope st) s.heap.objs.size f cdv)) → sp vs H Q E →
      ∃ t, PSs (cxOf (L2.CX P w) P w K mg base N x (defScope st) f cdv A outer s H E) (defBody st) t ∧ t { nx := fun _ H' => Q .non H', rt := Q } (start N vs) H) :
    ∃ fd : FuncData, (∀ (s : Shared) (u : Value), BindsTo s fd ⟨[u], []⟩ [(p, u)]) ∧ ∀ base : Heap, K.In base → base.Ns mainGlobals mg → FnOk P w K mg base (L2.CX P w) (k + 1) fa fd [p] sp := by
  obtain ⟨f, fd, F1, hm, hb⟩ := F.ex
  rw [hfa] at hm
  cases hm
  exact ⟨fd, fun s u => .of_eq (hb [u] rfl), fun base kb gb => F1.okX S len (fun cdv A outer s H vs Q E hr h => hbody base kb gb cdv _ A outer s H vs Q E hr h)⟩
theorem Mf.mn (F : Mf K C m q st ps) (c : Cls K C) (S : FnScope N ps (defScope st)) (len : ∀ vs H Q E, sp vs H Q E → vs.length = ps.length)
    (hbody : ∀ (cdv : Value) (f : Addr) (A : Around) (outer : List Env) (s : Shared) (H : Hp) (vs : List V) (Q : VK) (E : XK), Room k (A.deeper (envOfC q (defScope st) s.heap.objs.size f cdv)) → sp vs H Q E →
      ∃ t, PSs (cxOf (L2.CX P w) P w K mg base N q (defScope st) f cdv A outer s H E) (defBody st) t ∧ t { nx := fun _ H' => Q .non H', rt := Q } (start N vs) H) : Mn P w K mg base (k + 1) C m sp := by
  obtain ⟨f, fd, F1, hm, hb⟩ := F.ex
  exact ⟨f, fd, ps, F1.okX S len (fun cdv A outer s H vs Q E hr h => hbody cdv f A outer s H vs Q E hr h), c, hm, hb⟩
end
section
variable {X : Cx} {k j : Nat} {C : Addr} {sp : Sp} {W : WX} {x m : Str} {p pos apos : Pos} {e o : Expr} {es : List Expr} {ta : TE} {t : TA}
/-- f(e, ..) -/
theorem pe_d (D : Dn X.prog X.w X.K X.mg X.base k x sp) (hr : Room j X.A) (hk : k ≤ j) (tk : Takes X W) (ha : PA X (e :: es) t) (hg : Gl X x := by rfl) (hdb : (x == ("__debug__" : Str)) = false := by decide)
    (he : starEach (e :: es) X.env = (false, eval e X.env) :: starEach es X.env := by rfl) (hpl : (backTo pos (starEach es X.env)).any (·.1) = false := by rfl) : PE X (.Call (.Name x p) (e :: es) [] pos) (tCallS sp (WE W) t) := by
  obtain ⟨f, fd, ps, F, hm, kp, hb⟩ := D.ex
  exact pe_callS F (hr.mono hk) hg hm kp hb (fun σ => passAt tk σ) ha hdb he hpl
end
end Z
namespace Z
open PySem PySem.Spec PyProof.Rows L2 Evl
section
variable {X : Cx} {k j : Nat} {C : Addr} {sp : Sp} {W : WX} {x m : Str} {p pos apos : Pos} {e o : Expr} {es : List Expr} {ta : TE} {t : TA}
theorem pe_d0 (D : Dn X.prog X.w X.K X.mg X.base k x sp) (hr : Room j X.A) (hk : k ≤ j) (tk : Takes X W) (hg : Gl X x := by rfl) (hdb : (x == ("__debug__" : Str)) = false := by decide) : PE X (.Call (.Name x p) [] [] pos) (tCallS sp (WE W) tNil) := by
  obtain ⟨f, fd, ps, F, hm, kp, hb⟩ := D.ex
  refine ⟨fun pins s σ H Q I h => ?_⟩
  refine wpAny_Call_Name_kw (ld_glob I hg hm ?_ hdb)
  exact PySem.W.callWith_K0 I.kIn kp (run_fnS (us := []) (vs := []) (E := WE W) F (hr.mono hk) hb (passAt tk σ) I .nil h)
/-- o.m(e, ..) -/
def tMS (C : Addr) (m : Str) (sp : Sp) (E : L2.St → XK) (ta : TE) (t : TA) : TE := fun σ H Q => ta σ H fun x H1 => ∃ a dx fs, x = .ref a ∧ H1 a = some (.ins C dx fs) ∧ fs.lookup m = none ∧ t σ H1 fun vs H2 => sp (x :: vs) H2 Q (E σ)
theorem pe_m {pl : Sem Bool} (he : PE X o ta) (M : Mn X.prog X.w X.K X.mg X.base k C m sp) (hr : Room j X.A) (hk : k ≤ j) (tk : Takes X W) (ha : PA X (e :: es) t)
    (hst : starEach (e :: es) X.env = (false, eval e X.env) :: starEach es X.env := by rfl) (hpl : (backTo pos (starEach es X.env)).any (·.1) = false := by rfl)
    (ht : eval (.Call (.Attribute o m apos) (e :: es) [] pos) X.env = (do
      let ov ← eval o X.env
      standAt apos.atName
      let (f, first) ← holding [ov] (getMethod ov m pl)
      callWith pos f first (backTo pos (starEach (e :: es) X.env)) (backToKw pos (keywordEach [] X.env))) := by rfl) :
    PE X (.Call (.Attribute o m apos) (e :: es) [] pos) (tMS C m sp (WE W) ta t) := by
  obtain ⟨f, fd, ps, F, c, hm, hb⟩ := M.ex
  refine ⟨fun pins s σ H Q I h => ?_⟩
  refine PySem.W.methodCall_KW (pl := pl) (thn (he.run pins s σ H _ I h) fun u s1 ⟨x, H1, I1, rx, a, dx, fs, ex, ea, l, q⟩ => ?_) ht
  subst ex
  obtain rfl : u = Value.ref a := rx
  refine getmeth_ok I1 ea c hm l (PySem.W.callWith_K (first := [.ref a]) (h₀ := X.base) I.ok.mod.kin hm.kp (thn (ha.run pos pins s1 σ H1 _ I1 q) fun us s2 ⟨vs, H2, I2, r, q2⟩ => ⟨I2.kIn, ?_⟩) hst hpl)
  exact run_fnS (us := .ref a :: us) (vs := .ref a :: vs) (E := WE W) F (hr.mono hk) hb (passAt tk σ) I2 (.cons rfl r) q2
theorem pe_m0 {pl : Sem Bool} (he : PE X o ta) (M : Mn X.prog X.w X.K X.mg X.base k C m sp) (hr : Room j X.A) (hk : k ≤ j) (tk : Takes X W)
    (ht : eval (.Call (.Attribute o m apos) [] [] pos) X.env = (do
      let ov ← eval o X.env
      standAt apos.atName
      let (f, first) ← holding [ov] (getMethod ov m pl)
      callWith pos f first (backTo pos (starEach [] X.env)) (backToKw pos (keywordEach [] X.env))) := by rfl) :
    PE X (.Call (.Attribute o m apos) [] [] pos) (tMS C m sp (WE W) ta tNil) := by
  obtain ⟨f, fd, ps, F, c, hm, hb⟩ := M.ex
  refine ⟨fun pins s σ H Q I h => ?_⟩
  refine PySem.W.methodCall_KW (pl := pl) (thn (he.run pins s σ H _ I h) fun u s1 ⟨x, H1, I1, rx, a, dx, fs, ex, ea, l, q⟩ => ?_) ht
  subst ex
  obtain rfl : u = Value.ref a := rx
  refine getmeth_ok I1 ea c hm l (PySem.W.callWith_K0 (first := [.ref a]) I1.kIn hm.kp ?_)
  exact run_fnS (us := [.ref a]) (vs := [.ref a]) (E := WE W) F (hr.mono hk) hb (passAt tk σ) I1 (.cons rfl .nil) q
end
/-! ### steps of a reading -/
section
variable {σ : L2.St} {H : Hp} {Q : VK} {QT : Bool → Hp → Prop} {QA : List V → Hp → Prop} {D : Ends} {ta tb tc : TE} {t u : TT} {tu tw : TS} {v : V} {K : PySem.W.Frag}
theorem r_var {i : Nat} (h : σ[i]? = some (some v)) (k : Q v H) : tVar i σ H Q := ⟨v, h, k⟩
theorem r_c (k : Q v H) : tC v σ H Q := k
theorem r_op {r : R2} (k : ta σ H fun x H1 => tb σ H1 fun y H2 => r x y H2 Q) : tOp r ta tb σ H Q := k
theorem r_un {r : V → Hp → VK → Prop} (k : ta σ H fun x H1 => r x H1 Q) : tUn r ta σ H Q := k
theorem r_I0 {g : Int → Int → V} {i j : Int} (k : Q (g i j) H) : rI0 g (.int i) (.int j) H Q := ⟨i, j, rfl, rfl, k⟩
theorem r_I {c : Int → Int → Prop} {g : Int → Int → V} {i j : Int} (hc : c i j) (k : Q (g i j) H) : rI c g (.int i) (.int j) H Q := ⟨i, j, rfl, rfl, hc, k⟩
theorem r_U {g : Int → V} {i : Int} (k : Q (g i) H) : rU g (.int i) H Q := ⟨i, rfl, k⟩
theorem r_eq {x y : V} (h : scal x y = true) (k : Q (.bl (decide (x = y))) H) : rEq x y H Q := ⟨h, k⟩
theorem r_ne {x y : V} (h : scal x y = true) (k : Q (.bl (!decide (x = y))) H) : rNe x y H Q := ⟨h, k⟩
theorem r_eqI {i j : Int} (k : Q (.bl (decide (i = j))) H) : rEq (.int i) (.int j) H Q := ⟨rfl, by rw [show decide (V.int i = V.int j) = decide (i = j) from by simp]; exact k⟩
theorem r_neI {i j : Int} (k : Q (.bl (!decide (i = j))) H) : rNe (.int i) (.int j) H Q := ⟨rfl, by rw [show decide (V.int i = V.int j) = decide (i = j) from by simp]; exact k⟩
theorem r_eqB {i j : Bool} (k : Q (.bl (decide (i = j))) H) : rEq (.bl i) (.bl j) H Q := ⟨rfl, by rw [show decide (V.bl i = V.bl j) = decide (i = j) from by simp]; exact k⟩
theorem r_neB {i j : Bool} (k : Q (.bl (!decide (i = j))) H) : rNe (.bl i) (.bl j) H Q := ⟨rfl, by rw [show decide (V.bl i = V.bl j) = decide (i = j) from by simp]; exact k⟩
theorem r_test {te : TE} (k : te σ H fun x H1 => ∃ b, x = .bl b ∧ QT b H1) : tTest te σ H QT := k
theorem r_B {te : TE} (k : te σ H fun x H1 => ∃ b, x = .bl b ∧ QT b H1) : tB te σ H QT := k
theorem r_bl {b : Bool} {R : Bool → Prop} (k : R b) : ∃ c, V.bl b = .bl c ∧ R c := ⟨b, rfl, k⟩
theorem r_and (k : t σ H fun c H1 => if c = true then u σ H1 QT else QT false H1) : tAnd t u σ H QT := k
theorem r_or (k : t σ H fun c H1 => if c = true then QT true H1 else u σ H1 QT) : tOr t u σ H QT := k
theorem r_not (k : t σ H fun c H1 => QT (!c) H1) : tNot t σ H QT := k
theorem r_andV (k : ta σ H fun x H1 => ∃ c, x = .bl c ∧ if c = true then tb σ H1 Q else Q (.bl false) H1) : tAndV ta tb σ H Q := k
theorem r_orV (k : ta σ H fun x H1 => ∃ c, x = .bl c ∧ if c = true then Q (.bl true) H1 else tb σ H1 Q) : tOrV ta tb σ H Q := k
theorem r_notV (k : ta σ H fun x H1 => ∃ c, x = .bl c ∧ Q (.bl (!c)) H1) : tNotV ta σ H Q := k
theorem r_if (k : t σ H fun c H1 => if c = true then ta σ H1 Q else tb σ H1 Q) : tIf t ta tb σ H Q := k
theorem r_chain {r r' : R2} (k : ta σ H fun x H1 => tb σ H1 fun y H2 => r x y H2 fun z H3 => ∃ k, z = .bl k ∧ (if k = true then tc σ H3 fun w' H4 => r' y w' H4 Q else Q (.bl false) H3)) : tChain r r' ta tb tc σ H Q := k
theorem r_ifS (k : t σ H fun b H1 => if b = true then tu D σ H1 else tw D σ H1) : tIfS t tu tw D σ H := k
theorem r_nx {a : L2.St → Hp → Prop} {b : VK} {c d : L2.St → Hp → Prop} (k : a σ H) : (Ends.mk a b c d).nx σ H := k
theorem r_rt {a : L2.St → Hp → Prop} {b : VK} {c d : L2.St → Hp → Prop} (k : b v H) : (Ends.mk a b c d).rt v H := k
theorem r_bk {a : L2.St → Hp → Prop} {b : VK} {c d : L2.St → Hp → Prop} (k : c σ H) : (Ends.mk a b c d).bk σ H := k
theorem r_ct {a : L2.St → Hp → Prop} {b : VK} {c d : L2.St → Hp → Prop} (k : d σ H) : (Ends.mk a b c d).ct σ H := k
theorem r_seq (k : tu ⟨tw D, D.rt, D.bk, D.ct⟩ σ H) : tSeq tu tw D σ H := k
theorem r_next (k : D.nx σ H) : tNext D σ H := k
theorem r_ret (k : ta σ H D.rt) : tRet ta D σ H := k
theorem r_retN (k : D.rt .non H) : tRetN D σ H := k
theorem r_asg {g : TG} (k : ta σ H fun x H1 => g x σ H1 D.nx) : tAsg ta g D σ H := k
theorem r_name {i : Nat} {q : L2.St → Hp → Prop} (k : q (σ.set i (some v)) H) : gName i v σ H q := k
theorem r_drop (k : ta σ H fun _ H1 => D.nx σ H1) : tDrop ta D σ H := k
theorem r_brk (k : D.bk σ H) : tBreak D σ H := k
theorem r_cont (k : D.ct σ H) : tCont D σ H := k
theorem r_nil (k : QA [] H) : tNil σ H QA := k
theorem r_cons {tr : TA} (k : ta σ H fun x H1 => tr σ H1 fun xs H2 => QA (x :: xs) H2) : tCons ta tr σ H QA := k
theorem r_callS {sp : Sp} {E : L2.St → XK} {tr : TA} (k : tr σ H fun vs H1 => sp vs H1 Q (E σ)) : tCallS sp E tr σ H Q := k
theorem r_CB {r : List V → Hp → VK → Prop} {tr : TA} (k : tr σ H fun vs H1 => r vs H1 Q) : tCB r tr σ H Q := k
theorem r_ite {p A B : Prop} [Decidable p] (h1 : p → A) (h2 : ¬p → B) : if decide p = true then A else B := by
  by_cases h : p
  · rw [if_pos (decide_eq_true h)]; exact h1 h
  · rw [if_neg (by simpa using h)]; exact h2 h
theorem r_iteT {p A B : Prop} [Decidable p] (h : p) (k : A) : if decide p = true then A else B := by rw [if_pos (decide_eq_true h)]; exact k
theorem r_iteF {p A B : Prop} [Decidable p] (h : ¬p) (k : B) : if decide p = true then A else B := by rw [if_neg (by simpa using h)]; exact k
theorem r_iteN {p A B : Prop} [Decidable p] (h1 : p → B) (h2 : ¬p → A) : if (!decide p) = true then A else B := by
  by_cases h : p
  · rw [if_neg (by simpa using h)]; exact h1 h
  · rw [if_pos (by simpa using h)]; exact h2 h
theorem r_iteNT {p A B : Prop} [Decidable p] (h : p) (k : B) : if (!decide p) = true then A else B := by rw [if_neg (by simpa using h)]; exact k
theorem r_iteNF {p A B : Prop} [Decidable p] (h : ¬p) (k : A) : if (!decide p) = true then A else B := by rw [if_pos (by simpa using h)]; exact k
theorem r_tt {A B : Prop} (k : A) : if true = true then A else B := by rw [if_pos rfl]; exact k
theorem r_ff {A B : Prop} (k : B) : if false = true then A else B := by rw [if_neg Bool.false_ne_true]; exact k
theorem r_nt {A B : Prop} (k : B) : if (!true) = true then A else B := by rw [if_neg (by decide)]; exact k
theorem r_nf {A B : Prop} (k : A) : if (!false) = true then A else B := by rw [if_pos (by decide)]; exact k
theorem r_tb {b : Bool} {A B : Prop} (h : b = true) (k : A) : if b = true then A else B := by rw [if_pos h]; exact k
theorem r_fb {b : Bool} {A B : Prop} (h : b = false) (k : B) : if b = true then A else B := by rw [if_neg (by rw [h]; decide)]; exact k
end
end Z
namespace Z
open PySem PySem.Spec PyProof.Rows L2 Evl
section
variable {σ : L2.St} {H H1 : Hp} {Q : VK} {D : Ends} {ta tl : TE} {tb tw : TS} {g : TG} {v : V} {K : PySem.W.Frag} {wi : TI} {J : It} {a : Addr} {xs : List V}
/-- what a loop over J asks -/
def ForW (J : It) (g : TG) (tb : TS) (D : Ends) (σ : L2.St) (H1 : Hp) : Prop := ∃ W : Nat → Nat → L2.St → Hp → Prop, (∃ m, W 0 m σ H1) ∧ ∀ i m σ H, W i m σ H →
  (J.stop i H ∧ D.nx σ H) ∨ (J.go i H ∧ ∃ N : L2.St → Hp → Prop, (∀ σ' H', N σ' H' → ∃ m', m' < m ∧ W (i + 1) m' σ' H') ∧ ∀ x H', J.yld i H x H' → g x σ H' fun σ2 H2 => tb { D with nx := N, ct := N, bk := D.nx } σ2 H2)
theorem r_for (k : wi σ H fun J H1 => ForW J g tb D σ H1) : tFor wi g tb D σ H := k
theorem r_iList {R : It → Hp → Prop} (k : tl σ H fun x H1 => ∃ a, x = .ref a ∧ (∃ xs, SqL K H1 a xs) ∧ R (Itl K a) H1) : iList K tl σ H R := k
theorem r_iL (hS : SqL K H a xs) (Pv : Nat → L2.St → Hp → Prop) (h0 : Pv 0 σ H) (hl : ∀ i σ H, i ≤ xs.length → Pv i σ H → SqL K H a xs)
    (hs : ∀ i x σ H, xs[i]? = some x → Pv i σ H → g x σ H fun σ2 H2 => tb ⟨Pv (i + 1), D.rt, D.nx, Pv (i + 1)⟩ σ2 H2) (hd : ∀ σ H, Pv xs.length σ H → D.nx σ H) :
    ∃ b, V.ref a = .ref b ∧ (∃ xs, SqL K H b xs) ∧ ForW (Itl K b) g tb D σ H := ⟨a, rfl, ⟨_, hS⟩, for_list (K := K) Pv h0 hl hs hd⟩
theorem r_iT (hS : SqT K H a xs) (Pv : Nat → L2.St → Hp → Prop) (h0 : Pv 0 σ H) (hl : ∀ i σ H, i ≤ xs.length → Pv i σ H → SqT K H a xs)
    (hs : ∀ i x σ H, xs[i]? = some x → Pv i σ H → g x σ H fun σ2 H2 => tb ⟨Pv (i + 1), D.rt, D.nx, Pv (i + 1)⟩ σ2 H2) (hd : ∀ σ H, Pv xs.length σ H → D.nx σ H) :
    ∃ b, V.ref a = .ref b ∧ (∃ xs, SqT K H b xs) ∧ ForW (Itt K b) g tb D σ H := ⟨a, rfl, ⟨_, hS⟩, for_tup (K := K) Pv h0 hl hs hd⟩
theorem r_iTup {R : It → Hp → Prop} (k : tl σ H fun x H1 => ∃ a, x = .ref a ∧ (∃ xs, SqT K H1 a xs) ∧ R (Itt K a) H1) : iTup K tl σ H R := k
theorem r_iRng1 {tr : TA} {R : It → Hp → Prop} (k : tr σ H fun vs H1 => ∃ j : Int, vs = [.int j] ∧ -(2 ^ 62) ≤ j ∧ j < 2 ^ 62 ∧ R (Itr 0 j.toNat) H1) : iRng1 tr σ H R := k
theorem r_iR1 {j : Int} {n : Nat} (hj : j = n) (hn : n < 2 ^ 62) (Pv : Nat → L2.St → Hp → Prop) (h0 : Pv 0 σ H)
    (hs : ∀ (i : Nat) σ H, i < n → Pv i σ H → g (.int (i : Int)) σ H fun σ2 H2 => tb ⟨Pv (i + 1), D.rt, D.nx, Pv (i + 1)⟩ σ2 H2) (hd : ∀ σ H, Pv n σ H → D.nx σ H) :
    ∃ j' : Int, [V.int j] = [.int j'] ∧ -(2 ^ 62) ≤ j' ∧ j' < 2 ^ 62 ∧ ForW (Itr 0 j'.toNat) g tb D σ H := by
  subst hj
  refine ⟨_, rfl, by omega, by omega, ?_⟩
  rw [Int.toNat_natCast]
  refine for_range (lo := 0) Pv h0 (fun i σ H hi p => ?_) hd
  have q := hs i σ H hi p
  rw [Int.zero_add]
  exact q
theorem r_sl {r : V → Option Int → Option Int → Hp → VK → Prop} {t1 t2 : TO} (k : ta σ H fun x H1 => t1 σ H1 fun l H2 => t2 σ H2 fun u H3 => r x l u H3 Q) : tSl r ta t1 t2 σ H Q := k
theorem r_np {q : Option Int → Hp → Prop} (k : q none H) : tNoPart σ H q := k
theorem r_pt {q : Option Int → Hp → Prop} (k : ta σ H fun x H1 => ∃ i, x = .int i ∧ q (some i) H1) : tPart ta σ H q := k
theorem r_in {i : Int} {q : Int → Prop} (k : q i) : ∃ j, V.int i = .int j ∧ q j := ⟨i, rfl, k⟩
theorem r_slL {lo hi : Option Int} (hS : SqL K H a xs) (k : ∀ p H2, H p = none → Ex H H2 → H2 p = some (.lst (cutV xs lo hi)) → Q (.ref p) H2) : rSlL K (.ref a) lo hi H Q := ⟨a, xs, rfl, hS, fun p n => k p _ n (Ex.new n) upd_same⟩
theorem cut_int (ns : List Int) (lo hi : Option Int) : ∃ ms : List Int, cutV (ns.map V.int) lo hi = ms.map V.int ∧ ms.length ≤ ns.length ∧ ∀ z ∈ ms, z ∈ ns := by
  refine ⟨(ns.drop (HT.sIx (ns.map V.int).length 0 lo)).take (HT.sIx (ns.map V.int).length (ns.map V.int).length hi - HT.sIx (ns.map V.int).length 0 lo), ?_, ?_, ?_⟩
  · unfold cutV
    rw [List.map_take, List.map_drop]
  · rw [List.length_take, List.length_drop]
    omega
  · intro z hz
    exact List.mem_of_mem_drop (List.mem_of_mem_take hz)
theorem int_at {ns : List Int} {i : Nat} {y : V} (h : (ns.map V.int)[i]? = some y) : ∃ z, ns[i]? = some z ∧ y = V.int z := by
  rw [List.getElem?_map] at h
  cases e : ns[i]? with
  | none => rw [e] at h; cases h
  | some z => rw [e] at h; exact ⟨z, rfl, (Option.some.inj h).symm⟩
theorem Same.new {p : Addr} {o : HO} (h : H p = none) : Same H (upd H p o) := fun b u e => by rw [upd_ne (ne_of_none e h)]; exact e
/-- an object that was not there at H may change -/
theorem Same.mut {p : Addr} {o : HO} (s : Same H H1) (h : H p = none) : Same H (upd H1 p o) := fun b u e => by rw [upd_ne (ne_of_none e h)]; exact s b u e
end
/-- the law's promise -/
def sp_law (K : PySem.W.Frag) : Sp := fun vs H Q _ => ∃ (a : Addr) (ns : List Int), vs = [.ref a] ∧ SqL K H a (ns.map V.int) ∧ ns.length ≤ 63 ∧ ∀ H', Q (.bl true) H'
/-! ### what the top has left -/
section
open PySem.W
variable {K : Frag} {h : Heap} {mg : Str → Option Value} {x q : Str} {st : Stmt} {ps : List Str} {C : Addr}
theorem Df.mk' {f : Addr} {od an : Option Addr} {sl : Array (Option Value)} {oc kV dc pm cd ct : Value} (X : K.In h) (G : h.Ns mainGlobals mg) (a : nsIn K mainGlobals x = some (some (.ref f)))
    (l : K.lookup f = some ⟨oc, od, .func (fnOf x x (defArgs st) (defBody st) (defScope st) .none kV dc pm an cd ct), sl⟩) (c : codeIn K cd x = true) (k : keepIn K (.ref f) = true)
    (hb : ∀ (kV doc pm : Value) (an : Option Addr) (cdv ct : Value) (us : List Value), us.length = ps.length → bindArgs (PySem.W.fnOf x x (defArgs st) (defBody st) (defScope st) .none kV doc pm an cdv ct) ⟨us, []⟩ = pure (ps.zip us)) : Df K mg x st ps :=
  have F := fun_mk (st := st) l c k
  ⟨f, _, F, mg_of X G a, hb kV dc pm an cd ct⟩
theorem Mf.mk' {f : Addr} {m : Str} {od an : Option Addr} {sl : Array (Option Value)} {oc kV dc pm cd ct : Value} (a : findIn K (.ref C) m = some (some (.ref f))) (i : isFn K (.ref f) = true)
    (l : K.lookup f = some ⟨oc, od, .func (fnOf m q (defArgs st) (defBody st) (defScope st) .none kV dc pm an cd ct), sl⟩) (c : codeIn K cd q = true) (k : keepIn K (.ref f) = true)
    (hb : ∀ (kV doc pm : Value) (an : Option Addr) (cdv ct : Value) (us : List Value), us.length = ps.length → bindArgs (PySem.W.fnOf m q (defArgs st) (defBody st) (defScope st) .none kV doc pm an cdv ct) ⟨us, []⟩ = pure (ps.zip us)) : Mf K C m q st ps :=
  have F := fun_mk (st := st) l c k
  ⟨f, _, F, ⟨a, i, k⟩, F.binds hb⟩
theorem cst_of (X : K.In h) (G : h.Ns mainGlobals mg) {i : Int} {t : Tok} (a : nsIn K mainGlobals x = some (some (.int i t))) : ∃ t, mg x = some (.int i t) := ⟨t, mg_of X G a⟩
end
theorem walk_z {l : PySem.W.OpenLaw} {k : Nat} {q : Program} {loose : List Str} {XP : (Str → Option Value) → Heap → Prop} {YP : World → Heap → Prop} {d : DefRec} {K : Params → PySem.W.Frag} (hn : l.most = some 63) (hdf : d.params.defaults = []) (hk : k ≤ 60)
    (hY : ∀ (w : World) (h : Heap), YP w h → (K w.params).In h)
    (F : ∀ (w : World) (mg : Str → Option Value) (fa : Addr) (h : Heap), (K w.params).In h → h.Ns mainGlobals mg → mg d.name = some (.ref fa) →
      ∃ fd : FuncData, (∀ (s : Shared) (u : Value), BindsTo s fd ⟨[u], []⟩ [("_law_script", u)]) ∧ ∀ base : Heap, (K w.params).In base → base.Ns mainGlobals mg → FnOk l.prog w (K w.params) mg base (L2.CX l.prog w) k fa fd ["_law_script"] (sp_law (K w.params))) :
    PySem.W.WalkO q loose XP YP l.row.toRowW d [] (fun f vs => PySem.call f vs) :=
  L2.walk_of (n := 63) (k := k) (x := "_law_script") (CX := fun w => L2.CX l.prog w) (sp := fun w => sp_law (K w.params)) hn (by decide) hdf ((⟨rfl, by decide, by decide⟩ : Room 60 callerA).mono hk) hY F (fun _ _ a ns hl _ hS => ⟨a, ns, rfl, hS, hl, fun _ => rfl⟩)
    fun _ _ _ _ _ h => by
      obtain ⟨_, _, _, _, _, _, _, _, _, _, _, _, z⟩ := h
      exact z.elim
section
variable {σ : L2.St} {H : Hp} {Q : VK} {K : PySem.W.Frag} {tu tw : TS}
theorem r_seq' {a : L2.St → Hp → Prop} {b : VK} {c d : L2.St → Hp → Prop} (k : tu ⟨tw ⟨a, b, c, d⟩, b, c, d⟩ σ H) : tSeq tu tw ⟨a, b, c, d⟩ σ H := k
theorem r_isi {x : V} {a n : String} {b : Bool} (t : TyX K H x (.type a)) (h : kitB a n = some b) (k : Q (.bl b) H) : rIsi K [x, .ty n] H Q := ⟨x, .ty n, _, _, b, rfl, .ty n, t, kit_ty h, k⟩
end
end Z
namespace Z
open PySem PySem.Spec PyProof.Rows L2 Evl
/-! ### a def that is called in an except suite with the caught exception: p its object, cls its class, d its dict -/
abbrev SpE := Addr → Value → Option Addr → Sp
structure FnE (P : Program) (w : World) (K : PySem.W.Frag) (mg : Str → Option Value) (base : Heap) (k : Nat) (f : Addr) (fd : FuncData) (ps : List Str) (sp : SpE) : Prop where
  len : ∀ a c d vs H Q E, sp a c d vs H Q E → vs.length = ps.length
  run : ∀ (A : Around) (outer : List Env) (s : Shared) (H : Hp) (args : Args) (us : List Value) (vs : List V) (Q : VK) (p : Addr × Obj) (c : Value) (d : Option Addr), L2H.RoomH k A → L2H.PinOk outer H s p → Zc c d p.2 → (∃ fs, p.2.data = .fields fs) →
    Env0 P w K mg base A outer s H → BindsTo s fd args (ps.zip us) → Vals vs us → sp p.1 c d vs H Q (fun _ _ _ => False) → codeAny (model P w) A (.call (.ref f) args) (CR CX0 outer P w H s Q fun _ _ _ => False) s
theorem fn_e {P : Program} {w : World} {K : PySem.W.Frag} {mg : Str → Option Value} {base : Heap} {k : Nat} {f : Addr} {fd : FuncData} {x qual : Str} {st : Stmt} {N ps : List Str} {sp : SpE} (F : Fun K x qual st f fd) (S : FnScope N ps (defScope st))
    (len : ∀ a c d vs H Q E, sp a c d vs H Q E → vs.length = ps.length)
    (hbody : ∀ (cdv : Value) (A : Around) (outer : List Env) (s : Shared) (H : Hp) (vs : List V) (Q : VK) (p : Addr × Obj) (c : Value) (d : Option Addr), Zc c d p.2 → (∃ fs, p.2.data = .fields fs) → sp p.1 c d vs H Q (fun _ _ _ => False) →
      ∃ t, PSs (L2H.cxH CX0 P w K mg base N qual (defScope st) f cdv A outer s H (fun _ _ _ => False) p) (defBody st) t ∧ t { nx := fun _ H' => Q .non H', rt := Q } (start N vs) H) : FnE P w K mg base (k + 1) f fd ps sp := by
  obtain ⟨oc, od, kV, doc, pm, an, cdv, ct, osl, rfl, lk, hcd⟩ := F.ex
  refine ⟨len, fun A outer s H args us vs Q p c d room pin zc fl e0 bnd rel want => ?_⟩
  have grows : ∀ b o, base.get? b = some o → s.heap.get? b = some o := fun b o e => (e0.bs b o e).1
  have inK : K.In s.heap := e0.mod.kin.keeps grows
  refine codeAny_call_function room.depth (inK _ _ lk) rfl S.co S.gen rfl (PySem.W.codeRec_of inK hcd) (bnd _ _ _ _ ?_)
  refine wpAny_newFunctionEnv_cells S.kind (fun y hy => ?_) fun env he s1 frame => ?_
  · obtain ⟨n, v⟩ := y
    exact (S.par n (List.of_mem_zip hy).1).elim .inl fun q => .inr ⟨q, PySem.W.cellsFrom_some _ _ _ (.inl q)⟩
  · subst he
    obtain ⟨t, ht, hq⟩ := hbody cdv A outer s H vs Q p c d zc fl want
    have start0 := L2H.inv_startH (CX := CX0) (qual := qual) (f := f) (cd := cdv) (E := fun _ _ _ => False) S pin e0 (len _ _ _ _ _ _ _ want) rel frame
    refine ⟨(e0.mod.nolimit.keeps grows).keeps frame.toInCall.keep, codeAny_func (wpAny_mono (ht.run [] s1 (start N vs) H _ start0 hq) (fun fl s' done => ?_) fun _ _ z => z)⟩
    cases fl with
    | brk => exact done.elim fun _ z => z.elim fun _ z => z.2.elim
    | cont => exact done.elim fun _ z => z.elim fun _ z => z.2.elim
    | ret u =>
      obtain ⟨v, σ', H', J, rv, q⟩ := done
      exact ⟨v, H', J.os, J.bare, J.base, J.hok, rv, q⟩
    | next =>
      obtain ⟨σ', H', J, q⟩ := done
      exact ⟨.non, H', J.os, J.bare, J.base, J.hok, rfl, q⟩
structure En (P : Program) (w : World) (K : PySem.W.Frag) (mg : Str → Option Value) (base : Heap) (k : Nat) (x : Str) (sp : SpE) : Prop where
  ex : ∃ (f : Addr) (fd : FuncData) (ps : List Str), FnE P w K mg base k f fd ps sp ∧ mg x = some (.ref f) ∧ PySem.W.keepIn K (.ref f) = true ∧ Binds K fd ps []
theorem Df.en {P : Program} {w : World} {K : PySem.W.Frag} {mg : Str → Option Value} {base : Heap} {x : Str} {st : Stmt} {ps N : List Str} {k : Nat} {sp : SpE} (F : Df K mg x st ps) (S : FnScope N ps (defScope st)) (len : ∀ a c d vs H Q E, sp a c d vs H Q E → vs.length = ps.length)
    (hbody : ∀ (cdv : Value) (f : Addr) (A : Around) (outer : List Env) (s : Shared) (H : Hp) (vs : List V) (Q : VK) (p : Addr × Obj) (c : Value) (d : Option Addr), Zc c d p.2 → (∃ fs, p.2.data = .fields fs) → sp p.1 c d vs H Q (fun _ _ _ => False) →
      ∃ t, PSs (L2H.cxH CX0 P w K mg base N x (defScope st) f cdv A outer s H (fun _ _ _ => False) p) (defBody st) t ∧ t { nx := fun _ H' => Q .non H', rt := Q } (start N vs) H) : En P w K mg base (k + 1) x sp := by
  obtain ⟨f, fd, F1, hm, hb⟩ := F.ex
  exact ⟨f, fd, ps, fn_e F1 S len (fun cdv A outer s H vs Q p c d => hbody cdv f A outer s H vs Q p c d), hm, F1.kp, .all hb⟩
section
variable {X : Cx} {k j : Nat} {sp : SpE} {x : Str} {p q pos : Pos} {e : Expr} {es : List Expr} {t : TA} {a : Addr} {oe : Obj} {cls : Value} {d : Option Addr} {pn : List (Addr × Obj)} {Y : Cx}
/-- f(e, ..) within the suite that caught a -/
theorem pe_e (D : En Y.prog Y.w Y.K Y.mg Y.base k x sp) (hr : Room j Y.A) (hk : k ≤ j) (hz : Zc cls d oe) (hf : ∃ vs, oe.data = .fields vs) (ha : PA (Y.suite a ((a, oe) :: pn)) (e :: es) t) (hg : Gl Y x := by rfl) (hdb : (x == ("__debug__" : Str)) = false := by decide)
    (he : starEach (e :: es) Y.env = (false, eval e Y.env) :: starEach es Y.env := by rfl) (hpl : (backTo pos (starEach es Y.env)).any (·.1) = false := by rfl) :
    PE (Y.suite a ((a, oe) :: pn)) (.Call (.Name x q) (e :: es) [] pos) (fun σ H Q => t σ H fun vs H1 => sp a cls d vs H1 Q fun _ _ _ => False) := by
  obtain ⟨f, fd, ps, F, hm, kp, hb⟩ := D.ex
  refine ⟨fun pins s σ H Q I h => wpAny_Call_Name_kw (ld_glob I hg hm ?_ hdb)⟩
  refine PySem.W.callWith_K (h₀ := Y.base) I.ok.mod.kin kp (thn (ha.run pos pins s σ H _ I h) fun us s1 ⟨vs, H1, I1, r, want⟩ => ⟨I1.kIn, ?_⟩) he hpl
  have here := I1.pin (a, oe) (List.mem_append_left _ List.mem_cons_self)
  have pin : L2H.PinOk (Y.suite a ((a, oe) :: pn)).stack H1 s1 (a, oe) := ⟨here.1, here.2.1, fun m => (List.mem_cons.mp (I1.stkSub a m)).elim here.2.2.1 here.2.2.2.1, here.2.2.2.2⟩
  have nargs : us.length = ps.length := r.length.symm.trans (F.len _ _ _ _ _ _ _ want)
  have b := hb s1 us I1.kIn (by rw [List.append_nil]; exact nargs)
  rw [List.append_nil] at b
  refine wpAny_call (codeAny_mono (F.run _ (Y.suite a ((a, oe) :: pn)).stack s1 H1 ⟨us, []⟩ us vs Q (a, oe) cls d ⟨by have := hr.dp; show Y.A.depth + 3 * k + 5 < _; omega, by have := hr.un; show Y.A.units + 16 * k + 200 < _; omega⟩ pin hz hf I1.env0 b r want) fun res s' hq => ?_)
  match res, hq with
  | .error _, hq => exact hq.elim
  | .ok (.ret _), hq => exact I1.after hq
  | .ok .next, hq => exact hq.elim
  | .ok .brk, hq => exact hq.elim
  | .ok .cont, hq => exact hq.elim
/-- isinstance(e, C), e the caught one (its class without own fields) -/
def rIsP (K : PySem.W.Frag) (a : Addr) (cls : Value) (d : Option Addr) : List V → Hp → VK → Prop := fun xs H Q => ∃ (D : Addr) (c : V) (cv : Value) (b : Bool), cls = .ref D ∧ d = none ∧ ExcC K D ∧ xs = [.ref a, c] ∧ (∀ u, RelV c u → u = cv) ∧ PySem.W.kitOne K (.ref D) cv = some b ∧ Q (.bl b) H
theorem call_isP {K : PySem.W.Frag} (hK : X.K = K) (hp : (a, oe) ∈ X.pn) (hz : Zc cls d oe) (hf : ∃ vs, oe.data = .fields vs) : CallR X (.builtin "isinstance") (rIsP K a cls d) := by
  subst hK
  intro pins s σ H xs us Q I r h
  obtain ⟨D, c, cv, b, rfl, rfl, C, rfl, hcv, e, q⟩ := h
  obtain ⟨u1, u2, rfl, r1, r2⟩ := vals2 r
  cases r1
  cases hcv _ r2
  obtain ⟨fs, hv⟩ := hf
  have J : PySem.W.InstAt s.heap a oe D none := by
    have g := (I.pin (a, oe) (List.mem_append_left _ hp)).1
    cases oe
    obtain ⟨z1, z2⟩ := hz
    cases z1; cases z2; cases hv
    exact ⟨g, rfl, rfl, trivial⟩
  exact PySem.W.kia_one (PySem.W.handS_kitx_exc C.hg C.hk C.hs C.hd C.ha C.hn C.ht C.hm) I.kIn J e (fun z => nomatch z) fun tk => ⟨.bl b, H, I.tok tk, rfl, q⟩
end
end Z
namespace Z
open PySem PySem.Spec PyProof.Rows L2 Evl
/-! ### refusals: own exception classes without own fields -/
structure ExD (K : PySem.W.Frag) (B D : Addr) : Prop where
  q : PySem.W.excIn K D [.type "ValueError", .type "Exception", .type "BaseException", .type "object"] "ValueError.__new__" = true
  k : PySem.W.keepIn K (.ref D) = true
  b : PySem.W.subIn K (.ref D) (.type "BaseException") = some true
  t : PySem.W.typeIn K (.ref D) = some (.type "type")
  c : ExcC K D
  m : PySem.W.exmOne K (.ref D) (.ref B) = some true
theorem pmk_o {X : Cx} {x m : Str} {C B : Addr} {j : Nat} {p p2 pos : Pos} (E : ExD X.K B C) (gC : X.mg x = some (.ref C)) (hg : Gl X x := by rfl) (hdb : (x == ("__debug__" : Str)) = false := by decide) :
    PMk X (.Call (.Name x p) [.Constant (.str m) j p2] [] pos) (fun _ H Q => Q (.ref C) none H) := pmk_own PySem.F.excBase_ValueError E.q gC E.k (raises_own E.b E.t) hg hdb
/-! ### things of any kind -/
def objK : Option HO → String
  | some (.lst _) => "list"
  | some (.tup _) => "tuple"
  | some (.dK _) => "dict"
  | some (.dT _) => "dict"
  | some (.frz _ (.lst _)) => "list"
  | _ => "?"
def kindV (H : Hp) : V → String
  | .non => "NoneType"
  | .bl _ => "bool"
  | .int _ => "int"
  | .str _ => "str"
  | .ref a => objK (H a)
  | _ => "?"
/-- a thing whose kind is known -/
def AnyV (H : Hp) (x : V) : Prop := kindV H x ≠ "?"
def wholeV : V → Bool
  | .int _ => true
  | _ => false
def boolV : V → Bool
  | .bl _ => true
  | _ => false
theorem AnyV.elim {H : Hp} {x : V} {C : Prop} (h : AnyV H x) (non : x = .non → C) (bl : ∀ b, x = .bl b → C) (int : ∀ i, x = .int i → C) (str : ∀ z, x = .str z → C) (lst : ∀ a xs, x = .ref a → H a = some (.lst xs) → C) (frz : ∀ a o xs, x = .ref a → H a = some (.frz o (.lst xs)) → C)
    (tup : ∀ a xs, x = .ref a → H a = some (.tup xs) → C) (dK : ∀ a xs, x = .ref a → H a = some (.dK xs) → C) (dT : ∀ a xs, x = .ref a → H a = some (.dT xs) → C) : C := by
  cases x with
  | non => exact non rfl
  | bl b => exact bl b rfl
  | int i => exact int i rfl
  | str z => exact str z rfl
  | byt b => exact (h rfl).elim
  | flt b => exact (h rfl).elim
  | ty n => exact (h rfl).elim
  | ref a =>
    have h' : objK (H a) ≠ "?" := h
    cases e : H a with
    | none => rw [e] at h'; exact (h' rfl).elim
    | some o =>
      rw [e] at h'
      cases o with
      | lst xs => exact lst a xs rfl e
      | tup xs => exact tup a xs rfl e
      | dK xs => exact dK a xs rfl e
      | dT xs => exact dT a xs rfl e
      | frz o u =>
        cases u with
        | lst xs => exact frz a o xs rfl e
        | _ => exact (h' rfl).elim
      | _ => exact (h' rfl).elim
theorem kind_ref {H : Hp} {a : Addr} {o : HO} (e : H a = some o) : kindV H (.ref a) = objK (some o) := by
  show objK (H a) = _
  rw [e]
theorem AnyV.ty {K : PySem.W.Frag} {H : Hp} {x : V} (h : AnyV H x) : TyX K H x (.type (kindV H x)) := by
  refine h.elim ?_ ?_ ?_ ?_ ?_ ?_ ?_ ?_ ?_
  · rintro rfl; exact .base .non
  · rintro b rfl; exact .base (.bl b)
  · rintro b rfl; exact .base (.int b)
  · rintro b rfl; exact .base (.str b)
  · rintro a xs rfl e; rw [kind_ref e]; exact .base (.lst e)
  · rintro a o xs rfl e; rw [kind_ref e]; exact .base (.frz e)
  · rintro a xs rfl e; rw [kind_ref e]; exact .base (.tup e)
  · rintro a xs rfl e; rw [kind_ref e]; exact .base (.dK e)
  · rintro a xs rfl e; rw [kind_ref e]; exact .base (.dT e)
theorem kit_int {H : Hp} {x : V} (h : AnyV H x) : kitB (kindV H x) "int" = some (wholeV x || boolV x) := by
  refine h.elim ?_ ?_ ?_ ?_ ?_ ?_ ?_ ?_ ?_
  · rintro rfl; rfl
  · rintro b rfl; rfl
  · rintro b rfl; rfl
  · rintro b rfl; rfl
  · rintro a xs rfl e; rw [kind_ref e]; rfl
  · rintro a o xs rfl e; rw [kind_ref e]; rfl
  · rintro a xs rfl e; rw [kind_ref e]; rfl
  · rintro a xs rfl e; rw [kind_ref e]; rfl
  · rintro a xs rfl e; rw [kind_ref e]; rfl
theorem kit_bool {H : Hp} {x : V} (h : AnyV H x) : kitB (kindV H x) "bool" = some (boolV x) := by
  refine h.elim ?_ ?_ ?_ ?_ ?_ ?_ ?_ ?_ ?_
  · rintro rfl; rfl
  · rintro b rfl; rfl
  · rintro b rfl; rfl
  · rintro b rfl; rfl
  · rintro a xs rfl e; rw [kind_ref e]; rfl
  · rintro a o xs rfl e; rw [kind_ref e]; rfl
  · rintro a xs rfl e; rw [kind_ref e]; rfl
  · rintro a xs rfl e; rw [kind_ref e]; rfl
  · rintro a xs rfl e; rw [kind_ref e]; rfl
section
variable {H : Hp} {Q : VK} {K : PySem.W.Frag} {x : V}
theorem r_isi_int (h : AnyV H x) (k : Q (.bl (wholeV x || boolV x)) H) : rIsi K [x, .ty "int"] H Q := r_isi h.ty (kit_int h) k
theorem r_isi_bool (h : AnyV H x) (k : Q (.bl (boolV x)) H) : rIsi K [x, .ty "bool"] H Q := r_isi h.ty (kit_bool h) k
end
theorem p2_48 {H : Hp} {Q : VK} (k : Q (.int 281474976710656) H) : rI CPow (fun i j => .int (i ^ j.toNat)) (.int 2) (.int 48) H Q := ⟨2, 48, rfl, rfl, ⟨by decide, by decide, by decide⟩, k⟩
theorem p2_40 {H : Hp} {Q : VK} (k : Q (.int 1099511627776) H) : rI CPow (fun i j => .int (i ^ j.toNat)) (.int 2) (.int 40) H Q := ⟨2, 40, rfl, rfl, ⟨by decide, by decide, by decide⟩, k⟩
theorem p10_60 {H : Hp} {Q : VK} (k : Q (.int 1000000000000000000000000000000000000000000000000000000000000) H) : rI CPow (fun i j => .int (i ^ j.toNat)) (.int 10) (.int 60) H Q := ⟨10, 60, rfl, rfl, ⟨by decide, by decide, by decide⟩, k⟩
theorem p10_59 {H : Hp} {Q : VK} (k : Q (.int 100000000000000000000000000000000000000000000000000000000000) H) : rI CPow (fun i j => .int (i ^ j.toNat)) (.int 10) (.int 59) H Q := ⟨10, 59, rfl, rfl, ⟨by decide, by decide, by decide⟩, k⟩
theorem p10_30 {H : Hp} {Q : VK} (k : Q (.int 1000000000000000000000000000000) H) : rI CPow (fun i j => .int (i ^ j.toNat)) (.int 10) (.int 30) H Q := ⟨10, 30, rfl, rfl, ⟨by decide, by decide, by decide⟩, k⟩
/-- a list of truths -/
theorem dpAll_bools {K : PySem.W.Frag} {H : Hp} : ∀ bs : List Bool, DpAll K H (bs.map V.bl) (bs.map PyData.bool)
  | [] => .nil
  | b :: bs => .cons (.bl b) (dpAll_bools bs)
theorem dpAll_ints {K : PySem.W.Frag} {H : Hp} : ∀ ns : List Int, DpAll K H (ns.map V.int) (ns.map PyData.int)
  | [] => .nil
  | b :: bs => .cons (.int b) (dpAll_ints bs)
theorem sh_bools (bs : List Bool) : SeqAt.shaped (.list (bs.map PyData.bool)) = true := by
  have h1 : ∀ bs : List Bool, PyData.canLayAll0 (bs.map PyData.bool) = true := fun bs => by
    induction bs with
    | nil => rfl
    | cons b bs ih => simp [PyData.canLayAll0, PyData.canLay0, ih]
  have h2 : ∀ bs : List Bool, PyData.depthAll (bs.map PyData.bool) ≤ 1 := fun bs => by
    induction bs with
    | nil => simp [PyData.depthAll]
    | cons b bs ih => simp [PyData.depthAll, PyData.depth]; omega
  have h3 := h2 bs
  simp [SeqAt.shaped, PyData.canLay0, PyData.depth, h1]
  omega
end Z
namespace Z
open PySem PySem.Spec PyProof.Rows L2 Evl
section
variable {σ : L2.St} {H : Hp} {ta tb : TE} {K : PySem.W.Frag} {a : Addr} {xs ys : List V} {cls : Value} {d : Option Addr} {v : V} {i : Nat}
theorem el_cat (ha : Ev ta σ H (.ref a)) (h : H a = some (.lst xs)) (hb : EvL tb σ H ys) (hl : xs.length + ys.length ≤ 100000) : EvL (tOp rCat ta tb) σ H (xs ++ ys) := fun H1 e Q q =>
  ha H1 e _ fun H2 e2 => hb H2 (e.trans e2) _ fun p H3 hp e3 h3 => ⟨a, p, xs, ys, rfl, rfl, (e.trans e2).trans e3 _ _ h, h3, sz_of hl, fun r nr => q r _ (fresh_back (e2.trans e3) nr) ((e2.trans e3).trans (Ex.new nr)) upd_same⟩
theorem el_cat2 (ha : EvL ta σ H xs) (hb : EvL tb σ H ys) (hl : xs.length + ys.length ≤ 100000) : EvL (tOp rCat ta tb) σ H (xs ++ ys) := fun H1 e Q q =>
  ha H1 e _ fun p H2 hp e2 h2 => hb H2 (e.trans e2) _ fun r H3 hr e3 h3 => ⟨p, r, xs, ys, rfl, rfl, e3 _ _ h2, h3, sz_of hl, fun z nz => q z _ (fresh_back (e2.trans e3) nz) ((e2.trans e3).trans (Ex.new nz)) upd_same⟩
theorem el_rep {k : Int} (ha : EvL ta σ H xs) (hb : Ev tb σ H (.int k)) (h0 : 0 ≤ k) (h1 : k < 1000) (hl : xs.length * k.toNat ≤ 100000) : EvL (tOp rRep ta tb) σ H (List.replicate k.toNat xs).flatten := fun H1 e Q q =>
  ha H1 e _ fun p H2 hp e2 h2 => hb H2 (e.trans e2) _ fun H3 e3 => ⟨p, k, xs, rfl, rfl, e3 _ _ h2, by omega, by omega, sz_of hl, fun z nz => q z _ (fresh_back (e2.trans e3) nz) ((e2.trans e3).trans (Ex.new nz)) upd_same⟩
theorem ev_isP {C : Value} {c : V} {D : Addr} {b : Bool} {tc : TE} (hC : ExcC K D) (h : PySem.W.kitOne K (.ref D) C = some b) (he : Ev ta σ H (.ref a) := by exact ev_var rfl) (hc : Ev tc σ H c := by exact ev_c) (hv : ∀ u, RelV c u → u = C := by intro u r; exact r) :
    Ev (tCB (rIsP K a (.ref D) none) (tCons ta (tCons tc tNil))) σ H (.bl b) :=
  ev_cb (ea_cons he (ea_cons hc ea_nil)) fun H1 _ _ q => ⟨D, c, C, b, rfl, rfl, hC, rfl, hv, h, q H1 (Ex.refl H1)⟩
end
end Z
namespace Z
open PySem PySem.Spec PyProof.Rows L2 Evl
theorem atI_mod {xs : List V} {c m : Int} (hm : (xs.length : Int) = m) (h0 : 0 < m) : ∃ v, atI xs (c % m) = some v ∧ v ∈ xs := by
  have h1 := Int.emod_nonneg c (by omega : m ≠ 0)
  have h2 := Int.emod_lt_of_pos c h0
  have hl : (c % m).toNat < xs.length := by omega
  refine ⟨xs[(c % m).toNat], ?_, List.getElem_mem hl⟩
  have e := atI_nat (xs := xs) (j := (c % m).toNat) (v := xs[(c % m).toNat]) (List.getElem?_eq_getElem hl)
  rwa [Int.toNat_of_nonneg h1] at e
theorem r_ixL {K : PySem.W.Frag} {H : Hp} {Q : VK} {a : Addr} {xs : List V} {i : Int} {v : V} (hS : SqL K H a xs) (h : atI xs i = some v) (k : Q v H) : rIxL K (.ref a) (.int i) H Q := ⟨a, xs, i, v, rfl, rfl, hS, h, k⟩
theorem r_ixT {K : PySem.W.Frag} {H : Hp} {Q : VK} {a : Addr} {xs : List V} {i : Int} {v : V} (hS : SqT K H a xs) (h : atI xs i = some v) (k : Q v H) : rIxT K (.ref a) (.int i) H Q := ⟨a, xs, i, v, rfl, rfl, hS, h, k⟩
theorem AnyV.mono {H H' : Hp} {x : V} (h : AnyV H x) (e : Ex H H') : AnyV H' x := by
  unfold AnyV at h ⊢
  cases x with
  | ref a =>
    have h' : objK (H a) ≠ "?" := h
    show objK (H' a) ≠ "?"
    cases q : H a with
    | none => rw [q] at h'; exact (h' rfl).elim
    | some o => rw [e a o q]; rw [q] at h'; exact h'
  | _ => exact h
theorem AnyV.lst {H : Hp} {a : Addr} {xs : List V} (h : H a = some (.lst xs)) : AnyV H (.ref a) := by
  show objK (H a) ≠ "?"; rw [h]; exact (by decide : ("list" : String) ≠ "?")
theorem AnyV.tup {H : Hp} {a : Addr} {xs : List V} (h : H a = some (.tup xs)) : AnyV H (.ref a) := by
  show objK (H a) ≠ "?"; rw [h]; exact (by decide : ("tuple" : String) ≠ "?")
theorem AnyV.dK {H : Hp} {a : Addr} {xs : List (Key × V)} (h : H a = some (.dK xs)) : AnyV H (.ref a) := by
  show objK (H a) ≠ "?"; rw [h]; exact (by decide : ("dict" : String) ≠ "?")
theorem AnyV.non {H : Hp} : AnyV H .non := by show "NoneType" ≠ "?"; decide
theorem AnyV.bl {H : Hp} {b : Bool} : AnyV H (.bl b) := by show "bool" ≠ "?"; decide
theorem AnyV.int {H : Hp} {b : Int} : AnyV H (.int b) := by show "int" ≠ "?"; decide
theorem AnyV.str {H : Hp} {b : Str} : AnyV H (.str b) := by show "str" ≠ "?"; decide
theorem whole_not {x : V} (h : (wholeV x || boolV x) = true) : (!boolV x) = wholeV x := by cases x <;> first | rfl | cases h
theorem whole_no {x : V} (h : (wholeV x || boolV x) = false) : wholeV x = false := by cases x <;> first | rfl | cases h
theorem whole_int {x : V} (h : wholeV x = true) : ∃ i, x = .int i := by
  cases x with
  | int i => exact ⟨i, rfl⟩
  | _ => exact nomatch h
def wordV : V → Bool
  | .int i => decide (0 ≤ i) && decide (i < 281474976710656)
  | _ => false
theorem word_no {x : V} (h : wholeV x = false) : wordV x = false := by
  cases x with
  | int i => exact nomatch h
  | _ => rfl
end Z
namespace Z
theorem r_ntb {b : Bool} {A B : Prop} (h : b = true) (k : B) : if (!b) = true then A else B := by rw [if_neg (by rw [h]; decide)]; exact k
theorem r_nfb {b : Bool} {A B : Prop} (h : b = false) (k : A) : if (!b) = true then A else B := by rw [if_pos (by rw [h]; decide)]; exact k
end Z
namespace Z
open PySem PySem.Spec PyProof.Rows L2 Evl
section
variable {K : PySem.W.Frag} {H : Hp} {Q : VK} {σ : L2.St} {te : TE} {a b l : Addr} {xs ys : List V}
theorem r_isP {C : Value} {c : V} {D : Addr} {z : Bool} (hC : ExcC K D) (h : PySem.W.kitOne K (.ref D) C = some z) (hv : ∀ u, RelV c u → u = C) (k : Q (.bl z) H) : rIsP K a (.ref D) none [.ref a, c] H Q := ⟨D, c, C, z, rfl, rfl, hC, rfl, hv, h, k⟩
theorem r_cat (h1 : H l = some (.lst xs)) (h2 : H b = some (.lst ys)) (hl : xs.length + ys.length ≤ 100000) (k : ∀ p H2, H p = none → Ex H H2 → H2 p = some (.lst (xs ++ ys)) → Q (.ref p) H2) : rCat (.ref l) (.ref b) H Q := ⟨l, b, xs, ys, rfl, rfl, h1, h2, sz_of hl, fun p n => k p _ n (Ex.new n) upd_same⟩
theorem r_rep {m : Int} (h1 : H l = some (.lst xs)) (h0 : 0 ≤ m) (hm : m < 1000) (hl : xs.length * m.toNat ≤ 100000) (k : ∀ p H2, H p = none → Ex H H2 → H2 p = some (.lst (List.replicate m.toNat xs).flatten) → Q (.ref p) H2) : rRep (.ref l) (.int m) H Q := ⟨l, m, xs, rfl, rfl, h1, by omega, by omega, sz_of hl, fun p n => k p _ n (Ex.new n) upd_same⟩
theorem evl_use (h : EvL te σ H xs) (k : ∀ p H2, H p = none → Ex H H2 → H2 p = some (.lst xs) → Q (.ref p) H2) : te σ H Q := h H (Ex.refl H) Q k
theorem eqvAll_bools : ∀ bs cs : List Bool, PyData.eqvAll (bs.map PyData.bool) (cs.map PyData.bool) = decide (bs = cs)
  | [], [] => rfl
  | [], c :: cs => rfl
  | b :: bs, [] => rfl
  | b :: bs, c :: cs => by
    show (PyData.eqv (.bool b) (.bool c) && PyData.eqvAll (bs.map PyData.bool) (cs.map PyData.bool)) = _
    rw [eqvAll_bools bs cs]
    show ((b == c) && decide (bs = cs)) = decide (b :: bs = c :: cs)
    by_cases h1 : b = c
    · subst h1; by_cases h2 : bs = cs
      · subst h2; simp
      · simp [h2]
    · simp [h1]
theorem r_eqBs {bs cs : List Bool} (h1 : SqL K H a (bs.map V.bl)) (h2 : SqL K H b (cs.map V.bl)) (k : Q (.bl (decide (bs = cs))) H) : rEqD K (.ref a) (.ref b) H Q := by
  refine ⟨.list (bs.map PyData.bool), .list (cs.map PyData.bool), .lst h1 (dpAll_bools _), .lst h2 (dpAll_bools _), sh_bools _, sh_bools _, ?_⟩
  show Q (.bl (PyData.eqvAll _ _)) H
  rw [eqvAll_bools]
  exact k
end
end Z
namespace Z
open PySem PySem.Spec PyProof.Rows L2 Evl
section
variable {H : Hp} {Q : VK} {σ : L2.St}
/-- a new object o, then Q -/
def NewO (Q : VK) (H : Hp) (o : HO) : Prop := ∀ p, H p = none → Q (.ref p) (upd H p o)
theorem r_new {o : HO} (k : ∀ p H2, H p = none → Ex H H2 → H2 p = some o → Q (.ref p) H2) : NewO Q H o := fun p n => k p _ n (Ex.new n) upd_same
theorem r_tup {tr : TA} (k : tr σ H fun xs H1 => xs.length ≤ sizeLine ∧ NewO Q H1 (.tup xs)) : tTup tr σ H Q := k
theorem r_lst {tr : TA} (k : tr σ H fun xs H1 => xs.length ≤ sizeLine ∧ NewO Q H1 (.lst xs)) : tLst tr σ H Q := k
theorem r_dnew (k : ∀ p H2, H p = none → Ex H H2 → H2 p = some (.dK []) → Q (.ref p) H2) : tDNewK σ H Q := fun p n => k p _ n (Ex.new n) upd_same
theorem r_szA {n : Nat} {R : Prop} (h : Nat.ble n 100000 = true) (k : R) : n ≤ sizeLine ∧ R := ⟨sz_of (Nat.le_of_ble_eq_true h), k⟩
end
end Z
namespace Z
open PySem PySem.Spec PyProof.Rows L2 Evl
theorem r_len {K : PySem.W.Frag} {H : Hp} {Q : VK} {a : Addr} {xs : List V} (h : SqL K H a xs) (k : Q (.int (xs.length : Int)) H) : (fun (vs : List V) (H : Hp) (Q : VK) => ∃ p ys, vs = [.ref p] ∧ (SqL K H p ys ∨ SqT K H p ys) ∧ Q (.int ys.length) H) [.ref a] H Q := ⟨a, xs, rfl, .inl h, k⟩
end Z
namespace Z
open PySem PySem.Spec PyProof.Rows L2 Evl
/-! ### bits of words -/
theorem bXor {x y : Int} (hx : 0 ≤ x) (hy : 0 ≤ y) : Builtin.bitXor x y = ((x.toNat ^^^ y.toNat : Nat) : Int) := Bits.bitXor_pp hx hy
theorem bOr {x y : Int} (hx : 0 ≤ x) (hy : 0 ≤ y) : Builtin.bitOr x y = ((x.toNat ||| y.toNat : Nat) : Int) := Bits.bitOr_pp hx hy
theorem bAnd {x y : Int} (hx : 0 ≤ x) (hy : 0 ≤ y) : Builtin.bitAnd x y = ((x.toNat &&& y.toNat : Nat) : Int) := bitAnd_pp hx hy
theorem half_nat (x : Int) (hx : 0 ≤ x) : (x / 2).toNat = x.toNat / 2 := by omega
theorem and_half {x y : Int} (hx : 0 ≤ x) (hy : 0 ≤ y) : Builtin.bitAnd x y / 2 = Builtin.bitAnd (x / 2) (y / 2) := by
  rw [bAnd hx hy, bAnd (by omega) (by omega), half_nat x hx, half_nat y hy, ← Nat.and_div_two]
  omega
theorem and_low {x y : Int} (hx : 0 ≤ x) (hy : 0 ≤ y) : Builtin.bitAnd x y % 2 = x % 2 * (y % 2) := by
  rw [bAnd hx hy]
  have h := @Nat.and_mod_two_eq_one x.toNat y.toNat
  have a1 : x % 2 = 0 ∨ x % 2 = 1 := by omega
  have a2 : y % 2 = 0 ∨ y % 2 = 1 := by omega
  rcases a1 with a1 | a1 <;> rcases a2 with a2 | a2 <;> rw [a1, a2] <;> omega
theorem xor_half {x y : Int} (hx : 0 ≤ x) (hy : 0 ≤ y) : Builtin.bitXor x y / 2 = Builtin.bitXor (x / 2) (y / 2) := by
  rw [bXor hx hy, bXor (by omega) (by omega), half_nat x hx, half_nat y hy, ← Nat.xor_div_two]
  omega
theorem xor_low {x y : Int} (hx : 0 ≤ x) (hy : 0 ≤ y) : Builtin.bitXor x y % 2 = (x + y) % 2 := by
  rw [bXor hx hy]
  have h : (x.toNat ^^^ y.toNat) % 2 = ((x.toNat % 2) ^^^ (y.toNat % 2)) := @Nat.xor_mod_two_pow x.toNat y.toNat 1
  have a1 : x.toNat % 2 = 0 ∨ x.toNat % 2 = 1 := by omega
  have a2 : y.toNat % 2 = 0 ∨ y.toNat % 2 = 1 := by omega
  rcases a1 with a1 | a1 <;> rcases a2 with a2 | a2 <;> rw [a1, a2] at h <;> simp only [Nat.xor_self, Nat.xor_zero, Nat.zero_xor] at h <;> omega
theorem bAnd0 {x y : Int} (hx : 0 ≤ x) (hy : 0 ≤ y) : 0 ≤ Builtin.bitAnd x y := by rw [bAnd hx hy]; omega
theorem bXor0 {x y : Int} (hx : 0 ≤ x) (hy : 0 ≤ y) : 0 ≤ Builtin.bitXor x y := by rw [bXor hx hy]; omega
theorem bOr0 {x y : Int} (hx : 0 ≤ x) (hy : 0 ≤ y) : 0 ≤ Builtin.bitOr x y := by rw [bOr hx hy]; omega
theorem atI_int {ns : List Int} {i : Int} (h0 : -(ns.length : Int) ≤ i) (h1 : i < ns.length) : ∃ z, atI (ns.map V.int) i = some (.int z) ∧ z ∈ ns := by
  by_cases c : 0 ≤ i
  · have hl : i.toNat < ns.length := by omega
    have e := atI_nat (xs := ns.map V.int) (j := i.toNat) (v := .int ns[i.toNat]) (by simp [List.getElem?_eq_getElem hl])
    rw [Int.toNat_of_nonneg c] at e
    exact ⟨_, e, List.getElem_mem hl⟩
  · have hl : (i + ns.length).toNat < ns.length := by omega
    refine ⟨ns[(i + ns.length).toNat], ?_, List.getElem_mem hl⟩
    unfold atI ixN
    rw [List.length_map, if_neg c, if_pos h0]
    simp [List.getElem?_eq_getElem hl]
theorem atI_intN {ns : List Int} {i : Nat} {z : Int} (h : ns[i]? = some z) : atI (ns.map V.int) (i : Int) = some (.int z) := atI_nat (by rw [List.getElem?_map, h]; rfl)
theorem get_lt {α : Type} {xs : List α} {i : Nat} (h : i < xs.length) : ∃ z, xs[i]? = some z ∧ z ∈ xs := ⟨xs[i], List.getElem?_eq_getElem h, List.getElem_mem h⟩
end Z
namespace Z
open PySem PySem.Spec PyProof.Rows L2 Evl
/-! ### comprehensions -/
section
variable {σ : L2.St} {H : Hp} {Q : VK} {K : PySem.W.Frag} {wi : TI} {g : TG} {tt : TT} {te : TE} {vs : List Nat} {a : Addr} {xs : List V} {j : Nat}
def LcW (J : It) (g : TG) (tt : TT) (te : TE) (vs : List Nat) (σ : L2.St) (H1 : Hp) (Q : VK) : Prop := ∀ D, H1 D = none → ∃ W : Nat → Nat → Hp → Prop, (∃ m, W 0 m (upd H1 D (.lst []))) ∧ ∀ i m H, W i m H →
  (J.stop i H ∧ Q (.ref D) H) ∨ (J.go i H ∧ ∃ Nx : Hp → Prop, (∀ H', Nx H' → ∃ m', m' < m ∧ W (i + 1) m' H') ∧ ∀ x H', J.yld i H x H' → g x (wipe σ vs) H' fun σ2 H2 => wipe σ2 vs = wipe σ vs ∧ tt σ2 H2 fun b H3 =>
    if b = true then te σ2 H3 fun y H4 => ∃ acc, H4 D = some (.lst acc) ∧ acc.length < sizeLine ∧ Nx (upd H4 D (.lst (acc ++ [y]))) else Nx H3)
theorem r_lc (k : wi σ H fun J H1 => LcW J g tt te vs σ H1 Q) : tLc wi g tt te vs σ H Q := k
/-- all that stood stands, but at D -/
def ExB (D : Addr) (H H' : Hp) : Prop := ∀ b o, b ≠ D → H b = some o → H' b = some o
structure LcP (R : Addr → Nat → V → Hp → Prop) (H : Hp) (D : Addr) (i : Nat) (H' : Hp) : Prop where
  ex : ∃ ys, H' D = some (.lst ys) ∧ ys.length = i ∧ ∀ n y, ys[n]? = some y → R D n y H'
  same : Ex H H'
theorem LcP.start {R : Addr → Nat → V → Hp → Prop} {D : Addr} (n : H D = none) : LcP R H D 0 (upd H D (.lst [])) := ⟨⟨[], upd_same, rfl, fun n y e => by simp at e⟩, Ex.new n⟩
theorem LcP.more {R : Addr → Nat → V → Hp → Prop} {D : Addr} {i : Nat} {H1 H4 : Hp} {y : V} (st : ∀ D i y H1 H2, R D i y H1 → ExB D H1 H2 → R D i y H2) (n : H D = none) (p : LcP R H D i H1) (e : Ex H1 H4) (r : R D i y H4) (hi : i < 100000) :
    ∃ acc, H4 D = some (.lst acc) ∧ acc.length < sizeLine ∧ LcP R H D (i + 1) (upd H4 D (.lst (acc ++ [y]))) := by
  obtain ⟨⟨ys, h1, h2, h3⟩, s⟩ := p
  have up : ExB D H4 (upd H4 D (.lst (ys ++ [y]))) := fun b o nb h => by rw [upd_ne nb]; exact h
  refine ⟨ys, e _ _ h1, sz_lt (by omega), ⟨ys ++ [y], upd_same, by simp [h2], fun m z hz => ?_⟩, (s.trans e).mut n⟩
  by_cases c : m < ys.length
  · rw [List.getElem?_append_left c] at hz
    exact st _ _ _ _ _ (st _ _ _ _ _ (h3 m z hz) fun b o _ h => e b o h) up
  · rw [List.getElem?_append_right (by omega)] at hz
    have em : m = i := by
      have := (List.getElem?_eq_some_iff.mp hz).1
      simp at this
      omega
    subst em
    rw [show m - ys.length = 0 by omega] at hz
    cases hz
    exact st _ _ _ _ _ r up
theorem r_lcG (hS : SqL K H a xs) (hl : xs.length ≤ 100000) (R : Addr → Nat → V → Hp → Prop) (st : ∀ D i y H1 H2, R D i y H1 → ExB D H1 H2 → R D i y H2) (hw : ∀ x, wipe ((wipe σ vs).set j (some x)) vs = wipe σ vs)
    (hs : ∀ D i x H', H D = none → (∃ ys, H' D = some (.lst ys)) → xs[i]? = some x → Ex H H' → ∀ Qk : VK, (∀ y H4, Ex H' H4 → R D i y H4 → Qk y H4) → te ((wipe σ vs).set j (some x)) H' Qk)
    (k : ∀ D ys H5, H D = none → Ex H H5 → H5 D = some (.lst ys) → ys.length = xs.length → (∀ i y, ys[i]? = some y → R D i y H5) → Q (.ref D) H5) :
    ∃ b, V.ref a = .ref b ∧ (∃ xs, SqL K H b xs) ∧ LcW (Itl K b) (gName j) tYes te vs σ H Q := by
  refine ⟨a, rfl, ⟨_, hS⟩, fun D n => lc_list (K := K) (a := a) (xs := xs) (LcP R H D) (LcP.start n) (fun i H' _ p => Same.seq p.same hS) (fun i x H' hx p => ?_) (fun H' p => ?_)⟩
  · refine ⟨hw x, ?_⟩
    refine (show if (true : Bool) = true then te ((wipe σ vs).set j (some x)) H' (fun y H4 => ∃ acc, H4 D = some (.lst acc) ∧ acc.length < sizeLine ∧ LcP R H D (i + 1) (upd H4 D (.lst (acc ++ [y])))) else LcP R H D (i + 1) H' from r_tt ?_)
    have hi : i < 100000 := by have := (List.getElem?_eq_some_iff.mp hx).1; omega
    obtain ⟨ys, q, _⟩ := p.ex
    exact hs D i x H' n ⟨ys, q⟩ hx p.same _ fun y H4 e r => p.more st n e r hi
  · obtain ⟨⟨ys, h1, h2, h3⟩, s⟩ := p
    exact k D ys H' n s h1 h2 h3
theorem r_lcRG {m : Int} {n : Nat} (hm : m = n) (hl : n ≤ 100000) (R : Addr → Nat → V → Hp → Prop) (st : ∀ D i y H1 H2, R D i y H1 → ExB D H1 H2 → R D i y H2) (hw : ∀ x, wipe ((wipe σ vs).set j (some x)) vs = wipe σ vs)
    (hs : ∀ D (i : Nat) H', H D = none → (∃ ys, H' D = some (.lst ys)) → i < n → Ex H H' → ∀ Qk : VK, (∀ y H4, Ex H' H4 → R D i y H4 → Qk y H4) → te ((wipe σ vs).set j (some (.int (i : Int)))) H' Qk)
    (k : ∀ D ys H5, H D = none → Ex H H5 → H5 D = some (.lst ys) → ys.length = n → (∀ i y, ys[i]? = some y → R D i y H5) → Q (.ref D) H5) :
    ∃ j' : Int, [V.int m] = [.int j'] ∧ -(2 ^ 62) ≤ j' ∧ j' < 2 ^ 62 ∧ LcW (Itr 0 j'.toNat) (gName j) tYes te vs σ H Q := by
  subst hm
  refine ⟨_, rfl, by omega, by omega, ?_⟩
  rw [Int.toNat_natCast]
  refine fun D nD => lc_range (lo := 0) (LcP R H D) (LcP.start nD) (fun i H' hi p => ?_) (fun H' p => ?_)
  · refine ⟨hw _, ?_⟩
    refine (show if (true : Bool) = true then te ((wipe σ vs).set j (some (.int (0 + (i : Int))))) H' (fun y H4 => ∃ acc, H4 D = some (.lst acc) ∧ acc.length < sizeLine ∧ LcP R H D (i + 1) (upd H4 D (.lst (acc ++ [y])))) else LcP R H D (i + 1) H' from r_tt ?_)
    rw [Int.zero_add]
    obtain ⟨ys, q, _⟩ := p.ex
    exact hs D i H' nD ⟨ys, q⟩ hi p.same _ fun y H4 e r => p.more st nD e r (by omega)
  · obtain ⟨⟨ys, h1, h2, h3⟩, s⟩ := p
    exact k D ys H' nD s h1 h2 h3
/-- .. whose elements are values that hang on nothing -/
theorem r_lcP (hS : SqL K H a xs) (hl : xs.length ≤ 100000) (R : Nat → V → Prop) (hw : ∀ x, wipe ((wipe σ vs).set j (some x)) vs = wipe σ vs)
    (hs : ∀ D i x H', H D = none → (∃ ys, H' D = some (.lst ys)) → xs[i]? = some x → Ex H H' → ∀ Qk : VK, (∀ y H4, Ex H' H4 → R i y → Qk y H4) → te ((wipe σ vs).set j (some x)) H' Qk)
    (k : ∀ D ys H5, H D = none → Ex H H5 → H5 D = some (.lst ys) → ys.length = xs.length → (∀ i y, ys[i]? = some y → R i y) → Q (.ref D) H5) :
    ∃ b, V.ref a = .ref b ∧ (∃ xs, SqL K H b xs) ∧ LcW (Itl K b) (gName j) tYes te vs σ H Q :=
  r_lcG hS hl (fun _ i y _ => R i y) (fun _ _ _ _ _ r _ => r) hw hs k
theorem r_lcRP {m : Int} {n : Nat} (hm : m = n) (hl : n ≤ 100000) (R : Nat → V → Prop) (hw : ∀ x, wipe ((wipe σ vs).set j (some x)) vs = wipe σ vs)
    (hs : ∀ D (i : Nat) H', H D = none → (∃ ys, H' D = some (.lst ys)) → i < n → Ex H H' → ∀ Qk : VK, (∀ y H4, Ex H' H4 → R i y → Qk y H4) → te ((wipe σ vs).set j (some (.int (i : Int)))) H' Qk)
    (k : ∀ D ys H5, H D = none → Ex H H5 → H5 D = some (.lst ys) → ys.length = n → (∀ i y, ys[i]? = some y → R i y) → Q (.ref D) H5) :
    ∃ j' : Int, [V.int m] = [.int j'] ∧ -(2 ^ 62) ≤ j' ∧ j' < 2 ^ 62 ∧ LcW (Itr 0 j'.toNat) (gName j) tYes te vs σ H Q :=
  r_lcRG hm hl (fun _ i y _ => R i y) (fun _ _ _ _ _ r _ => r) hw hs k
/-- all ints -/
theorem all_ints : ∀ {ys : List V} {R : Nat → Int → Prop}, (∀ i y, ys[i]? = some y → ∃ z, y = .int z ∧ R i z) → ∃ zs : List Int, ys = zs.map V.int ∧ ∀ i z, zs[i]? = some z → R i z
  | [], _, _ => ⟨[], rfl, fun i z e => by simp at e⟩
  | y :: ys, R, h => by
    obtain ⟨z, rfl, r⟩ := h 0 y rfl
    obtain ⟨zs, rfl, rs⟩ := all_ints (ys := ys) (R := fun i z => R (i + 1) z) fun i y e => h (i + 1) y (by simpa using e)
    refine ⟨z :: zs, rfl, fun i w e => ?_⟩
    cases i with
    | zero => cases e; exact r
    | succ i => exact rs i w (by simpa using e)
end
end Z
namespace Z
open PySem PySem.Spec PyProof.Rows L2 Evl
section
variable {σ : L2.St} {H : Hp} {Q : VK} {K : PySem.W.Frag} {tt : TT} {te : TE} {vs : List Nat} {a b : Addr} {xs : List V} {j : Nat}
theorem r_ixMod {c m : Int} (h : H a = some (.lst xs)) (hm : (xs.length : Int) = m) (h0 : 0 < m) (k : ∀ v, v ∈ xs → Q v H) : rIxL K (.ref a) (.int (c % m)) H Q := by
  obtain ⟨v, hv, hmem⟩ := atI_mod (c := c) hm h0
  exact r_ixL (SqL.of h) hv (k v hmem)
theorem eqvAll_ints : ∀ bs cs : List Int, PyData.eqvAll (bs.map PyData.int) (cs.map PyData.int) = decide (bs = cs)
  | [], [] => rfl
  | [], c :: cs => rfl
  | b :: bs, [] => rfl
  | b :: bs, c :: cs => by
    show (PyData.eqv (.int b) (.int c) && PyData.eqvAll (bs.map PyData.int) (cs.map PyData.int)) = _
    rw [eqvAll_ints bs cs]
    show ((b == c) && decide (bs = cs)) = decide (b :: bs = c :: cs)
    by_cases h1 : b = c
    · subst h1; by_cases h2 : bs = cs
      · subst h2; simp
      · simp [h2]
    · simp [h1]
theorem sh_ints (bs : List Int) : SeqAt.shaped (.list (bs.map PyData.int)) = true := by
  have h1 : ∀ bs : List Int, PyData.canLayAll0 (bs.map PyData.int) = true := fun bs => by
    induction bs with
    | nil => rfl
    | cons b bs ih => simp [PyData.canLayAll0, PyData.canLay0, ih]
  have h2 : ∀ bs : List Int, PyData.depthAll (bs.map PyData.int) ≤ 1 := fun bs => by
    induction bs with
    | nil => simp [PyData.depthAll]
    | cons b bs ih => simp [PyData.depthAll, PyData.depth]; omega
  have h3 := h2 bs
  simp [SeqAt.shaped, PyData.canLay0, PyData.depth, h1]
  omega
theorem r_eqIs {bs cs : List Int} (h1 : SqL K H a (bs.map V.int)) (h2 : SqL K H b (cs.map V.int)) (k : Q (.bl (decide (bs = cs))) H) : rEqD K (.ref a) (.ref b) H Q := by
  refine ⟨.list (bs.map PyData.int), .list (cs.map PyData.int), .lst h1 (dpAll_ints _), .lst h2 (dpAll_ints _), sh_ints _, sh_ints _, ?_⟩
  show Q (.bl (PyData.eqvAll _ _)) H
  rw [eqvAll_ints]
  exact k
theorem r_neIs {bs cs : List Int} (h1 : SqL K H a (bs.map V.int)) (h2 : SqL K H b (cs.map V.int)) (k : Q (.bl (!decide (bs = cs))) H) : rNeD K (.ref a) (.ref b) H Q := by
  refine ⟨.list (bs.map PyData.int), .list (cs.map PyData.int), .lst h1 (dpAll_ints _), .lst h2 (dpAll_ints _), sh_ints _, sh_ints _, ?_⟩
  show Q (.bl (!PyData.eqvAll _ _)) H
  rw [eqvAll_ints]
  exact k
theorem r_neBs {bs cs : List Bool} (h1 : SqL K H a (bs.map V.bl)) (h2 : SqL K H b (cs.map V.bl)) (k : Q (.bl (!decide (bs = cs))) H) : rNeD K (.ref a) (.ref b) H Q := by
  refine ⟨.list (bs.map PyData.bool), .list (cs.map PyData.bool), .lst h1 (dpAll_bools _), .lst h2 (dpAll_bools _), sh_bools _, sh_bools _, ?_⟩
  show Q (.bl (!PyData.eqvAll _ _)) H
  rw [eqvAll_bools]
  exact k
theorem r_lcF (hS : SqL K H a xs) (hl : xs.length ≤ 40000) (f : Nat → Bool) (v : Nat → V) (hw : ∀ x, wipe ((wipe σ vs).set j (some x)) vs = wipe σ vs)
    (ht : ∀ (i : Nat) (x : V) H1, Ex H H1 → xs[i]? = some x → EvT tt ((wipe σ vs).set j (some x)) H1 (f i)) (he : ∀ (i : Nat) (x : V) H1, Ex H H1 → xs[i]? = some x → f i = true → Ev te ((wipe σ vs).set j (some x)) H1 (v i))
    (k : ∀ D H5, H D = none → Ex H H5 → H5 D = some (.lst (given xs.length f v)) → Q (.ref D) H5) : ∃ b, V.ref a = .ref b ∧ (∃ xs, SqL K H b xs) ∧ LcW (Itl K b) (gName j) tt te vs σ H Q :=
  (el_lcL (K := K) (tl := tC (.ref a)) f v ev_c hS hl hw ht he) H (Ex.refl H) Q k
theorem r_lcRF {n : Int} (h0 : 0 ≤ n) (hl : n ≤ 40000) (f : Nat → Bool) (v : Nat → V) (hw : ∀ x, wipe ((wipe σ vs).set j (some x)) vs = wipe σ vs)
    (ht : ∀ (i : Nat) H1, Ex H H1 → (i : Int) < n → EvT tt ((wipe σ vs).set j (some (.int (i : Int)))) H1 (f i)) (he : ∀ (i : Nat) H1, Ex H H1 → (i : Int) < n → f i = true → Ev te ((wipe σ vs).set j (some (.int (i : Int)))) H1 (v i))
    (k : ∀ D H5, H D = none → Ex H H5 → H5 D = some (.lst (given n.toNat f v)) → Q (.ref D) H5) : ∃ j' : Int, [V.int n] = [.int j'] ∧ -(2 ^ 62) ≤ j' ∧ j' < 2 ^ 62 ∧ LcW (Itr 0 j'.toNat) (gName j) tt te vs σ H Q :=
  (el_lcR1 (ta := tCons (tC (.int n)) tNil) f v (ea_cons ev_c ea_nil) ⟨h0, hl⟩ hw ht he) H (Ex.refl H) Q k
theorem ev_callS {sp : Sp} {E : L2.St → XK} {tr : TA} {ws : List V} {z : V} (h : EvA tr σ H ws) (hs : SpV sp ws H z) : Ev (tCallS sp E tr) σ H z := fun H1 e Q q => h H1 e _ fun H2 e2 => hs H2 (e.trans e2) _ (fun H3 e3 => q H3 (e2.trans e3)) _
theorem et_yes : EvT tYes σ H true := fun H1 _ _ q => q H1 (Ex.refl H1)
end
end Z
namespace Z
open PySem PySem.Spec PyProof.Rows L2 Evl
section
variable {σ : L2.St} {H : Hp} {Q : VK} {K : PySem.W.Frag} {a : Addr} {xs : List V} {v : V} {q : L2.St → Hp → Prop}
def rDm : List V → Hp → VK → Prop := fun xs H Q => ∃ i j : Int, xs = [.int i, .int j] ∧ CDiv i j ∧ NewO Q H (.tup [.int (i / j), .int (i % j)])
theorem call_dm {X : Cx} : CallR X (.builtin "divmod") rDm := call_divmod
theorem r_dm {i j : Int} (hj : CDiv i j) (k : ∀ p H2, H p = none → Ex H H2 → H2 p = some (.tup [.int (i / j), .int (i % j)]) → Q (.ref p) H2) : rDm [.int i, .int j] H Q := ⟨i, j, rfl, hj, r_new k⟩
def rLs (K : PySem.W.Frag) : List V → Hp → VK → Prop := fun xs H Q => ∃ p items, xs = [.ref p] ∧ (SqL K H p items ∨ SqT K H p items) ∧ NewO Q H (.lst items)
theorem r_ls {xs : List V} (h : SqL K H a xs) (k : ∀ p H2, H p = none → Ex H H2 → H2 p = some (.lst xs) → Q (.ref p) H2) : rLs K [.ref a] H Q := ⟨a, xs, rfl, .inl h, r_new k⟩
theorem r_lsT {xs : List V} (h : SqT K H a xs) (k : ∀ p H2, H p = none → Ex H H2 → H2 p = some (.lst xs) → Q (.ref p) H2) : rLs K [.ref a] H Q := ⟨a, xs, rfl, .inr h, r_new k⟩
theorem r_gtup {n : Nat} {t : TGs} (h : SqT K H a xs) (hl : xs.length = n) (k : t xs σ H q) : gTup K n t (.ref a) σ H q := ⟨a, xs, rfl, h, hl, k⟩
theorem r_gcons {t : TG} {u : TGs} (k : t v σ H fun σ' H' => u xs σ' H' q) : gCons t u (v :: xs) σ H q := ⟨v, xs, rfl, k⟩
theorem r_gnil (k : q σ H) : gNil [] σ H q := ⟨rfl, k⟩
def rLen (K : PySem.W.Frag) : List V → Hp → VK → Prop := fun xs H Q => ∃ p ys, xs = [.ref p] ∧ (SqL K H p ys ∨ SqT K H p ys) ∧ Q (.int (ys.length : Int)) H
theorem call_lnS {X : Cx} : CallR X (.builtin "len") (rLen X.K) := call_len_seq
theorem r_lenT (h : SqT K H a xs) (k : Q (.int (xs.length : Int)) H) : rLen K [.ref a] H Q := ⟨a, xs, rfl, .inr h, k⟩
theorem r_lenL (h : SqL K H a xs) (k : Q (.int (xs.length : Int)) H) : rLen K [.ref a] H Q := ⟨a, xs, rfl, .inl h, k⟩
end
end Z
namespace Z
open PySem PySem.Spec PyProof.Rows L2 Evl
theorem call_ls {X : Cx} : CallR X (.type "list") (rLs X.K) := call_list_of
theorem AnyV.upd {H : Hp} {v : V} {p : Addr} {xs : List V} (h : AnyV H v) : AnyV (L2.upd H p (.lst xs)) v := by
  cases v with
  | ref a =>
    have h' : objK (H a) ≠ "?" := h
    show objK (L2.upd H p (.lst xs) a) ≠ "?"
    by_cases c : a = p
    · rw [c, upd_same]; exact (by decide : ("list" : String) ≠ "?")
    · rw [upd_ne c]; exact h'
  | _ => exact h
section
variable {H : Hp} {a : Addr} {xs : List V} {v : V} {q : Hp → Prop}
/-- xs[k] = v -/
theorem r_setL {k : Int} {j : Nat} (h : H a = some (.lst xs)) (hj : ixN xs.length k = some j) (kk : q (L2.upd H a (.lst (xs.set j v)))) : rSetL (.ref a) (.int k) v H q := ⟨a, xs, k, j, rfl, rfl, h, hj, kk⟩
theorem r_gsub {σ : L2.St} {to ti : TE} {t : TSet} {q : L2.St → Hp → Prop} (k : to σ H fun o H1 => ti σ H1 fun i H2 => t o i v H2 fun H3 => q σ H3) : gSub to ti t v σ H q := k
end
end Z
namespace Z
open PySem PySem.Spec PyProof.Rows L2 Evl
section
variable {σ : L2.St} {H : Hp} {Q : VK} {K : PySem.W.Frag} {a : Addr} {xs : List V} {v : V} {to : TE} {t : TA}
theorem r_bm {T : String} {r : V → List V → Hp → VK → Prop} (k : to σ H fun x H1 => tyV K T x H1 ∧ t σ H1 fun xs H2 => r x xs H2 Q) : tBM K T r to t σ H Q := k
theorem r_bm0 {T : String} {r : V → List V → Hp → VK → Prop} (k : to σ H fun x H1 => tyV K T x H1 ∧ r x [] H1 Q) : tBM0 K T r to σ H Q := k
theorem r_tyL {R : Prop} (h : H a = some (.lst xs)) (k : R) : tyV K "list" (.ref a) H ∧ R := ⟨.inl ⟨rfl, _, SqL.of h⟩, k⟩
theorem Ex.viaB {H0 H1 H2 : Hp} {p : Addr} (e : Ex H0 H1) (b : ExB p H1 H2) (n : H0 p = none) : Ex H0 H2 := fun c o h => b c o (ne_of_none h n) (e c o h)
theorem ExB.up {p : Addr} {o : HO} : ExB p H (L2.upd H p o) := fun b u nb h => by rw [upd_ne nb]; exact h
theorem r_app (h : H a = some (.lst xs)) (hl : xs.length < 100000) (k : ∀ H2, ExB a H H2 → H2 a = some (.lst (xs ++ [v])) → Q .non H2) : rAppend (.ref a) [v] H Q := ⟨a, xs, v, rfl, rfl, h, sz_lt hl, k _ ExB.up upd_same⟩
theorem r_nb {b : Bool} {R : Bool → Prop} (k : R (!b)) : R (!b) := k
theorem r_ifb {b : Bool} {A B : Prop} (h1 : b = true → A) (h2 : b = false → B) : if b = true then A else B := by
  cases b
  · exact r_ff (h2 rfl)
  · exact r_tt (h1 rfl)
end
end Z
namespace Z
open PySem PySem.Spec PyProof.Rows L2 Evl
/-! ### the rules with the written part named -/
section
variable {X : Cx} {K : PySem.W.Frag} {e o value l : Expr} {te ta tv to tl : TE} {t : TA} {f : Str} {pos p pos' tpos : Pos}
theorem kx_ixl (h : X.K = K) : IxR X (rIxL K) := h ▸ ix_list
theorem kx_ixt (h : X.K = K) : IxR X (rIxT K) := h ▸ ix_tup
theorem kx_sl (h : X.K = K) : SlR X (rSlL K) := h ▸ sl_list
theorem kx_isi (h : X.K = K) : CallR X (.builtin "isinstance") (rIsi K) := h ▸ call_isi
theorem kx_len (h : X.K = K) : CallR X (.builtin "len") (rLen K) := h ▸ call_lnS
theorem kx_ls (h : X.K = K) : CallR X (.type "list") (rLs K) := h ▸ call_ls
theorem kx_eqD (h : X.K = K) (hu : X.A.units + 64 < cLine) : OpR X (compareOp .Eq) (rEqD K) := h ▸ op_eqD hu
theorem kx_neD (h : X.K = K) (hu : X.A.units + 64 < cLine) : OpR X (compareOp .NotEq) (rNeD K) := h ▸ op_neD hu
theorem kx_in (h : X.K = K) : OpR X (compareOp .In) (rIn K false) := h ▸ op_in_seq
theorem kx_nin (h : X.K = K) : OpR X (compareOp .NotIn) (rIn K true) := h ▸ op_notIn_seq
theorem kx_sum (h : X.K = K) (hc : X.calm = true) : CallR X (.builtin "sum") (rSum K) := h ▸ cr_sum hc
theorem kx_all (h : X.K = K) (hc : X.calm = true) : CallR X (.builtin "all") (rAll K) := h ▸ cr_all hc
theorem kx_any (h : X.K = K) (hc : X.calm = true) : CallR X (.builtin "any") (rAny K) := h ▸ cr_any hc
theorem kx_il {tg : Expr} (h : X.K = K) (hl : PE X l tl) : PI X tg l (iList K tl) := h ▸ pi_list hl
theorem kx_it {tg : Expr} (h : X.K = K) (hl : PE X l tl) : PI X tg l (iTup K tl) := h ▸ pi_tup hl
theorem kx_fld (h : X.K = K) (he : PE X e ta) (hb : attributeBase e f X.env (eval e X.env) = eval e X.env := by rfl) : PE X (.Attribute e f pos) (tFld K ta f) := h ▸ pe_fld he hb
theorem kx_sfld (h : X.K = K) (ha : PE X o ta) (hv : PE X value tv) (hs : swapsWith value (some (.Attribute o f pos')) pos.line X.env = pure false := by rfl) : PS X (.Assign [.Attribute o f pos'] value pos) (sFld K ta tv f) := h ▸ ps_fld ha hv hs
theorem kx_sfldaug {op : Operator} {rd : V → V → Hp → VK → Prop} (h : X.K = K) (ha : PE X o ta) (hv : PE X value tv) (hop : InOp X op rd) : PS X (.AugAssign (.Attribute o f tpos) op value pos) (sFldAug K ta tv rd f) := h ▸ ps_fldaug ha hv hop
theorem kx_gt {es : List Expr} {k : Nat} {t : TGs} {n : Nat} (h : X.K = K) (hc : X.calm = true) (hg : PGs X es t) (hn : (assignEach es X.env).length = n := by rfl) (hst : (assignEach es X.env).findIdx? (·.1) = none := by rfl) : PG X (.Tuple es k pos) (gTup K n t) := h ▸ pg_tup hc hg hn hst
theorem kx_tbm {T : String} {r : V → List V → Hp → VK → Prop} (h : X.K = K) (q : PE X e (tBM X.K T r to t)) : PE X e (tBM K T r to t) := h ▸ q
theorem kx_tbm0 {T : String} {r : V → List V → Hp → VK → Prop} (h : X.K = K) (q : PE X e (tBM0 X.K T r to)) : PE X e (tBM0 K T r to) := h ▸ q
theorem kx_enum {tg : Expr} (h : X.K = K) (q : PI X tg e (iEnum X.K t)) : PI X tg e (iEnum K t) := h ▸ q
theorem kx_zip {tg : Expr} (h : X.K = K) (q : PI X tg e (iZip X.K t)) : PI X tg e (iZip K t) := h ▸ q
end
end Z
namespace Z
open PySem PySem.Spec PyProof.Rows L2 Evl
theorem r_cut {σ : L2.St} {H : Hp} {D : Ends} {t u : TS} (Mid : L2.St → Hp → Prop) (h1 : t ⟨Mid, D.rt, D.bk, D.ct⟩ σ H) (h2 : ∀ σ' H', Mid σ' H' → u D σ' H') : tCut t u D σ H := ⟨Mid, h1, h2⟩
theorem fl_or {α : Type} {f : α → α → α} {xs ys : List α} {i : Nat} {a b : α} (h1 : xs[i]? = some a) (h2 : ys[i]? = some b) : (List.zipWith f xs ys)[i]? = some (f a b) := by
  rw [List.getElem?_zipWith, h1, h2]
end Z
namespace Z
open PySem PySem.Spec PyProof.Rows L2 Evl
theorem list_is {α : Type} {f : α → V} {ys : List V} {bs : List α} (hl : ys.length = bs.length) (h : ∀ (i : Nat) (y : V), ys[i]? = some y → ∃ b, y = f b ∧ bs[i]? = some b) : ys = bs.map f := by
  refine List.ext_getElem? fun i => ?_
  cases e : ys[i]? with
  | none =>
    have : ys.length ≤ i := List.getElem?_eq_none_iff.mp e
    rw [List.getElem?_eq_none (by rw [List.length_map]; omega)]
  | some y =>
    obtain ⟨b, rfl, hb⟩ := h i y e
    rw [List.getElem?_map, hb]; rfl
end Z
namespace Z
open PySem L2
theorem wholeV_int {i : Int} : wholeV (.int i) = true := rfl
end Z
namespace Z
open PySem PySem.Spec PyProof.Rows L2 Evl
/-! ### objects that change: what stays outside of a footprint -/
def ExF (F : Addr → Prop) (H H' : Hp) : Prop := ∀ b o, ¬ F b → H b = some o → H' b = some o
theorem Ex.f {F : Addr → Prop} {H H' : Hp} (e : Ex H H') : ExF F H H' := fun b o _ h => e b o h
theorem ExF.refl {F : Addr → Prop} {H : Hp} : ExF F H H := fun _ _ _ h => h
theorem ExF.trans {F : Addr → Prop} {H H1 H2 : Hp} (a : ExF F H H1) (b : ExF F H1 H2) : ExF F H H2 := fun c o n h => b c o n (a c o n h)
theorem ExF.mono {F G : Addr → Prop} {H H1 : Hp} (a : ExF F H H1) (h : ∀ b, F b → G b) : ExF G H H1 := fun c o n q => a c o (fun z => n (h c z)) q
theorem ExF.up {F : Addr → Prop} {H : Hp} {p : Addr} {o : HO} (h : F p) : ExF F H (L2.upd H p o) := fun b u nb q => by
  rw [upd_ne (fun z => nb (by rw [z]; exact h))]
  exact q
theorem ExB.f {F : Addr → Prop} {H H' : Hp} {p : Addr} (e : ExB p H H') (h : F p) : ExF F H H' := fun b u nb q => e b u (fun z => nb (by rw [z]; exact h)) q
/-- what was not there at H0 may change -/
theorem Ex.viaF {F : Addr → Prop} {H0 H1 H2 : Hp} (e : Ex H0 H1) (b : ExF F H1 H2) (n : ∀ a, F a → H0 a = none) : Ex H0 H2 := fun c o h => b c o (fun z => by rw [n c z] at h; cases h) (e c o h)
/-! ### a list of lists of ints, some None, that may change -/
def ov : Option Addr → V
  | none => .non
  | some b => .ref b
def cells (as : List (Option Addr)) : List Addr := as.filterMap id
abbrev Pg := List (Option (List Int))
structure NL (H : Hp) (l : Addr) (as : List (Option Addr)) (ps : Pg) : Prop where
  top : H l = some (.lst (as.map ov))
  len : as.length = ps.length
  gone : ∀ i : Nat, as[i]? = some none → ps[i]? = some none
  sub : ∀ (i : Nat) b, as[i]? = some (some b) → ∃ ws, ps[i]? = some (some ws) ∧ H b = some (.lst (ws.map V.int))
  nd : ∀ (i j : Nat) b, as[i]? = some (some b) → as[j]? = some (some b) → i = j
  out : ∀ i : Nat, as[i]? ≠ some (some l)
def foot (l : Addr) (as : List (Option Addr)) : Addr → Prop := fun b => b = l ∨ ∃ i : Nat, as[i]? = some (some b)
section
variable {H H' : Hp} {l : Addr} {as : List (Option Addr)} {ps : Pg} {F : Addr → Prop}
theorem NL.keep (n : NL H l as ps) (e : ExF F H H') (h : ∀ b, foot l as b → ¬ F b) : NL H' l as ps :=
  ⟨e _ _ (h l (.inl rfl)) n.top, n.len, n.gone, fun i b q => let ⟨ws, h1, h2⟩ := n.sub i b q; ⟨ws, h1, e _ _ (h b (.inr ⟨i, q⟩)) h2⟩, n.nd, n.out⟩
theorem NL.ex (n : NL H l as ps) (e : Ex H H') : NL H' l as ps := n.keep (F := fun _ => False) (Ex.f e) fun _ _ z => z
theorem NL.at_ (n : NL H l as ps) {i : Nat} {ws : List Int} (h : ps[i]? = some (some ws)) : ∃ b, as[i]? = some (some b) ∧ H b = some (.lst (ws.map V.int)) := by
  have hi : i < as.length := by rw [n.len]; exact (List.getElem?_eq_some_iff.mp h).1
  cases e : as[i] with
  | none =>
    have := n.gone i (by rw [List.getElem?_eq_getElem hi, e])
    rw [h] at this; cases this
  | some b =>
    have q : as[i]? = some (some b) := by rw [List.getElem?_eq_getElem hi, e]
    obtain ⟨ws', h1, h2⟩ := n.sub i b q
    rw [h] at h1; cases h1
    exact ⟨b, q, h2⟩
theorem NL.no (n : NL H l as ps) {i : Nat} (h : ps[i]? = some none) : as[i]? = some none := by
  have hi : i < as.length := by rw [n.len]; exact (List.getElem?_eq_some_iff.mp h).1
  cases e : as[i] with
  | none => rw [List.getElem?_eq_getElem hi, e]
  | some b =>
    have q : as[i]? = some (some b) := by rw [List.getElem?_eq_getElem hi, e]
    obtain ⟨ws', h1, h2⟩ := n.sub i b q
    rw [h] at h1; cases h1
theorem NL.foot_there (n : NL H l as ps) {b : Addr} (h : foot l as b) : ∃ o, H b = some o := by
  rcases h with rfl | ⟨i, h⟩
  · exact ⟨_, n.top⟩
  · obtain ⟨ws, _, q⟩ := n.sub i b h; exact ⟨_, q⟩
/-- a word of a page is written -/
theorem NL.write (n : NL H l as ps) {i : Nat} {b : Addr} {ws : List Int} {us : List Int} (h : as[i]? = some (some b)) (hw : ps[i]? = some (some ws)) : NL (L2.upd H b (.lst (us.map V.int))) l as (ps.set i (some us)) := by
  have hi : i < ps.length := (List.getElem?_eq_some_iff.mp hw).1
  refine ⟨?_, by rw [List.length_set]; exact n.len, fun j hj => ?_, fun j c hj => ?_, n.nd, n.out⟩
  · rw [upd_ne (fun z => n.out i (by rw [z]; exact h))]; exact n.top
  · have := n.gone j hj
    have ne : i ≠ j := fun z => by rw [z] at h; rw [h] at hj; cases hj
    rw [List.getElem?_set_ne ne]; exact this
  · by_cases c1 : i = j
    · subst c1
      rw [h] at hj; cases hj
      exact ⟨us, by rw [List.getElem?_set_self hi], upd_same⟩
    · obtain ⟨ws', h1, h2⟩ := n.sub j c hj
      refine ⟨ws', by rw [List.getElem?_set_ne c1]; exact h1, ?_⟩
      rw [upd_ne (fun z => c1 (n.nd i j b h (by rw [← z]; exact hj)))]; exact h2
/-- a page is gone -/
theorem NL.drop (n : NL H l as ps) {i : Nat} (hi : i < ps.length) : NL (L2.upd H l (.lst ((as.set i none).map ov))) l (as.set i none) (ps.set i none) := by
  have ha : i < as.length := by rw [n.len]; exact hi
  have back : ∀ (j : Nat) b, (as.set i none)[j]? = some (some b) → i ≠ j ∧ as[j]? = some (some b) := fun j b h => by
    by_cases c : i = j
    · subst c; rw [List.getElem?_set_self ha] at h; cases h
    · rw [List.getElem?_set_ne c] at h; exact ⟨c, h⟩
  refine ⟨upd_same, by rw [List.length_set, List.length_set]; exact n.len, fun j hj => ?_, fun j c hj => ?_, fun j k b h1 h2 => n.nd j k b (back j b h1).2 (back k b h2).2, fun j h => n.out j (back j l h).2⟩
  · by_cases c : i = j
    · subst c; rw [List.getElem?_set_self hi]
    · rw [List.getElem?_set_ne c] at hj ⊢; exact n.gone j hj
  · obtain ⟨ne, q⟩ := back j c hj
    obtain ⟨ws, h1, h2⟩ := n.sub j c q
    refine ⟨ws, by rw [List.getElem?_set_ne ne]; exact h1, ?_⟩
    rw [upd_ne (fun z => n.out j (by rw [← z]; exact q))]; exact h2
/-- a page is laid on a new list -/
theorem NL.lay (n : NL H l as ps) {i : Nat} {b : Addr} {ws : List Int} (hi : i < ps.length) (hb : H b = some (.lst (ws.map V.int))) (nb : ¬ foot l as b) : NL (L2.upd H l (.lst ((as.set i (some b)).map ov))) l (as.set i (some b)) (ps.set i (some ws)) := by
  have ha : i < as.length := by rw [n.len]; exact hi
  have back : ∀ (j : Nat) c, (as.set i (some b))[j]? = some (some c) → (i = j ∧ c = b) ∨ (i ≠ j ∧ as[j]? = some (some c)) := fun j c h => by
    by_cases q : i = j
    · subst q; rw [List.getElem?_set_self ha] at h; cases h; exact .inl ⟨rfl, rfl⟩
    · rw [List.getElem?_set_ne q] at h; exact .inr ⟨q, h⟩
  refine ⟨upd_same, by rw [List.length_set, List.length_set]; exact n.len, fun j hj => ?_, fun j c hj => ?_, fun j k c h1 h2 => ?_, fun j h => ?_⟩
  · by_cases c : i = j
    · subst c; rw [List.getElem?_set_self ha] at hj; cases hj
    · rw [List.getElem?_set_ne c] at hj ⊢; exact n.gone j hj
  · rcases back j c hj with ⟨rfl, rfl⟩ | ⟨ne, q⟩
    · refine ⟨ws, by rw [List.getElem?_set_self hi], ?_⟩
      rw [upd_ne (fun z => nb (.inl z))]; exact hb
    · obtain ⟨ws', h1, h2⟩ := n.sub j c q
      refine ⟨ws', by rw [List.getElem?_set_ne ne]; exact h1, ?_⟩
      rw [upd_ne (fun z => n.out j (by rw [← z]; exact q))]; exact h2
  · rcases back j c h1 with ⟨e1, e2⟩ | ⟨ne1, q1⟩ <;> rcases back k c h2 with ⟨e3, e4⟩ | ⟨ne2, q2⟩
    · exact e1.symm.trans e3
    · rw [e2] at q2; exact (nb (.inr ⟨k, q2⟩)).elim
    · rw [e4] at q1; exact (nb (.inr ⟨j, q1⟩)).elim
    · exact n.nd j k c q1 q2
  · rcases back j l h with ⟨_, e⟩ | ⟨_, q⟩
    · exact nb (.inl e.symm)
    · exact n.out j q
end
/-- a list of lists that is only read -/
structure RL (K : PySem.W.Frag) (H : Hp) (l : Addr) (vs : List V) (ps : Pg) : Prop where
  top : SqL K H l vs
  len : vs.length = ps.length
  sub : ∀ (i : Nat) v, vs[i]? = some v → (v = .non ∧ ps[i]? = some none) ∨ ∃ b ws, v = .ref b ∧ ps[i]? = some (some ws) ∧ SqL K H b (ws.map V.int)
theorem NL.rl {K : PySem.W.Frag} {H : Hp} {l : Addr} {as : List (Option Addr)} {ps : Pg} (n : NL H l as ps) : RL K H l (as.map ov) ps := by
  refine ⟨SqL.of n.top, by rw [List.length_map]; exact n.len, fun i v h => ?_⟩
  rw [List.getElem?_map] at h
  cases e : as[i]? with
  | none => rw [e] at h; cases h
  | some x =>
    rw [e] at h
    cases x with
    | none => cases h; exact .inl ⟨rfl, n.gone i e⟩
    | some b =>
      cases h
      obtain ⟨ws, h1, h2⟩ := n.sub i b e
      exact .inr ⟨b, ws, rfl, h1, SqL.of h2⟩
theorem RL.ex {K : PySem.W.Frag} {H H' : Hp} {l : Addr} {vs : List V} {ps : Pg} (n : RL K H l vs ps) (e : Ex H H') : RL K H' l vs ps :=
  ⟨ex_l e n.top, n.len, fun i v h => (n.sub i v h).imp id fun ⟨b, ws, h1, h2, h3⟩ => ⟨b, ws, h1, h2, ex_l e h3⟩⟩
end Z
namespace Z
open PySem PySem.Spec PyProof.Rows L2 Evl
theorem NL.nil {H : Hp} {l : Addr} (h : H l = some (.lst [])) : NL H l [] [] := ⟨h, rfl, fun i h => by simp at h, fun i b h => by simp at h, fun i j b h => by simp at h, fun i h => by simp at h⟩
theorem app_get {α : Type} {as : List α} {x y : α} {i : Nat} (h : (as ++ [x])[i]? = some y) : (i < as.length ∧ as[i]? = some y) ∨ (i = as.length ∧ y = x) := by
  by_cases c : i < as.length
  · rw [List.getElem?_append_left c] at h; exact .inl ⟨c, h⟩
  · rw [List.getElem?_append_right (by omega)] at h
    have := (List.getElem?_eq_some_iff.mp h).1
    simp at this
    have e : i = as.length := by omega
    subst e
    simp at h
    exact .inr ⟨rfl, h.symm⟩
theorem app_last {α : Type} {as : List α} {x : α} {n : Nat} (h : n = as.length) : (as ++ [x])[n]? = some x := by subst h; simp
theorem NL.push {H H2 : Hp} {l : Addr} {as : List (Option Addr)} {ps : Pg} {x : Option Addr} {y : Option (List Int)} (n : NL H l as ps) (hx : (x = none ∧ y = none) ∨ ∃ b ws, x = some b ∧ y = some ws ∧ H b = some (.lst (ws.map V.int)) ∧ ¬ foot l as b)
    (e : ExB l H H2) (h2 : H2 l = some (.lst (as.map ov ++ [ov x]))) : NL H2 l (as ++ [x]) (ps ++ [y]) := by
  have ne : ∀ (i : Nat) b, as[i]? = some (some b) → b ≠ l := fun i b h z => n.out i (by rw [← z]; exact h)
  refine ⟨by rw [h2, List.map_append]; rfl, by rw [List.length_append, List.length_append, n.len]; rfl, fun i h => ?_, fun i b h => ?_, fun i j b h1 h2 => ?_, fun i h => ?_⟩
  · rcases app_get h with ⟨c, q⟩ | ⟨c, q⟩
    · rw [List.getElem?_append_left (by rw [← n.len]; exact c)]; exact n.gone i q
    · rcases hx with ⟨rfl, rfl⟩ | ⟨b, ws, rfl, _⟩
      · exact app_last (by rw [c, n.len])
      · cases q
  · rcases app_get h with ⟨c, q⟩ | ⟨c, q⟩
    · obtain ⟨ws, h1, h3⟩ := n.sub i b q
      exact ⟨ws, by rw [List.getElem?_append_left (by rw [← n.len]; exact c)]; exact h1, e _ _ (ne i b q) h3⟩
    · rcases hx with ⟨rfl, rfl⟩ | ⟨b', ws, rfl, rfl, h3, h4⟩
      · cases q
      · cases q
        exact ⟨ws, app_last (by rw [c, n.len]), e _ _ (fun z => h4 (.inl z)) h3⟩
  · rcases app_get h1 with ⟨c1, q1⟩ | ⟨c1, q1⟩ <;> rcases app_get h2 with ⟨c2, q2⟩ | ⟨c2, q2⟩
    · exact n.nd i j b q1 q2
    · rcases hx with ⟨rfl, rfl⟩ | ⟨b', ws, rfl, rfl, h3, h4⟩
      · cases q2
      · cases q2; exact (h4 (.inr ⟨i, q1⟩)).elim
    · rcases hx with ⟨rfl, rfl⟩ | ⟨b', ws, rfl, rfl, h3, h4⟩
      · cases q1
      · cases q1; exact (h4 (.inr ⟨j, q2⟩)).elim
    · rw [c1, c2]
  · rcases app_get h with ⟨c, q⟩ | ⟨c, q⟩
    · exact n.out i q
    · rcases hx with ⟨rfl, rfl⟩ | ⟨b', ws, rfl, rfl, h3, h4⟩
      · cases q
      · cases q; exact h4 (.inl rfl)
theorem foot_push {l b : Addr} {as : List (Option Addr)} {x : Option Addr} (h : foot l (as ++ [x]) b) : foot l as b ∨ x = some b := by
  rcases h with h | ⟨i, h⟩
  · exact .inl (.inl h)
  · rcases app_get h with ⟨_, q⟩ | ⟨_, q⟩
    · exact .inl (.inr ⟨i, q⟩)
    · exact .inr q.symm
section
variable {σ : L2.St} {H : Hp} {Q : VK} {K : PySem.W.Frag} {a : Addr} {vs : List V} {ps : Pg} {j : Nat} {ws : List Nat}
theorem r_isN {x : V} (k : Q (.bl (decide (x = .non))) H) : L2.rIsN x .non H Q := ⟨rfl, k⟩
theorem r_notN {x : V} (k : Q (.bl (!decide (x = .non))) H) : L2.rNotN x .non H Q := ⟨rfl, k⟩
theorem r_isN0 (k : Q (.bl true) H) : L2.rIsN .non .non H Q := ⟨rfl, k⟩
theorem r_notN0 (k : Q (.bl false) H) : L2.rNotN .non .non H Q := ⟨rfl, k⟩
theorem r_isNr {b : Addr} (k : Q (.bl false) H) : L2.rIsN (.ref b) .non H Q := ⟨rfl, k⟩
theorem r_notNr {b : Addr} (k : Q (.bl true) H) : L2.rNotN (.ref b) .non H Q := ⟨rfl, k⟩
theorem r_isNi {b : Int} (k : Q (.bl false) H) : L2.rIsN (.int b) .non H Q := ⟨rfl, k⟩
theorem r_notNi {b : Int} (k : Q (.bl true) H) : L2.rNotN (.int b) .non H Q := ⟨rfl, k⟩
structure CpP (H : Hp) (D : Addr) (ps : Pg) (i : Nat) (H' : Hp) : Prop where
  ex : ∃ as, NL H' D as (ps.take i) ∧ ∀ b, foot D as b → H b = none
  same : Ex H H'
/-- [None if w is None else list(w) for w in pages] -/
theorem r_copy (hS : RL K H a vs ps) (hl : vs.length ≤ 1000) (hw : ∀ x, wipe ((wipe σ ws).set j (some x)) ws = wipe σ ws) (hj : ∀ x, ((wipe σ ws).set j (some x))[j]? = some (some x))
    (k : ∀ D as H5, Ex H H5 → (∀ b, foot D as b → H b = none) → NL H5 D as ps → Q (.ref D) H5) :
    ∃ b, V.ref a = .ref b ∧ (∃ xs, SqL K H b xs) ∧ LcW (Itl K b) (gName j) tYes (tIf (tTest (tOp L2.rIsN (tVar j) (tC .non))) (tC .non) (tCB (rLs K) (tCons (tVar j) tNil))) ws σ H Q := by
  refine ⟨a, rfl, ⟨_, hS.top⟩, fun D n => lc_list (K := K) (a := a) (xs := vs) (CpP H D ps) ?_ (fun i H' _ p => ex_l p.same hS.top) (fun i x H' hx p => ?_) (fun H' p => ?_)⟩
  · exact ⟨⟨[], NL.nil upd_same, fun b h => by rcases h with rfl | ⟨i, h⟩; exact n; simp at h⟩, Ex.new n⟩
  · refine ⟨hw x, ?_⟩
    have hi : i < ps.length := by rw [← hS.len]; exact (List.getElem?_eq_some_iff.mp hx).1
    obtain ⟨⟨as, q, fr⟩, sm⟩ := p
    have la : as.length = i := by rw [q.len, List.length_take]; omega
    have done : ∀ (x : Option Addr) (y : Option (List Int)) (H4 : Hp), Ex H' H4 → (∀ b, x = some b → H b = none) → ps[i]? = some y → ((x = none ∧ y = none) ∨ ∃ b ws, x = some b ∧ y = some ws ∧ H4 b = some (.lst (ws.map V.int)) ∧ ¬ foot D as b) →
        ∃ acc, H4 D = some (.lst acc) ∧ acc.length < sizeLine ∧ CpP H D ps (i + 1) (L2.upd H4 D (.lst (acc ++ [ov x]))) := fun x y H4 e fx py hx => by
      refine ⟨as.map ov, (q.ex e).top, sz_lt (by rw [List.length_map]; have := hS.len; omega), ⟨as ++ [x], ?_, fun b fb => ?_⟩, (sm.trans e).mut n⟩
      · have := (q.ex e).push hx ExB.up upd_same
        rw [show ps.take (i + 1) = ps.take i ++ [y] by rw [List.take_add_one, py]; rfl]
        exact this
      · rcases foot_push fb with z | z
        · exact fr b z
        · exact fx b z
    refine (show if (true : Bool) = true then _ else CpP H D ps (i + 1) H' from r_tt ?_)
    rcases hS.sub i x hx with ⟨rfl, py⟩ | ⟨b, us, rfl, py, hb⟩
    · refine ⟨_, hj _, rfl, true, rfl, r_tt ?_⟩
      exact done none none H' (Ex.refl _) (fun b z => by cases z) py (.inl ⟨rfl, rfl⟩)
    · refine ⟨_, hj _, rfl, false, rfl, r_ff ?_⟩
      refine ⟨_, hj _, b, us.map V.int, rfl, .inl (ex_l sm hb), fun c nc => ?_⟩
      have nf : ¬ foot D as c := fun z => by
        obtain ⟨o, ho⟩ := q.foot_there z
        rw [ho] at nc; cases nc
      exact done (some c) (some us) _ (Ex.new nc) (fun b z => by cases z; exact fresh_back sm nc) py (.inr ⟨c, us, rfl, rfl, upd_same, nf⟩)
  · obtain ⟨⟨as, q, fr⟩, sm⟩ := p
    rw [hS.len, List.take_length] at q
    exact k D as H' sm fr q
end
end Z
namespace Z
open PySem PySem.Spec PyProof.Rows L2 Evl
/-! ### classes -/
structure Kn (P : Program) (w : World) (K : PySem.W.Frag) (mg : Str → Option Value) (base : Heap) (k : Nat) (x : Str) (C : Addr) (sp : Sp) : Prop where
  ex : ∃ (f : Addr) (fd : FuncData) (ps : List Str), FnOk P w K mg base (L2.CX P w) k f fd ps sp ∧ Mk K C f ∧ mg x = some (.ref C) ∧ Binds K fd ps []
theorem Mf.kn {P : Program} {w : World} {K : PySem.W.Frag} {mg : Str → Option Value} {base : Heap} {x q : Str} {st : Stmt} {ps N : List Str} {k : Nat} {sp : Sp} {C : Addr} (F : Mf K C "__init__" q st ps) (mk : PySem.W.makesIn K C = true ∧ PySem.W.keepIn K (.ref C) = true) (hm : mg x = some (.ref C))
    (S : FnScope N ps (defScope st)) (len : ∀ vs H Q E, sp vs H Q E → vs.length = ps.length)
    (hbody : ∀ (cdv : Value) (f : Addr) (A : Around) (outer : List Env) (s : Shared) (H : Hp) (vs : List V) (Q : VK) (E : XK), Room k (A.deeper (envOfC q (defScope st) s.heap.objs.size f cdv)) → sp vs H Q E →
      ∃ t, PSs (cxOf (L2.CX P w) P w K mg base N q (defScope st) f cdv A outer s H E) (defBody st) t ∧ t { nx := fun _ H' => Q .non H', rt := Q } (start N vs) H) : Kn P w K mg base (k + 1) x C sp := by
  obtain ⟨f, fd, F1, me, hb⟩ := F.ex
  exact ⟨f, fd, ps, F1.okX S len (fun cdv A outer s H vs Q E hr h => hbody cdv f A outer s H vs Q E hr h), ⟨mk.1, me.at_, me.fn, mk.2⟩, hm, hb⟩
/-- C(e, ..) -/
def tMk (C : Addr) (sp : Sp) (E : L2.St → XK) (t : TA) : TE := fun σ H Q => t σ H fun vs H1 => ∀ x dx, H1 x = none → H1 dx = none → dx ≠ x → sp (.ref x :: vs) (L2.upd (L2.upd H1 dx (.own x)) x (.ins C dx [])) (fun v H2 => v = .non ∧ Q (.ref x) H2) (E σ)
section
variable {X : Cx} {k j : Nat} {C : Addr} {sp : Sp} {W : WX} {x : Str} {p pos : Pos} {e : Expr} {es : List Expr} {t : TA}
theorem run_mk {pins : List (Addr × Obj)} {σ : L2.St} {H : Hp} {s : Shared} {Q : VK} {us : List Value} {vs : List V} (D : Kn X.prog X.w X.K X.mg X.base k x C sp) (hr : Room (k + 1) X.A) (tk : Takes X W) (I : Inv X pins σ H s) (r : Vals vs us)
    (h : ∀ x dx, H x = none → H dx = none → dx ≠ x → sp (.ref x :: vs) (L2.upd (L2.upd H dx (.own x)) x (.ins C dx [])) (fun v H2 => v = .non ∧ Q (.ref x) H2) (WE W σ)) :
    wpAny (model X.prog X.w) X.A (call (.ref C) us) (EP X pins σ Q) X.xe s := by
  obtain ⟨f, fd, ps, F, M, _, hb⟩ := D.ex
  have want := h (s.heap.objs.size + 1) s.heap.objs.size (I.hok.fresh (Nat.le_succ _)) (I.hok.fresh (Nat.le_refl _)) (Nat.ne_of_lt (Nat.lt_succ_self _))
  have I2 := Inv.made (C := C) I
  have rr : Vals (V.ref (s.heap.objs.size + 1) :: vs) (Value.ref (s.heap.objs.size + 1) :: us) := .cons rfl r
  have nargs : (Value.ref (s.heap.objs.size + 1) :: us).length = ps.length := by rw [← rr.length, F.len _ _ _ _ want]
  have b := hb _ (Value.ref (s.heap.objs.size + 1) :: us) I2.kIn (by rw [List.append_nil]; exact nargs)
  rw [List.append_nil] at b
  refine wpAny_call (make_map (f := f) I.kIn M.makes M.init (beq_iff_eq.mp M.fn) (codeAny_mono (F.run _ X.stack _ _ ⟨Value.ref (s.heap.objs.size + 1) :: us, []⟩ (Value.ref (s.heap.objs.size + 1) :: us) _ _ (WE W σ) (hr.make C us []) (I2.env0.make C us []) b rr want) fun res s' done => ?_))
  match res, done with
  | .error er, done => exact passAt tk σ pins _ _ er s' I2 done
  | .ok (.ret u), done =>
    obtain ⟨v, H', I3, rv, ev, q⟩ := I2.after done
    subst ev
    exact ⟨rv, ⟨V.ref (s.heap.objs.size + 1), H', I3, rfl, q⟩⟩
  | .ok .next, done => exact done.elim
  | .ok .brk, done => exact done.elim
  | .ok .cont, done => exact done.elim
theorem pe_k (D : Kn X.prog X.w X.K X.mg X.base k x C sp) (hr : Room j X.A) (hk : k + 1 ≤ j) (tk : Takes X W) (ha : PA X (e :: es) t) (hg : Gl X x := by rfl) (hdb : (x == ("__debug__" : Str)) = false := by decide)
    (he : starEach (e :: es) X.env = (false, eval e X.env) :: starEach es X.env := by rfl) (hpl : (backTo pos (starEach es X.env)).any (·.1) = false := by rfl) : PE X (.Call (.Name x p) (e :: es) [] pos) (tMk C sp (WE W) t) := by
  obtain ⟨f, fd, ps, F, M, hm, hb⟩ := id D.ex
  refine ⟨fun pins s σ H Q I h => wpAny_Call_Name_kw (ld_glob I hg hm ?_ hdb)⟩
  exact PySem.W.callWith_K (h₀ := X.base) I.ok.mod.kin M.kp (thn (ha.run pos pins s σ H _ I h) fun us s1 ⟨vs, H1, I1, r, q⟩ => ⟨I1.kIn, run_mk D (hr.mono hk) tk I1 r q⟩) he hpl
theorem pe_k0 (D : Kn X.prog X.w X.K X.mg X.base k x C sp) (hr : Room j X.A) (hk : k + 1 ≤ j) (tk : Takes X W) (hg : Gl X x := by rfl) (hdb : (x == ("__debug__" : Str)) = false := by decide) : PE X (.Call (.Name x p) [] [] pos) (tMk C sp (WE W) tNil) := by
  obtain ⟨f, fd, ps, F, M, hm, hb⟩ := id D.ex
  refine ⟨fun pins s σ H Q I h => wpAny_Call_Name_kw (ld_glob I hg hm ?_ hdb)⟩
  exact PySem.W.callWith_K0 I.kIn M.kp (run_mk (us := []) D (hr.mono hk) tk I .nil h)
end
section
variable {σ : L2.St} {H : Hp} {Q : VK} {K : PySem.W.Frag} {a C dx : Addr} {fs : List (Str × V)} {f m : Str} {v : V} {ta tv : TE} {t : TA} {D : Ends} {sp : Sp} {E : L2.St → XK}
/-- a new instance, then __init__ -/
theorem r_mk (k : t σ H fun vs H1 => ∀ x dx, H1 x = none → H1 dx = none → dx ≠ x → sp (.ref x :: vs) (L2.upd (L2.upd H1 dx (.own x)) x (.ins C dx [])) (fun v H2 => v = .non ∧ Q (.ref x) H2) (E σ)) : tMk C sp E t σ H Q := k
theorem r_ms (k : ta σ H fun x H1 => ∃ a dx fs, x = .ref a ∧ H1 a = some (.ins C dx fs) ∧ fs.lookup m = none ∧ t σ H1 fun vs H2 => sp (x :: vs) H2 Q (E σ)) : tMS C m sp E ta t σ H Q := k
theorem r_ms1 {tr : TA} {R : List V → Hp → Prop} (h : H a = some (.ins C dx fs)) (hl : fs.lookup m = none) (k : tr σ H R) : ∃ a' dx fs, V.ref a = .ref a' ∧ H a' = some (.ins C dx fs) ∧ fs.lookup m = none ∧ tr σ H R := ⟨a, dx, fs, rfl, h, hl, k⟩
theorem r_fld (k : ta σ H fun x H1 => ∃ a C dx fs v, x = .ref a ∧ H1 a = some (.ins C dx fs) ∧ Cls K C ∧ NoAttr K C f ∧ fs.lookup f = some v ∧ Q v H1) : tFld K ta f σ H Q := k
theorem r_fld1 {R : V → Prop} (h : H a = some (.ins C dx fs)) (c : Cls K C) (n : NoAttr K C f) (hl : fs.lookup f = some v) (k : R v) : ∃ a' C dx fs v, V.ref a = .ref a' ∧ H a' = some (.ins C dx fs) ∧ Cls K C ∧ NoAttr K C f ∧ fs.lookup f = some v ∧ R v := ⟨a, C, dx, fs, v, rfl, h, c, n, hl, k⟩
theorem r_sfld (k : tv σ H fun y H1 => ta σ H1 fun x H2 => ∃ a C dx fs, x = .ref a ∧ H2 a = some (.ins C dx fs) ∧ Cls K C ∧ NoAttr K C f ∧ fs.length < 1000 ∧ D.nx σ (L2.upd H2 a (.ins C dx (putF f y fs)))) : sFld K ta tv f D σ H := k
theorem r_sfld1 {R : Hp → Prop} {y : V} (h : H a = some (.ins C dx fs)) (c : Cls K C) (n : NoAttr K C f) (hl : fs.length < 1000) (k : R (L2.upd H a (.ins C dx (putF f y fs)))) : ∃ a' C dx fs, V.ref a = .ref a' ∧ H a' = some (.ins C dx fs) ∧ Cls K C ∧ NoAttr K C f ∧ fs.length < 1000 ∧ R (L2.upd H a' (.ins C dx (putF f y fs))) := ⟨a, C, dx, fs, rfl, h, c, n, hl, k⟩
end
end Z
namespace Z
open PySem PySem.Spec PyProof.Rows L2 Evl
/-- the items of a thing that is a list -/
def objL (H : Hp) : V → Option (List V)
  | .ref a => match H a with
    | some (.lst xs) => some xs
    | some (.frz _ (.lst xs)) => some xs
    | _ => none
  | _ => none
theorem objL_lst {H : Hp} {a : Addr} {xs : List V} (h : H a = some (.lst xs)) : objL H (.ref a) = some xs := by
  show (match H a with | some (.lst xs) => some xs | some (.frz _ (.lst xs)) => some xs | _ => none) = _
  rw [h]
theorem objL_sq {K : PySem.W.Frag} {H : Hp} {x : V} {xs : List V} (h : objL H x = some xs) : ∃ a, x = .ref a ∧ SqL K H a xs := by
  cases x with
  | ref a =>
    have h' : (match H a with | some (.lst xs) => some xs | some (.frz _ (.lst xs)) => some xs | _ => none) = some xs := h
    refine ⟨a, rfl, ?_⟩
    split at h'
    · rename_i e; cases h'; exact SqL.of e
    · rename_i e; cases h'; exact .inl (.inr ⟨_, e⟩)
    · cases h'
  | _ => cases h
theorem objL_ex {H H' : Hp} {x : V} (h : AnyV H x) (e : Ex H H') : objL H' x = objL H x := by
  cases x with
  | ref a =>
    have h' : objK (H a) ≠ "?" := h
    show (match H' a with | some (.lst xs) => some xs | some (.frz _ (.lst xs)) => some xs | _ => none) = (match H a with | some (.lst xs) => some xs | some (.frz _ (.lst xs)) => some xs | _ => none)
    cases q : H a with
    | none => rw [q] at h'; exact (h' rfl).elim
    | some o => rw [e a o q]
  | _ => rfl
theorem kit_list {H : Hp} {x : V} (h : AnyV H x) : kitB (kindV H x) "list" = some (objL H x).isSome := by
  refine h.elim ?_ ?_ ?_ ?_ ?_ ?_ ?_ ?_ ?_
  · rintro rfl; rfl
  · rintro b rfl; rfl
  · rintro b rfl; rfl
  · rintro b rfl; rfl
  · rintro a xs rfl e; rw [kind_ref e, objL_lst e]; rfl
  · rintro a o xs rfl e
    rw [kind_ref e, show objL H (.ref a) = some xs by show (match H a with | some (.lst xs) => some xs | some (.frz _ (.lst xs)) => some xs | _ => none) = _; rw [e]]; rfl
  · rintro a xs rfl e
    rw [kind_ref e, show objL H (.ref a) = none by show (match H a with | some (.lst xs) => some xs | some (.frz _ (.lst xs)) => some xs | _ => none) = _; rw [e]]; rfl
  · rintro a xs rfl e
    rw [kind_ref e, show objL H (.ref a) = none by show (match H a with | some (.lst xs) => some xs | some (.frz _ (.lst xs)) => some xs | _ => none) = _; rw [e]]; rfl
  · rintro a xs rfl e
    rw [kind_ref e, show objL H (.ref a) = none by show (match H a with | some (.lst xs) => some xs | some (.frz _ (.lst xs)) => some xs | _ => none) = _; rw [e]]; rfl
theorem r_isi_list {K : PySem.W.Frag} {H : Hp} {Q : VK} {x : V} (h : AnyV H x) (k : Q (.bl (objL H x).isSome) H) : rIsi K [x, .ty "list"] H Q := r_isi h.ty (kit_list h) k
def wordsV (H : Hp) (x : V) : Bool := match objL H x with
  | some xs => decide (xs.length = 8) && xs.all wordV
  | none => false
def imageV (H : Hp) (x : V) : Bool := match objL H x with
  | some xs => decide (1 ≤ xs.length) && decide (xs.length ≤ 24) && xs.all (fun y => decide (y = .non) || wordsV H y)
  | none => false
theorem wordsV_ex {H H' : Hp} {x : V} (h : AnyV H x) (e : Ex H H') : wordsV H' x = wordsV H x := by unfold wordsV; rw [objL_ex h e]
end Z
namespace Z
open PySem PySem.Spec PyProof.Rows L2 Evl
/-! ### pages -/
structure PgOk (ps : Pg) : Prop where
  lo : 1 ≤ ps.length
  hi : ps.length ≤ 24
  all : ∀ ws, some ws ∈ ps → ws.length = 8 ∧ ∀ w ∈ ws, 0 ≤ w ∧ w < 281474976710656
theorem PgOk.set {ps : Pg} (h : PgOk ps) {i : Nat} {ws us : List Int} (hi : ps[i]? = some (some ws)) (hu : us.length = 8 ∧ ∀ w ∈ us, 0 ≤ w ∧ w < 281474976710656) : PgOk (ps.set i (some us)) := by
  refine ⟨by rw [List.length_set]; exact h.lo, by rw [List.length_set]; exact h.hi, fun vs hv => ?_⟩
  rcases List.mem_or_eq_of_mem_set hv with q | q
  · exact h.all vs q
  · cases q; exact hu
theorem PgOk.drop {ps : Pg} (h : PgOk ps) {i : Nat} : PgOk (ps.set i none) := by
  refine ⟨by rw [List.length_set]; exact h.lo, by rw [List.length_set]; exact h.hi, fun vs hv => ?_⟩
  rcases List.mem_or_eq_of_mem_set hv with q | q
  · exact h.all vs q
  · cases q
def belowN : V → Nat → Bool
  | .int i, n => decide (0 ≤ i) && decide (i < (n : Int))
  | _, _ => false
def hasV (ps : Pg) : V → Bool
  | .int i => decide (0 ≤ i) && decide (i < ps.length) && (ps.getD i.toNat none).isSome
  | _ => false
theorem hasV_some {ps : Pg} {i : Nat} {ws : List Int} (h : ps[i]? = some (some ws)) : hasV ps (.int (i : Int)) = true := by
  have hi := (List.getElem?_eq_some_iff.mp h).1
  show (decide ((0 : Int) ≤ i) && decide ((i : Int) < ps.length) && (ps.getD (i : Int).toNat none).isSome) = true
  rw [decide_eq_true (by omega), decide_eq_true (by omega), Int.toNat_natCast, List.getD_eq_getElem?_getD, h]; rfl
theorem hasV_none {ps : Pg} {i : Nat} (h : ps[i]? = some none) : hasV ps (.int (i : Int)) = false := by
  show (decide ((0 : Int) ≤ i) && decide ((i : Int) < ps.length) && (ps.getD (i : Int).toNat none).isSome) = false
  rw [Int.toNat_natCast, List.getD_eq_getElem?_getD, h, Bool.and_comm]; rfl
theorem hasV_yes {ps : Pg} {x : V} (h : hasV ps x = true) : ∃ (i : Nat) (ws : List Int), x = .int (i : Int) ∧ ps[i]? = some (some ws) := by
  cases x with
  | int i =>
    have h' : (decide ((0 : Int) ≤ i) && decide ((i : Int) < ps.length) && (ps.getD i.toNat none).isSome) = true := h
    simp only [Bool.and_eq_true, decide_eq_true_eq] at h'
    obtain ⟨⟨h0, h1⟩, h2⟩ := h'
    have hl : i.toNat < ps.length := by omega
    rw [List.getD_eq_getElem?_getD, List.getElem?_eq_getElem hl] at h2
    obtain ⟨ws, e⟩ := Option.isSome_iff_exists.mp h2
    exact ⟨i.toNat, ws, by rw [Int.toNat_of_nonneg h0], by rw [List.getElem?_eq_getElem hl]; exact congrArg some e⟩
  | _ => cases h
theorem ixN_at {n j : Nat} (h : j < n) : ixN n (j : Int) = some j := by
  unfold ixN
  rw [if_pos (by omega), if_pos (by omega), Int.toNat_natCast]
/-- the pages that a thing shows -/
def intsOf : List V → Option (List Int)
  | [] => some []
  | .int i :: r => (intsOf r).map (i :: ·)
  | _ => none
theorem intsOf_eq : ∀ {xs : List V} {ns : List Int}, intsOf xs = some ns → xs = ns.map V.int
  | [], _, h => by cases h; rfl
  | .int i :: r, ns, h => by
    have h' : (intsOf r).map (i :: ·) = some ns := h
    cases e : intsOf r with
    | none => rw [e] at h'; cases h'
    | some ms => rw [e] at h'; cases h'; rw [intsOf_eq e]; rfl
  | .non :: r, ns, h => by cases h
  | .bl b :: r, ns, h => by cases h
  | .str b :: r, ns, h => by cases h
  | .byt b :: r, ns, h => by cases h
  | .flt b :: r, ns, h => by cases h
  | .ref b :: r, ns, h => by cases h
  | .ty b :: r, ns, h => by cases h
theorem intsOf_map : ∀ ns : List Int, intsOf (ns.map V.int) = some ns
  | [] => rfl
  | n :: ns => by show (intsOf (ns.map V.int)).map (n :: ·) = _; rw [intsOf_map ns]; rfl
theorem intsOf_words : ∀ {xs : List V}, xs.all wordV = true → ∃ ns, intsOf xs = some ns ∧ ∀ n ∈ ns, 0 ≤ n ∧ n < 281474976710656
  | [], _ => ⟨[], rfl, fun n h => by cases h⟩
  | x :: r, h => by
    simp only [List.all_cons, Bool.and_eq_true] at h
    obtain ⟨ns, e, hn⟩ := intsOf_words h.2
    cases x with
    | int i =>
      have h1 : (decide (0 ≤ i) && decide (i < 281474976710656)) = true := h.1
      simp at h1
      refine ⟨i :: ns, by show (intsOf r).map (i :: ·) = _; rw [e]; rfl, fun n hm => ?_⟩
      rcases List.mem_cons.mp hm with rfl | hm
      · exact h1
      · exact hn n hm
    | _ => cases h.1
def pageOf (H : Hp) : V → Option (Option (List Int))
  | .non => some none
  | x => ((objL H x).bind intsOf).map some
def pagesOf (H : Hp) : List V → Option Pg
  | [] => some []
  | x :: r => match pageOf H x, pagesOf H r with
    | some p, some ps => some (p :: ps)
    | _, _ => none
def imageOf (H : Hp) (x : V) : Option Pg := (objL H x).bind (pagesOf H)
end Z
namespace Z
open PySem PySem.Spec PyProof.Rows L2 Evl
theorem hasV_out {ps : Pg} {x : V} (h : belowN x ps.length = false) : hasV ps x = false := by
  cases x with
  | int i =>
    have h' : (decide ((0 : Int) ≤ i) && decide ((i : Int) < ps.length)) = false := h
    show (decide ((0 : Int) ≤ i) && decide ((i : Int) < ps.length) && (ps.getD i.toNat none).isSome) = false
    rw [h']; rfl
  | _ => rfl
theorem page_is {K : PySem.W.Frag} {H : Hp} {y : V} (h : (decide (y = .non) || wordsV H y) = true) : ∃ p, pageOf H y = some p ∧ ((y = .non ∧ p = none) ∨ ∃ b ws, y = .ref b ∧ p = some ws ∧ SqL K H b (ws.map V.int) ∧ ws.length = 8 ∧ ∀ w ∈ ws, 0 ≤ w ∧ w < 281474976710656) := by
  by_cases c : y = .non
  · subst c; exact ⟨none, rfl, .inl ⟨rfl, rfl⟩⟩
  rw [decide_eq_false c, Bool.false_or] at h
  unfold wordsV at h
  cases e : objL H y with
  | none => rw [e] at h; cases h
  | some xs =>
    rw [e] at h
    obtain ⟨a, rfl, hS⟩ := objL_sq (K := K) e
    simp only [Bool.and_eq_true, decide_eq_true_eq] at h
    obtain ⟨ns, en, hn⟩ := intsOf_words h.2
    have q := intsOf_eq en
    subst q
    refine ⟨some ns, ?_, .inr ⟨a, ns, rfl, rfl, hS, by rw [← h.1, List.length_map], hn⟩⟩
    show ((objL H (.ref a)).bind intsOf).map some = _
    rw [e, Option.bind_some, en]; rfl
theorem pages_is {K : PySem.W.Frag} {H : Hp} : ∀ {xs : List V}, xs.all (fun y => decide (y = .non) || wordsV H y) = true → ∃ ps, pagesOf H xs = some ps ∧ xs.length = ps.length ∧
    (∀ (i : Nat) v, xs[i]? = some v → (v = .non ∧ ps[i]? = some none) ∨ ∃ b ws, v = .ref b ∧ ps[i]? = some (some ws) ∧ SqL K H b (ws.map V.int)) ∧ ∀ ws, some ws ∈ ps → ws.length = 8 ∧ ∀ w ∈ ws, 0 ≤ w ∧ w < 281474976710656
  | [], _ => ⟨[], rfl, rfl, fun i v h => by simp at h, fun ws h => by cases h⟩
  | x :: r, h => by
    simp only [List.all_cons, Bool.and_eq_true] at h
    obtain ⟨p, e1, h1⟩ := page_is (K := K) h.1
    obtain ⟨ps, e2, l2, h2, h3⟩ := pages_is (K := K) h.2
    refine ⟨p :: ps, ?_, by rw [List.length_cons, List.length_cons, l2], fun i v hv => ?_, fun ws hw => ?_⟩
    · show (match pageOf H x, pagesOf H r with | some p, some ps => some (p :: ps) | _, _ => none) = _
      rw [e1, e2]
    · cases i with
      | zero =>
        cases hv
        rcases h1 with ⟨a, rfl⟩ | ⟨b, ws, a, rfl, hS, _⟩
        · exact .inl ⟨a, rfl⟩
        · exact .inr ⟨b, ws, a, rfl, hS⟩
      | succ i => exact h2 i v (by simpa using hv)
    · rcases List.mem_cons.mp hw with q | q
      · rcases h1 with ⟨a, rfl⟩ | ⟨b, us, a, rfl, hS, hl, hb⟩
        · cases q
        · cases q; exact ⟨hl, hb⟩
      · exact h3 ws q
theorem image_rl {K : PySem.W.Frag} {H : Hp} {x : V} (h : imageV H x = true) : ∃ a vs ps, x = .ref a ∧ RL K H a vs ps ∧ PgOk ps ∧ imageOf H x = some ps := by
  unfold imageV at h
  cases e : objL H x with
  | none => rw [e] at h; cases h
  | some xs =>
    rw [e] at h
    obtain ⟨a, rfl, hS⟩ := objL_sq (K := K) e
    simp only [Bool.and_eq_true, decide_eq_true_eq] at h
    obtain ⟨⟨h1, h2⟩, h3⟩ := h
    obtain ⟨ps, e2, l2, hs, hk⟩ := pages_is (K := K) h3
    exact ⟨a, xs, ps, rfl, ⟨hS, l2, hs⟩, ⟨by omega, by omega, hk⟩, by unfold imageOf; rw [e, Option.bind_some, e2]⟩
/-- a good list of pages is an image -/
theorem NL.image {H : Hp} {l : Addr} {as : List (Option Addr)} {ps : Pg} (n : NL H l as ps) (ok : PgOk ps) : imageV H (.ref l) = true ∧ imageOf H (.ref l) = some ps ∧ (∀ xs, objL H (.ref l) = some xs → xs.length ≤ 1000 ∧ ∀ y ∈ xs, AnyV H y ∧ ∀ zs, objL H y = some zs → zs.length ≤ 1000 ∧ ∀ z ∈ zs, AnyV H z) := by
  have e := objL_lst n.top
  have item : ∀ (i : Nat) y, (as.map ov)[i]? = some y → (y = .non ∧ ps[i]? = some none) ∨ ∃ b ws, y = .ref b ∧ ps[i]? = some (some ws) ∧ H b = some (.lst (ws.map V.int)) := fun i y h => by
    rw [List.getElem?_map] at h
    cases q : as[i]? with
    | none => rw [q] at h; cases h
    | some x =>
      rw [q] at h
      cases x with
      | none => cases h; exact .inl ⟨rfl, n.gone i q⟩
      | some b => cases h; obtain ⟨ws, h1, h2⟩ := n.sub i b q; exact .inr ⟨b, ws, rfl, h1, h2⟩
  have words : ∀ b ws, some ws ∈ ps → H b = some (.lst (ws.map V.int)) → wordsV H (.ref b) = true := fun b ws hm hb => by
    unfold wordsV
    rw [objL_lst hb]
    obtain ⟨a1, a2⟩ := ok.all ws hm
    show (decide ((ws.map V.int).length = 8) && (ws.map V.int).all wordV) = true
    rw [List.length_map, decide_eq_true a1, Bool.true_and, List.all_eq_true]
    intro y hy
    obtain ⟨w, hw, rfl⟩ := List.mem_map.mp hy
    show (decide (0 ≤ w) && decide (w < 281474976710656)) = true
    rw [decide_eq_true (a2 w hw).1, decide_eq_true (a2 w hw).2]; rfl
  have hall : (as.map ov).all (fun y => decide (y = .non) || wordsV H y) = true := by
    rw [List.all_eq_true]
    intro y hy
    obtain ⟨i, hi, ey⟩ := List.getElem_of_mem hy
    rcases item i y (by rw [List.getElem?_eq_getElem hi, ey]) with ⟨rfl, _⟩ | ⟨b, ws, rfl, h1, h2⟩
    · rfl
    · rw [words b ws (List.mem_of_getElem? h1) h2, Bool.or_true]
  refine ⟨?_, ?_, fun xs hx => ?_⟩
  · unfold imageV
    rw [e]
    show (decide (1 ≤ (as.map ov).length) && decide ((as.map ov).length ≤ 24) && (as.map ov).all _) = true
    rw [hall, List.length_map, n.len, decide_eq_true ok.lo, decide_eq_true ok.hi]; rfl
  · have pg : ∀ (xs : List V) (qs : Pg), xs.length = qs.length → (∀ (i : Nat) y, xs[i]? = some y → (y = .non ∧ qs[i]? = some none) ∨ ∃ b ws, y = .ref b ∧ qs[i]? = some (some ws) ∧ H b = some (.lst (ws.map V.int))) → pagesOf H xs = some qs := by
      intro xs
      induction xs with
      | nil => intro qs hl _; cases qs with | nil => rfl | cons q qs => cases hl
      | cons x xs ih =>
        intro qs hl hi
        cases qs with
        | nil => cases hl
        | cons q qs =>
          have r := ih qs (by simpa using hl) fun i y h => by simpa using hi (i + 1) y (by simpa using h)
          show (match pageOf H x, pagesOf H xs with | some p, some ps => some (p :: ps) | _, _ => none) = _
          rw [r]
          rcases hi 0 x rfl with ⟨rfl, h2⟩ | ⟨b, ws, rfl, h1, h2⟩
          · cases h2; rfl
          · cases h1
            have : pageOf H (.ref b) = some (some ws) := by
              show ((objL H (.ref b)).bind intsOf).map some = _
              rw [objL_lst h2, Option.bind_some, intsOf_map]; rfl
            rw [this]
    unfold imageOf
    rw [e, Option.bind_some]
    exact pg _ _ (by rw [List.length_map]; exact n.len) item
  · rw [e] at hx; cases hx
    refine ⟨by rw [List.length_map, n.len]; have := ok.hi; omega, fun y hy => ?_⟩
    obtain ⟨i, hi, ey⟩ := List.getElem_of_mem hy
    rcases item i y (by rw [List.getElem?_eq_getElem hi, ey]) with ⟨rfl, _⟩ | ⟨b, ws, rfl, h1, h2⟩
    · exact ⟨.non, fun zs hz => by cases hz⟩
    · refine ⟨.lst h2, fun zs hz => ?_⟩
      rw [objL_lst h2] at hz; cases hz
      refine ⟨by rw [List.length_map, (ok.all ws (List.mem_of_getElem? h1)).1]; decide, fun z hz => ?_⟩
      obtain ⟨w, _, rfl⟩ := List.mem_map.mp hz
      exact .int
end Z
namespace Z
open PySem PySem.Spec PyProof.Rows L2 Evl
theorem given_none (n : Nat) (v : Nat → V) : given n (fun _ => false) v = [] := by
  unfold given
  rw [List.filter_eq_nil_iff.mpr (fun _ _ => by decide)]
  rfl
theorem NL.vnone {H : Hp} {l : Addr} {as : List (Option Addr)} {ps : Pg} (n : NL H l as ps) {i : Nat} (h : ps[i]? = some none) : atI (as.map ov) (i : Int) = some .non := atI_nat (by rw [List.getElem?_map, n.no h]; rfl)
theorem NL.vsome {H : Hp} {l : Addr} {as : List (Option Addr)} {ps : Pg} (n : NL H l as ps) {i : Nat} {ws : List Int} (h : ps[i]? = some (some ws)) : ∃ b, as[i]? = some (some b) ∧ atI (as.map ov) (i : Int) = some (.ref b) ∧ H b = some (.lst (ws.map V.int)) := by
  obtain ⟨b, h1, h2⟩ := n.at_ h
  exact ⟨b, h1, atI_nat (by rw [List.getElem?_map, h1]; rfl), h2⟩
theorem NL.lenV {H : Hp} {l : Addr} {as : List (Option Addr)} {ps : Pg} (n : NL H l as ps) : (as.map ov).length = ps.length := by rw [List.length_map, n.len]
theorem pg_cases {ps : Pg} {i : Nat} (h : i < ps.length) : ps[i]? = some none ∨ ∃ ws, ps[i]? = some (some ws) := by
  rw [List.getElem?_eq_getElem h]
  cases ps[i] with
  | none => exact .inl rfl
  | some ws => exact .inr ⟨ws, rfl⟩
end Z
namespace Z
open PySem PySem.Spec PyProof.Rows L2 Evl
section
variable {K : PySem.W.Frag} {H : Hp} {Q : VK} {a b : Addr}
theorem r_neBS {bs : List Bool} (h1 : SqL K H a (bs.map V.bl)) (h2 : SqL K H b (bs.map V.bl)) (k : Q (.bl false) H) : rNeD K (.ref a) (.ref b) H Q := r_neBs h1 h2 (by rw [decide_eq_true rfl]; exact k)
theorem r_neIS {bs : List Int} (h1 : SqL K H a (bs.map V.int)) (h2 : SqL K H b (bs.map V.int)) (k : Q (.bl false) H) : rNeD K (.ref a) (.ref b) H Q := r_neIs h1 h2 (by rw [decide_eq_true rfl]; exact k)
theorem r_eqBS {bs : List Bool} (h1 : SqL K H a (bs.map V.bl)) (h2 : SqL K H b (bs.map V.bl)) (k : Q (.bl true) H) : rEqD K (.ref a) (.ref b) H Q := r_eqBs h1 h2 (by rw [decide_eq_true rfl]; exact k)
theorem r_eqIS {bs : List Int} (h1 : SqL K H a (bs.map V.int)) (h2 : SqL K H b (bs.map V.int)) (k : Q (.bl true) H) : rEqD K (.ref a) (.ref b) H Q := r_eqIs h1 h2 (by rw [decide_eq_true rfl]; exact k)
end
theorem given_len0 {n : Nat} {f : Nat → Bool} {v : Nat → V} {x : V} (h : x ∈ given n f v) : ∃ i, i < n ∧ f i = true ∧ x = v i := by
  unfold given at h
  obtain ⟨i, hi, rfl⟩ := List.mem_map.mp h
  rw [List.mem_filter, List.mem_range] at hi
  exact ⟨i, hi.1, hi.2, rfl⟩
/-- the places of a list that a test picks -/
def pick (n : Nat) (f : Nat → Bool) : List Int := ((List.range n).filter f).map fun (i : Nat) => (i : Int)
theorem given_pick (n : Nat) (f : Nat → Bool) : given n f (fun i => .int (i : Int)) = (pick n f).map V.int := by
  unfold given pick
  rw [List.map_map]; rfl
theorem mem_pick {n : Nat} {f : Nat → Bool} {z : Int} (h : z ∈ pick n f) : ∃ i : Nat, z = (i : Int) ∧ i < n ∧ f i = true := by
  unfold pick at h
  obtain ⟨i, hi, rfl⟩ := List.mem_map.mp h
  rw [List.mem_filter, List.mem_range] at hi
  exact ⟨i, rfl, hi.1, hi.2⟩
theorem pick_has {n i : Nat} {f : Nat → Bool} (h : i < n) (hf : f i = true) : (i : Int) ∈ pick n f := List.mem_map.mpr ⟨i, List.mem_filter.mpr ⟨List.mem_range.mpr h, hf⟩, rfl⟩
theorem pick_len (n : Nat) (f : Nat → Bool) : (pick n f).length ≤ n := by
  unfold pick
  rw [List.length_map]
  have h := List.length_filter_le f (List.range n)
  rwa [List.length_range] at h
theorem atI_modI {ns : List Int} {c m : Int} (hm : (ns.length : Int) = m) (h0 : 0 < m) : ∃ z, atI (ns.map V.int) (c % m) = some (.int z) ∧ z ∈ ns := by
  have h1 := Int.emod_nonneg c (by omega : m ≠ 0)
  have h2 := Int.emod_lt_of_pos c h0
  exact atI_int (by omega) (by omega)
end Z
namespace Z
open PySem PySem.Spec PyProof.Rows L2 Evl
theorem r_cutT {σ : L2.St} {H : Hp} {D : Ends} {t u : TS} (k : t ⟨u D, D.rt, D.bk, D.ct⟩ σ H) : tCut t u D σ H := ⟨u D, k, fun _ _ h => h⟩
section
variable {σ : L2.St} {H H1 : Hp} {Q : VK} {D : Ends} {tb : TS} {g : TG} {K : PySem.W.Frag} {a : Addr} {xs : List V}
theorem r_iEnum {tr : TA} {R : It → Hp → Prop} (k : tr σ H fun vs H1 => ∃ a xs, vs = [.ref a] ∧ SqL K H1 a xs ∧ R (Ite K a) H1) : iEnum K tr σ H R := k
theorem r_iE (hS : SqL K H a xs) (Pv : Nat → L2.St → Hp → Prop) (h0 : Pv 0 σ H) (hl : ∀ i σ H, i ≤ xs.length → Pv i σ H → SqL K H a xs)
    (hs : ∀ i x T σ H, xs[i]? = some x → Pv i σ H → H T = none → g (.ref T) σ (L2.upd H T (.tup [.int ((i : Nat) : Int), x])) fun σ2 H2 => tb ⟨Pv (i + 1), D.rt, D.nx, Pv (i + 1)⟩ σ2 H2) (hd : ∀ σ H, Pv xs.length σ H → D.nx σ H) :
    ∃ b xs, [V.ref a] = [.ref b] ∧ SqL K H b xs ∧ ForW (Ite K b) g tb D σ H := by
  refine ⟨a, xs, rfl, hS, fun i m σ H => m = xs.length - i ∧ i ≤ xs.length ∧ Pv i σ H, ⟨xs.length, by simp, Nat.zero_le _, h0⟩, ?_⟩
  rintro i m σ H ⟨rfl, hi, p⟩
  have q := hl i σ H hi p
  by_cases hlt : i < xs.length
  · refine .inr ⟨⟨xs, xs[i], q, by simp [hlt]⟩, Pv (i + 1), fun σ' H' p' => ⟨xs.length - (i + 1), by omega, rfl, hlt, p'⟩, fun x H' y => ?_⟩
    obtain ⟨T, x, rfl, hT, rfl, y⟩ := y
    exact hs i x T σ H (y xs q) p hT
  · have e : i = xs.length := by omega
    subst e
    exact .inl ⟨⟨xs, q, Nat.le_refl _⟩, hd σ H p⟩
theorem r_clr (h : H a = some (.lst xs)) (k : ∀ H2, ExB a H H2 → H2 a = some (.lst []) → Q .non H2) : rClear (.ref a) [] H Q := ⟨a, xs, rfl, rfl, h, k _ ExB.up upd_same⟩
end
end Z
namespace Z
open PySem PySem.Spec PyProof.Rows L2 Evl
/-! ### a value with all that hangs from it, as data -/
mutual
inductive Tk (H : Hp) : V → PyData → Prop
  | non : Tk H .non .none
  | bl (b : Bool) : Tk H (.bl b) (.bool b)
  | int (i : Int) : Tk H (.int i) (.int i)
  | str (x : Str) : Tk H (.str x) (.str x)
  | lst {a : Addr} {xs : List V} {ds : List PyData} : H a = some (.lst xs) → TkAll H xs ds → Tk H (.ref a) (.list ds)
  | tup {a : Addr} {xs : List V} {ds : List PyData} : H a = some (.tup xs) → TkAll H xs ds → Tk H (.ref a) (.tuple ds)
inductive TkAll (H : Hp) : List V → List PyData → Prop
  | nil : TkAll H [] []
  | cons {v : V} {vs : List V} {d : PyData} {ds : List PyData} : Tk H v d → TkAll H vs ds → TkAll H (v :: vs) (d :: ds)
end
section
variable {H H' : Hp} {K : PySem.W.Frag}
mutual
theorem Tk.ex' (e : Ex H H') : ∀ (d : PyData) (v : V), Tk H v d → Tk H' v d
  | .none, _, h => by cases h; exact .non
  | .bool b, _, h => by cases h; exact .bl b
  | .int i, _, h => by cases h; exact .int i
  | .str x, _, h => by cases h; exact .str x
  | .list ds, _, h => by cases h with | lst h1 h2 => exact .lst (e _ _ h1) (TkAll.ex' e ds _ h2)
  | .tuple ds, _, h => by cases h with | tup h1 h2 => exact .tup (e _ _ h1) (TkAll.ex' e ds _ h2)
  | .dict _, _, h => by cases h
theorem TkAll.ex' (e : Ex H H') : ∀ (ds : List PyData) (vs : List V), TkAll H vs ds → TkAll H' vs ds
  | [], _, h => by cases h; exact .nil
  | d :: ds, _, h => by cases h with | cons h1 h2 => exact .cons (Tk.ex' e d _ h1) (TkAll.ex' e ds _ h2)
end
theorem Tk.ex {v : V} {d : PyData} (h : Tk H v d) (e : Ex H H') : Tk H' v d := Tk.ex' e d v h
mutual
theorem Tk.dp' : ∀ (d : PyData) (v : V), Tk H v d → Dp K H v d
  | .none, _, h => by cases h; exact .non
  | .bool b, _, h => by cases h; exact .bl b
  | .int i, _, h => by cases h; exact .int i
  | .str x, _, h => by cases h; exact .str x
  | .list ds, _, h => by cases h with | lst h1 h2 => exact .lst (SqL.of h1) (TkAll.dp' ds _ h2)
  | .tuple ds, _, h => by cases h with | tup h1 h2 => exact .tup (SqT.of h1) (TkAll.dp' ds _ h2)
  | .dict _, _, h => by cases h
theorem TkAll.dp' : ∀ (ds : List PyData) (vs : List V), TkAll H vs ds → DpAll K H vs ds
  | [], _, h => by cases h; exact .nil
  | d :: ds, _, h => by cases h with | cons h1 h2 => exact .cons (Tk.dp' d _ h1) (TkAll.dp' ds _ h2)
end
theorem Tk.dp {v : V} {d : PyData} (h : Tk H v d) : Dp K H v d := Tk.dp' d v h
theorem Tk.any {v : V} {d : PyData} (h : Tk H v d) : AnyV H v := by
  cases h with
  | non => exact .non
  | bl => exact .bl
  | int => exact .int
  | str => exact .str
  | lst h => exact .lst h
  | tup h => exact .tup h
theorem TkAll.len : ∀ {xs : List V} {ds : List PyData}, TkAll H xs ds → xs.length = ds.length
  | _, [], h => by cases h; rfl
  | _, d :: ds, h => by cases h with | cons _ h => rw [List.length_cons, List.length_cons, TkAll.len h]
theorem TkAll.get : ∀ {xs : List V} {ds : List PyData}, TkAll H xs ds → ∀ {i : Nat} {x : V}, xs[i]? = some x → ∃ d, ds[i]? = some d ∧ Tk H x d
  | _, [], h, i, x, e => by cases h; simp at e
  | _, d :: ds, h, i, x, e => by
    cases h with
    | cons h1 h2 =>
      cases i with
      | zero => cases e; exact ⟨d, rfl, h1⟩
      | succ i => exact TkAll.get h2 (i := i) e
theorem TkAll.of : ∀ {xs : List V} {ds : List PyData}, xs.length = ds.length → (∀ (i : Nat) x d, xs[i]? = some x → ds[i]? = some d → Tk H x d) → TkAll H xs ds
  | [], [], _, _ => .nil
  | [], _ :: _, e, _ => by cases e
  | _ :: _, [], e, _ => by cases e
  | x :: xs, d :: ds, e, h => .cons (h 0 x d rfl rfl) (TkAll.of (by simpa using e) fun i y f hy hf => h (i + 1) y f hy hf)
theorem TkAll.setA {xs : List V} {ds : List PyData} (h : TkAll H xs ds) {i : Nat} {v : V} {d : PyData} (hv : Tk H v d) : TkAll H (xs.set i v) (ds.set i d) := by
  refine TkAll.of (by rw [List.length_set, List.length_set, h.len]) fun j x f hx hf => ?_
  by_cases c : i = j
  · subst c
    have hi : i < xs.length := by have := (List.getElem?_eq_some_iff.mp hx).1; rwa [List.length_set] at this
    rw [List.getElem?_set_self hi] at hx
    rw [List.getElem?_set_self (by rw [← h.len]; exact hi)] at hf
    cases hx; cases hf; exact hv
  · rw [List.getElem?_set_ne c] at hx hf
    obtain ⟨e, he, t⟩ := h.get hx
    rw [hf] at he; cases he; exact t
theorem TkAll.app : ∀ {xs : List V} {ds : List PyData} {ys : List V} {es : List PyData}, TkAll H xs ds → TkAll H ys es → TkAll H (xs ++ ys) (ds ++ es)
  | _, [], _, _, h, k => by cases h; exact k
  | _, d :: ds, _, _, h, k => by cases h with | cons h1 h2 => exact .cons h1 (TkAll.app h2 k)
theorem TkAll.takeN : ∀ {xs : List V} {ds : List PyData}, TkAll H xs ds → ∀ n, TkAll H (xs.take n) (ds.take n)
  | _, [], h, n => by cases h; simp; exact .nil
  | _, d :: ds, h, 0 => by simp; exact .nil
  | _, d :: ds, h, n + 1 => by cases h with | cons h1 h2 => exact .cons h1 (TkAll.takeN h2 n)
theorem TkAll.rep {xs : List V} {ds : List PyData} (h : TkAll H xs ds) : ∀ n, TkAll H (List.replicate n xs).flatten (List.replicate n ds).flatten
  | 0 => .nil
  | n + 1 => by rw [List.replicate_succ, List.replicate_succ, List.flatten_cons, List.flatten_cons]; exact h.app (h.rep n)
theorem TkAll.ints : ∀ ws : List Int, TkAll H (ws.map V.int) (ws.map PyData.int)
  | [] => .nil
  | w :: ws => .cons (.int w) (TkAll.ints ws)
def wordD : PyData → Bool
  | .int n => decide (0 ≤ n) && decide (n < 281474976710656)
  | _ => false
def wordsD : PyData → Bool
  | .list xs => decide (xs.length = 8) && xs.all wordD
  | _ => false
def pageD : PyData → Bool
  | .none => true
  | d => wordsD d
def imageD : PyData → Bool
  | .list xs => decide (1 ≤ xs.length) && decide (xs.length ≤ 24) && xs.all pageD
  | _ => false
theorem TkAll.all {f : V → Bool} {g : PyData → Bool} (hf : ∀ v d, Tk H v d → f v = g d) : ∀ {xs : List V} {ds : List PyData}, TkAll H xs ds → xs.all f = ds.all g
  | _, [], h => by cases h; rfl
  | _, d :: ds, h => by cases h with | cons h1 h2 => rw [List.all_cons, List.all_cons, hf _ _ h1, TkAll.all hf h2]
theorem Tk.word {v : V} {d : PyData} (h : Tk H v d) : wordV v = wordD d := by cases h <;> rfl
theorem objL_tup {a : Addr} {xs : List V} (h : H a = some (.tup xs)) : objL H (.ref a) = none := by
  show (match H a with | some (.lst xs) => some xs | some (.frz _ (.lst xs)) => some xs | _ => none) = none
  rw [h]
theorem Tk.words {v : V} {d : PyData} (h : Tk H v d) : wordsV H v = wordsD d := by
  cases h with
  | lst h1 h2 => unfold wordsV; rw [objL_lst h1]; show (decide _ && _) = (decide _ && _); rw [h2.len, h2.all fun _ _ => Tk.word]
  | tup h1 h2 => unfold wordsV; rw [objL_tup h1]; rfl
  | _ => rfl
theorem Tk.page {v : V} {d : PyData} (h : Tk H v d) : (decide (v = .non) || wordsV H v) = pageD d := by
  rw [h.words]
  cases h <;> rfl
theorem Tk.image {v : V} {d : PyData} (h : Tk H v d) : imageV H v = imageD d := by
  cases h with
  | lst h1 h2 => unfold imageV; rw [objL_lst h1]; show (decide _ && decide _ && _) = (decide _ && decide _ && _); rw [h2.len, h2.all fun _ _ => Tk.page]
  | tup h1 h2 => unfold imageV; rw [objL_tup h1]; rfl
  | _ => rfl
/-- no list too long, down to the second -/
def smallD : PyData → Prop
  | .list ds => ds.length ≤ 1000 ∧ ∀ d ∈ ds, match d with | .list es => es.length ≤ 1000 | _ => True
  | _ => True
theorem TkAll.mem {xs : List V} {ds : List PyData} (h : TkAll H xs ds) {x : V} (hx : x ∈ xs) : ∃ d ∈ ds, Tk H x d := by
  obtain ⟨i, hi, e⟩ := List.getElem_of_mem hx
  obtain ⟨d, hd, t⟩ := h.get (i := i) (by rw [List.getElem?_eq_getElem hi, e])
  exact ⟨d, List.mem_of_getElem? hd, t⟩
theorem Tk.objs {v : V} {d : PyData} (h : Tk H v d) {xs : List V} (e : objL H v = some xs) : ∃ ds, d = .list ds ∧ TkAll H xs ds := by
  cases h with
  | lst h1 h2 => rw [objL_lst h1] at e; cases e; exact ⟨_, rfl, h2⟩
  | tup h1 h2 => rw [objL_tup h1] at e; cases e
  | _ => cases e
theorem Tk.small {v : V} {d : PyData} (h : Tk H v d) (s : smallD d) : ∀ xs, objL H v = some xs → xs.length ≤ 1000 ∧ ∀ y ∈ xs, AnyV H y ∧ ∀ zs, objL H y = some zs → zs.length ≤ 1000 ∧ ∀ z ∈ zs, AnyV H z := fun xs e => by
  obtain ⟨ds, rfl, h2⟩ := h.objs e
  refine ⟨by rw [h2.len]; exact s.1, fun y hy => ?_⟩
  obtain ⟨f, hf, t⟩ := h2.mem hy
  refine ⟨t.any, fun zs ez => ?_⟩
  obtain ⟨es, rfl, h3⟩ := t.objs ez
  exact ⟨by rw [h3.len]; exact s.2 _ hf, fun z hz => let ⟨_, _, q⟩ := h3.mem hz; q.any⟩
structure ShD (n : Nat) (d : PyData) : Prop where
  lay : d.canLay0 = true
  dep : d.depth ≤ n
theorem ShD.non {n : Nat} : ShD n .none := ⟨rfl, Nat.zero_le _⟩
theorem ShD.bl {n : Nat} {b : Bool} : ShD n (.bool b) := ⟨rfl, Nat.zero_le _⟩
theorem ShD.int {n : Nat} {i : Int} : ShD n (.int i) := ⟨rfl, Nat.zero_le _⟩
theorem ShD.str {n : Nat} {x : Str} (h : PyData.canLay0 (.str x) = true) : ShD n (.str x) := ⟨h, Nat.zero_le _⟩
theorem ShD.all {n : Nat} : ∀ {ds : List PyData}, (∀ d ∈ ds, ShD n d) → PyData.canLayAll0 ds = true ∧ PyData.depthAll ds ≤ n
  | [], _ => ⟨rfl, Nat.zero_le _⟩
  | d :: ds, h => by
    have h1 := h d List.mem_cons_self
    have h2 := ShD.all (ds := ds) fun e he => h e (List.mem_cons_of_mem _ he)
    exact ⟨by show (PyData.canLay0 d && PyData.canLayAll0 ds) = true; rw [h1.lay, h2.1]; rfl, by show max (PyData.depth d) (PyData.depthAll ds) ≤ n; exact Nat.max_le.mpr ⟨h1.dep, h2.2⟩⟩
theorem ShD.lst {n : Nat} {ds : List PyData} (h : ∀ d ∈ ds, ShD n d) : ShD (n + 1) (.list ds) := ⟨(ShD.all h).1, Nat.succ_le_succ (ShD.all h).2⟩
theorem ShD.tup {n : Nat} {ds : List PyData} (h : ∀ d ∈ ds, ShD n d) : ShD (n + 1) (.tuple ds) := ⟨(ShD.all h).1, Nat.succ_le_succ (ShD.all h).2⟩
theorem ShD.ints {n : Nat} {ws : List Int} : ShD (n + 1) (.list (ws.map PyData.int)) := .lst fun d h => by obtain ⟨i, _, rfl⟩ := List.mem_map.mp h; exact .int
theorem ShD.ok {n : Nat} {d : PyData} (h : ShD n d) (hn : n ≤ 64) : SeqAt.shaped d = true := by
  unfold SeqAt.shaped; rw [h.lay, decide_eq_true (Nat.le_trans h.dep hn)]; rfl
theorem ShD.mono {n m : Nat} {d : PyData} (h : ShD n d) (hn : n ≤ m) : ShD m d := ⟨h.lay, Nat.le_trans h.dep hn⟩
variable {Q : VK} {x y : V} {d e : PyData} {n m : Nat}
theorem r_eqT (h1 : Tk H x d) (h2 : Tk H y e) (s1 : ShD n d) (s2 : ShD m e) (n1 : n ≤ 64) (m1 : m ≤ 64) (k : Q (.bl (PyData.eqv d e)) H) : rEqD K x y H Q := ⟨d, e, h1.dp, h2.dp, s1.ok n1, s2.ok m1, k⟩
theorem r_neT (h1 : Tk H x d) (h2 : Tk H y e) (s1 : ShD n d) (s2 : ShD m e) (n1 : n ≤ 64) (m1 : m ≤ 64) (k : Q (.bl (!PyData.eqv d e)) H) : rNeD K x y H Q := ⟨d, e, h1.dp, h2.dp, s1.ok n1, s2.ok m1, k⟩
theorem r_eqTS (h1 : Tk H x d) (h2 : Tk H y d) (s1 : ShD n d) (n1 : n ≤ 64) (k : Q (.bl true) H) : rEqD K x y H Q := r_eqT h1 h2 s1 s1 n1 n1 (by rw [PySem.SeqAt.eqv_refl d s1.lay]; exact k)
theorem r_neTS (h1 : Tk H x d) (h2 : Tk H y d) (s1 : ShD n d) (n1 : n ≤ 64) (k : Q (.bl false) H) : rNeD K x y H Q := r_neT h1 h2 s1 s1 n1 n1 (by rw [PySem.SeqAt.eqv_refl d s1.lay]; exact k)
def pgD : Option (List Int) → PyData
  | none => .none
  | some ws => .list (ws.map PyData.int)
theorem NL.tkAll {l : Addr} {as : List (Option Addr)} {ps : Pg} (n : NL H l as ps) : TkAll H (as.map ov) (ps.map pgD) := by
  refine TkAll.of (by rw [List.length_map, List.length_map, n.len]) fun i x d hx hd => ?_
  rw [List.getElem?_map] at hx hd
  have hi : i < ps.length := by
    cases q : ps[i]? with
    | none => rw [q] at hd; cases hd
    | some _ => exact (List.getElem?_eq_some_iff.mp q).1
  rcases pg_cases hi with g | ⟨ws, g⟩
  · rw [n.no g] at hx; rw [g] at hd; cases hx; cases hd; exact .non
  · obtain ⟨b, q1, q2⟩ := n.at_ g
    rw [q1] at hx; rw [g] at hd; cases hx; cases hd; exact .lst q2 (TkAll.ints ws)
theorem NL.tk {l : Addr} {as : List (Option Addr)} {ps : Pg} (n : NL H l as ps) : Tk H (.ref l) (.list (ps.map pgD)) := .lst n.top n.tkAll
theorem ShD.pgs {ps : Pg} {n : Nat} {d : PyData} (h : d ∈ ps.map pgD) : ShD (n + 1) d := by
  obtain ⟨p, _, rfl⟩ := List.mem_map.mp h
  cases p with
  | none => exact .non
  | some ws => exact .ints
end
end Z
namespace Z
open PySem PySem.Spec PyProof.Rows L2 Evl
def mixedN (c k : Int) : Int := ((c % 1000003 + 7919 * k * k + k + 1) * 48271 % 2147483629) * ((c % 1000003 + 7919 * k * k + k + 1) * 48271 % 2147483629) % 2147483587
def wordN (c k : Int) : Int := [mixedN c k * 69621 % 2147483587 % 5, mixedN c k * 69621 % 2147483587 % 65536, 281474976710655 - mixedN c k * 69621 % 2147483587 % 3, mixedN c k * 69621 % 2147483587 * mixedN c k % 281474976710656].getD (mixedN c k % 4).toNat 0
theorem wordN_word (c k : Int) : 0 ≤ wordN c k ∧ wordN c k < 281474976710656 := by
  have h : mixedN c k % 4 = 0 ∨ mixedN c k % 4 = 1 ∨ mixedN c k % 4 = 2 ∨ mixedN c k % 4 = 3 := by omega
  unfold wordN
  rcases h with e | e | e | e <;> rw [e]
  · show 0 ≤ mixedN c k * 69621 % 2147483587 % 5 ∧ mixedN c k * 69621 % 2147483587 % 5 < 281474976710656; omega
  · show 0 ≤ mixedN c k * 69621 % 2147483587 % 65536 ∧ mixedN c k * 69621 % 2147483587 % 65536 < 281474976710656; omega
  · show 0 ≤ 281474976710655 - mixedN c k * 69621 % 2147483587 % 3 ∧ 281474976710655 - mixedN c k * 69621 % 2147483587 % 3 < 281474976710656; omega
  · show 0 ≤ mixedN c k * 69621 % 2147483587 * mixedN c k % 281474976710656 ∧ mixedN c k * 69621 % 2147483587 * mixedN c k % 281474976710656 < 281474976710656; omega
def rNeX (K : PySem.W.Frag) : R2 := fun x y H Q => rNeD K x y H Q ∨ rNeDA x y H Q
theorem kx_neX {X : Cx} {K : PySem.W.Frag} (h : X.K = K) (hu : X.A.units + 64 < cLine) : OpR X (compareOp .NotEq) (rNeX K) := by
  subst h
  intro pins s σ H x y v u Q I rx ry q
  rcases q with q | q
  · exact op_neD hu pins s σ H x y v u Q I rx ry q
  · exact op_ne_dictA (by omega) pins s σ H x y v u Q I rx ry q
def TkO (H : Hp) (v : V) : Option PyData → Prop
  | some d => Tk H v d
  | none => ∃ a, v = .ref a ∧ H a = some (.dK [])
def badO : Option PyData → Prop
  | some d => imageD d = false ∧ smallD d ∧ ShD 4 d
  | none => True
section
variable {H H' : Hp} {v w : V} {o : Option PyData} {K : PySem.W.Frag} {Q : VK}
theorem TkO.ex (h : TkO H v o) (e : Ex H H') : TkO H' v o := by
  cases o with
  | none => obtain ⟨a, rfl, q⟩ := h; exact ⟨a, rfl, e _ _ q⟩
  | some d => exact Tk.ex h e
theorem objL_dK {a : Addr} {xs : List (Key × V)} (h : H a = some (.dK xs)) : objL H (.ref a) = none := by
  show (match H a with | some (.lst xs) => some xs | some (.frz _ (.lst xs)) => some xs | _ => none) = none
  rw [h]
theorem TkO.any (h : TkO H v o) : AnyV H v := by
  cases o with
  | none => obtain ⟨a, rfl, q⟩ := h; exact .dK q
  | some d => exact Tk.any h
theorem TkO.small (h : TkO H v o) (b : badO o) : ∀ xs, objL H v = some xs → xs.length ≤ 1000 ∧ ∀ y ∈ xs, AnyV H y ∧ ∀ zs, objL H y = some zs → zs.length ≤ 1000 ∧ ∀ z ∈ zs, AnyV H z := by
  cases o with
  | none => obtain ⟨a, rfl, q⟩ := h; intro xs e; rw [objL_dK q] at e; cases e
  | some d => exact Tk.small h b.2.1
theorem TkO.image (h : TkO H v o) (b : badO o) : imageV H v = false := by
  cases o with
  | none => obtain ⟨a, rfl, q⟩ := h; unfold imageV; rw [objL_dK q]
  | some d => rw [Tk.image h]; exact b.1
theorem r_neXS (h1 : TkO H v o) (h2 : TkO H w o) (b : badO o) (k : Q (.bl false) H) : rNeX K v w H Q := by
  cases o with
  | none =>
    obtain ⟨a, rfl, q⟩ := h1
    obtain ⟨c, rfl, r⟩ := h2
    exact .inr ⟨a, c, [], [], rfl, rfl, q, r, rfl, fun p hp => (by cases hp), k⟩
  | some d => exact .inl (r_neTS h1 h2 b.2.2 (by decide) k)
end
end Z
namespace Z
open PySem PySem.Spec PyProof.Rows L2 Evl
theorem cut_to {xs : List V} {n : Nat} : cutV xs none (some (n : Int)) = xs.take n := by
  unfold cutV
  rw [HT.sIx_none, HT.sIx_nat, List.drop_zero, Nat.sub_zero, ← List.take_take, List.take_length]
theorem cut_all {xs : List V} : cutV xs none none = xs := by
  unfold cutV
  rw [HT.sIx_none, HT.sIx_none, List.drop_zero, Nat.sub_zero, List.take_length]
theorem TkAll.atI {H : Hp} {xs : List V} {ds : List PyData} (h : TkAll H xs ds) {i : Int} (h0 : 0 ≤ i) (h1 : i < ds.length) : ∃ v, L2.atI xs i = some v ∧ Tk H v (ds.getD i.toNat .none) := by
  obtain ⟨n, rfl⟩ : ∃ n : Nat, i = (n : Int) := ⟨i.toNat, by omega⟩
  have hn : n < xs.length := by rw [h.len]; omega
  obtain ⟨d, hd, t⟩ := h.get (List.getElem?_eq_getElem hn)
  refine ⟨_, atI_nat (List.getElem?_eq_getElem hn), ?_⟩
  rw [Int.toNat_natCast, List.getD_eq_getElem?_getD, hd]
  exact t
theorem TkAll.atP {P : Hp → Prop} {xs : List V} {ds : List PyData} (h : ∀ Hx, P Hx → TkAll Hx xs ds) {H0 : Hp} (p0 : P H0) {i : Int} (h0 : 0 ≤ i) (h1 : i < ds.length) : ∃ v, L2.atI xs i = some v ∧ ∀ Hx, P Hx → Tk Hx v (ds.getD i.toNat .none) := by
  obtain ⟨v, hv, _⟩ := (h H0 p0).atI h0 h1
  refine ⟨v, hv, fun Hx px => ?_⟩
  obtain ⟨u, hu, t⟩ := (h Hx px).atI h0 h1
  rw [hv] at hu; cases hu; exact t
theorem cut_len {xs : List V} {i j : Nat} : (cutV xs (some (i : Int)) (some (j : Int))).length ≤ j - i := by
  unfold cutV
  rw [HT.sIx_nat, HT.sIx_nat, List.length_take, List.length_drop]
  omega
theorem r_rev {H : Hp} {Q : VK} {a : Addr} {xs : List V} (h : H a = some (.lst xs)) (k : ∀ H2, ExB a H H2 → H2 a = some (.lst xs.reverse) → Q .non H2) : rReverse (.ref a) [] H Q := ⟨a, xs, rfl, rfl, h, k _ ExB.up upd_same⟩
theorem ov_at {as bs : List (Option Addr)} {i : Nat} {x : V} (h : (as.map ov ++ bs.map ov)[i]? = some x) : x = .non ∨ ∃ b, x = .ref b ∧ ((∃ j : Nat, as[j]? = some (some b)) ∨ ∃ j : Nat, bs[j]? = some (some b)) := by
  have hm := List.mem_of_getElem? h
  rcases List.mem_append.mp hm with q | q <;> obtain ⟨o, ho, rfl⟩ := List.mem_map.mp q <;> cases o with
  | none => exact .inl rfl
  | some b =>
    obtain ⟨j, hj, e⟩ := List.getElem_of_mem ho
    first
    | exact .inr ⟨b, rfl, .inl ⟨j, by rw [List.getElem?_eq_getElem hj, e]⟩⟩
    | exact .inr ⟨b, rfl, .inr ⟨j, by rw [List.getElem?_eq_getElem hj, e]⟩⟩
section
variable {H H' : Hp} {l : Addr} {as : List (Option Addr)} {ps : Pg}
theorem NL.tkAllP (n : NL H l as ps) (e : ∀ (i : Nat) b o, as[i]? = some (some b) → H b = some o → H' b = some o) : TkAll H' (as.map ov) (ps.map pgD) := by
  refine TkAll.of (by rw [List.length_map, List.length_map, n.len]) fun i x d hx hd => ?_
  rw [List.getElem?_map] at hx hd
  have hi : i < ps.length := by
    cases q : ps[i]? with
    | none => rw [q] at hd; cases hd
    | some _ => exact (List.getElem?_eq_some_iff.mp q).1
  rcases pg_cases hi with g | ⟨ws, g⟩
  · rw [n.no g] at hx; rw [g] at hd; cases hx; cases hd; exact .non
  · obtain ⟨b, q1, q2⟩ := n.at_ g
    rw [q1] at hx; rw [g] at hd; cases hx; cases hd
    exact .lst (e i b _ q1 q2) (TkAll.ints ws)
theorem NL.tkAllB (n : NL H l as ps) (e : ExB l H H') : TkAll H' (as.map ov) (ps.map pgD) := n.tkAllP fun i b o q1 q2 => e _ _ (fun z => n.out i (by rw [← z]; exact q1)) q2
end
end Z

namespace Gx
open PySem PySem.Spec PyProof.Rows L2 Evl Z
def top (i : Nat) : Stmt := PySem.Challenge.pw_shadowpages_k12_images.main.body.getD i (.Pass ⟨0, 0, 0, 0⟩)
abbrev s__wall : Stmt := top 0
theorem sc__wall : FnScope ["k"] ["k"] (defScope s__wall) := ⟨rfl, rfl, rfl, by decide +kernel, rfl, by decide +kernel, by decide +kernel⟩
abbrev s_NoText___init__ : Stmt := inClass (top 9) 0
theorem sc_NoText___init__ : FnScope ["self", "place"] ["self", "place"] (defScope s_NoText___init__) := ⟨rfl, rfl, rfl, by decide +kernel, rfl, by decide +kernel, by decide +kernel⟩
abbrev s_Fault___init__ : Stmt := inClass (top 10) 0
theorem sc_Fault___init__ : FnScope ["self", "kind", "place", "level"] ["self", "kind", "place", "level"] (defScope s_Fault___init__) := ⟨rfl, rfl, rfl, by decide +kernel, rfl, by decide +kernel, by decide +kernel⟩
abbrev s_is_whole : Stmt := top 12
theorem sc_is_whole : FnScope ["thing"] ["thing"] (defScope s_is_whole) := ⟨rfl, rfl, rfl, by decide +kernel, rfl, by decide +kernel, by decide +kernel⟩
abbrev s_is_word : Stmt := top 13
theorem sc_is_word : FnScope ["thing"] ["thing"] (defScope s_is_word) := ⟨rfl, rfl, rfl, by decide +kernel, rfl, by decide +kernel, by decide +kernel⟩
abbrev s_is_below : Stmt := top 17
theorem sc_is_below : FnScope ["thing", "count"] ["thing", "count"] (defScope s_is_below) := ⟨rfl, rfl, rfl, by decide +kernel, rfl, by decide +kernel, by decide +kernel⟩
abbrev s_are_words : Stmt := top 18
theorem sc_are_words : FnScope ["thing", "word"] ["thing"] (defScope s_are_words) := ⟨rfl, rfl, rfl, by decide +kernel, rfl, by decide +kernel, by decide +kernel⟩
abbrev s_is_image : Stmt := top 19
theorem sc_is_image : FnScope ["thing", "words"] ["thing"] (defScope s_is_image) := ⟨rfl, rfl, rfl, by decide +kernel, rfl, by decide +kernel, by decide +kernel⟩
abbrev s_Store_size : Stmt := inClass (top 21) 0
theorem sc_Store_size : FnScope ["self"] ["self"] (defScope s_Store_size) := ⟨rfl, rfl, rfl, by decide +kernel, rfl, by decide +kernel, by decide +kernel⟩
abbrev s_Store_has : Stmt := inClass (top 21) 1
theorem sc_Store_has : FnScope ["self", "page"] ["self", "page"] (defScope s_Store_has) := ⟨rfl, rfl, rfl, by decide +kernel, rfl, by decide +kernel, by decide +kernel⟩
abbrev s_Store_fetch : Stmt := inClass (top 21) 2
theorem sc_Store_fetch : FnScope ["self", "page", "cell"] ["self", "page", "cell"] (defScope s_Store_fetch) := ⟨rfl, rfl, rfl, by decide +kernel, rfl, by decide +kernel, by decide +kernel⟩
abbrev s_Store_deposit : Stmt := inClass (top 21) 3
theorem sc_Store_deposit : FnScope ["self", "page", "cell", "word"] ["self", "page", "cell", "word"] (defScope s_Store_deposit) := ⟨rfl, rfl, rfl, by decide +kernel, rfl, by decide +kernel, by decide +kernel⟩
abbrev s_Store_look_for : Stmt := inClass (top 21) 4
theorem sc_Store_look_for : FnScope ["self", "page", "cell"] ["self", "page", "cell"] (defScope s_Store_look_for) := ⟨rfl, rfl, rfl, by decide +kernel, rfl, by decide +kernel, by decide +kernel⟩
abbrev s_Store_read : Stmt := inClass (top 21) 5
theorem sc_Store_read : FnScope ["self", "page", "cell"] ["self", "page", "cell"] (defScope s_Store_read) := ⟨rfl, rfl, rfl, by decide +kernel, rfl, by decide +kernel, by decide +kernel⟩
abbrev s_Store_write : Stmt := inClass (top 21) 6
theorem sc_Store_write : FnScope ["self", "page", "cell", "word"] ["self", "page", "cell", "word"] (defScope s_Store_write) := ⟨rfl, rfl, rfl, by decide +kernel, rfl, by decide +kernel, by decide +kernel⟩
abbrev s_Memory___init__ : Stmt := inClass (top 22) 0
theorem sc_Memory___init__ : FnScope ["self", "pages", "words"] ["self", "pages"] (defScope s_Memory___init__) := ⟨rfl, rfl, rfl, by decide +kernel, rfl, by decide +kernel, by decide +kernel⟩
abbrev s_Memory_size : Stmt := inClass (top 22) 1
theorem sc_Memory_size : FnScope ["self"] ["self"] (defScope s_Memory_size) := ⟨rfl, rfl, rfl, by decide +kernel, rfl, by decide +kernel, by decide +kernel⟩
abbrev s_Memory_has : Stmt := inClass (top 22) 2
theorem sc_Memory_has : FnScope ["self", "page"] ["self", "page"] (defScope s_Memory_has) := ⟨rfl, rfl, rfl, by decide +kernel, rfl, by decide +kernel, by decide +kernel⟩
abbrev s_Memory_fetch : Stmt := inClass (top 22) 3
theorem sc_Memory_fetch : FnScope ["self", "page", "cell"] ["self", "page", "cell"] (defScope s_Memory_fetch) := ⟨rfl, rfl, rfl, by decide +kernel, rfl, by decide +kernel, by decide +kernel⟩
abbrev s_Memory_deposit : Stmt := inClass (top 22) 4
theorem sc_Memory_deposit : FnScope ["self", "page", "cell", "word"] ["self", "page", "cell", "word"] (defScope s_Memory_deposit) := ⟨rfl, rfl, rfl, by decide +kernel, rfl, by decide +kernel, by decide +kernel⟩
abbrev s_Memory_give : Stmt := inClass (top 22) 5
theorem sc_Memory_give : FnScope ["self", "page"] ["self", "page"] (defScope s_Memory_give) := ⟨rfl, rfl, rfl, by decide +kernel, rfl, by decide +kernel, by decide +kernel⟩
abbrev s_Memory_lay : Stmt := inClass (top 22) 6
theorem sc_Memory_lay : FnScope ["self", "page", "words"] ["self", "page", "words"] (defScope s_Memory_lay) := ⟨rfl, rfl, rfl, by decide +kernel, rfl, by decide +kernel, by decide +kernel⟩
abbrev s_Memory_told : Stmt := inClass (top 22) 7
theorem sc_Memory_told : FnScope ["self", "words"] ["self"] (defScope s_Memory_told) := ⟨rfl, rfl, rfl, by decide +kernel, rfl, by decide +kernel, by decide +kernel⟩
abbrev s__law_cell_at : Stmt := top 24
theorem sc__law_cell_at : FnScope ["_law_script", "_law_k"] ["_law_script", "_law_k"] (defScope s__law_cell_at) := ⟨rfl, rfl, rfl, by decide +kernel, rfl, by decide +kernel, by decide +kernel⟩
abbrev s__law_whole : Stmt := top 25
theorem sc__law_whole : FnScope ["_law_found"] ["_law_found"] (defScope s__law_whole) := ⟨rfl, rfl, rfl, by decide +kernel, rfl, by decide +kernel, by decide +kernel⟩
abbrev s__law_mixed : Stmt := top 26
theorem sc__law_mixed : FnScope ["_law_cell", "_law_k", "_law_number"] ["_law_cell", "_law_k"] (defScope s__law_mixed) := ⟨rfl, rfl, rfl, by decide +kernel, rfl, by decide +kernel, by decide +kernel⟩
abbrev s__law_word : Stmt := top 27
theorem sc__law_word : FnScope ["_law_cell", "_law_k", "_law_number", "_law_some"] ["_law_cell", "_law_k"] (defScope s__law_word) := ⟨rfl, rfl, rfl, by decide +kernel, rfl, by decide +kernel, by decide +kernel⟩
abbrev s__law_copy : Stmt := top 28
theorem sc__law_copy : FnScope ["_law_pages", "_law_words"] ["_law_pages"] (defScope s__law_copy) := ⟨rfl, rfl, rfl, by decide +kernel, rfl, by decide +kernel, by decide +kernel⟩
abbrev s__law_same : Stmt := top 29
theorem sc__law_same : FnScope ["_law_found", "_law_due", "_law_k", "_law_word_here"] ["_law_found", "_law_due"] (defScope s__law_same) := ⟨rfl, rfl, rfl, by decide +kernel, rfl, by decide +kernel, by decide +kernel⟩
abbrev s__law_kinds : Stmt := top 30
theorem sc__law_kinds : FnScope ["_law_e", "_law_kinds_here"] ["_law_e"] (defScope s__law_kinds) := ⟨rfl, rfl, rfl, by decide +kernel, rfl, by decide +kernel, by decide +kernel⟩
abbrev s__law_refused : Stmt := top 31
theorem sc__law_refused : FnScope ["_law_thing", "_law_kinds_here", "_law_e"] ["_law_thing"] (defScope s__law_refused) := ⟨rfl, rfl, rfl, by decide +kernel, rfl, by decide +kernel, by decide +kernel⟩
abbrev s__law_spoilt : Stmt := top 32
theorem sc__law_spoilt : FnScope ["_law_pages", "_law_cell", "_law_way", "_law_bad", "_law_at", "_law_words", "_law_k"] ["_law_pages", "_law_cell"] (defScope s__law_spoilt) := ⟨rfl, rfl, rfl, by decide +kernel, rfl, by decide +kernel, by decide +kernel⟩
abbrev s_law : Stmt := top 33
theorem sc_law : FnScope ["_law_script", "_law_pages", "_law_cell", "_law_bad", "_law_handed", "_law_store", "_law_found", "_law_words", "_law_k"] ["_law_script"] (defScope s_law) := ⟨rfl, rfl, rfl, by decide +kernel, rfl, by decide +kernel, by decide +kernel⟩
structure Ad where
  z : Unit := ()
  C_HouseError : Addr
  C_NoWord : Addr
  C_NoRow : Addr
  C_NoPlace : Addr
  C_NoPage : Addr
  C_NoImage : Addr
  C_NoFrame : Addr
  C_NoText : Addr
  C_Fault : Addr
  C_Store : Addr
  C_Memory : Addr
structure Txt (K : PySem.W.Frag) (mg : Str → Option Value) (A : Ad) : Prop where
  b_ValueError : mg "ValueError" = none
  b_all : mg "all" = none
  b_bool : mg "bool" = none
  b_int : mg "int" = none
  b_isinstance : mg "isinstance" = none
  b_len : mg "len" = none
  b_list : mg "list" = none
  b_range : mg "range" = none
  b_tuple : mg "tuple" = none
  c_CELLS : ∃ t, mg "CELLS" = some (.int 8 t)
  c_MOST_PAGES : ∃ t, mg "MOST_PAGES" = some (.int 24 t)
  k_HouseError : mg "HouseError" = some (.ref A.C_HouseError)
  k_NoWord : mg "NoWord" = some (.ref A.C_NoWord)
  k_NoRow : mg "NoRow" = some (.ref A.C_NoRow)
  k_NoPlace : mg "NoPlace" = some (.ref A.C_NoPlace)
  k_NoPage : mg "NoPage" = some (.ref A.C_NoPage)
  k_NoImage : mg "NoImage" = some (.ref A.C_NoImage)
  k_NoFrame : mg "NoFrame" = some (.ref A.C_NoFrame)
  k_NoText : mg "NoText" = some (.ref A.C_NoText)
  k_Fault : mg "Fault" = some (.ref A.C_Fault)
  k_Store : mg "Store" = some (.ref A.C_Store)
  k_Memory : mg "Memory" = some (.ref A.C_Memory)
  cl_Memory : Cls K A.C_Memory
  mk_Memory : PySem.W.makesIn K A.C_Memory = true ∧ PySem.W.keepIn K (.ref A.C_Memory) = true
  no_Memory_held : NoAttr K A.C_Memory "held"
  x_NoImage : ExD K A.C_HouseError A.C_NoImage
  kt_NoImage_NoImage : PySem.W.kitOne K (.ref A.C_NoImage) (.ref A.C_NoImage) = some true
  kt_NoImage_ValueError : PySem.W.kitOne K (.ref A.C_NoImage) (.type "ValueError") = some true
  kt_NoImage_NoPage : PySem.W.kitOne K (.ref A.C_NoImage) (.ref A.C_NoPage) = some false
  kt_NoImage_NoPlace : PySem.W.kitOne K (.ref A.C_NoImage) (.ref A.C_NoPlace) = some false
  kt_NoImage_NoWord : PySem.W.kitOne K (.ref A.C_NoImage) (.ref A.C_NoWord) = some false
  kt_NoImage_NoRow : PySem.W.kitOne K (.ref A.C_NoImage) (.ref A.C_NoRow) = some false
  kt_NoImage_NoFrame : PySem.W.kitOne K (.ref A.C_NoImage) (.ref A.C_NoFrame) = some false
  kt_NoImage_NoText : PySem.W.kitOne K (.ref A.C_NoImage) (.ref A.C_NoText) = some false
  kt_NoImage_Fault : PySem.W.kitOne K (.ref A.C_NoImage) (.ref A.C_Fault) = some false
local macro_rules | `(tactic| walk_at "rd1") => `(tactic| first
  | with_reducible refine r_nx ?_
  | with_reducible refine r_seq' ?_
  | with_reducible refine r_seq ?_
  | ((with_reducible refine' r_var ?zh ?_); (case zh => exact rfl))
  | with_reducible refine r_c ?_
  | with_reducible refine r_op ?_
  | with_reducible refine r_I0 ?_
  | with_reducible refine r_test ?_
  | with_reducible refine r_bl ?_
  | with_reducible refine r_tt ?_
  | with_reducible refine r_ff ?_
  | with_reducible refine r_nt ?_
  | with_reducible refine r_nf ?_
  | with_reducible refine r_asg ?_
  | with_reducible refine r_name ?_
  | with_reducible refine r_ifS ?_
  | with_reducible refine r_ret ?_
  | with_reducible refine r_rt ?_
  | with_reducible refine r_eqI ?_
  | with_reducible refine r_neI ?_
  | with_reducible refine r_eqB ?_
  | with_reducible refine r_neB ?_
  | ((with_reducible refine r_eq ?zh ?_); (case zh => exact rfl))
  | ((with_reducible refine r_ne ?zh ?_); (case zh => exact rfl))
  | with_reducible refine p2_48 ?_
  | with_reducible refine p2_40 ?_
  | with_reducible refine p10_60 ?_
  | with_reducible refine p10_59 ?_
  | with_reducible refine p10_30 ?_
  | ((with_reducible refine r_I ?zh ?_); (case zh => first | decide | omega | exact ⟨by decide, by decide⟩ | exact ⟨by omega, by omega⟩ | exact .inr ⟨by omega, by omega⟩ | exact .inl ⟨by omega, by omega⟩))
  | with_reducible refine r_and ?_
  | with_reducible refine r_or ?_
  | with_reducible refine r_not ?_
  | with_reducible refine r_andV ?_
  | with_reducible refine r_orV ?_
  | with_reducible refine r_notV ?_
  | with_reducible refine r_if ?_
  | with_reducible refine r_chain ?_
  | with_reducible refine r_callS ?_
  | with_reducible refine r_cons ?_
  | with_reducible refine r_nil ?_
  | with_reducible refine r_CB ?_
  | with_reducible refine r_B ?_
  | with_reducible refine r_un ?_
  | with_reducible refine r_U ?_
  | with_reducible refine r_next ?_
  | with_reducible refine r_drop ?_
  | with_reducible refine r_tup ?_
  | with_reducible refine r_lst ?_
  | with_reducible refine r_for ?_
  | with_reducible refine r_iList ?_
  | with_reducible refine r_iTup ?_
  | with_reducible refine r_iEnum ?_
  | with_reducible refine r_iRng1 ?_
  | ((with_reducible refine' r_gtup ?zt ?zh ?_); (case zt => exact SqT.of (by assumption)); (case zh => exact rfl))
  | with_reducible refine r_gcons ?_
  | with_reducible refine r_gnil ?_
  | with_reducible refine r_gsub ?_
  | with_reducible refine r_isN0 ?_
  | with_reducible refine r_notN0 ?_
  | with_reducible refine r_isNr ?_
  | with_reducible refine r_notNr ?_
  | with_reducible refine r_isNi ?_
  | with_reducible refine r_notNi ?_
  | with_reducible refine r_ms ?_
  | with_reducible refine r_fld ?_
  | with_reducible refine r_sfld ?_
  | with_reducible refine r_mk ?_
  | ((with_reducible refine' r_fld1 ?zt ?zc ?zn ?zl ?_); (case zt => assumption); (case zc => assumption); (case zn => assumption); (case zl => exact rfl))
  | ((with_reducible refine' r_ms1 ?zt ?zl ?_); (case zt => assumption); (case zl => exact rfl))
  | with_reducible refine r_bm ?_
  | with_reducible refine r_bm0 ?_
  | ((with_reducible refine' r_tyL ?zt ?_); (case zt => assumption))
  | with_reducible refine r_lc ?_
  | with_reducible refine r_sl ?_
  | with_reducible refine r_np ?_
  | with_reducible refine r_pt ?_
  | with_reducible refine r_in ?_
  | with_reducible refine r_isi_int (by assumption) ?_
  | with_reducible refine r_isi_bool (by assumption) ?_
  | ((with_reducible refine' r_isi ?zt ?zh ?_); (case zt => first | exact .base (.int _) | exact .base (.bl _) | exact .base .non | exact .base (.str _) | exact .base (.lst (by assumption)) | exact .base (.tup (by assumption)) | exact .base (.lst upd_same) | exact .base (.tup upd_same)); (case zh => first | exact (show kitB _ _ = some true from rfl) | exact (show kitB _ _ = some false from rfl)))
  | with_reducible refine r_cont ?_
  | with_reducible refine r_brk ?_
  | with_reducible refine r_ct ?_
  | with_reducible refine r_bk ?_
  | with_reducible refine r_iteNT (by first | rfl | assumption) ?_
  | with_reducible refine r_iteT (by first | rfl | assumption) ?_
  | with_reducible refine r_iteF (by assumption) ?_
  | with_reducible refine r_iteNF (by assumption) ?_
  | ((with_reducible refine r_szA ?zh ?_); (case zh => exact rfl))
  | with_reducible refine r_retN ?_
  | refine r_tb (by first | assumption | exact wholeV_int) ?_
  | refine r_fb (by first | assumption | exact wholeV_int) ?_
  | refine r_ntb (by first | assumption | exact wholeV_int) ?_
  | refine r_nfb (by first | assumption | exact wholeV_int) ?_)
local macro_rules | `(tactic| walk_at "rd") => `(tactic| (walk_at "rd1"; repeat walk_at "rd1"))
local macro_rules | `(tactic| walk_at "rs") => `(tactic| repeat' (first | walk_at "rd1" | refine r_ite (fun _ => ?_) (fun _ => ?_) | refine r_iteN (fun _ => ?_) (fun _ => ?_)))
local macro_rules | `(tactic| walk_at "ro") => `(tactic| repeat (first | walk_at "rd1" | refine r_iteF (by omega) ?_ | refine r_iteT (by omega) ?_ | refine r_iteNT (by omega) ?_ | refine r_iteNF (by omega) ?_))

section
variable {P : Program} {w : World} {K : PySem.W.Frag} {mg : Str → Option Value} {base : Heap} {A : Ad}

def sp_is_whole (K : PySem.W.Frag) (A : Ad) : Sp := fun vs H Q _ => ∃ x, vs = [x] ∧ AnyV H x ∧ Q (.bl (wholeV x)) H
theorem ok_is_whole (F : Df K mg "is_whole" s_is_whole ["thing"]) (T : Txt K mg A) : Dn P w K mg base 1 "is_whole" (sp_is_whole K A) := by
  refine F.dn sc_is_whole (fun vs H Q E h => ?_) (fun cdv f Ar outer s H vs Q E hr h => ?_)
  · obtain ⟨x, rfl, hx, h⟩ := h; rfl
  obtain ⟨x, rfl, hx, h⟩ := h
  refine ⟨_, (pss_one (ps_ret (pe_and (pe_callB (kx_isi (K := K) rfl) (by rfl) T.b_isinstance (by decide +kernel) (pa_cons (pv 0) (pa_cons (pe_bltn (v := .ty "int") (by rfl) T.b_int (by decide +kernel) rfl) pa_nil))) (pe_one (pe_not (pe_callB (kx_isi (K := K) rfl) (by rfl) T.b_isinstance (by decide +kernel) (pa_cons (pv 0) (pa_cons (pe_bltn (v := .ty "bool") (by rfl) T.b_bool (by decide +kernel) rfl) pa_nil)))))))), ?_⟩
  walk_at "rd"
  by_cases c : (wholeV x || boolV x) = true
  · refine r_tb c ?_
    walk_at "rd"
    rw [whole_not c]
    exact h
  · rw [Bool.not_eq_true] at c
    refine r_fb c ?_
    rw [whole_no c] at h
    exact h
def sp_is_word (K : PySem.W.Frag) (A : Ad) : Sp := fun vs H Q _ => ∃ x, vs = [x] ∧ AnyV H x ∧ Q (.bl (wordV x)) H
theorem ok_is_word (F : Df K mg "is_word" s_is_word ["thing"]) (T : Txt K mg A) (D_is_whole : Dn P w K mg base 1 "is_whole" (sp_is_whole K A)) : Dn P w K mg base 2 "is_word" (sp_is_word K A) := by
  refine F.dn sc_is_word (fun vs H Q E h => ?_) (fun cdv f Ar outer s H vs Q E hr h => ?_)
  · obtain ⟨x, rfl, hx, h⟩ := h; rfl
  obtain ⟨x, rfl, hx, h⟩ := h
  refine ⟨_, (pss_one (ps_ret (pe_and (pe_d D_is_whole hr (by decide) takes0 (pa_cons (pv 0) pa_nil)) (pe_one (pe_chain op_le op_lt pe_int (pv 0) (pe_op op_pow pe_int pe_int)))))), ?_⟩
  walk_at "rd"
  refine ⟨x, rfl, hx, ?_⟩
  walk_at "rd"
  by_cases c : wholeV x = true
  · refine r_tb c ?_
    obtain ⟨i, rfl⟩ := whole_int c
    have h' : Q (.bl (decide (0 ≤ i) && decide (i < 281474976710656))) H := h
    walk_at "rd"
    refine r_ite (fun c1 => ?_) (fun c1 => ?_)
    · walk_at "rd"
      rw [decide_eq_true c1, Bool.true_and] at h'
      exact h'
    · rw [decide_eq_false c1, Bool.false_and] at h'
      exact h'
  · rw [Bool.not_eq_true] at c
    refine r_fb c ?_
    rw [word_no c] at h
    exact h

def sp__law_whole (K : PySem.W.Frag) (A : Ad) : Sp := fun vs H Q _ => ∃ x, vs = [x] ∧ AnyV H x ∧ Q (.bl (wholeV x)) H
theorem ok__law_whole (F : Df K mg "_law_whole" s__law_whole ["_law_found"]) (T : Txt K mg A) : Dn P w K mg base 1 "_law_whole" (sp__law_whole K A) := by
  refine F.dn sc__law_whole (fun vs H Q E h => ?_) (fun cdv f Ar outer s H vs Q E hr h => ?_)
  · obtain ⟨x, rfl, hx, h⟩ := h; rfl
  obtain ⟨x, rfl, hx, h⟩ := h
  refine ⟨_, (pss_one (ps_ret (pe_and (pe_callB (kx_isi (K := K) rfl) (by rfl) T.b_isinstance (by decide +kernel) (pa_cons (pv 0) (pa_cons (pe_bltn (v := .ty "int") (by rfl) T.b_int (by decide +kernel) rfl) pa_nil))) (pe_one (pe_not (pe_callB (kx_isi (K := K) rfl) (by rfl) T.b_isinstance (by decide +kernel) (pa_cons (pv 0) (pa_cons (pe_bltn (v := .ty "bool") (by rfl) T.b_bool (by decide +kernel) rfl) pa_nil)))))))), ?_⟩
  walk_at "rd"
  by_cases c : (wholeV x || boolV x) = true
  · refine r_tb c ?_
    walk_at "rd"
    rw [whole_not c]
    exact h
  · rw [Bool.not_eq_true] at c
    refine r_fb c ?_
    rw [whole_no c] at h
    exact h

def belowV : V → Int → Bool
  | .int i, n => decide (0 ≤ i) && decide (i < n)
  | _, _ => false
theorem below_no {x : V} {n : Int} (h : wholeV x = false) : belowV x n = false := by cases x <;> first | rfl | cases h
theorem below_yes {x : V} {n : Int} (h : belowV x n = true) : ∃ i, x = .int i ∧ 0 ≤ i ∧ i < n := by
  cases x with
  | int i =>
    have h' : (decide (0 ≤ i) && decide (i < n)) = true := h
    simp at h'
    exact ⟨i, rfl, h'.1, h'.2⟩
  | _ => cases h
theorem word_yes {x : V} (h : wordV x = true) : ∃ i, x = .int i ∧ 0 ≤ i ∧ i < 281474976710656 := by
  cases x with
  | int i =>
    have h' : (decide (0 ≤ i) && decide (i < 281474976710656)) = true := h
    simp at h'
    exact ⟨i, rfl, h'.1, h'.2⟩
  | _ => cases h
def sp_is_below (K : PySem.W.Frag) (A : Ad) : Sp := fun vs H Q _ => ∃ (x : V) (n : Int), vs = [x, .int n] ∧ AnyV H x ∧ Q (.bl (belowV x n)) H
theorem ok_is_below (F : Df K mg "is_below" s_is_below ["thing", "count"]) (T : Txt K mg A) (D_is_whole : Dn P w K mg base 1 "is_whole" (sp_is_whole K A)) : Dn P w K mg base 2 "is_below" (sp_is_below K A) := by
  refine F.dn sc_is_below (fun vs H Q E h => ?_) (fun cdv f Ar outer s H vs Q E hr h => ?_)
  · obtain ⟨x, n, rfl, hx, h⟩ := h; rfl
  obtain ⟨x, n, rfl, hx, h⟩ := h
  refine ⟨_, (pss_one (ps_ret (pe_and (pe_d D_is_whole hr (by decide) takes0 (pa_cons (pv 0) pa_nil)) (pe_one (pe_chain op_le op_lt pe_int (pv 0) (pv 1)))))), ?_⟩
  walk_at "rd"
  refine ⟨x, rfl, hx, ?_⟩
  walk_at "rd"
  by_cases c : wholeV x = true
  · refine r_tb c ?_
    obtain ⟨i, rfl⟩ := whole_int c
    have h' : Q (.bl (decide (0 ≤ i) && decide (i < n))) H := h
    walk_at "rd"
    refine r_ite (fun c1 => ?_) (fun c1 => ?_)
    · walk_at "rd"
      rw [decide_eq_true c1, Bool.true_and] at h'
      exact h'
    · rw [decide_eq_false c1, Bool.false_and] at h'
      exact h'
  · rw [Bool.not_eq_true] at c
    refine r_fb c ?_
    rw [below_no c] at h
    exact h
def sp_are_words (K : PySem.W.Frag) (A : Ad) : Sp := fun vs H Q _ => ∃ x, vs = [x] ∧ AnyV H x ∧ (∀ xs, objL H x = some xs → xs.length ≤ 1000 ∧ ∀ y ∈ xs, AnyV H y) ∧ ∀ H', Ex H H' → Q (.bl (wordsV H x)) H'
theorem ok_are_words (F : Df K mg "are_words" s_are_words ["thing"]) (T : Txt K mg A) (D_is_word : Dn P w K mg base 2 "is_word" (sp_is_word K A)) : Dn P w K mg base 3 "are_words" (sp_are_words K A) := by
  refine F.dn sc_are_words (fun vs H Q E h => ?_) (fun cdv f Ar outer s H vs Q E hr h => ?_)
  · obtain ⟨x, rfl, hx, hd, h⟩ := h; rfl
  obtain ⟨x, rfl, hx, hd, h⟩ := h
  refine ⟨_, (pss_one (ps_ret (pe_and (pe_callB (kx_isi (K := K) rfl) (by rfl) T.b_isinstance (by decide +kernel) (pa_cons (pv 0) (pa_cons (pe_bltn (v := .ty "list") (by rfl) T.b_list (by decide +kernel) rfl) pa_nil))) (pe_and (pe_cmpR op_eq (pe_callB (kx_len (K := K) rfl) (by rfl) T.b_len (by decide +kernel) (pa_cons (pv 0) pa_nil)) (pe_glob (v := .int 8) rfl (T.c_CELLS).choose_spec ⟨_, rfl⟩) (nomark _)) (pe_one (pe_callB (kx_all (K := K) rfl rfl) (by rfl) T.b_all (by decide +kernel) (pa_cons (pe_lc (own := [("word", 1)]) (g := gName 1) (tt := tYes) rfl sc_are_words.nd (kx_il (K := K) rfl (pv 0)) (blkOk_by (own := [("word", 1)]) (N := ["thing", "word"]) (sc := defScope s_are_words) (by decide +kernel)) (fun _ _ _ _ _ => (pg_name (i := 1) sc_are_words.nd rfl (Or.inl rfl))) (fun _ _ _ _ _ => pts_nil) (fun _ _ _ _ _ => (pe_d D_is_word hr (by decide) takes0 (pa_cons (pv 1) pa_nil)))) pa_nil))))))), ?_⟩
  walk_at "rd"
  refine r_isi_list hx ?_
  walk_at "rd"
  cases e : objL H x with
  | none =>
    refine r_ff ?_
    have := h H (Ex.refl H)
    unfold wordsV at this
    rw [e] at this
    exact this
  | some xs =>
    obtain ⟨a, rfl, hS⟩ := objL_sq (K := K) e
    obtain ⟨hl, hy⟩ := hd xs e
    have ew : wordsV H (.ref a) = (decide (xs.length = 8) && xs.all wordV) := by unfold wordsV; rw [e]
    rw [ew] at h
    refine r_tt ?_
    walk_at "rd"
    refine r_lenL hS ?_
    walk_at "rd"
    refine r_ite (fun c => ?_) (fun c => ?_)
    · have c8 : xs.length = 8 := by omega
      walk_at "rd"
      refine r_lcP hS (by omega) (fun i y => ∃ b, y = .bl b ∧ (xs.map wordV)[i]? = some b) (fun _ => rfl) (fun D i x H' nD _ hx e' Qk kk => ?_) (fun D ys H5 nD e5 h5 hl5 hR => ?_)
      · walk_at "rd"
        refine ⟨x, rfl, (hy x (List.mem_of_getElem? hx)).mono e', ?_⟩
        refine kk _ _ (Ex.refl _) ⟨_, rfl, ?_⟩
        rw [List.getElem?_map, hx]; rfl
      have hys := list_is (f := V.bl) (bs := xs.map wordV) (by rw [hl5, List.length_map]) hR
      subst hys
      walk_at "rd"
      refine ⟨D, xs.map wordV, rfl, SqL.of h5, ?_⟩
      have := h H5 e5
      rw [decide_eq_true c8, Bool.true_and] at this
      rw [List.all_map]
      exact this
    · have := h H (Ex.refl H)
      rw [decide_eq_false (by omega), Bool.false_and] at this
      exact this
def sp_is_image (K : PySem.W.Frag) (A : Ad) : Sp := fun vs H Q _ => ∃ x, vs = [x] ∧ AnyV H x ∧ (∀ xs, objL H x = some xs → xs.length ≤ 1000 ∧ ∀ y ∈ xs, AnyV H y ∧ ∀ zs, objL H y = some zs → zs.length ≤ 1000 ∧ ∀ z ∈ zs, AnyV H z) ∧ ∀ H', Ex H H' → Q (.bl (imageV H x)) H'
theorem ok_is_image (F : Df K mg "is_image" s_is_image ["thing"]) (T : Txt K mg A) (D_are_words : Dn P w K mg base 3 "are_words" (sp_are_words K A)) : Dn P w K mg base 4 "is_image" (sp_is_image K A) := by
  refine F.dn sc_is_image (fun vs H Q E h => ?_) (fun cdv f Ar outer s H vs Q E hr h => ?_)
  · obtain ⟨x, rfl, hx, hd, h⟩ := h; rfl
  obtain ⟨x, rfl, hx, hd, h⟩ := h
  refine ⟨_, (pss_cons (ps_if (PW.pt (pw_or (pt_not (pt_val (pe_callB (kx_isi (K := K) rfl) (by rfl) T.b_isinstance (by decide +kernel) (pa_cons (pv 0) (pa_cons (pe_bltn (v := .ty "list") (by rfl) T.b_list (by decide +kernel) rfl) pa_nil))))) (pw_or (pt_cmpR op_lt (pe_callB (kx_len (K := K) rfl) (by rfl) T.b_len (by decide +kernel) (pa_cons (pv 0) pa_nil)) pe_int (nomark _)) (pw_or1 (pt_cmpR op_gt (pe_callB (kx_len (K := K) rfl) (by rfl) T.b_len (by decide +kernel) (pa_cons (pv 0) pa_nil)) (pe_glob (v := .int 24) rfl (T.c_MOST_PAGES).choose_spec ⟨_, rfl⟩) (nomark _)))))) (pss_one (ps_ret pe_bl)) pss_nil)
  (pss_one (ps_ret (pe_callB (kx_all (K := K) rfl rfl) (by rfl) T.b_all (by decide +kernel) (pa_cons (pe_lc (own := [("words", 1)]) (g := gName 1) (tt := tYes) rfl sc_is_image.nd (kx_il (K := K) rfl (pv 0)) (blkOk_by (own := [("words", 1)]) (N := ["thing", "words"]) (sc := defScope s_is_image) (by decide +kernel)) (fun _ _ _ _ _ => (pg_name (i := 1) sc_is_image.nd rfl (Or.inl rfl))) (fun _ _ _ _ _ => pts_nil) (fun _ _ _ _ _ => (pe_or (pe_cmpR op_isN1 (pv 1) pe_non (nomark _)) (pe_one (pe_d D_are_words hr (by decide) takes0 (pa_cons (pv 1) pa_nil)))))) pa_nil))))), ?_⟩
  walk_at "rd"
  refine r_isi_list hx ?_
  walk_at "rd"
  cases e : objL H x with
  | none =>
    refine r_nf ?_
    walk_at "rd"
    have := h H (Ex.refl H)
    unfold imageV at this
    rw [e] at this
    exact this
  | some xs =>
    obtain ⟨a, rfl, hS⟩ := objL_sq (K := K) e
    obtain ⟨hl, hy⟩ := hd xs e
    have ew : imageV H (.ref a) = (decide (1 ≤ xs.length) && decide (xs.length ≤ 24) && xs.all (fun y => decide (y = .non) || wordsV H y)) := by unfold imageV; rw [e]
    rw [ew] at h
    refine r_nt ?_
    walk_at "rd"
    refine r_lenL hS ?_
    walk_at "rd"
    refine r_ite (fun c => ?_) (fun c => ?_)
    · walk_at "rd"
      have := h H (Ex.refl H)
      rw [decide_eq_false (show ¬ 1 ≤ xs.length by omega), Bool.false_and, Bool.false_and] at this
      exact this
    walk_at "rd"
    refine r_lenL hS ?_
    walk_at "rd"
    refine r_ite (fun c2 => ?_) (fun c2 => ?_)
    · walk_at "rd"
      have := h H (Ex.refl H)
      rw [decide_eq_false (show ¬ xs.length ≤ 24 by omega), Bool.and_false, Bool.false_and] at this
      exact this
    walk_at "rd"
    refine r_lcP hS (by omega) (fun i y => ∃ b, y = .bl b ∧ (xs.map (fun y => decide (y = .non) || wordsV H y))[i]? = some b) (fun _ => rfl) (fun D i x H' nD _ hx e' Qk kk => ?_) (fun D ys H5 nD e5 h5 hl5 hR => ?_)
    · obtain ⟨a1, a2⟩ := hy x (List.mem_of_getElem? hx)
      walk_at "rd"
      refine r_isN ?_
      walk_at "rd"
      refine r_ite (fun cn => ?_) (fun cn => ?_)
      · refine kk _ _ (Ex.refl _) ⟨_, rfl, ?_⟩
        rw [List.getElem?_map, hx]
        show some (decide (x = .non) || wordsV H x) = _
        rw [decide_eq_true cn]; rfl
      · walk_at "rd"
        refine ⟨x, rfl, a1.mono e', fun zs ez => ?_, fun H9 e9 => ?_⟩
        · rw [objL_ex a1 e'] at ez
          exact ⟨(a2 zs ez).1, fun z hz => ((a2 zs ez).2 z hz).mono e'⟩
        · refine kk _ _ e9 ⟨_, rfl, ?_⟩
          rw [List.getElem?_map, hx]
          show some (decide (x = .non) || wordsV H x) = _
          rw [decide_eq_false cn, Bool.false_or, wordsV_ex a1 e']
    have hys := list_is (f := V.bl) (bs := xs.map (fun y => decide (y = .non) || wordsV H y)) (by rw [hl5, List.length_map]) hR
    subst hys
    walk_at "rd"
    refine ⟨D, _, rfl, SqL.of h5, ?_⟩
    have := h H5 e5
    rw [decide_eq_true (show 1 ≤ xs.length by omega), decide_eq_true (show xs.length ≤ 24 by omega), Bool.true_and, Bool.true_and] at this
    rw [List.all_map]
    exact this

/-- a memory at p: its list of pages at l -/
structure MemAt (A : Ad) (H : Hp) (p l : Addr) (as : List (Option Addr)) (ps : Pg) : Prop where
  ins : ∃ dx, H p = some (.ins A.C_Memory dx [("held", .ref l)])
  nl : NL H l as ps
  ok : PgOk ps
def mfoot (p l : Addr) (as : List (Option Addr)) : Addr → Prop := fun b => b = p ∨ foot l as b
theorem MemAt.keep {A : Ad} {H H' : Hp} {p l : Addr} {as : List (Option Addr)} {ps : Pg} {F : Addr → Prop} (m : MemAt A H p l as ps) (e : ExF F H H') (h : ∀ b, mfoot p l as b → ¬ F b) : MemAt A H' p l as ps :=
  ⟨let ⟨dx, q⟩ := m.ins; ⟨dx, e _ _ (h p (.inl rfl)) q⟩, m.nl.keep e fun b z => h b (.inr z), m.ok⟩
theorem MemAt.ex {A : Ad} {H H' : Hp} {p l : Addr} {as : List (Option Addr)} {ps : Pg} (m : MemAt A H p l as ps) (e : Ex H H') : MemAt A H' p l as ps := m.keep (F := fun _ => False) (Ex.f e) fun _ _ z => z
theorem MemAt.pnl {A : Ad} {H : Hp} {p l : Addr} {as : List (Option Addr)} {ps : Pg} (m : MemAt A H p l as ps) : ¬ foot l as p := fun z => by
  obtain ⟨dx, h⟩ := m.ins
  rcases z with rfl | ⟨i, z⟩
  · rw [m.nl.top] at h; cases h
  · obtain ⟨ws, _, q⟩ := m.nl.sub i p z
    rw [q] at h; cases h
def sp_Memory_size (K : PySem.W.Frag) (A : Ad) : Sp := fun vs H Q _ => ∃ (p l : Addr) (as : List (Option Addr)) (ps : Pg), vs = [.ref p] ∧ MemAt A H p l as ps ∧ Q (.int (ps.length : Int)) H
theorem ok_Memory_size (F : Mf K A.C_Memory "size" "Memory.size" s_Memory_size ["self"]) (T : Txt K mg A) : Mn P w K mg base 1 A.C_Memory "size" (sp_Memory_size K A) := by
  refine F.mn T.cl_Memory sc_Memory_size (fun vs H Q E h => ?_) (fun cdv f Ar outer s H vs Q E hr h => ?_)
  · obtain ⟨p, l, as, ps, rfl, hM, h⟩ := h; rfl
  obtain ⟨p, l, as, ps, rfl, hM, h⟩ := h
  refine ⟨_, (pss_one (ps_ret (pe_callB (kx_len (K := K) rfl) (by rfl) T.b_len (by decide +kernel) (pa_cons (kx_fld (K := K) rfl (pv 0)) pa_nil)))), ?_⟩
  obtain ⟨dx, hp⟩ := hM.ins
  have c1 := T.cl_Memory
  have c2 := T.no_Memory_held
  walk_at "rd"
  refine r_lenL (SqL.of hM.nl.top) ?_
  rw [List.length_map, hM.nl.len]
  exact h
def sp_Memory_told (K : PySem.W.Frag) (A : Ad) : Sp := fun vs H Q _ => ∃ (p l : Addr) (as : List (Option Addr)) (ps : Pg), vs = [.ref p] ∧ MemAt A H p l as ps ∧ ∀ D bs H', Ex H H' → (∀ b, foot D bs b → H b = none) → NL H' D bs ps → Q (.ref D) H'
theorem ok_Memory_told (F : Mf K A.C_Memory "told" "Memory.told" s_Memory_told ["self"]) (T : Txt K mg A) : Mn P w K mg base 1 A.C_Memory "told" (sp_Memory_told K A) := by
  refine F.mn T.cl_Memory sc_Memory_told (fun vs H Q E h => ?_) (fun cdv f Ar outer s H vs Q E hr h => ?_)
  · obtain ⟨p, l, as, ps, rfl, hM, h⟩ := h; rfl
  obtain ⟨p, l, as, ps, rfl, hM, h⟩ := h
  refine ⟨_, (pss_one (ps_ret (pe_lc (own := [("words", 1)]) (g := gName 1) (tt := tYes) rfl sc_Memory_told.nd (kx_il (K := K) rfl (kx_fld (K := K) rfl (pv 0))) (blkOk_by (own := [("words", 1)]) (N := ["self", "words"]) (sc := defScope s_Memory_told) (by decide +kernel)) (fun _ _ _ _ _ => (pg_name (i := 1) sc_Memory_told.nd rfl (Or.inl rfl))) (fun _ _ _ _ _ => pts_nil) (fun _ _ _ _ _ => (pe_ifExp (pt_cmpR op_isN1 (pv 1) pe_non (nomark _)) pe_non (pe_callTy (kx_ls (K := K) rfl) (by rfl) T.b_list (by decide +kernel) (pa_cons (pv 1) pa_nil))))))), ?_⟩
  obtain ⟨dx, hp⟩ := hM.ins
  have c1 := T.cl_Memory
  have c2 := T.no_Memory_held
  walk_at "rd"
  refine r_copy hM.nl.rl (by rw [List.length_map, hM.nl.len]; have := hM.ok.hi; omega) (fun _ => rfl) (fun _ => rfl) fun D bs H5 e5 fr n5 => ?_
  exact h D bs H5 e5 fr n5
def sp_Memory___init__ (K : PySem.W.Frag) (A : Ad) : Sp := fun vs H Q E => ∃ (p dx : Addr) (x : V), vs = [.ref p, x] ∧ H p = some (.ins A.C_Memory dx []) ∧ AnyV H x ∧
  (∀ xs, objL H x = some xs → xs.length ≤ 1000 ∧ ∀ y ∈ xs, AnyV H y ∧ ∀ zs, objL H y = some zs → zs.length ≤ 1000 ∧ ∀ z ∈ zs, AnyV H z) ∧
  (imageV H x = false → ∀ H', Ex H H' → E (.ref A.C_NoImage) none H') ∧
  (imageV H x = true → ∀ l as ps H', imageOf H x = some ps → ExF (fun b => b = p) H H' → (∀ b, foot l as b → H b = none) → MemAt A H' p l as ps → Q .non H')
theorem ok_Memory___init__ (F : Mf K A.C_Memory "__init__" "Memory.__init__" s_Memory___init__ ["self", "pages"]) (T : Txt K mg A) (D_is_image : Dn P w K mg base 4 "is_image" (sp_is_image K A)) : Kn P w K mg base 5 "Memory" A.C_Memory (sp_Memory___init__ K A) := by
  refine F.kn T.mk_Memory T.k_Memory sc_Memory___init__ (fun vs H Q E h => ?_) (fun cdv f Ar outer s H vs Q E hr h => ?_)
  · obtain ⟨p, dx, x, rfl, hp, hx, hd, h1, h2⟩ := h; rfl
  obtain ⟨p, dx, x, rfl, hp, hx, hd, h1, h2⟩ := h
  refine ⟨_, (pss_cons (ps_if (pt_not (pt_val (pe_d D_is_image hr (by decide) takes0 (pa_cons (pv 1) pa_nil)))) (pss_one (ps_raise rfl (takes_of rfl rfl rfl rfl) (pmk_o T.x_NoImage T.k_NoImage))) pss_nil)
  (pss_one (kx_sfld (K := K) rfl (pv 0) (pe_lc (own := [("words", 2)]) (g := gName 2) (tt := tYes) rfl sc_Memory___init__.nd (kx_il (K := K) rfl (pv 1)) (blkOk_by (own := [("words", 2)]) (N := ["self", "pages", "words"]) (sc := defScope s_Memory___init__) (by decide +kernel)) (fun _ _ _ _ _ => (pg_name (i := 2) sc_Memory___init__.nd rfl (Or.inl rfl))) (fun _ _ _ _ _ => pts_nil) (fun _ _ _ _ _ => (pe_ifExp (pt_cmpR op_isN1 (pv 2) pe_non (nomark _)) pe_non (pe_callTy (kx_ls (K := K) rfl) (by rfl) T.b_list (by decide +kernel) (pa_cons (pv 2) pa_nil)))))))), ?_⟩
  have c1 := T.cl_Memory
  have c2 := T.no_Memory_held
  walk_at "rd"
  refine ⟨x, rfl, hx, hd, fun H1 e1 => ?_⟩
  walk_at "rd"
  cases c : imageV H x with
  | false =>
    refine r_nf ?_
    exact h1 c H1 e1
  | true =>
    refine r_nt ?_
    obtain ⟨a, vs, ps, rfl, hR, hok, him⟩ := image_rl (K := K) c
    have hp1 := e1 _ _ hp
    walk_at "rd"
    refine r_copy (hR.ex e1) (by rw [hR.len]; have := hok.hi; omega) (fun _ => rfl) (fun _ => rfl) fun D bs H5 e5 fr n5 => ?_
    walk_at "rd"
    refine r_sfld1 (e5 _ _ hp1) c1 c2 (by decide) ?_
    walk_at "rd"
    have np : ¬ foot D bs p := fun z => by have := fr p z; rw [hp1] at this; cases this
    exact h2 c D bs ps _ him (ExF.trans (Ex.f (e1.trans e5)) (ExF.up rfl)) (fun b z => fresh_back e1 (fr b z)) ⟨⟨dx, upd_same⟩, n5.keep (F := fun b => b = p) (ExF.up rfl) (fun b z q => np (by rw [← q]; exact z)), hok⟩

def sp__law_cell_at (K : PySem.W.Frag) (A : Ad) : Sp := fun vs H Q _ => ∃ (a : Addr) (ns : List Int) (k : Nat), vs = [.ref a, .int (k : Int)] ∧ SqL K H a (ns.map V.int) ∧ ∀ z : Int, z = ns.getD k 0 → Q (.int z) H
theorem ok__law_cell_at (F : Df K mg "_law_cell_at" s__law_cell_at ["_law_script", "_law_k"]) (T : Txt K mg A) : Dn P w K mg base 1 "_law_cell_at" (sp__law_cell_at K A) := by
  refine F.dn sc__law_cell_at (fun vs H Q E h => ?_) (fun cdv f Ar outer s H vs Q E hr h => ?_)
  · obtain ⟨a, ns, n, rfl, hS, h⟩ := h; rfl
  obtain ⟨a, ns, n, rfl, hS, h⟩ := h
  refine ⟨_, (pss_cons (ps_if (pt_cmpR op_lt (pv 1) (pe_callB (kx_len (K := K) rfl) (by rfl) T.b_len (by decide +kernel) (pa_cons (pv 0) pa_nil)) (nomark _)) (pss_one (ps_ret (pe_ix (kx_ixl (K := K) rfl) (pv 0) (pv 1) (fun _ _ => rfl)))) pss_nil)
  (pss_one (ps_ret pe_int))), ?_⟩
  walk_at "rd"
  refine r_lenL hS ?_
  rw [List.length_map]
  walk_at "rd"
  refine r_ite (fun c => ?_) (fun c => ?_)
  · walk_at "rd"
    have hn : n < ns.length := by omega
    refine r_ixL hS (atI_intN (List.getElem?_eq_getElem hn)) ?_
    exact h _ (by rw [List.getD_eq_getElem?_getD, List.getElem?_eq_getElem hn]; rfl)
  · walk_at "rd"
    exact h 0 (by rw [List.getD_eq_getElem?_getD, List.getElem?_eq_none (by omega)]; rfl)
def sp__law_mixed (K : PySem.W.Frag) (A : Ad) : Sp := fun vs H Q _ => ∃ c k : Int, vs = [.int c, .int k] ∧ 0 ≤ k ∧ k ≤ 100000 ∧ ∀ z : Int, z = mixedN c k → 0 ≤ z → z < 2147483587 → Q (.int z) H
theorem ok__law_mixed (F : Df K mg "_law_mixed" s__law_mixed ["_law_cell", "_law_k"]) (T : Txt K mg A) : Dn P w K mg base 1 "_law_mixed" (sp__law_mixed K A) := by
  refine F.dn sc__law_mixed (fun vs H Q E h => ?_) (fun cdv f Ar outer s H vs Q E hr h => ?_)
  · obtain ⟨c, k, rfl, k0, k1, h⟩ := h; rfl
  obtain ⟨c, k, rfl, k0, k1, h⟩ := h
  refine ⟨_, (pss_cons (ps_set (i := 2) sc__law_mixed.nd rfl (Or.inl rfl) (pe_op op_mod (pe_op op_mul (pe_op op_add (pe_op op_add (pe_op op_add (pe_op op_mod (pv 0) pe_int) (pe_op op_mul (pe_op op_mul pe_int (pv 1)) (pv 1))) (pv 1)) pe_int) pe_int) pe_int))
  (pss_one (ps_ret (pe_op op_mod (pe_op op_mul (pv 2) (pv 2)) pe_int)))), ?_⟩
  walk_at "rd"
  refine h _ rfl ?_ ?_ <;> omega
def sp__law_word (K : PySem.W.Frag) (A : Ad) : Sp := fun vs H Q _ => ∃ c k : Int, vs = [.int c, .int k] ∧ 0 ≤ k ∧ k ≤ 100000 ∧ ∀ (z : Int) H', Ex H H' → z = wordN c k → 0 ≤ z → z < 281474976710656 → Q (.int z) H'
theorem ok__law_word (F : Df K mg "_law_word" s__law_word ["_law_cell", "_law_k"]) (T : Txt K mg A) (D__law_mixed : Dn P w K mg base 1 "_law_mixed" (sp__law_mixed K A)) : Dn P w K mg base 2 "_law_word" (sp__law_word K A) := by
  refine F.dn sc__law_word (fun vs H Q E h => ?_) (fun cdv f Ar outer s H vs Q E hr h => ?_)
  · obtain ⟨c, k, rfl, k0, k1, h⟩ := h; rfl
  obtain ⟨c, k, rfl, k0, k1, h⟩ := h
  refine ⟨_, (pss_cons (ps_set (i := 2) sc__law_word.nd rfl (Or.inl rfl) (pe_d D__law_mixed hr (by decide) takes0 (pa_cons (pv 0) (pa_cons (pv 1) pa_nil))))
  (pss_cons (ps_set (i := 3) sc__law_word.nd rfl (Or.inl rfl) (pe_op op_mod (pe_op op_mul (pv 2) pe_int) pe_int))
  (pss_one (ps_ret (pe_ix (kx_ixl (K := K) rfl) (pe_lst (pa_cons (pe_op op_mod (pv 3) pe_int) (pa_cons (pe_op op_mod (pv 3) pe_int) (pa_cons (pe_op op_sub (pe_op op_sub (pe_op op_pow pe_int pe_int) pe_int) (pe_op op_mod (pv 3) pe_int)) (pa_cons (pe_op op_mod (pe_op op_mul (pv 3) (pv 2)) (pe_op op_pow pe_int pe_int)) pa_nil))))) (pe_op op_mod (pv 2) pe_int) (fun _ _ => rfl)))))), ?_⟩
  walk_at "rd"
  refine ⟨c, k, rfl, k0, k1, fun n hn n0 n1 => ?_⟩
  walk_at "rd"
  refine r_new fun p H1 n1' e1 h1 => ?_
  walk_at "rd"
  have wd := wordN_word c k
  have q : n % 4 = 0 ∨ n % 4 = 1 ∨ n % 4 = 2 ∨ n % 4 = 3 := by omega
  have fin : ∀ v, wordN c k = v → Q (.int v) H1 := fun v e => h v H1 e1 e.symm (e ▸ wd.1) (e ▸ wd.2)
  rcases q with q | q | q | q <;> refine r_ixL (SqL.of h1) (by rw [q]; rfl) ?_ <;> (refine fin _ ?_; unfold wordN; rw [← hn, q]; rfl)

/-- what isinstance says of an exception of the class at D -/
structure KD (K : PySem.W.Frag) (A : Ad) (D : Addr) (b0 b1 b2 b3 b4 b5 b6 b7 b8 : Bool) : Prop where
  h0 : PySem.W.kitOne K (.ref D) (.ref A.C_NoImage) = some b0
  h1 : PySem.W.kitOne K (.ref D) (.type "ValueError") = some b1
  h2 : PySem.W.kitOne K (.ref D) (.ref A.C_NoPage) = some b2
  h3 : PySem.W.kitOne K (.ref D) (.ref A.C_NoPlace) = some b3
  h4 : PySem.W.kitOne K (.ref D) (.ref A.C_NoWord) = some b4
  h5 : PySem.W.kitOne K (.ref D) (.ref A.C_NoRow) = some b5
  h6 : PySem.W.kitOne K (.ref D) (.ref A.C_NoFrame) = some b6
  h7 : PySem.W.kitOne K (.ref D) (.ref A.C_NoText) = some b7
  h8 : PySem.W.kitOne K (.ref D) (.ref A.C_Fault) = some b8
def sp__law_kinds (K : PySem.W.Frag) (A : Ad) : SpE := fun a cls d vs H Q _ => ∃ (D : Addr) (b0 b1 b2 b3 b4 b5 b6 b7 b8 : Bool), vs = [.ref a] ∧ cls = .ref D ∧ d = none ∧ ExcC K D ∧ KD K A D b0 b1 b2 b3 b4 b5 b6 b7 b8 ∧ ∀ l H1, Ex H H1 → H l = none → H1 l = some (.lst ([b0, b1, b2, b3, b4, b5, b6, b7, b8].map V.bl)) → Q (.ref l) H1
theorem ok__law_kinds (F : Df K mg "_law_kinds" s__law_kinds ["_law_e"]) (T : Txt K mg A) : En P w K mg base 1 "_law_kinds" (sp__law_kinds K A) := by
  refine F.en sc__law_kinds (fun a c d vs H Q E h => ?_) (fun cdv f Ar outer s H vs Q p cls d hz hf h => ?_)
  · obtain ⟨D, b0, b1, b2, b3, b4, b5, b6, b7, b8, rfl, rfl, rfl, hC, ⟨h0, h1, h2, h3, h4, h5, h6, h7, h8⟩, k⟩ := h; rfl
  obtain ⟨D, b0, b1, b2, b3, b4, b5, b6, b7, b8, rfl, rfl, rfl, hC, ⟨h0, h1, h2, h3, h4, h5, h6, h7, h8⟩, k⟩ := h
  refine ⟨_, (pss_cons (ps_set (i := 1) sc__law_kinds.nd rfl (Or.inl rfl) (pe_lst (pa_cons (pe_callB (call_isP (K := K) rfl List.mem_cons_self hz hf) (by rfl) T.b_isinstance (by decide +kernel) (pa_cons (pv 0) (pa_cons (pe_glob (v := .ref A.C_NoImage) rfl T.k_NoImage rfl) pa_nil))) (pa_cons (pe_callB (call_isP (K := K) rfl List.mem_cons_self hz hf) (by rfl) T.b_isinstance (by decide +kernel) (pa_cons (pv 0) (pa_cons (pe_bltn (v := .ty "ValueError") (by rfl) T.b_ValueError (by decide +kernel) rfl) pa_nil))) (pa_cons (pe_callB (call_isP (K := K) rfl List.mem_cons_self hz hf) (by rfl) T.b_isinstance (by decide +kernel) (pa_cons (pv 0) (pa_cons (pe_glob (v := .ref A.C_NoPage) rfl T.k_NoPage rfl) pa_nil))) (pa_cons (pe_callB (call_isP (K := K) rfl List.mem_cons_self hz hf) (by rfl) T.b_isinstance (by decide +kernel) (pa_cons (pv 0) (pa_cons (pe_glob (v := .ref A.C_NoPlace) rfl T.k_NoPlace rfl) pa_nil))) pa_nil))))))
  (pss_cons (ps_set (i := 1) sc__law_kinds.nd rfl (Or.inl rfl) (pe_op op_cat (pv 1) (pe_lst (pa_cons (pe_callB (call_isP (K := K) rfl List.mem_cons_self hz hf) (by rfl) T.b_isinstance (by decide +kernel) (pa_cons (pv 0) (pa_cons (pe_glob (v := .ref A.C_NoWord) rfl T.k_NoWord rfl) pa_nil))) (pa_cons (pe_callB (call_isP (K := K) rfl List.mem_cons_self hz hf) (by rfl) T.b_isinstance (by decide +kernel) (pa_cons (pv 0) (pa_cons (pe_glob (v := .ref A.C_NoRow) rfl T.k_NoRow rfl) pa_nil))) (pa_cons (pe_callB (call_isP (K := K) rfl List.mem_cons_self hz hf) (by rfl) T.b_isinstance (by decide +kernel) (pa_cons (pv 0) (pa_cons (pe_glob (v := .ref A.C_NoFrame) rfl T.k_NoFrame rfl) pa_nil))) (pa_cons (pe_callB (call_isP (K := K) rfl List.mem_cons_self hz hf) (by rfl) T.b_isinstance (by decide +kernel) (pa_cons (pv 0) (pa_cons (pe_glob (v := .ref A.C_NoText) rfl T.k_NoText rfl) pa_nil))) pa_nil)))))))
  (pss_one (ps_ret (pe_op op_cat (pv 1) (pe_lst (pa_cons (pe_callB (call_isP (K := K) rfl List.mem_cons_self hz hf) (by rfl) T.b_isinstance (by decide +kernel) (pa_cons (pv 0) (pa_cons (pe_glob (v := .ref A.C_Fault) rfl T.k_Fault rfl) pa_nil))) pa_nil))))))), ?_⟩
  have e : Ex H H := Ex.refl H
  refine q_asgL (el_lst (ea_cons (ev_isP hC h0) (ea_cons (ev_isP hC h1) (ea_cons (ev_isP hC h2) (ea_cons (ev_isP hC h3) ea_nil)))) (by show 4 ≤ 100000; decide)) fun p H3 hp e3 z => ?_
  replace e := Ex.trans e e3
  refine q_asgL (el_cat (ev_var rfl) z (el_lst (ea_cons (ev_isP hC h4) (ea_cons (ev_isP hC h5) (ea_cons (ev_isP hC h6) (ea_cons (ev_isP hC h7) ea_nil)))) (by show 4 ≤ 100000; decide)) (by show 4 + 4 ≤ 100000; decide)) fun p H3 hp e3 z => ?_
  replace e := Ex.trans e e3
  exact s_retL (el_cat (ev_var rfl) z (el_lst (ea_cons (ev_isP hC h8) ea_nil) (by show 1 ≤ 100000; decide)) (by show 8 + 1 ≤ 100000; decide)) fun p H3 hp e3 h3 => k p H3 (Ex.trans e e3) (fresh_back e hp) h3
def sp__law_refused (K : PySem.W.Frag) (A : Ad) : Sp := fun vs H Q _ => ∃ (x : V) (o : Option PyData), vs = [x] ∧ TkO H x o ∧ badO o ∧ ∀ H', Ex H H' → Q (.bl true) H'
theorem ok__law_refused (F : Df K mg "_law_refused" s__law_refused ["_law_thing"]) (T : Txt K mg A) (K_Memory : Kn P w K mg base 5 "Memory" A.C_Memory (sp_Memory___init__ K A)) (D__law_kinds : En P w K mg base 1 "_law_kinds" (sp__law_kinds K A)) : Dn P w K mg base 7 "_law_refused" (sp__law_refused K A) := by
  refine F.dn sc__law_refused (fun vs H Q E h => ?_) (fun cdv f Ar outer s H vs Q E hr h => ?_)
  · obtain ⟨x, o, rfl, ht, hb, h⟩ := h; rfl
  obtain ⟨x, o, rfl, ht, hb, h⟩ := h
  refine ⟨_, (pss_cons (ps_set (i := 1) sc__law_refused.nd rfl (Or.inl rfl) (pe_lst pa_nil))
  (pss_cons (ps_try_as (i := 2) rfl rfl sc__law_refused.nd rfl rfl ⟨rfl, by decide, .inl T.k_HouseError⟩ takes0 (fun W pn xe tk pw => (pss_one (ps_expr (pe_k K_Memory hr (by decide) tk (pa_cons (pv 0) pa_nil)))))
  (fun ea eo ecls ed pn hz hf => (pss_one (ps_set (i := 1) sc__law_refused.nd rfl (Or.inl rfl) (pe_e D__law_kinds hr (by decide) hz hf (pa_cons (pv 2) pa_nil))))))
  (pss_one (ps_ret (pe_cmpR (kx_eqD (K := K) rfl hr.units) (pv 1) (pe_lst (pa_cons pe_bl (pa_cons pe_bl (pa_cons pe_bl (pa_cons pe_bl (pa_cons pe_bl (pa_cons pe_bl (pa_cons pe_bl (pa_cons pe_bl (pa_cons pe_bl pa_nil)))))))))) (nomark _)))))), ?_⟩
  walk_at "rd"
  refine r_new fun p1 H1 n1 e1 h1 => ?_
  walk_at "rd"
  intro p dx np ndx nxp
  have e3 : Ex H1 (L2.upd (L2.upd H1 dx (.own p)) p (.ins A.C_Memory dx [])) := (Ex.new ndx).trans (Ex.new (by rw [upd_ne (Ne.symm nxp)]; exact np))
  have hp3 : (L2.upd (L2.upd H1 dx (.own p)) p (.ins A.C_Memory dx [])) p = some (.ins A.C_Memory dx []) := upd_same
  generalize (L2.upd (L2.upd H1 dx (.own p)) p (.ins A.C_Memory dx [])) = H3 at e3 hp3 ⊢
  have ht3 := ht.ex (e1.trans e3)
  refine ⟨p, dx, x, rfl, hp3, ht3.any, ht3.small hb, fun _ H4 e4 => ?_, fun c => (by rw [ht3.image hb] at c; cases c)⟩
  refine ⟨true, T.x_NoImage.m, fun _ a ha => ?_, fun q => nomatch q⟩
  walk_at "rd"
  refine ⟨A.C_NoImage, _, _, _, _, _, _, _, _, _, rfl, rfl, rfl, T.x_NoImage.c, ⟨T.kt_NoImage_NoImage, T.kt_NoImage_ValueError, T.kt_NoImage_NoPage, T.kt_NoImage_NoPlace, T.kt_NoImage_NoWord, T.kt_NoImage_NoRow, T.kt_NoImage_NoFrame, T.kt_NoImage_NoText, T.kt_NoImage_Fault⟩, fun l H2 e2 nl hl => ?_⟩
  walk_at "rd"
  refine r_new fun p5 H5 n5 e5 h5 => ?_
  refine r_eqBs (bs := [true, true, false, false, false, false, false, false, false]) (cs := [true, true, false, false, false, false, false, false, false]) (SqL.of (e5 _ _ hl)) (SqL.of h5) ?_
  exact h _ (e1.trans (e3.trans (e4.trans (e2.trans e5))))
def sp__law_copy (K : PySem.W.Frag) (A : Ad) : Sp := fun vs H Q _ => ∃ (l : Addr) (as : List (Option Addr)) (ps : Pg), vs = [.ref l] ∧ NL H l as ps ∧ ps.length ≤ 1000 ∧ ∀ D bs H', Ex H H' → (∀ b, foot D bs b → H b = none) → NL H' D bs ps → Q (.ref D) H'
theorem ok__law_copy (F : Df K mg "_law_copy" s__law_copy ["_law_pages"]) (T : Txt K mg A) : Dn P w K mg base 1 "_law_copy" (sp__law_copy K A) := by
  refine F.dn sc__law_copy (fun vs H Q E h => ?_) (fun cdv f Ar outer s H vs Q E hr h => ?_)
  · obtain ⟨l, as, ps, rfl, hN, hl, h⟩ := h; rfl
  obtain ⟨l, as, ps, rfl, hN, hl, h⟩ := h
  refine ⟨_, (pss_one (ps_ret (pe_lc (own := [("_law_words", 1)]) (g := gName 1) (tt := tYes) rfl sc__law_copy.nd (kx_il (K := K) rfl (pv 0)) (blkOk_by (own := [("_law_words", 1)]) (N := ["_law_pages", "_law_words"]) (sc := defScope s__law_copy) (by decide +kernel)) (fun _ _ _ _ _ => (pg_name (i := 1) sc__law_copy.nd rfl (Or.inl rfl))) (fun _ _ _ _ _ => pts_nil) (fun _ _ _ _ _ => (pe_ifExp (pt_cmpR op_isN1 (pv 1) pe_non (nomark _)) pe_non (pe_callTy (kx_ls (K := K) rfl) (by rfl) T.b_list (by decide +kernel) (pa_cons (pv 1) pa_nil))))))), ?_⟩
  walk_at "rd"
  exact r_copy hN.rl (by rw [hN.lenV]; exact hl) (fun _ => rfl) (fun _ => rfl) h
def sp__law_same (K : PySem.W.Frag) (A : Ad) : Sp := fun vs H Q _ => ∃ (a b : Addr) (as bs : List (Option Addr)) (ps : Pg), vs = [.ref a, .ref b] ∧ NL H a as ps ∧ NL H b bs ps ∧ PgOk ps ∧ ∀ H', Ex H H' → Q (.bl true) H'
theorem ok__law_same (F : Df K mg "_law_same" s__law_same ["_law_found", "_law_due"]) (T : Txt K mg A) (D__law_whole : Dn P w K mg base 1 "_law_whole" (sp__law_whole K A)) : Dn P w K mg base 2 "_law_same" (sp__law_same K A) := by
  refine F.dn sc__law_same (fun vs H Q E h => ?_) (fun cdv f Ar outer s H vs Q E hr h => ?_)
  · obtain ⟨a, b, as, bs, ps, rfl, hA, hB, hO, h⟩ := h; rfl
  obtain ⟨a, b, as, bs, ps, rfl, hA, hB, hO, h⟩ := h
  refine ⟨_, (pss_cons (ps_if (PW.pt (pw_or (pt_not (pt_val (pe_callB (kx_isi (K := K) rfl) (by rfl) T.b_isinstance (by decide +kernel) (pa_cons (pv 0) (pa_cons (pe_bltn (v := .ty "list") (by rfl) T.b_list (by decide +kernel) rfl) pa_nil))))) (pw_or1 (pt_cmpR op_ne (pe_callB (kx_len (K := K) rfl) (by rfl) T.b_len (by decide +kernel) (pa_cons (pv 0) pa_nil)) (pe_callB (kx_len (K := K) rfl) (by rfl) T.b_len (by decide +kernel) (pa_cons (pv 1) pa_nil)) (nomark _))))) (pss_one (ps_ret pe_bl)) pss_nil)
  (pss_cons (ps_for (passes_of rfl) rfl (pi_range1 (by rfl) T.b_range (pa_cons (pe_callB (kx_len (K := K) rfl) (by rfl) T.b_len (by decide +kernel) (pa_cons (pv 1) pa_nil)) pa_nil)) (pg_name (i := 2) sc__law_same.nd rfl (Or.inl rfl))
  (pss_one (ps_if (PW.pt (pw_or (pt_cmpR op_isN1 (pe_ix (kx_ixl (K := K) rfl) (pv 1) (pv 2) (fun _ _ => rfl)) pe_non (nomark _)) (pw_or1 (pt_cmpR op_isN1 (pe_ix (kx_ixl (K := K) rfl) (pv 0) (pv 2) (fun _ _ => rfl)) pe_non (nomark _))))) (pss_one (ps_if (PW.pt (pw_or (pt_cmpR op_notN1 (pe_ix (kx_ixl (K := K) rfl) (pv 1) (pv 2) (fun _ _ => rfl)) pe_non (nomark _)) (pw_or1 (pt_cmpR op_notN1 (pe_ix (kx_ixl (K := K) rfl) (pv 0) (pv 2) (fun _ _ => rfl)) pe_non (nomark _))))) (pss_one (ps_ret pe_bl)) pss_nil)) (pss_one (ps_if (PW.pt (pw_or (pt_not (pt_val (pe_callB (kx_isi (K := K) rfl) (by rfl) T.b_isinstance (by decide +kernel) (pa_cons (pe_ix (kx_ixl (K := K) rfl) (pv 0) (pv 2) (fun _ _ => rfl)) (pa_cons (pe_bltn (v := .ty "list") (by rfl) T.b_list (by decide +kernel) rfl) pa_nil))))) (pw_or1 (pt_cmpR (kx_neD (K := K) rfl hr.units) (pe_ix (kx_ixl (K := K) rfl) (pv 0) (pv 2) (fun _ _ => rfl)) (pe_ix (kx_ixl (K := K) rfl) (pv 1) (pv 2) (fun _ _ => rfl)) (nomark _))))) (pss_one (ps_ret pe_bl)) (pss_one (ps_if (pt_cmpR (kx_neD (K := K) rfl hr.units) (pe_lc (own := [("_law_word_here", 3)]) (g := gName 3) rfl sc__law_same.nd (kx_il (K := K) rfl (pe_ix (kx_ixl (K := K) rfl) (pv 0) (pv 2) (fun _ _ => rfl))) (blkOk_by (own := [("_law_word_here", 3)]) (N := ["_law_found", "_law_due", "_law_k", "_law_word_here"]) (sc := defScope s__law_same) (by decide +kernel)) (fun _ _ _ _ _ => (pg_name (i := 3) sc__law_same.nd rfl (Or.inl rfl))) (fun _ _ _ _ _ => (pts_one (pt_not (pt_val (pe_d D__law_whole hr (by decide) takes0 (pa_cons (pv 3) pa_nil)))))) (fun _ _ _ _ _ => (pv 3))) (pe_lst pa_nil) (nomark _)) (pss_one (ps_ret pe_bl)) pss_nil)))))))
  (pss_one (ps_ret pe_bl)))), ?_⟩
  have ha := hA.top
  have hb := hB.top
  walk_at "rd"
  refine r_lenL (SqL.of ha) ?_
  walk_at "rd"
  refine r_lenL (SqL.of hb) ?_
  rw [hA.lenV, hB.lenV]
  walk_at "rd"
  refine r_lenL (SqL.of hb) ?_
  rw [hB.lenV]
  walk_at "rd"
  refine r_iR1 (n := ps.length) rfl (by have := hO.hi; omega) (fun k σ H' => Ex H H' ∧ ∃ x2 x3, σ = [some (.ref a), some (.ref b), x2, x3]) ⟨Ex.refl _, _, _, rfl⟩ ?_ ?_
  · rintro k σ H' hk ⟨es, x2, x3, rfl⟩
    replace ha := es _ _ ha
    replace hb := es _ _ hb
    replace hA := hA.ex es
    replace hB := hB.ex es
    walk_at "rd"
    rcases pg_cases hk with q | ⟨ws, q⟩
    · refine r_ixL (SqL.of hb) (hB.vnone q) ?_
      walk_at "rd"
      refine r_ixL (SqL.of hb) (hB.vnone q) ?_
      walk_at "rd"
      refine r_ixL (SqL.of ha) (hA.vnone q) ?_
      walk_at "rd"
      exact ⟨es, _, _, rfl⟩
    · obtain ⟨u, u1, u2, u3⟩ := hA.vsome q
      obtain ⟨v, v1, v2, v3⟩ := hB.vsome q
      refine r_ixL (SqL.of hb) v2 ?_
      walk_at "rd"
      refine r_ixL (SqL.of ha) u2 ?_
      walk_at "rd"
      refine r_ixL (SqL.of ha) u2 ?_
      walk_at "rd"
      refine r_ixL (SqL.of ha) u2 ?_
      walk_at "rd"
      refine r_ixL (SqL.of hb) v2 ?_
      refine r_neIS (SqL.of u3) (SqL.of v3) ?_
      walk_at "rd"
      refine r_ixL (SqL.of ha) u2 ?_
      refine r_lcF (SqL.of u3) (by rw [List.length_map, (hO.all ws (List.mem_of_getElem? q)).1]; decide) (fun _ => false) (fun _ => .non) (fun _ => rfl) (fun i x H1 _ hx => ?_) (fun i x H1 _ hx c => (by cases c)) (fun D H6 nD e6 h6 => ?_)
      · refine et_is (et_not (et_B (b := true) (ev_callS (ea_cons (ev_var rfl) ea_nil) fun H2 _ Q q E => ?_))) rfl
        obtain ⟨z, _, rfl⟩ := int_at hx
        exact ⟨_, rfl, .int, q _ (Ex.refl _)⟩
      rw [given_none] at h6
      walk_at "rd"
      refine r_new fun p7 H7 n7 e7 h7 => ?_
      refine r_neBS (bs := []) (SqL.of (e7 _ _ h6)) (SqL.of h7) ?_
      walk_at "rd"
      exact ⟨es.trans (e6.trans e7), _, _, rfl⟩
  · rintro σ H' ⟨es, x2, x3, rfl⟩
    walk_at "rd"
    exact h _ es

namespace K12
open PySem PySem.Spec PyProof.Rows L2 Evl Z
def oddW (c : Int) : PyData := [.int (-1), .int (281474976710656 + c / 560 % 1000000000000000000000000000000), .bool true, .none, .str "1", .list [.int 1], .int 281474976710656].getD (c / 10 % 7).toNat .none
def oddP (c : Int) : PyData := [.tuple [.int 0, .int 0, .int 0, .int 0, .int 0, .int 0, .int 0, .int 0], .int 0, .bool true, .str "00000000", .list []].getD (c / 10 % 5).toNat .none
def oddT (c : Int) : Option PyData := [some .none, some (.str ""), some (.int 0), none, some (.bool true)].getD (c / 10 % 5).toNat none
def w9 (c : Int) : List Int := (List.range 9).map fun (k : Nat) => wordN (c / 10) (k : Int)
def at12 (ps : Pg) (c : Int) : Nat := (c / 10 % (ps.length : Int)).toNat
def spoil (ps : Pg) (c : Int) : Option PyData :=
  if c % 10 = 0 then some (.list ((ps.map pgD).set (at12 ps c) (.list (((w9 c).take 7).map PyData.int))))
  else if c % 10 = 1 then some (.list ((ps.map pgD).set (at12 ps c) (.list ((w9 c).map PyData.int))))
  else if c % 10 < 5 then some (.list ((ps.map pgD).set (at12 ps c) (.list ((((w9 c).take 8).map PyData.int).set (c / 70 % 8).toNat (oddW c)))))
  else if c % 10 = 5 then some (.list ((ps.map pgD).set (at12 ps c) (oddP c)))
  else if c % 10 = 6 then some (.tuple (ps.map pgD))
  else if c % 10 = 7 then oddT c
  else if c % 10 = 8 then some (.list [])
  else some (.list ((List.replicate 25 (ps.map pgD)).flatten.take 25))
theorem at12_lt {ps : Pg} (h : PgOk ps) (c : Int) : at12 ps c < ps.length := by
  have := h.lo
  have h1 := Int.emod_nonneg (c / 10) (show (ps.length : Int) ≠ 0 by omega)
  have h2 := Int.emod_lt_of_pos (c / 10) (show (0 : Int) < ps.length by omega)
  unfold at12; omega
theorem c7 (c : Int) : c / 10 % 7 = 0 ∨ c / 10 % 7 = 1 ∨ c / 10 % 7 = 2 ∨ c / 10 % 7 = 3 ∨ c / 10 % 7 = 4 ∨ c / 10 % 7 = 5 ∨ c / 10 % 7 = 6 := by omega
theorem c5 (c : Int) : c / 10 % 5 = 0 ∨ c / 10 % 5 = 1 ∨ c / 10 % 5 = 2 ∨ c / 10 % 5 = 3 ∨ c / 10 % 5 = 4 := by omega
theorem oddW_is (c : Int) : wordD (oddW c) = false ∧ ShD 2 (oddW c) := by
  unfold oddW
  rcases c7 c with e | e | e | e | e | e | e <;> rw [e]
  · exact ⟨rfl, .int⟩
  · refine ⟨?_, .int⟩
    show (decide (0 ≤ 281474976710656 + c / 560 % 1000000000000000000000000000000) && decide (281474976710656 + c / 560 % 1000000000000000000000000000000 < (281474976710656 : Int))) = false
    rw [decide_eq_false (show ¬ 281474976710656 + c / 560 % 1000000000000000000000000000000 < (281474976710656 : Int) by omega), Bool.and_false]
  · exact ⟨rfl, .bl⟩
  · exact ⟨rfl, .non⟩
  · exact ⟨rfl, .str (by decide +kernel)⟩
  · exact ⟨rfl, .lst fun d h => by rw [List.mem_singleton.mp h]; exact .int⟩
  · exact ⟨rfl, .int⟩
theorem oddP_is (c : Int) : pageD (oddP c) = false ∧ ShD 2 (oddP c) ∧ smallD (.list [oddP c]) := by
  unfold oddP
  rcases c5 c with e | e | e | e | e <;> rw [e]
  · refine ⟨rfl, .tup fun d h => ?_, by simp [smallD]⟩
    simp only [List.mem_cons, List.not_mem_nil, or_false, or_self] at h
    subst h; exact .int
  · exact ⟨rfl, .int, by simp [smallD]⟩
  · exact ⟨rfl, .bl, by simp [smallD]⟩
  · exact ⟨rfl, .str (by decide +kernel), by simp [smallD]⟩
  · exact ⟨by decide, .lst (fun d h => by cases h), by simp [smallD]⟩
theorem pgs_small {ps : Pg} (h : PgOk ps) : ∀ d ∈ ps.map pgD, match d with | .list es => es.length ≤ 1000 | _ => True := fun d hd => by
  obtain ⟨p, hp, rfl⟩ := List.mem_map.mp hd
  cases p with
  | none => trivial
  | some ws => show (ws.map PyData.int).length ≤ 1000; rw [List.length_map, (h.all ws hp).1]; decide
theorem set_bad {ps : Pg} (h : PgOk ps) {i : Nat} (hi : i < ps.length) {d : PyData} (h1 : pageD d = false) (h2 : ShD 3 d) (h3 : smallD (.list [d])) : badO (some (.list ((ps.map pgD).set i d))) := by
  refine ⟨?_, ⟨?_, fun e he => ?_⟩, .lst fun e he => ?_⟩
  · show (decide _ && decide _ && ((ps.map pgD).set i d).all pageD) = false
    have : ((ps.map pgD).set i d).all pageD = false := by
      rw [List.all_eq_false]
      exact ⟨d, List.mem_set (by rw [List.length_map]; exact hi) _, by rw [h1]; decide⟩
    rw [this, Bool.and_false]
  · have := h.hi; rw [List.length_set, List.length_map]; omega
  · rcases List.mem_or_eq_of_mem_set he with q | rfl
    · exact pgs_small h e q
    · exact h3.2 e List.mem_cons_self
  · rcases List.mem_or_eq_of_mem_set he with q | rfl
    · exact ShD.pgs (n := 2) q
    · exact h2
theorem w9_len (c : Int) : (w9 c).length = 9 := by unfold w9; rw [List.length_map, List.length_range]
theorem spoil_bad {ps : Pg} (h : PgOk ps) (c : Int) : badO (spoil ps c) := by
  have hi := at12_lt h c
  unfold spoil
  split
  · refine set_bad h hi ?_ ((ShD.ints (n := 0)).mono (by decide)) ⟨by show 1 ≤ 1000; decide, fun d hd => ?_⟩
    · show (decide ((((w9 c).take 7).map PyData.int).length = 8) && (((w9 c).take 7).map PyData.int).all wordD) = false
      rw [List.length_map, List.length_take, w9_len]; rfl
    · rw [List.mem_singleton.mp hd]; show List.length _ ≤ 1000; rw [List.length_map, List.length_take, w9_len]; decide
  split
  · refine set_bad h hi ?_ ((ShD.ints (n := 0)).mono (by decide)) ⟨by show 1 ≤ 1000; decide, fun d hd => ?_⟩
    · show (decide (((w9 c).map PyData.int).length = 8) && ((w9 c).map PyData.int).all wordD) = false
      rw [List.length_map, w9_len]; rfl
    · rw [List.mem_singleton.mp hd]; show List.length _ ≤ 1000; rw [List.length_map, w9_len]; decide
  split
  · refine set_bad h hi ?_ (.lst fun d hd => ?_) ⟨by show 1 ≤ 1000; decide, fun d hd => ?_⟩
    · show (decide (((((w9 c).take 8).map PyData.int).set (c / 70 % 8).toNat (oddW c)).length = 8) && ((((w9 c).take 8).map PyData.int).set (c / 70 % 8).toNat (oddW c)).all wordD) = false
      have : ((((w9 c).take 8).map PyData.int).set (c / 70 % 8).toNat (oddW c)).all wordD = false := by
        rw [List.all_eq_false]
        refine ⟨oddW c, List.mem_set ?_ _, by rw [(oddW_is c).1]; decide⟩
        rw [List.length_map, List.length_take, w9_len]; omega
      rw [this, Bool.and_false]
    · rcases List.mem_or_eq_of_mem_set hd with q | rfl
      · obtain ⟨_, _, rfl⟩ := List.mem_map.mp q; exact .int
      · exact (oddW_is c).2
    · rw [List.mem_singleton.mp hd]; show List.length _ ≤ 1000; rw [List.length_set, List.length_map, List.length_take, w9_len]; decide
  split
  · exact set_bad h hi (oddP_is c).1 ((oddP_is c).2.1.mono (by decide)) (oddP_is c).2.2
  split
  · exact ⟨rfl, trivial, (ShD.tup (n := 2) fun d hd => ShD.pgs (n := 1) hd).mono (by decide)⟩
  split
  · unfold oddT
    rcases c5 c with e | e | e | e | e <;> rw [e]
    · exact ⟨rfl, trivial, .non⟩
    · exact ⟨rfl, trivial, .str (by decide +kernel)⟩
    · exact ⟨rfl, trivial, .int⟩
    · exact trivial
    · exact ⟨rfl, trivial, .bl⟩
  split
  · exact ⟨by decide, ⟨by decide, fun d hd => by cases hd⟩, .lst fun d hd => by cases hd⟩
  · have len : ((List.replicate 25 (ps.map pgD)).flatten.take 25).length = 25 := by
      rw [List.length_take, List.length_flatten, List.map_replicate, List.sum_replicate_nat, List.length_map]
      have := h.lo
      omega
    have mem : ∀ d ∈ (List.replicate 25 (ps.map pgD)).flatten.take 25, d ∈ ps.map pgD := fun d hd => by
      obtain ⟨l, hl, q⟩ := List.mem_flatten.mp (List.mem_of_mem_take hd)
      rw [(List.mem_replicate.mp hl).2] at q; exact q
    refine ⟨?_, ⟨by rw [len]; decide, fun d hd => pgs_small h d (mem d hd)⟩, (ShD.lst (n := 2) fun d hd => ShD.pgs (n := 1) (mem d hd)).mono (by decide)⟩
    show (decide _ && decide (_ ≤ 24) && _) = false
    rw [len]; rfl
end K12

open K12
def sp__law_spoilt (K : PySem.W.Frag) (A : Ad) : Sp := fun vs H Q _ => ∃ (l : Addr) (as : List (Option Addr)) (ps : Pg) (c : Int), vs = [.ref l, .int c] ∧ NL H l as ps ∧ PgOk ps ∧ ∀ v H', Ex H H' → TkO H' v (spoil ps c) → Q v H'
theorem ok__law_spoilt (F : Df K mg "_law_spoilt" s__law_spoilt ["_law_pages", "_law_cell"]) (T : Txt K mg A) (D__law_copy : Dn P w K mg base 1 "_law_copy" (sp__law_copy K A)) (D__law_word : Dn P w K mg base 2 "_law_word" (sp__law_word K A)) : Dn P w K mg base 3 "_law_spoilt" (sp__law_spoilt K A) := by
  refine F.dn sc__law_spoilt (fun vs H Q E h => ?_) (fun cdv f Ar outer s H vs Q E hr h => ?_)
  · obtain ⟨l, as, ps, c, rfl, hN, ok, h⟩ := h; rfl
  obtain ⟨l, as, ps, c, rfl, hN, ok, h⟩ := h
  refine ⟨_, (pss_cons (ps_set (i := 2) sc__law_spoilt.nd rfl (Or.inl rfl) (pe_op op_mod (pv 1) pe_int))
  (pss_cons (ps_set (i := 3) sc__law_spoilt.nd rfl (Or.inl rfl) (pe_d D__law_copy hr (by decide) takes0 (pa_cons (pv 0) pa_nil)))
  (pss_cons (ps_set (i := 4) sc__law_spoilt.nd rfl (Or.inl rfl) (pe_op op_mod (pe_op op_fdiv (pv 1) pe_int) (pe_callB (kx_len (K := K) rfl) (by rfl) T.b_len (by decide +kernel) (pa_cons (pv 3) pa_nil))))
  (pss_cons (ps_setLc (i := 5) (own := [("_law_k", 6)]) (g := gName 6) (tt := tYes) rfl sc__law_spoilt.nd rfl rfl (sw_true rfl rfl rfl (by decide +kernel)) (pi_range1 (by rfl) T.b_range (pa_cons pe_int pa_nil)) (blkOk_by (own := [("_law_k", 6)]) (N := ["_law_pages", "_law_cell", "_law_way", "_law_bad", "_law_at", "_law_words", "_law_k"]) (sc := defScope s__law_spoilt) (by decide +kernel)) (fun _ _ _ _ _ => (pg_name (i := 6) sc__law_spoilt.nd rfl (Or.inl rfl))) (fun _ _ _ _ _ => pts_nil) (fun _ _ _ _ _ => (pe_d D__law_word hr (by decide) takes0 (pa_cons (pe_op op_fdiv (pv 1) pe_int) (pa_cons (pv 6) pa_nil)))))
  (pss_cons (ps_if (pt_cmpR op_eq (pv 2) pe_int (nomark _)) (pss_one (ps_asg (pe_slice (kx_sl (K := K) rfl) (pv 5) po_none (po_some pe_int)) (pg_sub (pv 3) (pv 4) set_list))) (pss_one (ps_if (pt_cmpR op_eq (pv 2) pe_int (nomark _)) (pss_one (ps_asg (pv 5) (pg_sub (pv 3) (pv 4) set_list))) (pss_one (ps_if (pt_cmpR op_lt (pv 2) pe_int (nomark _)) (pss_cons (ps_asg (pe_slice (kx_sl (K := K) rfl) (pv 5) po_none (po_some pe_int)) (pg_sub (pv 3) (pv 4) set_list))
  (pss_one (ps_asg (pe_ix (kx_ixl (K := K) rfl) (pe_lst (pa_cons (pe_un un_neg pe_int) (pa_cons (pe_op op_add (pe_op op_pow pe_int pe_int) (pe_op op_mod (pe_op op_fdiv (pv 1) pe_int) (pe_op op_pow pe_int pe_int))) (pa_cons pe_bl (pa_cons pe_non (pa_cons pe_str (pa_cons (pe_lst (pa_cons pe_int pa_nil)) (pa_cons (pe_op op_pow pe_int pe_int) pa_nil)))))))) (pe_op op_mod (pe_op op_fdiv (pv 1) pe_int) pe_int) (fun _ _ => rfl)) (pg_sub (pe_ix (kx_ixl (K := K) rfl) (pv 3) (pv 4) (fun _ _ => rfl)) (pe_op op_mod (pe_op op_fdiv (pv 1) pe_int) pe_int) set_list)))) (pss_one (ps_if (pt_cmpR op_eq (pv 2) pe_int (nomark _)) (pss_one (ps_asg (pe_ix (kx_ixl (K := K) rfl) (pe_lst (pa_cons (pe_tup (pa_cons pe_int (pa_cons pe_int (pa_cons pe_int (pa_cons pe_int (pa_cons pe_int (pa_cons pe_int (pa_cons pe_int (pa_cons pe_int pa_nil))))))))) (pa_cons pe_int (pa_cons pe_bl (pa_cons pe_str (pa_cons (pe_lst pa_nil) pa_nil)))))) (pe_op op_mod (pe_op op_fdiv (pv 1) pe_int) pe_int) (fun _ _ => rfl)) (pg_sub (pv 3) (pv 4) set_list))) (pss_one (ps_if (pt_cmpR op_eq (pv 2) pe_int (nomark _)) (pss_one (ps_ret (pe_callTy call_tuple_of (by rfl) T.b_tuple (by decide +kernel) (pa_cons (pv 3) pa_nil)))) (pss_one (ps_if (pt_cmpR op_eq (pv 2) pe_int (nomark _)) (pss_one (ps_ret (pe_ix (kx_ixl (K := K) rfl) (pe_lst (pa_cons pe_non (pa_cons pe_str (pa_cons pe_int (pa_cons pe_dnewK (pa_cons pe_bl pa_nil)))))) (pe_op op_mod (pe_op op_fdiv (pv 1) pe_int) pe_int) (fun _ _ => rfl)))) (pss_one (ps_if (pt_cmpR op_eq (pv 2) pe_int (nomark _)) (pss_one (ps_ret (pe_lst pa_nil))) (pss_one (ps_set (i := 3) sc__law_spoilt.nd rfl (Or.inl rfl) (pe_slice (kx_sl (K := K) rfl) (pe_op op_rep (pv 3) pe_int) po_none (po_some pe_int)))))))))))))))))
  (pss_one (ps_ret (pv 3)))))))), ?_⟩
  have pl := ok.lo
  have ph := ok.hi
  have hi := at12_lt ok c
  walk_at "rd"
  refine ⟨l, as, ps, rfl, hN, by omega, fun D bs H1 e1 fr nl => ?_⟩
  walk_at "rd"
  refine r_lenL (SqL.of nl.top) ?_
  rw [nl.lenV]
  walk_at "rd"
  have hat : c / 10 % (ps.length : Int) = (at12 ps c : Int) := by
    have := Int.emod_nonneg (c / 10) (show (ps.length : Int) ≠ 0 by omega)
    unfold at12; omega
  rw [hat]
  refine r_lcRP (n := 9) rfl (by decide) (fun i y => y = .int (wordN (c / 10) (i : Int))) (fun _ => rfl) (fun D j H5 nD _ hj e5 Qk kk => ?_) (fun D5 ys H5 nD5 e5 h5 hl5 hR => ?_)
  · walk_at "rd"
    exact ⟨_, _, rfl, by omega, by omega, fun z H6 e6 hz z0 z1 => kk _ _ e6 (by rw [hz])⟩
  obtain rfl : ys = (w9 c).map V.int := list_is (by rw [hl5, w9_len]) fun i y hy => by
    refine ⟨_, hR i y hy, ?_⟩
    have : i < 9 := by have := (List.getElem?_eq_some_iff.mp hy).1; omega
    unfold w9
    rw [List.getElem?_map, List.getElem?_range this]; rfl
  have nl5 := nl.ex e5
  have fD : H D = none := fr D (.inl rfl)
  have E5 : Ex H H5 := e1.trans e5
  have seti : ∀ v, ((bs.map ov).set (at12 ps c) v).length = bs.length := fun v => by rw [List.length_set, List.length_map]
  have ixi : ixN (bs.map ov).length ((at12 ps c : Nat) : Int) = some (at12 ps c) := ixN_at (by rw [nl.lenV]; exact hi)
  -- the list with one page changed, at the end
  have fin : ∀ H6 H7 v d, Ex H5 H6 → ExB D H6 H7 → H7 D = some (.lst ((bs.map ov).set (at12 ps c) v)) → Tk H7 v d → spoil ps c = some (.list ((ps.map pgD).set (at12 ps c) d)) → Q (.ref D) H7 := fun H6 H7 v d e6 b7 h7 t7 es => by
    refine h _ _ (Ex.viaB (E5.trans e6) b7 fD) ?_
    rw [es]
    exact Tk.lst h7 (((nl5.ex e6).tkAllB b7).setA t7)
  walk_at "rd"
  refine r_ite (fun q0 => ?_) (fun q0 => ?_)
  · walk_at "rd"
    refine r_slL (SqL.of h5) fun p6 H6 n6 e6 h6 => ?_
    rw [show (7 : Int) = ((7 : Nat) : Int) from rfl, cut_to, ← List.map_take] at h6
    walk_at "rd"
    refine r_setL (nl5.ex e6).top ixi ?_
    walk_at "rd"
    have np : p6 ≠ D := fun z => by rw [z, nl5.top] at n6; cases n6
    refine fin H6 _ (.ref p6) _ e6 ExB.up upd_same (.lst (by rw [upd_ne np]; exact h6) (TkAll.ints _)) ?_
    unfold spoil; rw [if_pos q0]
  walk_at "rd"
  refine r_ite (fun q1 => ?_) (fun q1 => ?_)
  · walk_at "rd"
    refine r_setL nl5.top ixi ?_
    walk_at "rd"
    have np : D5 ≠ D := fun z => by rw [z, nl.top] at nD5; cases nD5
    refine fin H5 _ (.ref D5) _ (Ex.refl _) ExB.up upd_same (.lst (by rw [upd_ne np]; exact h5) (TkAll.ints _)) ?_
    unfold spoil; rw [if_neg q0, if_pos q1]
  walk_at "rd"
  refine r_ite (fun q2 => ?_) (fun q2 => ?_)
  · walk_at "rd"
    refine r_slL (SqL.of h5) fun p6 H6 n6 e6 h6 => ?_
    rw [show (8 : Int) = ((8 : Nat) : Int) from rfl, cut_to, ← List.map_take] at h6
    walk_at "rd"
    refine r_setL (nl5.ex e6).top ixi ?_
    have np : p6 ≠ D := fun z => by rw [z, nl5.top] at n6; cases n6
    have b7 : ExB D H6 (L2.upd H6 D (.lst ((bs.map ov).set (at12 ps c) (.ref p6)))) := ExB.up
    have h7 : (L2.upd H6 D (.lst ((bs.map ov).set (at12 ps c) (.ref p6)))) D = some (.lst ((bs.map ov).set (at12 ps c) (.ref p6))) := upd_same
    generalize (L2.upd H6 D (.lst ((bs.map ov).set (at12 ps c) (.ref p6)))) = H7 at b7 h7 ⊢
    have h67 := b7 _ _ np h6
    walk_at "rd"
    refine r_new fun p8 H8 n8 e8 h8 => ?_
    walk_at "rd"
    refine r_new fun p9 H9 n9 e9 h9 => ?_
    walk_at "rd"
    obtain ⟨v, hv, tv⟩ := TkAll.atP (P := fun Hx => Hx p8 = some (.lst [.int 1])) (i := c / 10 % 7) (fun Hx q => .cons (.int (-1)) (.cons (.int (281474976710656 + c / 560 % 1000000000000000000000000000000)) (.cons (.bl true) (.cons .non (.cons (.str "1") (.cons (.lst q (.cons (.int 1) .nil)) (.cons (.int 281474976710656) .nil))))))) (e9 _ _ h8) (by omega) (by show c / 10 % 7 < 7; omega)
    refine r_ixL (SqL.of h9) hv ?_
    walk_at "rd"
    have E79 : Ex H7 H9 := e8.trans e9
    refine r_ixL (SqL.of (E79 _ _ h7)) (v := .ref p6) (atI_nat (by rw [List.getElem?_set_self (by rw [nl.lenV]; exact hi)])) ?_
    walk_at "rd"
    have l8 : ((w9 c).take 8).length = 8 := by rw [List.length_take, w9_len]; rfl
    refine r_setL (E79 _ _ h67) (j := (c / 70 % 8).toNat) (by rw [show c / 70 % 8 = (((c / 70 % 8).toNat : Nat) : Int) by omega]; exact ixN_at (by rw [List.length_map, l8]; omega)) ?_
    walk_at "rd"
    have np8 : p8 ≠ p6 := fun z => by rw [z, h67] at n8; cases n8
    have b10 : ExB p6 H9 (L2.upd H9 p6 (.lst ((((w9 c).take 8).map V.int).set (c / 70 % 8).toNat v))) := ExB.up
    have h10p : (L2.upd H9 p6 (.lst ((((w9 c).take 8).map V.int).set (c / 70 % 8).toNat v))) p6 = some (.lst ((((w9 c).take 8).map V.int).set (c / 70 % 8).toNat v)) := upd_same
    generalize (L2.upd H9 p6 (.lst ((((w9 c).take 8).map V.int).set (c / 70 % 8).toNat v))) = H10 at b10 h10p ⊢
    have h10 := b10 _ _ (Ne.symm np) (E79 _ _ h7)
    have t10 := tv H10 (b10 _ _ np8 (e9 _ _ h8))
    refine h _ H10 (Ex.viaB ((Ex.viaB (E5.trans e6) b7 fD).trans E79) b10 (fresh_back E5 n6)) ?_
    have es : spoil ps c = some (.list ((ps.map pgD).set (at12 ps c) (.list ((((w9 c).take 8).map PyData.int).set (c / 70 % 8).toNat (oddW c))))) := by
      unfold spoil; rw [if_neg q0, if_neg q1, if_pos q2]
    rw [es]
    refine Tk.lst h10 ((NL.tkAllP (nl5.ex e6) fun i b o qa qb => ?_).setA (.lst h10p ((TkAll.ints _).setA t10)))
    refine b10 _ _ (fun z => ?_) (E79 _ _ (b7 _ _ (fun z => nl.out i (by rw [← z]; exact qa)) qb))
    obtain ⟨ws, _, q⟩ := nl5.sub i b qa
    rw [z, n6] at q; cases q
  walk_at "rd"
  refine r_ite (fun q3 => ?_) (fun q3 => ?_)
  · walk_at "rd"
    refine r_new fun p6 H6 n6 e6 h6 => ?_
    walk_at "rd"
    refine r_new fun p7 H7 n7 e7 h7 => ?_
    walk_at "rd"
    refine r_new fun p8 H8 n8 e8 h8 => ?_
    walk_at "rd"
    have h68 := e8 _ _ (e7 _ _ h6)
    obtain ⟨v, hv, tv⟩ := TkAll.atP (P := fun Hx => Hx p6 = some (.tup [.int 0, .int 0, .int 0, .int 0, .int 0, .int 0, .int 0, .int 0]) ∧ Hx p7 = some (.lst [])) (i := c / 10 % 5) (fun Hx q => .cons (.tup q.1 (.cons (.int 0) (.cons (.int 0) (.cons (.int 0) (.cons (.int 0) (.cons (.int 0) (.cons (.int 0) (.cons (.int 0) (.cons (.int 0) .nil))))))))) (.cons (.int 0) (.cons (.bl true) (.cons (.str "00000000") (.cons (.lst q.2 .nil) .nil))))) ⟨h68, e8 _ _ h7⟩ (by omega) (by show c / 10 % 5 < 5; omega)
    refine r_ixL (SqL.of h8) hv ?_
    walk_at "rd"
    have E58 := e6.trans (e7.trans e8)
    refine r_setL (nl5.ex E58).top ixi ?_
    walk_at "rd"
    have np6 : p6 ≠ D := fun z => by rw [z, nl5.top] at n6; cases n6
    have np7 : p7 ≠ D := fun z => by rw [z, e6 _ _ nl5.top] at n7; cases n7
    refine fin H8 _ v _ E58 ExB.up upd_same (tv _ ⟨by rw [upd_ne np6]; exact h68, by rw [upd_ne np7]; exact e8 _ _ h7⟩) ?_
    unfold spoil; rw [if_neg q0, if_neg q1, if_neg q2, if_pos q3]; rfl
  walk_at "rd"
  refine r_ite (fun q4 => ?_) (fun q4 => ?_)
  · walk_at "rd"
    refine ⟨D, _, rfl, .inl ⟨SqL.of nl5.top, fun p6 n6 => ?_⟩⟩
    have e6 : Ex H5 (L2.upd H5 p6 (.tup (bs.map ov))) := Ex.new n6
    refine h _ _ (E5.trans e6) ?_
    unfold spoil; rw [if_neg q0, if_neg q1, if_neg q2, if_neg q3, if_pos q4]
    exact Tk.tup upd_same (nl5.ex e6).tkAll
  walk_at "rd"
  refine r_ite (fun q5 => ?_) (fun q5 => ?_)
  · walk_at "rd"
    refine r_dnew fun p6 H6 n6 e6 h6 => ?_
    walk_at "rd"
    refine r_new fun p7 H7 n7 e7 h7 => ?_
    walk_at "rd"
    have es : spoil ps c = oddT c := by unfold spoil; rw [if_neg q0, if_neg q1, if_neg q2, if_neg q3, if_neg q4, if_pos q5]
    have fin2 : ∀ v, TkO H7 v (oddT c) → Q v H7 := fun v t => h v H7 (E5.trans (e6.trans e7)) (by rw [es]; exact t)
    rcases c5 c with e | e | e | e | e <;> refine r_ixL (SqL.of h7) (by rw [e]; rfl) ?_ <;> refine fin2 _ ?_ <;> unfold oddT <;> rw [e]
    · exact Tk.non
    · exact Tk.str _
    · exact Tk.int _
    · exact ⟨p6, rfl, e7 _ _ h6⟩
    · exact Tk.bl _
  walk_at "rd"
  refine r_ite (fun q6 => ?_) (fun q6 => ?_)
  · walk_at "rd"
    refine r_new fun p6 H6 n6 e6 h6 => ?_
    refine h _ _ (E5.trans e6) ?_
    unfold spoil; rw [if_neg q0, if_neg q1, if_neg q2, if_neg q3, if_neg q4, if_neg q5, if_pos q6]
    exact Tk.lst h6 .nil
  · walk_at "rd"
    refine r_rep nl5.top (by decide) (by decide) (by rw [nl.lenV]; show ps.length * 25 ≤ 100000; omega) fun p6 H6 n6 e6 h6 => ?_
    walk_at "rd"
    refine r_slL (SqL.of h6) fun p7 H7 n7 e7 h7 => ?_
    rw [show (25 : Int) = ((25 : Nat) : Int) from rfl, cut_to] at h7
    walk_at "rd"
    refine h _ _ (E5.trans (e6.trans e7)) ?_
    unfold spoil; rw [if_neg q0, if_neg q1, if_neg q2, if_neg q3, if_neg q4, if_neg q5, if_neg q6]
    exact Tk.lst h7 (((nl5.ex (e6.trans e7)).tkAll.rep 25).takeN 25)
theorem L_law {fa : Addr} (hfa : mg "law" = some (.ref fa)) (T : Txt K mg A) (F__wall : Df K mg "_wall" s__wall ["k"]) (F_is_whole : Df K mg "is_whole" s_is_whole ["thing"]) (F_is_word : Df K mg "is_word" s_is_word ["thing"]) (F_is_below : Df K mg "is_below" s_is_below ["thing", "count"]) (F_are_words : Df K mg "are_words" s_are_words ["thing"]) (F_is_image : Df K mg "is_image" s_is_image ["thing"]) (F__law_cell_at : Df K mg "_law_cell_at" s__law_cell_at ["_law_script", "_law_k"]) (F__law_whole : Df K mg "_law_whole" s__law_whole ["_law_found"]) (F__law_mixed : Df K mg "_law_mixed" s__law_mixed ["_law_cell", "_law_k"]) (F__law_word : Df K mg "_law_word" s__law_word ["_law_cell", "_law_k"]) (F__law_copy : Df K mg "_law_copy" s__law_copy ["_law_pages"]) (F__law_same : Df K mg "_law_same" s__law_same ["_law_found", "_law_due"]) (F__law_kinds : Df K mg "_law_kinds" s__law_kinds ["_law_e"]) (F__law_refused : Df K mg "_law_refused" s__law_refused ["_law_thing"]) (F__law_spoilt : Df K mg "_law_spoilt" s__law_spoilt ["_law_pages", "_law_cell"]) (F_law : Df K mg "law" s_law ["_law_script"]) (F_Memory___init__ : Mf K A.C_Memory "__init__" "Memory.__init__" s_Memory___init__ ["self", "pages"]) (F_Memory_size : Mf K A.C_Memory "size" "Memory.size" s_Memory_size ["self"]) (F_Memory_has : Mf K A.C_Memory "has" "Memory.has" s_Memory_has ["self", "page"]) (F_Memory_fetch : Mf K A.C_Memory "fetch" "Memory.fetch" s_Memory_fetch ["self", "page", "cell"]) (F_Memory_deposit : Mf K A.C_Memory "deposit" "Memory.deposit" s_Memory_deposit ["self", "page", "cell", "word"]) (F_Memory_give : Mf K A.C_Memory "give" "Memory.give" s_Memory_give ["self", "page"]) (F_Memory_lay : Mf K A.C_Memory "lay" "Memory.lay" s_Memory_lay ["self", "page", "words"]) (F_Memory_told : Mf K A.C_Memory "told" "Memory.told" s_Memory_told ["self"]) (F_Memory_look_for : Mf K A.C_Memory "look_for" "Store.look_for" s_Store_look_for ["self", "page", "cell"]) (F_Memory_read : Mf K A.C_Memory "read" "Store.read" s_Store_read ["self", "page", "cell"]) (F_Memory_write : Mf K A.C_Memory "write" "Store.write" s_Store_write ["self", "page", "cell", "word"]) :
    ∃ fd : FuncData, (∀ (s : Shared) (u : Value), BindsTo s fd ⟨[u], []⟩ [("_law_script", u)]) ∧ ∀ base : Heap, K.In base → base.Ns mainGlobals mg → FnOk P w K mg base (L2.CX P w) 8 fa fd ["_law_script"] (sp_law K) := by
  refine F_law.law hfa sc_law (fun vs H Q E h => ?_) (fun base _ _ cdv f Ar outer s H vs Q E hr h => ?_)
  · obtain ⟨a, ns, rfl, _⟩ := h; rfl
  obtain ⟨a, ns, rfl, hS, hl, h⟩ := h
  have D_is_whole : Dn P w K mg base 1 "is_whole" (sp_is_whole K A) := ok_is_whole F_is_whole T
  have M_Memory_size : Mn P w K mg base 1 A.C_Memory "size" (sp_Memory_size K A) := ok_Memory_size F_Memory_size T
  have M_Memory_told : Mn P w K mg base 1 A.C_Memory "told" (sp_Memory_told K A) := ok_Memory_told F_Memory_told T
  have D__law_cell_at : Dn P w K mg base 1 "_law_cell_at" (sp__law_cell_at K A) := ok__law_cell_at F__law_cell_at T
  have D__law_copy : Dn P w K mg base 1 "_law_copy" (sp__law_copy K A) := ok__law_copy F__law_copy T
  have D__law_kinds : En P w K mg base 1 "_law_kinds" (sp__law_kinds K A) := ok__law_kinds F__law_kinds T
  have D__law_whole : Dn P w K mg base 1 "_law_whole" (sp__law_whole K A) := ok__law_whole F__law_whole T
  have D__law_mixed : Dn P w K mg base 1 "_law_mixed" (sp__law_mixed K A) := ok__law_mixed F__law_mixed T
  have D_is_word : Dn P w K mg base 2 "is_word" (sp_is_word K A) := ok_is_word F_is_word T D_is_whole
  have D__law_same : Dn P w K mg base 2 "_law_same" (sp__law_same K A) := ok__law_same F__law_same T D__law_whole
  have D__law_word : Dn P w K mg base 2 "_law_word" (sp__law_word K A) := ok__law_word F__law_word T D__law_mixed
  have D_are_words : Dn P w K mg base 3 "are_words" (sp_are_words K A) := ok_are_words F_are_words T D_is_word
  have D__law_spoilt : Dn P w K mg base 3 "_law_spoilt" (sp__law_spoilt K A) := ok__law_spoilt F__law_spoilt T D__law_copy D__law_word
  have D_is_image : Dn P w K mg base 4 "is_image" (sp_is_image K A) := ok_is_image F_is_image T D_are_words
  have K_Memory : Kn P w K mg base 5 "Memory" A.C_Memory (sp_Memory___init__ K A) := ok_Memory___init__ F_Memory___init__ T D_is_image
  have D__law_refused : Dn P w K mg base 7 "_law_refused" (sp__law_refused K A) := ok__law_refused F__law_refused T K_Memory D__law_kinds
  refine ⟨_, (pss_cons (ps_set (i := 1) sc_law.nd rfl (Or.inl rfl) (pe_lst pa_nil))
  (pss_cons (ps_for (passes_of rfl) rfl (kx_il (K := K) rfl (pe_slice (kx_sl (K := K) rfl) (pv 0) (po_some pe_int) (po_some pe_int))) (pg_name (i := 2) sc_law.nd rfl (Or.inr rfl))
  (pss_one (ps_if (pt_cmpR op_eq (pe_op op_mod (pv 2) pe_int) pe_int (nomark _)) (pss_one (ps_expr (kx_tbm (K := K) rfl (pe_bm PySem.F.plainAttrs_list PySem.F.slot_list_append PySem.F.type_list_append mt_append (pv 1) (pa_cons pe_non pa_nil))))) (pss_one (ps_expr (kx_tbm (K := K) rfl (pe_bm PySem.F.plainAttrs_list PySem.F.slot_list_append PySem.F.type_list_append mt_append (pv 1) (pa_cons (pe_lc (own := [("_law_k", 8)]) (g := gName 8) (tt := tYes) rfl sc_law.nd (pi_range1 (by rfl) T.b_range (pa_cons pe_int pa_nil)) (blkOk_by (own := [("_law_k", 8)]) (N := ["_law_script", "_law_pages", "_law_cell", "_law_bad", "_law_handed", "_law_store", "_law_found", "_law_words", "_law_k"]) (sc := defScope s_law) (by decide +kernel)) (fun _ _ _ _ _ => (pg_name (i := 8) sc_law.nd rfl (Or.inl rfl))) (fun _ _ _ _ _ => pts_nil) (fun _ _ _ _ _ => (pe_d D__law_word hr (by decide) takes0 (pa_cons (pe_op op_fdiv (pv 2) pe_int) (pa_cons (pv 8) pa_nil))))) pa_nil))))))))
  (pss_cut (ps_if (pt_cmpR (kx_eqD (K := K) rfl hr.units) (pv 1) (pe_lst pa_nil) (nomark _)) (pss_one (ps_set (i := 1) sc_law.nd rfl (Or.inl rfl) (pe_lst (pa_cons (pe_lst (pa_cons pe_int (pa_cons pe_int (pa_cons pe_int (pa_cons pe_int (pa_cons pe_int (pa_cons pe_int (pa_cons pe_int (pa_cons (pe_op op_sub (pe_op op_pow pe_int pe_int) pe_int) pa_nil))))))))) pa_nil)))) pss_nil)
  (pss_cons (ps_set (i := 3) sc_law.nd rfl (Or.inl rfl) (pe_d D__law_spoilt hr (by decide) takes0 (pa_cons (pv 1) (pa_cons (pe_d D__law_cell_at hr (by decide) takes0 (pa_cons (pv 0) (pa_cons pe_int pa_nil))) pa_nil))))
  (pss_cons (ps_if (PW.pt (pw_or (pt_not (pt_val (pe_d D__law_refused hr (by decide) takes0 (pa_cons (pv 3) pa_nil)))) (pw_or1 (pt_cmpR (kx_neX (K := K) rfl hr.units) (pv 3) (pe_d D__law_spoilt hr (by decide) takes0 (pa_cons (pv 1) (pa_cons (pe_d D__law_cell_at hr (by decide) takes0 (pa_cons (pv 0) (pa_cons pe_int pa_nil))) pa_nil))) (nomark _))))) (pss_one (ps_ret pe_bl)) pss_nil)
  (pss_cons (ps_set (i := 4) sc_law.nd rfl (Or.inl rfl) (pe_d D__law_copy hr (by decide) takes0 (pa_cons (pv 1) pa_nil)))
  (pss_cons (ps_set (i := 5) sc_law.nd rfl (Or.inl rfl) (pe_k K_Memory hr (by decide) (takes_of rfl rfl rfl rfl) (pa_cons (pv 4) pa_nil)))
  (pss_cons (ps_set (i := 6) sc_law.nd rfl (Or.inl rfl) (pe_m0 (pv 5) M_Memory_told hr (by decide) takes0))
  (pss_cons (ps_if (PW.pt (pw_or (pt_not (pt_val (pe_d D__law_same hr (by decide) takes0 (pa_cons (pv 4) (pa_cons (pv 1) pa_nil))))) (pw_or1 (pt_not (pt_val (pe_d D__law_same hr (by decide) takes0 (pa_cons (pv 6) (pa_cons (pv 1) pa_nil)))))))) (pss_one (ps_ret pe_bl)) pss_nil)
  (pss_cons (ps_for (passes_of rfl) rfl (kx_il (K := K) rfl (pe_op op_cat (pv 6) (pv 4))) (pg_name (i := 7) sc_law.nd rfl (Or.inl rfl))
  (pss_one (ps_if (pt_cmpR op_notN1 (pv 7) pe_non (nomark _)) (pss_cons (ps_expr (kx_tbm0 (K := K) rfl (pe_bm0 PySem.F.plainAttrs_list PySem.F.slot_list_reverse PySem.F.type_list_reverse mt_reverse (pv 7))))
  (pss_one (ps_expr (kx_tbm (K := K) rfl (pe_bm PySem.F.plainAttrs_list PySem.F.slot_list_append PySem.F.type_list_append mt_append (pv 7) (pa_cons pe_int pa_nil)))))) pss_nil)))
  (pss_cons (ps_expr (kx_tbm (K := K) rfl (pe_bm PySem.F.plainAttrs_list PySem.F.slot_list_append PySem.F.type_list_append mt_append (pv 6) (pa_cons pe_non pa_nil))))
  (pss_cons (ps_expr (kx_tbm0 (K := K) rfl (pe_bm0 PySem.F.plainAttrs_list PySem.F.slot_list_clear PySem.F.type_list_clear mt_clear (pv 4))))
  (pss_cons (ps_if (PW.pt (pw_or (pt_not (pt_val (pe_d D__law_whole hr (by decide) takes0 (pa_cons (pe_m0 (pv 5) M_Memory_size hr (by decide) takes0) pa_nil)))) (pw_or1 (pt_cmpR op_ne (pe_m0 (pv 5) M_Memory_size hr (by decide) takes0) (pe_callB (kx_len (K := K) rfl) (by rfl) T.b_len (by decide +kernel) (pa_cons (pv 1) pa_nil)) (nomark _))))) (pss_one (ps_ret pe_bl)) pss_nil)
  (pss_one (ps_ret (pe_d D__law_same hr (by decide) takes0 (pa_cons (pe_m0 (pv 5) M_Memory_told hr (by decide) takes0) (pa_cons (pv 1) pa_nil)))))))))))))))))), ?_⟩
  walk_at "rd"
  refine r_new fun l H1 n1 e1 h1 => ?_
  walk_at "rd"
  refine r_slL (ex_l e1 hS) fun p2 H2 n2 e2 h2 => ?_
  have lz : (cutV (ns.map V.int) (some 1) (some 25)).length ≤ 24 := cut_len (i := 1) (j := 25)
  obtain ⟨ms, hms, _, _⟩ := cut_int ns (some 1) (some 25)
  rw [hms] at h2 lz
  rw [List.length_map] at lz
  have np2 : p2 ≠ l := fun z => by rw [z, h1] at n2; cases n2
  refine r_iL (SqL.of h2) (fun k σ H' => ∃ (as : List (Option Addr)) (ps : Pg) (x2 x8 : Option V), σ = [some (.ref a), some (.ref l), x2, none, none, none, none, none, x8] ∧ ExB l H2 H' ∧ NL H' l as ps ∧ (∀ b, foot l as b → H b = none) ∧ ps.length = k ∧ (∀ ws, some ws ∈ ps → ws.length = 8 ∧ ∀ w ∈ ws, 0 ≤ w ∧ w < 281474976710656))
    ⟨[], [], none, none, rfl, fun b o _ q => q, NL.nil (e2 _ _ h1), fun b fb => (by rcases fb with rfl | ⟨i, fb⟩; exact n1; simp at fb), rfl, fun ws hw => (by cases hw)⟩ ?_ ?_ ?_
  · rintro k σ H' hk ⟨as, ps, x2, x8, rfl, es, _⟩
    exact SqL.of (es _ _ np2 h2)
  · rintro k x σ H' hx ⟨as, ps, x2, x8, rfl, es, nl, fr, lk, okw⟩
    obtain ⟨c, hc, rfl⟩ := int_at hx
    have hk : k < 24 := by have := (List.getElem?_eq_some_iff.mp hc).1; omega
    have len : (as.map ov).length < 100000 := by rw [List.length_map, nl.len]; omega
    have E' : Ex H H' := Ex.viaB (e1.trans e2) es n1
    walk_at "rd"
    refine r_ite (fun cr => ?_) (fun cr => ?_)
    · walk_at "rd"
      refine r_tyL nl.top ?_
      walk_at "rd"
      refine r_app nl.top len fun H7 b7 h7 => ?_
      walk_at "rd"
      refine ⟨as ++ [none], ps ++ [none], _, _, rfl, fun b o nb q => b7 _ _ nb (es b o nb q), nl.push (.inl ⟨rfl, rfl⟩) b7 h7, fun b fb => ?_, by rw [List.length_append, lk]; rfl, fun ws hw => ?_⟩
      · rcases foot_push fb with z | z
        · exact fr b z
        · cases z
      · rcases List.mem_append.mp hw with z | z
        · exact okw ws z
        · cases List.mem_singleton.mp z
    · walk_at "rd"
      refine r_tyL (nl.ex (Ex.refl _)).top ?_
      walk_at "rd"
      refine r_lcRP (n := 8) rfl (by decide) (fun _ y => ∃ z, y = .int z ∧ 0 ≤ z ∧ z < 281474976710656) (fun _ => rfl) (fun D j H5 nD _ hj e5 Qk kk => ?_) (fun D ys H5 nD e5 h5 hl5 hR => ?_)
      · walk_at "rd"
        exact ⟨_, _, rfl, by omega, by omega, fun z H6 e6 _ z0 z1 => kk _ _ e6 ⟨z, rfl, z0, z1⟩⟩
      obtain ⟨ws, rfl, hw⟩ := all_ints hR
      rw [List.length_map] at hl5
      walk_at "rd"
      have nf : ¬ foot l as D := fun z => by obtain ⟨o, q⟩ := nl.foot_there z; rw [nD] at q; cases q
      refine r_app ((nl.ex e5).top) len fun H7 b7 h7 => ?_
      walk_at "rd"
      refine ⟨as ++ [some D], ps ++ [some ws], _, _, rfl, fun b o nb q => b7 _ _ nb (e5 _ _ (es b o nb q)), (nl.ex e5).push (.inr ⟨D, ws, rfl, rfl, h5, nf⟩) b7 h7, fun b fb => ?_, by rw [List.length_append, lk]; rfl, fun us hu => ?_⟩
      · rcases foot_push fb with z | z
        · exact fr b z
        · cases z; exact fresh_back E' nD
      · rcases List.mem_append.mp hu with z | z
        · exact okw us z
        · cases List.mem_singleton.mp z
          refine ⟨hl5, fun w hwm => ?_⟩
          obtain ⟨i, hi, e⟩ := List.getElem_of_mem hwm
          exact hw i w (by rw [List.getElem?_eq_getElem hi, e])
  rintro σ H3 ⟨as, ps, x2, x8, rfl, es, nl, fr, lk, okw⟩
  have E3 : Ex H H3 := Ex.viaB (e1.trans e2) es n1
  rw [List.length_map] at lk
  refine r_cut (fun σ' H' => ∃ (l : Addr) (as : List (Option Addr)) (ps : Pg), σ' = [some (.ref a), some (.ref l), x2, none, none, none, none, none, x8] ∧ Ex H H' ∧ NL H' l as ps ∧ PgOk ps) ?_ ?_
  · walk_at "rd"
    refine r_new fun p4 H4 n4 e4 h4 => ?_
    refine r_eqT (d := .list (ps.map pgD)) (e := .list []) (nl.ex e4).tk (.lst h4 .nil) (.lst (n := 2) fun d hd => ShD.pgs (n := 1) hd) (.lst (n := 0) fun d hd => by cases hd) (by decide) (by decide) ?_
    cases ps with
    | cons p ps =>
      refine r_bl (r_fb rfl ?_)
      walk_at "rd"
      refine ⟨l, as, p :: ps, rfl, E3.trans e4, nl.ex e4, ⟨Nat.succ_le_succ (Nat.zero_le _), by omega, okw⟩⟩
    | nil =>
      refine r_bl (r_tb rfl ?_)
      walk_at "rd"
      refine r_new fun p5 H5 n5 e5 h5 => ?_
      walk_at "rd"
      refine r_new fun p6 H6 n6 e6 h6 => ?_
      walk_at "rd"
      have ne : p5 ≠ p6 := fun z => by rw [← z, h5] at n6; cases n6
      refine ⟨p6, [some p5], [some [0, 1, 2, 3, 4, 5, 6, 281474976710655]], rfl, E3.trans (e4.trans (e5.trans e6)), ?_, ⟨by decide, by decide, fun ws hw => ?_⟩⟩
      · refine ⟨h6, rfl, fun i q => ?_, fun i b q => ?_, fun i j b q r => ?_, fun i q => ?_⟩
        · cases i with
          | zero => cases q
          | succ i => simp at q
        · cases i with
          | zero => cases q; exact ⟨_, rfl, e6 _ _ h5⟩
          | succ i => simp at q
        · cases i with
          | zero =>
            cases j with
            | zero => rfl
            | succ j => simp at r
          | succ i => simp at q
        · cases i with
          | zero => cases q; exact ne rfl
          | succ i => simp at q
      · cases List.mem_singleton.mp hw
        refine ⟨rfl, fun w hwm => ?_⟩
        simp only [List.mem_cons, List.not_mem_nil, or_false] at hwm
        rcases hwm with rfl | rfl | rfl | rfl | rfl | rfl | rfl | rfl <;> constructor <;> decide
  clear nl es okw lk fr
  rintro σ' H4 ⟨l, as, ps, rfl, E4, nl, ok⟩
  have pl := ok.lo
  have ph := ok.hi
  walk_at "rd"
  refine ⟨a, ns, 0, rfl, ex_l E4 hS, fun z0 hz0 => ?_⟩
  walk_at "rd"
  refine ⟨l, as, ps, z0, rfl, nl, ok, fun v H5 e5 tv => ?_⟩
  walk_at "rd"
  refine ⟨v, _, rfl, tv, spoil_bad ok z0, fun H6 e6 => ?_⟩
  walk_at "rd"
  refine ⟨a, ns, 0, rfl, ex_l (E4.trans (e5.trans e6)) hS, fun z1 hz1 => ?_⟩
  obtain rfl : z1 = z0 := hz1.trans hz0.symm
  walk_at "rd"
  refine ⟨l, as, ps, z1, rfl, nl.ex (e5.trans e6), ok, fun v2 H7 e7 tv2 => ?_⟩
  refine r_neXS (tv.ex (e6.trans e7)) tv2 (spoil_bad ok z1) ?_
  walk_at "rd"
  have E7 : Ex H H7 := E4.trans (e5.trans (e6.trans e7))
  replace nl := nl.ex (e5.trans (e6.trans e7))
  refine ⟨l, as, ps, rfl, nl, by omega, fun D cs H8 e8 fr8 nl8 => ?_⟩
  walk_at "rd"
  intro p dx np ndx nxp
  have e9 : Ex H8 (L2.upd (L2.upd H8 dx (.own p)) p (.ins A.C_Memory dx [])) := (Ex.new ndx).trans (Ex.new (by rw [upd_ne (Ne.symm nxp)]; exact np))
  have hp9 : (L2.upd (L2.upd H8 dx (.own p)) p (.ins A.C_Memory dx [])) p = some (.ins A.C_Memory dx []) := upd_same
  generalize (L2.upd (L2.upd H8 dx (.own p)) p (.ins A.C_Memory dx [])) = H9 at e9 hp9 ⊢
  obtain ⟨im1, im2, im3⟩ := (nl8.ex e9).image ok
  refine ⟨p, dx, .ref D, rfl, hp9, AnyV.lst (nl8.ex e9).top, im3, fun c => (by rw [im1] at c; cases c), fun _ pl2 am ps2 H10 him e10 fr10 hM10 => ?_⟩
  rw [im2] at him; cases him
  obtain ⟨dx1, hp1⟩ := hM10.ins
  refine ⟨rfl, ?_⟩
  walk_at "rd"
  have nl8' : NL H10 D cs ps := (nl8.ex e9).keep e10 fun b z c => by
    obtain ⟨o, q⟩ := nl8.foot_there z; rw [c, np] at q; cases q
  have nl' : NL H10 l as ps := ((nl.ex e8).ex e9).keep e10 fun b z c => by
    obtain ⟨o, q⟩ := (nl.ex e8).foot_there z; rw [c, np] at q; cases q
  refine ⟨p, pl2, am, ps, rfl, hM10, fun F fs H11 e11 fr11 nl11 => ?_⟩
  walk_at "rd"
  refine ⟨D, l, cs, as, ps, rfl, nl8'.ex e11, nl'.ex e11, ok, fun H12 e12 => ?_⟩
  walk_at "rd"
  refine ⟨F, l, fs, as, ps, rfl, nl11.ex e12, nl'.ex (e11.trans e12), ok, fun H13 e13 => ?_⟩
  walk_at "rd"
  have nlF := nl11.ex (e12.trans e13)
  have nlD := nl8'.ex (e11.trans (e12.trans e13))
  have nlL := nl'.ex (e11.trans (e12.trans e13))
  have hM13 := hM10.ex (e11.trans (e12.trans e13))
  refine r_cat nlF.top nlD.top (by rw [nlF.lenV, nlD.lenV]; omega) fun p14 H14 n14 e14 h14 => ?_
  -- the lists that change
  have dF : ∀ b, foot F fs b → (H10 b = none) := fr11
  have dD : ∀ b, foot D cs b → (H7 b = none) := fr8
  have apart : ∀ b, (foot F fs b ∨ foot D cs b) → ¬ foot l as b ∧ ¬ mfoot p pl2 am b := fun b q => by
    refine ⟨fun z => ?_, fun z => ?_⟩
    · rcases q with q | q
      · obtain ⟨o, r⟩ := nl'.foot_there z; rw [fr11 b q] at r; cases r
      · obtain ⟨o, r⟩ := nl.foot_there z; rw [fr8 b q] at r; cases r
    · rcases q with q | q
      · rcases z with rfl | z
        · rw [fr11 _ q] at hp1; cases hp1
        · obtain ⟨o, r⟩ := hM10.nl.foot_there z; rw [fr11 b q] at r; cases r
      · rcases z with rfl | z
        · obtain ⟨o, r⟩ := nl8.foot_there q; rw [np] at r; cases r
        · obtain ⟨o, r⟩ := (nl8.ex e9).foot_there q; rw [fr10 b z] at r; cases r
  have FD : ¬ foot D cs F := fun z => by
    obtain ⟨o, r⟩ := nl8'.foot_there z; rw [fr11 F (.inl rfl)] at r; cases r
  have n14F : ¬ (foot F fs p14 ∨ foot D cs p14) := fun z => by
    rcases z with z | z
    · obtain ⟨o, r⟩ := nlF.foot_there z; rw [n14] at r; cases r
    · obtain ⟨o, r⟩ := nlD.foot_there z; rw [n14] at r; cases r
  refine r_iL (SqL.of h14) (fun k σ H' => ∃ (x2 x7 x8 : Option V), σ = [some (.ref a), some (.ref l), x2, some v, some (.ref D), some (.ref p), some (.ref F), x7, x8] ∧ ExF (fun b => foot F fs b ∨ foot D cs b) H14 H' ∧ H' F = some (.lst (fs.map ov)) ∧ H' D = some (.lst (cs.map ov)) ∧ ∀ b, ((∃ j : Nat, fs[j]? = some (some b)) ∨ ∃ j : Nat, cs[j]? = some (some b)) → ∃ xs, H' b = some (.lst xs) ∧ xs.length ≤ 8 + k)
    ⟨_, _, _, rfl, ExF.refl, e14 _ _ nlF.top, e14 _ _ nlD.top, fun b q => ?_⟩ ?_ ?_ ?_
  · rcases q with ⟨j, q⟩ | ⟨j, q⟩
    · obtain ⟨ws, r1, r2⟩ := nlF.sub j b q
      exact ⟨_, e14 _ _ r2, by rw [List.length_map, (ok.all ws (List.mem_of_getElem? r1)).1]; exact Nat.le_refl _⟩
    · obtain ⟨ws, r1, r2⟩ := nlD.sub j b q
      exact ⟨_, e14 _ _ r2, by rw [List.length_map, (ok.all ws (List.mem_of_getElem? r1)).1]; exact Nat.le_refl _⟩
  · rintro k σ H' hk ⟨x2, x7, x8, rfl, f, _⟩
    exact SqL.of (f _ _ n14F h14)
  · rintro k x σ H' hx ⟨x2, x7, x8, rfl, f, hF, hD, hb⟩
    have hk : k < 100 := by
      have := (List.getElem?_eq_some_iff.mp hx).1
      rw [List.length_append, nlF.lenV, nlD.lenV] at this; omega
    rcases ov_at hx with rfl | ⟨b, rfl, q⟩
    · walk_at "rd"
      exact ⟨_, _, _, rfl, f, hF, hD, fun b q => let ⟨xs, r1, r2⟩ := hb b q; ⟨xs, r1, by omega⟩⟩
    · obtain ⟨xs, r1, r2⟩ := hb b q
      walk_at "rd"
      refine r_rev r1 fun H15 b15 h15 => ?_
      walk_at "rd"
      refine r_app h15 (by rw [List.length_reverse]; omega) fun H16 b16 h16 => ?_
      walk_at "rd"
      have g : foot F fs b ∨ foot D cs b := q.imp .inr .inr
      have nbF : F ≠ b := fun z => by
        rcases q with ⟨j, q⟩ | ⟨j, q⟩
        · exact nlF.out j (by rw [z]; exact q)
        · exact FD (by rw [z]; exact .inr ⟨j, q⟩)
      have nbD : D ≠ b := fun z => by
        rcases q with ⟨j, q⟩ | ⟨j, q⟩
        · obtain ⟨o, r⟩ := nl8'.foot_there (.inl z.symm : foot D cs b); rw [fr11 b (.inr ⟨j, q⟩)] at r; cases r
        · exact nlD.out j (by rw [z]; exact q)
      refine ⟨_, _, _, rfl, f.trans ((b15.f g).trans (b16.f g)), b16 _ _ nbF (b15 _ _ nbF hF), b16 _ _ nbD (b15 _ _ nbD hD), fun b' q' => ?_⟩
      by_cases e : b' = b
      · subst e
        exact ⟨_, h16, by rw [List.length_append, List.length_reverse]; show _ + 1 ≤ _; omega⟩
      · obtain ⟨ys, s1, s2⟩ := hb b' q'
        exact ⟨ys, b16 _ _ e (b15 _ _ e s1), by omega⟩
  rintro σ H' ⟨x2, x7, x8, rfl, f, hF, hD, hb⟩
  walk_at "rd"
  refine r_app hF (by rw [nlF.lenV]; omega) fun H17 b17 h17 => ?_
  walk_at "rd"
  have nDF : D ≠ F := fun z => FD (by rw [← z]; exact .inl rfl)
  have hD17 := b17 _ _ nDF hD
  refine r_tyL hD17 ?_
  refine r_clr hD17 fun H18 b18 h18 => ?_
  walk_at "rd"
  have f18 : ExF (fun b => foot F fs b ∨ foot D cs b) H14 H18 := f.trans ((b17.f (.inl (.inl rfl))).trans (b18.f (.inr (.inl rfl))))
  have nl18 : NL H18 l as ps := (nlL.ex e14).keep f18 fun b z q => (apart b q).1 z
  have hM18 : MemAt A H18 p pl2 am ps := (hM13.ex e14).keep f18 fun b z q => (apart b q).2 z
  obtain ⟨dx8, hp18⟩ := hM18.ins
  walk_at "rd"
  refine ⟨p, pl2, am, ps, rfl, hM18, ?_⟩
  walk_at "rd"
  refine ⟨_, rfl, .int, ?_⟩
  walk_at "rd"
  refine ⟨p, pl2, am, ps, rfl, hM18, ?_⟩
  walk_at "rd"
  refine r_lenL (SqL.of nl18.top) ?_
  rw [nl18.lenV]
  walk_at "rd"
  refine ⟨p, pl2, am, ps, rfl, hM18, fun G gs H19 e19 fr19 nl19 => ?_⟩
  walk_at "rd"
  refine ⟨G, l, gs, as, ps, rfl, nl19, nl18.ex e19, ok, fun H20 e20 => ?_⟩
  exact h _
end
theorem all_mk {P : Program} {w : World} {K : PySem.W.Frag} {h : Heap} {mg : Str → Option Value} {fa : Addr} {C_HouseError C_NoWord C_NoRow C_NoPlace C_NoPage C_NoImage C_NoFrame C_NoText C_Fault C_Store C_Memory : Addr} (X : K.In h) (G : h.Ns mainGlobals mg) (hfa : mg "law" = some (.ref fa))
    (b_ValueError : PySem.W.nsIn K mainGlobals "ValueError" = some none)
    (b_all : PySem.W.nsIn K mainGlobals "all" = some none)
    (b_bool : PySem.W.nsIn K mainGlobals "bool" = some none)
    (b_int : PySem.W.nsIn K mainGlobals "int" = some none)
    (b_isinstance : PySem.W.nsIn K mainGlobals "isinstance" = some none)
    (b_len : PySem.W.nsIn K mainGlobals "len" = some none)
    (b_list : PySem.W.nsIn K mainGlobals "list" = some none)
    (b_range : PySem.W.nsIn K mainGlobals "range" = some none)
    (b_tuple : PySem.W.nsIn K mainGlobals "tuple" = some none)
    {t1 : Tok}
    (c_CELLS : PySem.W.nsIn K mainGlobals "CELLS" = some (some (.int 8 t1)))
    {t2 : Tok}
    (c_MOST_PAGES : PySem.W.nsIn K mainGlobals "MOST_PAGES" = some (some (.int 24 t2)))
    (k_HouseError : PySem.W.nsIn K mainGlobals "HouseError" = some (some (.ref C_HouseError)))
    (hb_HouseError : PySem.W.subIn K (.ref C_HouseError) (.type "BaseException") = some true)
    (hd_HouseError : PySem.W.hasDictIn K C_HouseError = true)
    (ht_HouseError : PySem.W.typeIn K (.ref C_HouseError) = some (.type "type"))
    (k_NoWord : PySem.W.nsIn K mainGlobals "NoWord" = some (some (.ref C_NoWord)))
    (k_NoRow : PySem.W.nsIn K mainGlobals "NoRow" = some (some (.ref C_NoRow)))
    (k_NoPlace : PySem.W.nsIn K mainGlobals "NoPlace" = some (some (.ref C_NoPlace)))
    (k_NoPage : PySem.W.nsIn K mainGlobals "NoPage" = some (some (.ref C_NoPage)))
    (k_NoImage : PySem.W.nsIn K mainGlobals "NoImage" = some (some (.ref C_NoImage)))
    (xq_NoImage : PySem.W.excIn K C_NoImage [.type "ValueError", .type "Exception", .type "BaseException", .type "object"] "ValueError.__new__" = true)
    (xk_NoImage : PySem.W.keepIn K (.ref C_NoImage) = true)
    (xb_NoImage : PySem.W.subIn K (.ref C_NoImage) (.type "BaseException") = some true)
    (xt_NoImage : PySem.W.typeIn K (.ref C_NoImage) = some (.type "type"))
    (x1_NoImage : PySem.W.findIn K (.ref C_NoImage) "__getattribute__" = some (some (.builtin "BaseException.__getattribute__")))
    (x2_NoImage : PySem.W.findIn K (.ref C_NoImage) "__getattr__" = some none)
    (x3_NoImage : PySem.W.hasDictIn K C_NoImage = true)
    (x4_NoImage : PySem.W.findIn K (.ref C_NoImage) "__class__" = some (some (.builtin "object.__class__")))
    (x5_NoImage : PySem.W.specialIn K (.builtin "object.__class__") "__get__" = some (some (.builtin "getset_descriptor.__get__")))
    (x6_NoImage : PySem.W.takesIn K (.builtin "object.__class__") = some true)
    (x7_NoImage : PySem.W.mroIn K C_NoImage (.type "object") = some true)
    (x8_NoImage : PySem.W.subIn K (.ref C_NoImage) (.ref C_HouseError) = some true)
    (k_NoFrame : PySem.W.nsIn K mainGlobals "NoFrame" = some (some (.ref C_NoFrame)))
    (k_NoText : PySem.W.nsIn K mainGlobals "NoText" = some (some (.ref C_NoText)))
    (k_Fault : PySem.W.nsIn K mainGlobals "Fault" = some (some (.ref C_Fault)))
    (k_Store : PySem.W.nsIn K mainGlobals "Store" = some (some (.ref C_Store)))
    (k_Memory : PySem.W.nsIn K mainGlobals "Memory" = some (some (.ref C_Memory)))
    (pg_Memory : PySem.W.plainGet K C_Memory Str.empty = true)
    (ph_Memory : PySem.W.hasDictIn K C_Memory = true)
    (po_Memory : PySem.W.plainOver K C_Memory = true)
    (ps_Memory : PySem.W.findIn K (.ref C_Memory) "__setattr__" = some (some (.builtin "object.__setattr__")))
    (pm_Memory : PySem.W.makesIn K C_Memory = true)
    (pk_Memory : PySem.W.keepIn K (.ref C_Memory) = true)
    (no_Memory_held : PySem.W.findIn K (.ref C_Memory) "held" = some none)
    (kt_NoImage_NoImage : PySem.W.kitOne K (.ref C_NoImage) (.ref C_NoImage) = some true)
    (kt_NoImage_ValueError : PySem.W.kitOne K (.ref C_NoImage) (.type "ValueError") = some true)
    (kt_NoImage_NoPage : PySem.W.kitOne K (.ref C_NoImage) (.ref C_NoPage) = some false)
    (kt_NoImage_NoPlace : PySem.W.kitOne K (.ref C_NoImage) (.ref C_NoPlace) = some false)
    (kt_NoImage_NoWord : PySem.W.kitOne K (.ref C_NoImage) (.ref C_NoWord) = some false)
    (kt_NoImage_NoRow : PySem.W.kitOne K (.ref C_NoImage) (.ref C_NoRow) = some false)
    (kt_NoImage_NoFrame : PySem.W.kitOne K (.ref C_NoImage) (.ref C_NoFrame) = some false)
    (kt_NoImage_NoText : PySem.W.kitOne K (.ref C_NoImage) (.ref C_NoText) = some false)
    (kt_NoImage_Fault : PySem.W.kitOne K (.ref C_NoImage) (.ref C_Fault) = some false)
    {f__wall : Addr} {od__wall an__wall : Option Addr} {sl__wall : Array (Option Value)} {oc__wall kV__wall dc__wall pm__wall cd__wall ct__wall : Value}
    (a__wall : PySem.W.nsIn K mainGlobals "_wall" = some (some (.ref f__wall)))
    (l__wall : K.lookup f__wall = some ⟨oc__wall, od__wall, .func (PySem.W.fnOf "_wall" "_wall" (defArgs s__wall) (defBody s__wall) (defScope s__wall) .none kV__wall dc__wall pm__wall an__wall cd__wall ct__wall), sl__wall⟩)
    (d__wall : PySem.W.codeIn K cd__wall "_wall" = true)
    (e__wall : PySem.W.keepIn K (.ref f__wall) = true)
    {f_is_whole : Addr} {od_is_whole an_is_whole : Option Addr} {sl_is_whole : Array (Option Value)} {oc_is_whole kV_is_whole dc_is_whole pm_is_whole cd_is_whole ct_is_whole : Value}
    (a_is_whole : PySem.W.nsIn K mainGlobals "is_whole" = some (some (.ref f_is_whole)))
    (l_is_whole : K.lookup f_is_whole = some ⟨oc_is_whole, od_is_whole, .func (PySem.W.fnOf "is_whole" "is_whole" (defArgs s_is_whole) (defBody s_is_whole) (defScope s_is_whole) .none kV_is_whole dc_is_whole pm_is_whole an_is_whole cd_is_whole ct_is_whole), sl_is_whole⟩)
    (d_is_whole : PySem.W.codeIn K cd_is_whole "is_whole" = true)
    (e_is_whole : PySem.W.keepIn K (.ref f_is_whole) = true)
    {f_is_word : Addr} {od_is_word an_is_word : Option Addr} {sl_is_word : Array (Option Value)} {oc_is_word kV_is_word dc_is_word pm_is_word cd_is_word ct_is_word : Value}
    (a_is_word : PySem.W.nsIn K mainGlobals "is_word" = some (some (.ref f_is_word)))
    (l_is_word : K.lookup f_is_word = some ⟨oc_is_word, od_is_word, .func (PySem.W.fnOf "is_word" "is_word" (defArgs s_is_word) (defBody s_is_word) (defScope s_is_word) .none kV_is_word dc_is_word pm_is_word an_is_word cd_is_word ct_is_word), sl_is_word⟩)
    (d_is_word : PySem.W.codeIn K cd_is_word "is_word" = true)
    (e_is_word : PySem.W.keepIn K (.ref f_is_word) = true)
    {f_is_below : Addr} {od_is_below an_is_below : Option Addr} {sl_is_below : Array (Option Value)} {oc_is_below kV_is_below dc_is_below pm_is_below cd_is_below ct_is_below : Value}
    (a_is_below : PySem.W.nsIn K mainGlobals "is_below" = some (some (.ref f_is_below)))
    (l_is_below : K.lookup f_is_below = some ⟨oc_is_below, od_is_below, .func (PySem.W.fnOf "is_below" "is_below" (defArgs s_is_below) (defBody s_is_below) (defScope s_is_below) .none kV_is_below dc_is_below pm_is_below an_is_below cd_is_below ct_is_below), sl_is_below⟩)
    (d_is_below : PySem.W.codeIn K cd_is_below "is_below" = true)
    (e_is_below : PySem.W.keepIn K (.ref f_is_below) = true)
    {f_are_words : Addr} {od_are_words an_are_words : Option Addr} {sl_are_words : Array (Option Value)} {oc_are_words kV_are_words dc_are_words pm_are_words cd_are_words ct_are_words : Value}
    (a_are_words : PySem.W.nsIn K mainGlobals "are_words" = some (some (.ref f_are_words)))
    (l_are_words : K.lookup f_are_words = some ⟨oc_are_words, od_are_words, .func (PySem.W.fnOf "are_words" "are_words" (defArgs s_are_words) (defBody s_are_words) (defScope s_are_words) .none kV_are_words dc_are_words pm_are_words an_are_words cd_are_words ct_are_words), sl_are_words⟩)
    (d_are_words : PySem.W.codeIn K cd_are_words "are_words" = true)
    (e_are_words : PySem.W.keepIn K (.ref f_are_words) = true)
    {f_is_image : Addr} {od_is_image an_is_image : Option Addr} {sl_is_image : Array (Option Value)} {oc_is_image kV_is_image dc_is_image pm_is_image cd_is_image ct_is_image : Value}
    (a_is_image : PySem.W.nsIn K mainGlobals "is_image" = some (some (.ref f_is_image)))
    (l_is_image : K.lookup f_is_image = some ⟨oc_is_image, od_is_image, .func (PySem.W.fnOf "is_image" "is_image" (defArgs s_is_image) (defBody s_is_image) (defScope s_is_image) .none kV_is_image dc_is_image pm_is_image an_is_image cd_is_image ct_is_image), sl_is_image⟩)
    (d_is_image : PySem.W.codeIn K cd_is_image "is_image" = true)
    (e_is_image : PySem.W.keepIn K (.ref f_is_image) = true)
    {f_Store_look_for : Addr} {od_Store_look_for an_Store_look_for : Option Addr} {sl_Store_look_for : Array (Option Value)} {oc_Store_look_for kV_Store_look_for dc_Store_look_for pm_Store_look_for cd_Store_look_for ct_Store_look_for : Value}
    (a_Memory_Store_look_for : PySem.W.findIn K (.ref C_Memory) "look_for" = some (some (.ref f_Store_look_for)))
    (i_Store_look_for : PySem.W.isFn K (.ref f_Store_look_for) = true)
    (l_Store_look_for : K.lookup f_Store_look_for = some ⟨oc_Store_look_for, od_Store_look_for, .func (PySem.W.fnOf "look_for" "Store.look_for" (defArgs s_Store_look_for) (defBody s_Store_look_for) (defScope s_Store_look_for) .none kV_Store_look_for dc_Store_look_for pm_Store_look_for an_Store_look_for cd_Store_look_for ct_Store_look_for), sl_Store_look_for⟩)
    (d_Store_look_for : PySem.W.codeIn K cd_Store_look_for "Store.look_for" = true)
    (e_Store_look_for : PySem.W.keepIn K (.ref f_Store_look_for) = true)
    {f_Store_read : Addr} {od_Store_read an_Store_read : Option Addr} {sl_Store_read : Array (Option Value)} {oc_Store_read kV_Store_read dc_Store_read pm_Store_read cd_Store_read ct_Store_read : Value}
    (a_Memory_Store_read : PySem.W.findIn K (.ref C_Memory) "read" = some (some (.ref f_Store_read)))
    (i_Store_read : PySem.W.isFn K (.ref f_Store_read) = true)
    (l_Store_read : K.lookup f_Store_read = some ⟨oc_Store_read, od_Store_read, .func (PySem.W.fnOf "read" "Store.read" (defArgs s_Store_read) (defBody s_Store_read) (defScope s_Store_read) .none kV_Store_read dc_Store_read pm_Store_read an_Store_read cd_Store_read ct_Store_read), sl_Store_read⟩)
    (d_Store_read : PySem.W.codeIn K cd_Store_read "Store.read" = true)
    (e_Store_read : PySem.W.keepIn K (.ref f_Store_read) = true)
    {f_Store_write : Addr} {od_Store_write an_Store_write : Option Addr} {sl_Store_write : Array (Option Value)} {oc_Store_write kV_Store_write dc_Store_write pm_Store_write cd_Store_write ct_Store_write : Value}
    (a_Memory_Store_write : PySem.W.findIn K (.ref C_Memory) "write" = some (some (.ref f_Store_write)))
    (i_Store_write : PySem.W.isFn K (.ref f_Store_write) = true)
    (l_Store_write : K.lookup f_Store_write = some ⟨oc_Store_write, od_Store_write, .func (PySem.W.fnOf "write" "Store.write" (defArgs s_Store_write) (defBody s_Store_write) (defScope s_Store_write) .none kV_Store_write dc_Store_write pm_Store_write an_Store_write cd_Store_write ct_Store_write), sl_Store_write⟩)
    (d_Store_write : PySem.W.codeIn K cd_Store_write "Store.write" = true)
    (e_Store_write : PySem.W.keepIn K (.ref f_Store_write) = true)
    {f_Memory___init__ : Addr} {od_Memory___init__ an_Memory___init__ : Option Addr} {sl_Memory___init__ : Array (Option Value)} {oc_Memory___init__ kV_Memory___init__ dc_Memory___init__ pm_Memory___init__ cd_Memory___init__ ct_Memory___init__ : Value}
    (a_Memory_Memory___init__ : PySem.W.findIn K (.ref C_Memory) "__init__" = some (some (.ref f_Memory___init__)))
    (i_Memory___init__ : PySem.W.isFn K (.ref f_Memory___init__) = true)
    (l_Memory___init__ : K.lookup f_Memory___init__ = some ⟨oc_Memory___init__, od_Memory___init__, .func (PySem.W.fnOf "__init__" "Memory.__init__" (defArgs s_Memory___init__) (defBody s_Memory___init__) (defScope s_Memory___init__) .none kV_Memory___init__ dc_Memory___init__ pm_Memory___init__ an_Memory___init__ cd_Memory___init__ ct_Memory___init__), sl_Memory___init__⟩)
    (d_Memory___init__ : PySem.W.codeIn K cd_Memory___init__ "Memory.__init__" = true)
    (e_Memory___init__ : PySem.W.keepIn K (.ref f_Memory___init__) = true)
    {f_Memory_size : Addr} {od_Memory_size an_Memory_size : Option Addr} {sl_Memory_size : Array (Option Value)} {oc_Memory_size kV_Memory_size dc_Memory_size pm_Memory_size cd_Memory_size ct_Memory_size : Value}
    (a_Memory_Memory_size : PySem.W.findIn K (.ref C_Memory) "size" = some (some (.ref f_Memory_size)))
    (i_Memory_size : PySem.W.isFn K (.ref f_Memory_size) = true)
    (l_Memory_size : K.lookup f_Memory_size = some ⟨oc_Memory_size, od_Memory_size, .func (PySem.W.fnOf "size" "Memory.size" (defArgs s_Memory_size) (defBody s_Memory_size) (defScope s_Memory_size) .none kV_Memory_size dc_Memory_size pm_Memory_size an_Memory_size cd_Memory_size ct_Memory_size), sl_Memory_size⟩)
    (d_Memory_size : PySem.W.codeIn K cd_Memory_size "Memory.size" = true)
    (e_Memory_size : PySem.W.keepIn K (.ref f_Memory_size) = true)
    {f_Memory_has : Addr} {od_Memory_has an_Memory_has : Option Addr} {sl_Memory_has : Array (Option Value)} {oc_Memory_has kV_Memory_has dc_Memory_has pm_Memory_has cd_Memory_has ct_Memory_has : Value}
    (a_Memory_Memory_has : PySem.W.findIn K (.ref C_Memory) "has" = some (some (.ref f_Memory_has)))
    (i_Memory_has : PySem.W.isFn K (.ref f_Memory_has) = true)
    (l_Memory_has : K.lookup f_Memory_has = some ⟨oc_Memory_has, od_Memory_has, .func (PySem.W.fnOf "has" "Memory.has" (defArgs s_Memory_has) (defBody s_Memory_has) (defScope s_Memory_has) .none kV_Memory_has dc_Memory_has pm_Memory_has an_Memory_has cd_Memory_has ct_Memory_has), sl_Memory_has⟩)
    (d_Memory_has : PySem.W.codeIn K cd_Memory_has "Memory.has" = true)
    (e_Memory_has : PySem.W.keepIn K (.ref f_Memory_has) = true)
    {f_Memory_fetch : Addr} {od_Memory_fetch an_Memory_fetch : Option Addr} {sl_Memory_fetch : Array (Option Value)} {oc_Memory_fetch kV_Memory_fetch dc_Memory_fetch pm_Memory_fetch cd_Memory_fetch ct_Memory_fetch : Value}
    (a_Memory_Memory_fetch : PySem.W.findIn K (.ref C_Memory) "fetch" = some (some (.ref f_Memory_fetch)))
    (i_Memory_fetch : PySem.W.isFn K (.ref f_Memory_fetch) = true)
    (l_Memory_fetch : K.lookup f_Memory_fetch = some ⟨oc_Memory_fetch, od_Memory_fetch, .func (PySem.W.fnOf "fetch" "Memory.fetch" (defArgs s_Memory_fetch) (defBody s_Memory_fetch) (defScope s_Memory_fetch) .none kV_Memory_fetch dc_Memory_fetch pm_Memory_fetch an_Memory_fetch cd_Memory_fetch ct_Memory_fetch), sl_Memory_fetch⟩)
    (d_Memory_fetch : PySem.W.codeIn K cd_Memory_fetch "Memory.fetch" = true)
    (e_Memory_fetch : PySem.W.keepIn K (.ref f_Memory_fetch) = true)
    {f_Memory_deposit : Addr} {od_Memory_deposit an_Memory_deposit : Option Addr} {sl_Memory_deposit : Array (Option Value)} {oc_Memory_deposit kV_Memory_deposit dc_Memory_deposit pm_Memory_deposit cd_Memory_deposit ct_Memory_deposit : Value}
    (a_Memory_Memory_deposit : PySem.W.findIn K (.ref C_Memory) "deposit" = some (some (.ref f_Memory_deposit)))
    (i_Memory_deposit : PySem.W.isFn K (.ref f_Memory_deposit) = true)
    (l_Memory_deposit : K.lookup f_Memory_deposit = some ⟨oc_Memory_deposit, od_Memory_deposit, .func (PySem.W.fnOf "deposit" "Memory.deposit" (defArgs s_Memory_deposit) (defBody s_Memory_deposit) (defScope s_Memory_deposit) .none kV_Memory_deposit dc_Memory_deposit pm_Memory_deposit an_Memory_deposit cd_Memory_deposit ct_Memory_deposit), sl_Memory_deposit⟩)
    (d_Memory_deposit : PySem.W.codeIn K cd_Memory_deposit "Memory.deposit" = true)
    (e_Memory_deposit : PySem.W.keepIn K (.ref f_Memory_deposit) = true)
    {f_Memory_give : Addr} {od_Memory_give an_Memory_give : Option Addr} {sl_Memory_give : Array (Option Value)} {oc_Memory_give kV_Memory_give dc_Memory_give pm_Memory_give cd_Memory_give ct_Memory_give : Value}
    (a_Memory_Memory_give : PySem.W.findIn K (.ref C_Memory) "give" = some (some (.ref f_Memory_give)))
    (i_Memory_give : PySem.W.isFn K (.ref f_Memory_give) = true)
    (l_Memory_give : K.lookup f_Memory_give = some ⟨oc_Memory_give, od_Memory_give, .func (PySem.W.fnOf "give" "Memory.give" (defArgs s_Memory_give) (defBody s_Memory_give) (defScope s_Memory_give) .none kV_Memory_give dc_Memory_give pm_Memory_give an_Memory_give cd_Memory_give ct_Memory_give), sl_Memory_give⟩)
    (d_Memory_give : PySem.W.codeIn K cd_Memory_give "Memory.give" = true)
    (e_Memory_give : PySem.W.keepIn K (.ref f_Memory_give) = true)
    {f_Memory_lay : Addr} {od_Memory_lay an_Memory_lay : Option Addr} {sl_Memory_lay : Array (Option Value)} {oc_Memory_lay kV_Memory_lay dc_Memory_lay pm_Memory_lay cd_Memory_lay ct_Memory_lay : Value}
    (a_Memory_Memory_lay : PySem.W.findIn K (.ref C_Memory) "lay" = some (some (.ref f_Memory_lay)))
    (i_Memory_lay : PySem.W.isFn K (.ref f_Memory_lay) = true)
    (l_Memory_lay : K.lookup f_Memory_lay = some ⟨oc_Memory_lay, od_Memory_lay, .func (PySem.W.fnOf "lay" "Memory.lay" (defArgs s_Memory_lay) (defBody s_Memory_lay) (defScope s_Memory_lay) .none kV_Memory_lay dc_Memory_lay pm_Memory_lay an_Memory_lay cd_Memory_lay ct_Memory_lay), sl_Memory_lay⟩)
    (d_Memory_lay : PySem.W.codeIn K cd_Memory_lay "Memory.lay" = true)
    (e_Memory_lay : PySem.W.keepIn K (.ref f_Memory_lay) = true)
    {f_Memory_told : Addr} {od_Memory_told an_Memory_told : Option Addr} {sl_Memory_told : Array (Option Value)} {oc_Memory_told kV_Memory_told dc_Memory_told pm_Memory_told cd_Memory_told ct_Memory_told : Value}
    (a_Memory_Memory_told : PySem.W.findIn K (.ref C_Memory) "told" = some (some (.ref f_Memory_told)))
    (i_Memory_told : PySem.W.isFn K (.ref f_Memory_told) = true)
    (l_Memory_told : K.lookup f_Memory_told = some ⟨oc_Memory_told, od_Memory_told, .func (PySem.W.fnOf "told" "Memory.told" (defArgs s_Memory_told) (defBody s_Memory_told) (defScope s_Memory_told) .none kV_Memory_told dc_Memory_told pm_Memory_told an_Memory_told cd_Memory_told ct_Memory_told), sl_Memory_told⟩)
    (d_Memory_told : PySem.W.codeIn K cd_Memory_told "Memory.told" = true)
    (e_Memory_told : PySem.W.keepIn K (.ref f_Memory_told) = true)
    {f__law_cell_at : Addr} {od__law_cell_at an__law_cell_at : Option Addr} {sl__law_cell_at : Array (Option Value)} {oc__law_cell_at kV__law_cell_at dc__law_cell_at pm__law_cell_at cd__law_cell_at ct__law_cell_at : Value}
    (a__law_cell_at : PySem.W.nsIn K mainGlobals "_law_cell_at" = some (some (.ref f__law_cell_at)))
    (l__law_cell_at : K.lookup f__law_cell_at = some ⟨oc__law_cell_at, od__law_cell_at, .func (PySem.W.fnOf "_law_cell_at" "_law_cell_at" (defArgs s__law_cell_at) (defBody s__law_cell_at) (defScope s__law_cell_at) .none kV__law_cell_at dc__law_cell_at pm__law_cell_at an__law_cell_at cd__law_cell_at ct__law_cell_at), sl__law_cell_at⟩)
    (d__law_cell_at : PySem.W.codeIn K cd__law_cell_at "_law_cell_at" = true)
    (e__law_cell_at : PySem.W.keepIn K (.ref f__law_cell_at) = true)
    {f__law_whole : Addr} {od__law_whole an__law_whole : Option Addr} {sl__law_whole : Array (Option Value)} {oc__law_whole kV__law_whole dc__law_whole pm__law_whole cd__law_whole ct__law_whole : Value}
    (a__law_whole : PySem.W.nsIn K mainGlobals "_law_whole" = some (some (.ref f__law_whole)))
    (l__law_whole : K.lookup f__law_whole = some ⟨oc__law_whole, od__law_whole, .func (PySem.W.fnOf "_law_whole" "_law_whole" (defArgs s__law_whole) (defBody s__law_whole) (defScope s__law_whole) .none kV__law_whole dc__law_whole pm__law_whole an__law_whole cd__law_whole ct__law_whole), sl__law_whole⟩)
    (d__law_whole : PySem.W.codeIn K cd__law_whole "_law_whole" = true)
    (e__law_whole : PySem.W.keepIn K (.ref f__law_whole) = true)
    {f__law_mixed : Addr} {od__law_mixed an__law_mixed : Option Addr} {sl__law_mixed : Array (Option Value)} {oc__law_mixed kV__law_mixed dc__law_mixed pm__law_mixed cd__law_mixed ct__law_mixed : Value}
    (a__law_mixed : PySem.W.nsIn K mainGlobals "_law_mixed" = some (some (.ref f__law_mixed)))
    (l__law_mixed : K.lookup f__law_mixed = some ⟨oc__law_mixed, od__law_mixed, .func (PySem.W.fnOf "_law_mixed" "_law_mixed" (defArgs s__law_mixed) (defBody s__law_mixed) (defScope s__law_mixed) .none kV__law_mixed dc__law_mixed pm__law_mixed an__law_mixed cd__law_mixed ct__law_mixed), sl__law_mixed⟩)
    (d__law_mixed : PySem.W.codeIn K cd__law_mixed "_law_mixed" = true)
    (e__law_mixed : PySem.W.keepIn K (.ref f__law_mixed) = true)
    {f__law_word : Addr} {od__law_word an__law_word : Option Addr} {sl__law_word : Array (Option Value)} {oc__law_word kV__law_word dc__law_word pm__law_word cd__law_word ct__law_word : Value}
    (a__law_word : PySem.W.nsIn K mainGlobals "_law_word" = some (some (.ref f__law_word)))
    (l__law_word : K.lookup f__law_word = some ⟨oc__law_word, od__law_word, .func (PySem.W.fnOf "_law_word" "_law_word" (defArgs s__law_word) (defBody s__law_word) (defScope s__law_word) .none kV__law_word dc__law_word pm__law_word an__law_word cd__law_word ct__law_word), sl__law_word⟩)
    (d__law_word : PySem.W.codeIn K cd__law_word "_law_word" = true)
    (e__law_word : PySem.W.keepIn K (.ref f__law_word) = true)
    {f__law_copy : Addr} {od__law_copy an__law_copy : Option Addr} {sl__law_copy : Array (Option Value)} {oc__law_copy kV__law_copy dc__law_copy pm__law_copy cd__law_copy ct__law_copy : Value}
    (a__law_copy : PySem.W.nsIn K mainGlobals "_law_copy" = some (some (.ref f__law_copy)))
    (l__law_copy : K.lookup f__law_copy = some ⟨oc__law_copy, od__law_copy, .func (PySem.W.fnOf "_law_copy" "_law_copy" (defArgs s__law_copy) (defBody s__law_copy) (defScope s__law_copy) .none kV__law_copy dc__law_copy pm__law_copy an__law_copy cd__law_copy ct__law_copy), sl__law_copy⟩)
    (d__law_copy : PySem.W.codeIn K cd__law_copy "_law_copy" = true)
    (e__law_copy : PySem.W.keepIn K (.ref f__law_copy) = true)
    {f__law_same : Addr} {od__law_same an__law_same : Option Addr} {sl__law_same : Array (Option Value)} {oc__law_same kV__law_same dc__law_same pm__law_same cd__law_same ct__law_same : Value}
    (a__law_same : PySem.W.nsIn K mainGlobals "_law_same" = some (some (.ref f__law_same)))
    (l__law_same : K.lookup f__law_same = some ⟨oc__law_same, od__law_same, .func (PySem.W.fnOf "_law_same" "_law_same" (defArgs s__law_same) (defBody s__law_same) (defScope s__law_same) .none kV__law_same dc__law_same pm__law_same an__law_same cd__law_same ct__law_same), sl__law_same⟩)
    (d__law_same : PySem.W.codeIn K cd__law_same "_law_same" = true)
    (e__law_same : PySem.W.keepIn K (.ref f__law_same) = true)
    {f__law_kinds : Addr} {od__law_kinds an__law_kinds : Option Addr} {sl__law_kinds : Array (Option Value)} {oc__law_kinds kV__law_kinds dc__law_kinds pm__law_kinds cd__law_kinds ct__law_kinds : Value}
    (a__law_kinds : PySem.W.nsIn K mainGlobals "_law_kinds" = some (some (.ref f__law_kinds)))
    (l__law_kinds : K.lookup f__law_kinds = some ⟨oc__law_kinds, od__law_kinds, .func (PySem.W.fnOf "_law_kinds" "_law_kinds" (defArgs s__law_kinds) (defBody s__law_kinds) (defScope s__law_kinds) .none kV__law_kinds dc__law_kinds pm__law_kinds an__law_kinds cd__law_kinds ct__law_kinds), sl__law_kinds⟩)
    (d__law_kinds : PySem.W.codeIn K cd__law_kinds "_law_kinds" = true)
    (e__law_kinds : PySem.W.keepIn K (.ref f__law_kinds) = true)
    {f__law_refused : Addr} {od__law_refused an__law_refused : Option Addr} {sl__law_refused : Array (Option Value)} {oc__law_refused kV__law_refused dc__law_refused pm__law_refused cd__law_refused ct__law_refused : Value}
    (a__law_refused : PySem.W.nsIn K mainGlobals "_law_refused" = some (some (.ref f__law_refused)))
    (l__law_refused : K.lookup f__law_refused = some ⟨oc__law_refused, od__law_refused, .func (PySem.W.fnOf "_law_refused" "_law_refused" (defArgs s__law_refused) (defBody s__law_refused) (defScope s__law_refused) .none kV__law_refused dc__law_refused pm__law_refused an__law_refused cd__law_refused ct__law_refused), sl__law_refused⟩)
    (d__law_refused : PySem.W.codeIn K cd__law_refused "_law_refused" = true)
    (e__law_refused : PySem.W.keepIn K (.ref f__law_refused) = true)
    {f__law_spoilt : Addr} {od__law_spoilt an__law_spoilt : Option Addr} {sl__law_spoilt : Array (Option Value)} {oc__law_spoilt kV__law_spoilt dc__law_spoilt pm__law_spoilt cd__law_spoilt ct__law_spoilt : Value}
    (a__law_spoilt : PySem.W.nsIn K mainGlobals "_law_spoilt" = some (some (.ref f__law_spoilt)))
    (l__law_spoilt : K.lookup f__law_spoilt = some ⟨oc__law_spoilt, od__law_spoilt, .func (PySem.W.fnOf "_law_spoilt" "_law_spoilt" (defArgs s__law_spoilt) (defBody s__law_spoilt) (defScope s__law_spoilt) .none kV__law_spoilt dc__law_spoilt pm__law_spoilt an__law_spoilt cd__law_spoilt ct__law_spoilt), sl__law_spoilt⟩)
    (d__law_spoilt : PySem.W.codeIn K cd__law_spoilt "_law_spoilt" = true)
    (e__law_spoilt : PySem.W.keepIn K (.ref f__law_spoilt) = true)
    {f_law : Addr} {od_law an_law : Option Addr} {sl_law : Array (Option Value)} {oc_law kV_law dc_law pm_law cd_law ct_law : Value}
    (a_law : PySem.W.nsIn K mainGlobals "law" = some (some (.ref f_law)))
    (l_law : K.lookup f_law = some ⟨oc_law, od_law, .func (PySem.W.fnOf "law" "law" (defArgs s_law) (defBody s_law) (defScope s_law) .none kV_law dc_law pm_law an_law cd_law ct_law), sl_law⟩)
    (d_law : PySem.W.codeIn K cd_law "law" = true)
    (e_law : PySem.W.keepIn K (.ref f_law) = true)
    : ∃ fd : FuncData, (∀ (s : Shared) (u : Value), BindsTo s fd ⟨[u], []⟩ [("_law_script", u)]) ∧ ∀ base : Heap, K.In base → base.Ns mainGlobals mg → FnOk P w K mg base (L2.CX P w) 8 fa fd ["_law_script"] (sp_law K) := by
  let A : Ad := { C_HouseError := C_HouseError, C_NoWord := C_NoWord, C_NoRow := C_NoRow, C_NoPlace := C_NoPlace, C_NoPage := C_NoPage, C_NoImage := C_NoImage, C_NoFrame := C_NoFrame, C_NoText := C_NoText, C_Fault := C_Fault, C_Store := C_Store, C_Memory := C_Memory }
  have T : Txt K mg A := { b_ValueError := PySem.W.mg_none_of X G b_ValueError, b_all := PySem.W.mg_none_of X G b_all, b_bool := PySem.W.mg_none_of X G b_bool, b_int := PySem.W.mg_none_of X G b_int, b_isinstance := PySem.W.mg_none_of X G b_isinstance, b_len := PySem.W.mg_none_of X G b_len, b_list := PySem.W.mg_none_of X G b_list, b_range := PySem.W.mg_none_of X G b_range, b_tuple := PySem.W.mg_none_of X G b_tuple, c_CELLS := cst_of X G c_CELLS, c_MOST_PAGES := cst_of X G c_MOST_PAGES, k_HouseError := PySem.W.mg_of X G k_HouseError, k_NoWord := PySem.W.mg_of X G k_NoWord, k_NoRow := PySem.W.mg_of X G k_NoRow, k_NoPlace := PySem.W.mg_of X G k_NoPlace, k_NoPage := PySem.W.mg_of X G k_NoPage, k_NoImage := PySem.W.mg_of X G k_NoImage, k_NoFrame := PySem.W.mg_of X G k_NoFrame, k_NoText := PySem.W.mg_of X G k_NoText, k_Fault := PySem.W.mg_of X G k_Fault, k_Store := PySem.W.mg_of X G k_Store, k_Memory := PySem.W.mg_of X G k_Memory, cl_Memory := ⟨pg_Memory, ph_Memory, po_Memory, ps_Memory⟩, mk_Memory := ⟨pm_Memory, pk_Memory⟩, no_Memory_held := no_Memory_held, x_NoImage := ⟨xq_NoImage, xk_NoImage, xb_NoImage, xt_NoImage, ⟨x1_NoImage, x2_NoImage, xb_NoImage, x3_NoImage, x4_NoImage, x5_NoImage, x6_NoImage, x7_NoImage⟩, PySem.W.exm_ref hb_HouseError hd_HouseError ht_HouseError x8_NoImage⟩, kt_NoImage_NoImage := kt_NoImage_NoImage, kt_NoImage_ValueError := kt_NoImage_ValueError, kt_NoImage_NoPage := kt_NoImage_NoPage, kt_NoImage_NoPlace := kt_NoImage_NoPlace, kt_NoImage_NoWord := kt_NoImage_NoWord, kt_NoImage_NoRow := kt_NoImage_NoRow, kt_NoImage_NoFrame := kt_NoImage_NoFrame, kt_NoImage_NoText := kt_NoImage_NoText, kt_NoImage_Fault := kt_NoImage_Fault }
  have F__wall : Df K mg "_wall" s__wall ["k"] := .mk' X G a__wall l__wall d__wall e__wall (fun _ _ _ _ _ _ us hl => match us, hl with | [_], _ => rfl)
  have F_is_whole : Df K mg "is_whole" s_is_whole ["thing"] := .mk' X G a_is_whole l_is_whole d_is_whole e_is_whole (fun _ _ _ _ _ _ us hl => match us, hl with | [_], _ => rfl)
  have F_is_word : Df K mg "is_word" s_is_word ["thing"] := .mk' X G a_is_word l_is_word d_is_word e_is_word (fun _ _ _ _ _ _ us hl => match us, hl with | [_], _ => rfl)
  have F_is_below : Df K mg "is_below" s_is_below ["thing", "count"] := .mk' X G a_is_below l_is_below d_is_below e_is_below (fun _ _ _ _ _ _ us hl => match us, hl with | [_, _], _ => rfl)
  have F_are_words : Df K mg "are_words" s_are_words ["thing"] := .mk' X G a_are_words l_are_words d_are_words e_are_words (fun _ _ _ _ _ _ us hl => match us, hl with | [_], _ => rfl)
  have F_is_image : Df K mg "is_image" s_is_image ["thing"] := .mk' X G a_is_image l_is_image d_is_image e_is_image (fun _ _ _ _ _ _ us hl => match us, hl with | [_], _ => rfl)
  have F__law_cell_at : Df K mg "_law_cell_at" s__law_cell_at ["_law_script", "_law_k"] := .mk' X G a__law_cell_at l__law_cell_at d__law_cell_at e__law_cell_at (fun _ _ _ _ _ _ us hl => match us, hl with | [_, _], _ => rfl)
  have F__law_whole : Df K mg "_law_whole" s__law_whole ["_law_found"] := .mk' X G a__law_whole l__law_whole d__law_whole e__law_whole (fun _ _ _ _ _ _ us hl => match us, hl with | [_], _ => rfl)
  have F__law_mixed : Df K mg "_law_mixed" s__law_mixed ["_law_cell", "_law_k"] := .mk' X G a__law_mixed l__law_mixed d__law_mixed e__law_mixed (fun _ _ _ _ _ _ us hl => match us, hl with | [_, _], _ => rfl)
  have F__law_word : Df K mg "_law_word" s__law_word ["_law_cell", "_law_k"] := .mk' X G a__law_word l__law_word d__law_word e__law_word (fun _ _ _ _ _ _ us hl => match us, hl with | [_, _], _ => rfl)
  have F__law_copy : Df K mg "_law_copy" s__law_copy ["_law_pages"] := .mk' X G a__law_copy l__law_copy d__law_copy e__law_copy (fun _ _ _ _ _ _ us hl => match us, hl with | [_], _ => rfl)
  have F__law_same : Df K mg "_law_same" s__law_same ["_law_found", "_law_due"] := .mk' X G a__law_same l__law_same d__law_same e__law_same (fun _ _ _ _ _ _ us hl => match us, hl with | [_, _], _ => rfl)
  have F__law_kinds : Df K mg "_law_kinds" s__law_kinds ["_law_e"] := .mk' X G a__law_kinds l__law_kinds d__law_kinds e__law_kinds (fun _ _ _ _ _ _ us hl => match us, hl with | [_], _ => rfl)
  have F__law_refused : Df K mg "_law_refused" s__law_refused ["_law_thing"] := .mk' X G a__law_refused l__law_refused d__law_refused e__law_refused (fun _ _ _ _ _ _ us hl => match us, hl with | [_], _ => rfl)
  have F__law_spoilt : Df K mg "_law_spoilt" s__law_spoilt ["_law_pages", "_law_cell"] := .mk' X G a__law_spoilt l__law_spoilt d__law_spoilt e__law_spoilt (fun _ _ _ _ _ _ us hl => match us, hl with | [_, _], _ => rfl)
  have F_law : Df K mg "law" s_law ["_law_script"] := .mk' X G a_law l_law d_law e_law (fun _ _ _ _ _ _ us hl => match us, hl with | [_], _ => rfl)
  have F_Memory___init__ : Mf K C_Memory "__init__" "Memory.__init__" s_Memory___init__ ["self", "pages"] := .mk' a_Memory_Memory___init__ i_Memory___init__ l_Memory___init__ d_Memory___init__ e_Memory___init__ (fun _ _ _ _ _ _ us hl => match us, hl with | [_, _], _ => rfl)
  have F_Memory_size : Mf K C_Memory "size" "Memory.size" s_Memory_size ["self"] := .mk' a_Memory_Memory_size i_Memory_size l_Memory_size d_Memory_size e_Memory_size (fun _ _ _ _ _ _ us hl => match us, hl with | [_], _ => rfl)
  have F_Memory_has : Mf K C_Memory "has" "Memory.has" s_Memory_has ["self", "page"] := .mk' a_Memory_Memory_has i_Memory_has l_Memory_has d_Memory_has e_Memory_has (fun _ _ _ _ _ _ us hl => match us, hl with | [_, _], _ => rfl)
  have F_Memory_fetch : Mf K C_Memory "fetch" "Memory.fetch" s_Memory_fetch ["self", "page", "cell"] := .mk' a_Memory_Memory_fetch i_Memory_fetch l_Memory_fetch d_Memory_fetch e_Memory_fetch (fun _ _ _ _ _ _ us hl => match us, hl with | [_, _, _], _ => rfl)
  have F_Memory_deposit : Mf K C_Memory "deposit" "Memory.deposit" s_Memory_deposit ["self", "page", "cell", "word"] := .mk' a_Memory_Memory_deposit i_Memory_deposit l_Memory_deposit d_Memory_deposit e_Memory_deposit (fun _ _ _ _ _ _ us hl => match us, hl with | [_, _, _, _], _ => rfl)
  have F_Memory_give : Mf K C_Memory "give" "Memory.give" s_Memory_give ["self", "page"] := .mk' a_Memory_Memory_give i_Memory_give l_Memory_give d_Memory_give e_Memory_give (fun _ _ _ _ _ _ us hl => match us, hl with | [_, _], _ => rfl)
  have F_Memory_lay : Mf K C_Memory "lay" "Memory.lay" s_Memory_lay ["self", "page", "words"] := .mk' a_Memory_Memory_lay i_Memory_lay l_Memory_lay d_Memory_lay e_Memory_lay (fun _ _ _ _ _ _ us hl => match us, hl with | [_, _, _], _ => rfl)
  have F_Memory_told : Mf K C_Memory "told" "Memory.told" s_Memory_told ["self"] := .mk' a_Memory_Memory_told i_Memory_told l_Memory_told d_Memory_told e_Memory_told (fun _ _ _ _ _ _ us hl => match us, hl with | [_], _ => rfl)
  have F_Memory_look_for : Mf K C_Memory "look_for" "Store.look_for" s_Store_look_for ["self", "page", "cell"] := .mk' a_Memory_Store_look_for i_Store_look_for l_Store_look_for d_Store_look_for e_Store_look_for (fun _ _ _ _ _ _ us hl => match us, hl with | [_, _, _], _ => rfl)
  have F_Memory_read : Mf K C_Memory "read" "Store.read" s_Store_read ["self", "page", "cell"] := .mk' a_Memory_Store_read i_Store_read l_Store_read d_Store_read e_Store_read (fun _ _ _ _ _ _ us hl => match us, hl with | [_, _, _], _ => rfl)
  have F_Memory_write : Mf K C_Memory "write" "Store.write" s_Store_write ["self", "page", "cell", "word"] := .mk' a_Memory_Store_write i_Store_write l_Store_write d_Store_write e_Store_write (fun _ _ _ _ _ _ us hl => match us, hl with | [_, _, _, _], _ => rfl)
  exact L_law hfa T F__wall F_is_whole F_is_word F_is_below F_are_words F_is_image F__law_cell_at F__law_whole F__law_mixed F__law_word F__law_copy F__law_same F__law_kinds F__law_refused F__law_spoilt F_law F_Memory___init__ F_Memory_size F_Memory_has F_Memory_fetch F_Memory_deposit F_Memory_give F_Memory_lay F_Memory_told F_Memory_look_for F_Memory_read F_Memory_write
end Gx
open PySem PySem.W PyProof.Rows
set_option maxRecDepth 100000 in
set_option maxHeartbeats 0 in
theorem PySem.Challenge.cw_shadowpages_k12_images_holds : PySem.Challenge.rw_shadowpages_k12_images.Holds := by
  w_on; o_law; k_head; (case hw => w_witness2)
  k_fill
  refine Z.walk_z (l := PySem.Challenge.rw_shadowpages_k12_images) (k := 8) rfl rfl (by decide) (fun w h Y => PySem.W.kIn_of Y) ?F
  case F =>
    intro w mg fa h KX G hmg
    refine' Gx.all_mk KX G hmg ?b_ValueError ?b_all ?b_bool ?b_int ?b_isinstance ?b_len ?b_list ?b_range ?b_tuple ?c_CELLS ?c_MOST_PAGES ?k_HouseError ?hb_HouseError ?hd_HouseError ?ht_HouseError ?k_NoWord ?k_NoRow ?k_NoPlace ?k_NoPage ?k_NoImage ?xq_NoImage ?xk_NoImage ?xb_NoImage ?xt_NoImage ?x1_NoImage ?x2_NoImage ?x3_NoImage ?x4_NoImage ?x5_NoImage ?x6_NoImage ?x7_NoImage ?x8_NoImage ?k_NoFrame ?k_NoText ?k_Fault ?k_Store ?k_Memory ?pg_Memory ?ph_Memory ?po_Memory ?ps_Memory ?pm_Memory ?pk_Memory ?no_Memory_held ?kt_NoImage_NoImage ?kt_NoImage_ValueError ?kt_NoImage_NoPage ?kt_NoImage_NoPlace ?kt_NoImage_NoWord ?kt_NoImage_NoRow ?kt_NoImage_NoFrame ?kt_NoImage_NoText ?kt_NoImage_Fault ?a__wall ?l__wall ?d__wall ?e__wall ?a_is_whole ?l_is_whole ?d_is_whole ?e_is_whole ?a_is_word ?l_is_word ?d_is_word ?e_is_word ?a_is_below ?l_is_below ?d_is_below ?e_is_below ?a_are_words ?l_are_words ?d_are_words ?e_are_words ?a_is_image ?l_is_image ?d_is_image ?e_is_image ?a_Memory_Store_look_for ?i_Store_look_for ?l_Store_look_for ?d_Store_look_for ?e_Store_look_for ?a_Memory_Store_read ?i_Store_read ?l_Store_read ?d_Store_read ?e_Store_read ?a_Memory_Store_write ?i_Store_write ?l_Store_write ?d_Store_write ?e_Store_write ?a_Memory_Memory___init__ ?i_Memory___init__ ?l_Memory___init__ ?d_Memory___init__ ?e_Memory___init__ ?a_Memory_Memory_size ?i_Memory_size ?l_Memory_size ?d_Memory_size ?e_Memory_size ?a_Memory_Memory_has ?i_Memory_has ?l_Memory_has ?d_Memory_has ?e_Memory_has ?a_Memory_Memory_fetch ?i_Memory_fetch ?l_Memory_fetch ?d_Memory_fetch ?e_Memory_fetch ?a_Memory_Memory_deposit ?i_Memory_deposit ?l_Memory_deposit ?d_Memory_deposit ?e_Memory_deposit ?a_Memory_Memory_give ?i_Memory_give ?l_Memory_give ?d_Memory_give ?e_Memory_give ?a_Memory_Memory_lay ?i_Memory_lay ?l_Memory_lay ?d_Memory_lay ?e_Memory_lay ?a_Memory_Memory_told ?i_Memory_told ?l_Memory_told ?d_Memory_told ?e_Memory_told ?a__law_cell_at ?l__law_cell_at ?d__law_cell_at ?e__law_cell_at ?a__law_whole ?l__law_whole ?d__law_whole ?e__law_whole ?a__law_mixed ?l__law_mixed ?d__law_mixed ?e__law_mixed ?a__law_word ?l__law_word ?d__law_word ?e__law_word ?a__law_copy ?l__law_copy ?d__law_copy ?e__law_copy ?a__law_same ?l__law_same ?d__law_same ?e__law_same ?a__law_kinds ?l__law_kinds ?d__law_kinds ?e__law_kinds ?a__law_refused ?l__law_refused ?d__law_refused ?e__law_refused ?a__law_spoilt ?l__law_spoilt ?d__law_spoilt ?e__law_spoilt ?a_law ?l_law ?d_law ?e_law
    (case b_ValueError => k_is)
    (case b_all => k_is)
    (case b_bool => k_is)
    (case b_int => k_is)
    (case b_isinstance => k_is)
    (case b_len => k_is)
    (case b_list => k_is)
    (case b_range => k_is)
    (case b_tuple => k_is)
    (case c_CELLS => k_is)
    (case c_MOST_PAGES => k_is)
    (case k_HouseError => k_is)
    (case hb_HouseError => k_is)
    (case hd_HouseError => k_is)
    (case ht_HouseError => k_is)
    (case k_NoWord => k_is)
    (case k_NoRow => k_is)
    (case k_NoPlace => k_is)
    (case k_NoPage => k_is)
    (case k_NoImage => k_is)
    (case xq_NoImage => k_exc)
    (case xk_NoImage => first | k_is | rfl)
    (case xb_NoImage => first | k_is | rfl)
    (case xt_NoImage => first | k_is | rfl)
    (case x1_NoImage => first | k_is | rfl)
    (case x2_NoImage => first | k_is | rfl)
    (case x3_NoImage => first | k_is | rfl)
    (case x4_NoImage => first | k_is | rfl)
    (case x5_NoImage => first | k_is | rfl)
    (case x6_NoImage => first | k_is | rfl)
    (case x7_NoImage => first | k_is | rfl)
    (case x8_NoImage => first | k_is | rfl)
    (case k_NoFrame => k_is)
    (case k_NoText => k_is)
    (case k_Fault => k_is)
    (case k_Store => k_is)
    (case k_Memory => k_is)
    (case pg_Memory => k_is)
    (case ph_Memory => k_is)
    (case po_Memory => k_is)
    (case ps_Memory => k_is)
    (case pm_Memory => k_is)
    (case pk_Memory => k_is)
    (case no_Memory_held => k_is)
    (case kt_NoImage_NoImage => first | k_is | rfl)
    (case kt_NoImage_ValueError => first | k_is | rfl)
    (case kt_NoImage_NoPage => first | k_is | rfl)
    (case kt_NoImage_NoPlace => first | k_is | rfl)
    (case kt_NoImage_NoWord => first | k_is | rfl)
    (case kt_NoImage_NoRow => first | k_is | rfl)
    (case kt_NoImage_NoFrame => first | k_is | rfl)
    (case kt_NoImage_NoText => first | k_is | rfl)
    (case kt_NoImage_Fault => first | k_is | rfl)
    (case a__wall => k_is)
    (case l__wall => k_is)
    (case d__wall => k_is)
    (case e__wall => k_is)
    (case a_is_whole => k_is)
    (case l_is_whole => k_is)
    (case d_is_whole => k_is)
    (case e_is_whole => k_is)
    (case a_is_word => k_is)
    (case l_is_word => k_is)
    (case d_is_word => k_is)
    (case e_is_word => k_is)
    (case a_is_below => k_is)
    (case l_is_below => k_is)
    (case d_is_below => k_is)
    (case e_is_below => k_is)
    (case a_are_words => k_is)
    (case l_are_words => k_is)
    (case d_are_words => k_is)
    (case e_are_words => k_is)
    (case a_is_image => k_is)
    (case l_is_image => k_is)
    (case d_is_image => k_is)
    (case e_is_image => k_is)
    (case a_Memory_Store_look_for => k_is)
    (case i_Store_look_for => k_is)
    (case l_Store_look_for => k_is)
    (case d_Store_look_for => k_is)
    (case e_Store_look_for => k_is)
    (case a_Memory_Store_read => k_is)
    (case i_Store_read => k_is)
    (case l_Store_read => k_is)
    (case d_Store_read => k_is)
    (case e_Store_read => k_is)
    (case a_Memory_Store_write => k_is)
    (case i_Store_write => k_is)
    (case l_Store_write => k_is)
    (case d_Store_write => k_is)
    (case e_Store_write => k_is)
    (case a_Memory_Memory___init__ => k_is)
    (case i_Memory___init__ => k_is)
    (case l_Memory___init__ => k_is)
    (case d_Memory___init__ => k_is)
    (case e_Memory___init__ => k_is)
    (case a_Memory_Memory_size => k_is)
    (case i_Memory_size => k_is)
    (case l_Memory_size => k_is)
    (case d_Memory_size => k_is)
    (case e_Memory_size => k_is)
    (case a_Memory_Memory_has => k_is)
    (case i_Memory_has => k_is)
    (case l_Memory_has => k_is)
    (case d_Memory_has => k_is)
    (case e_Memory_has => k_is)
    (case a_Memory_Memory_fetch => k_is)
    (case i_Memory_fetch => k_is)
    (case l_Memory_fetch => k_is)
    (case d_Memory_fetch => k_is)
    (case e_Memory_fetch => k_is)
    (case a_Memory_Memory_deposit => k_is)
    (case i_Memory_deposit => k_is)
    (case l_Memory_deposit => k_is)
    (case d_Memory_deposit => k_is)
    (case e_Memory_deposit => k_is)
    (case a_Memory_Memory_give => k_is)
    (case i_Memory_give => k_is)
    (case l_Memory_give => k_is)
    (case d_Memory_give => k_is)
    (case e_Memory_give => k_is)
    (case a_Memory_Memory_lay => k_is)
    (case i_Memory_lay => k_is)
    (case l_Memory_lay => k_is)
    (case d_Memory_lay => k_is)
    (case e_Memory_lay => k_is)
    (case a_Memory_Memory_told => k_is)
    (case i_Memory_told => k_is)
    (case l_Memory_told => k_is)
    (case d_Memory_told => k_is)
    (case e_Memory_told => k_is)
    (case a__law_cell_at => k_is)
    (case l__law_cell_at => k_is)
    (case d__law_cell_at => k_is)
    (case e__law_cell_at => k_is)
    (case a__law_whole => k_is)
    (case l__law_whole => k_is)
    (case d__law_whole => k_is)
    (case e__law_whole => k_is)
    (case a__law_mixed => k_is)
    (case l__law_mixed => k_is)
    (case d__law_mixed => k_is)
    (case e__law_mixed => k_is)
    (case a__law_word => k_is)
    (case l__law_word => k_is)
    (case d__law_word => k_is)
    (case e__law_word => k_is)
    (case a__law_copy => k_is)
    (case l__law_copy => k_is)
    (case d__law_copy => k_is)
    (case e__law_copy => k_is)
    (case a__law_same => k_is)
    (case l__law_same => k_is)
    (case d__law_same => k_is)
    (case e__law_same => k_is)
    (case a__law_kinds => k_is)
    (case l__law_kinds => k_is)
    (case d__law_kinds => k_is)
    (case e__law_kinds => k_is)
    (case a__law_refused => k_is)
    (case l__law_refused => k_is)
    (case d__law_refused => k_is)
    (case e__law_refused => k_is)
    (case a__law_spoilt => k_is)
    (case l__law_spoilt => k_is)
    (case d__law_spoilt => k_is)
    (case e__law_spoilt => k_is)
    (case a_law => k_is)
    (case l_law => k_is)
    (case d_law => k_is)
    (case e_law => k_is)
#print axioms PySem.Challenge.cw_shadowpages_k12_images_holds
