import PyProof.Rows.All
import Wide.All
import OpenK.AllK
import Wide.FinOn
import HandS.ForMost
import HandS.ForExc
import HandS.IsInst
import HandS.Wide
import HandS.WideBits
import HandS.Flow
import HandS.Steps
import HandS.ExcInit
import HandS.HotCalls
import HandS.ExcIs
import HandS.ExcField
import HandS.Evl
import HandS.DictComp
import HandS.TupAny
import HandS.RaiseMore
import HandS.Deep
import HandS.SetFor
import HandS.SortInts
import HandS.Strs
import HandS.TryMany
import HandS.TryElse
import HandS.SuiteRaise
import HandS.RaiseFrom
import HandS.ListItems
import HandS.Defaults
import HandS.Style
import KE.KExcIs
import HandS.ClsMeth
import KE.GoesMore
import KE.OsRunLaw
import PySem.Challenge.RW_shadowpages_k32_programs_refused
set_option maxHeartbeats 8000000
set_option Elab.async false
section
open PySem PySem.W PyProof.Rows
local macro_rules | `(tactic| o_head $_) => `(tactic| (exfalso; assumption))
set_option maxRecDepth 100000 in
set_option maxHeartbeats 0 in
theorem HeadR.aux (hf : False) : PySem.Challenge.rw_shadowpages_k32_programs_refused.Holds := by
  w_on; o_law; k_head
end

set_option linter.all false
set_option maxRecDepth 100000
namespace M
open PySem PySem.Spec PyProof.Rows L2
/-! ### the model: values as trees, objects that change in regions -/
inductive D where
  | non | bl (b : Bool) | int (i : Int) | str (x : Str) | tup (l : List D) | lst (l : List D) | rol (l : List D) | ref (r i : Nat) | ty (n : String) | cls (c : String)
inductive O where
  | lst (l : List D) | ins (c : String) (fs : List (String × D)) | dct (l : List (Key × D)) | dtt (l : List (List Key × D)) | exn (c : String) (fs : List (String × D)) | dcf (l : List (Key × D)) (od : Obj) (vs : List (Key × V))
/-- regions, each a row of objects -/
abbrev MH := Nat → List O
def MH.put (h : MH) (r : Nat) (l : List O) : MH := fun q => if q = r then l else h q
abbrev MH.at (h : MH) (r i : Nat) : Option O := (h r)[i]?
def MH.new (h : MH) (r : Nat) (o : O) : MH := h.put r (h r ++ [o])
def MH.upd (h : MH) (r i : Nat) (o : O) : MH := h.put r ((h r).set i o)
theorem MH.put_same {h : MH} {r : Nat} {l : List O} : h.put r l r = l := by unfold MH.put; rw [if_pos rfl]
theorem MH.put_ne {h : MH} {r q : Nat} {l : List O} (n : q ≠ r) : h.put r l q = h q := by unfold MH.put; rw [if_neg n]
theorem MH.put_put {h : MH} {r : Nat} {l k : List O} : (h.put r l).put r k = h.put r k := by funext q; unfold MH.put; split <;> rfl
theorem MH.new_at {h : MH} {r q i : Nat} {o u : O} : (h.new r o).at q i = some u ↔ (q = r ∧ i = (h r).length ∧ u = o) ∨ h.at q i = some u := by
  unfold MH.new MH.at
  by_cases e : q = r
  · subst e
    rw [MH.put_same, List.getElem?_append]
    split
    · rename_i hl
      constructor
      · exact .inr
      · rintro (⟨_, rfl, _⟩ | z)
        · omega
        · exact z
    · rename_i hl
      constructor
      · intro z
        by_cases e2 : i = (h q).length
        · subst e2; simp at z; exact .inl ⟨rfl, rfl, z.symm⟩
        · rw [List.getElem?_eq_none (by simp; omega)] at z; cases z
      · rintro (⟨_, rfl, rfl⟩ | z)
        · simp
        · rw [List.getElem?_eq_none (by omega)] at z; cases z
  · rw [MH.put_ne e]
    constructor
    · exact .inr
    · rintro (⟨z, _⟩ | z)
      · exact (e z).elim
      · exact z
theorem MH.upd_at {h : MH} {r j q i : Nat} {o u old : O} (hr : h.at r j = some old) : (h.upd r j o).at q i = some u ↔ (q = r ∧ i = j ∧ u = o) ∨ (¬ (q = r ∧ i = j) ∧ h.at q i = some u) := by
  unfold MH.upd MH.at
  have hj : j < (h r).length := (List.getElem?_eq_some_iff.mp hr).1
  by_cases e : q = r
  · subst e
    rw [MH.put_same]
    by_cases e2 : i = j
    · subst e2
      rw [List.getElem?_set_self hj]
      constructor
      · intro z; exact .inl ⟨rfl, rfl, (Option.some.inj z).symm⟩
      · rintro (⟨_, _, rfl⟩ | ⟨z, _⟩)
        · rfl
        · exact (z ⟨rfl, rfl⟩).elim
    · rw [List.getElem?_set_ne (Ne.symm e2)]
      constructor
      · intro z; exact .inr ⟨fun q => e2 q.2, z⟩
      · rintro (⟨_, z, _⟩ | ⟨_, z⟩)
        · exact (e2 z).elim
        · exact z
  · rw [MH.put_ne e]
    constructor
    · intro z; exact .inr ⟨fun q => e q.1, z⟩
    · rintro (⟨z, _⟩ | ⟨_, z⟩)
      · exact (e z).elim
      · exact z

/-! ### worlds -/
/-- what is fixed: the fragment, the classes' addresses -/
structure Cb where
  K : PySem.W.Frag
  /-- classes: the name, the address, whether instances of it are made, their attributes -/
  tb : List (String × Addr × Bool × List String)
  /-- exceptions' classes -/
  xt : List (String × Addr)
def Cb.xc (G : Cb) (c : String) : Option Addr := G.xt.lookup c
def Cb.cl (G : Cb) (c : String) : Option Addr := (G.tb.lookup c).map (·.1)
structure GOk (G : Cb) : Prop where
  cls : ∀ e ∈ G.tb, e.2.2.1 = true → Cls G.K e.2.1 ∧ ∀ f ∈ e.2.2.2, NoAttr G.K e.2.1 (Str.ofString f)
theorem look_mem {α β : Type} [BEq α] [LawfulBEq α] {k : α} {v : β} : ∀ {l : List (α × β)}, l.lookup k = some v → (k, v) ∈ l
  | [], h => by simp at h
  | (a, b) :: l, h => by
    by_cases e : k = a
    · subst e; simp [List.lookup] at h; subst h; exact List.mem_cons_self
    · have e' : (k == a) = false := by simpa using e
      simp only [List.lookup, e'] at h
      exact List.mem_cons_of_mem _ (look_mem h)
theorem GOk.at {G : Cb} (k : GOk G) {c : String} {C : Addr} {fl : List String} (h : G.tb.lookup c = some (C, true, fl)) : Cls G.K C ∧ ∀ f ∈ fl, NoAttr G.K C (Str.ofString f) := k.cls _ (look_mem h) rfl
theorem S_inj {a b : String} : Str.ofString a = Str.ofString b ↔ a = b := by
  constructor
  · intro h
    rw [Str.ofString_eq_toList, Str.ofString_eq_toList] at h
    have h1 := congrArg Str.cps h
    have h2 : (a.toList.map Char.toNat).toArray = (b.toList.map Char.toNat).toArray := h1
    have h3 : a.toList.map Char.toNat = b.toList.map Char.toNat := by simpa using h2
    have inj : Function.Injective Char.toNat := fun x y e => Char.toNat_inj.mp e
    have h4 := List.map_inj_right (f := Char.toNat) (fun x y e => inj e) |>.mp h3
    exact String.toList_inj.mp h4
  · intro h; rw [h]
/-- where the regions' objects are; in the row none: what is reserved -/
structure Wd where
  ρ : Option Nat → Nat → Option Addr
  H : Hp
def Wd.Fz (w : Wd) (p : Addr) : Prop := ∀ r i, w.ρ r i ≠ some p
structure Le0 (w w' : Wd) : Prop where
  up : ∀ r i p, w.ρ (some r) i = some p → w'.ρ (some r) i = some p
  kp : ∀ p o, w.H p = some o → w.Fz p → w'.H p = some o ∧ w'.Fz p
structure Le (w w' : Wd) : Prop extends Le0 w w' where
  rs : ∀ i, w'.ρ none i = w.ρ none i ∧ ∀ p, w.ρ none i = some p → w'.H p = w.H p
theorem Le0.refl {w : Wd} : Le0 w w := ⟨fun _ _ _ h => h, fun _ _ h f => ⟨h, f⟩⟩
theorem Le0.trans {a b c : Wd} (x : Le0 a b) (y : Le0 b c) : Le0 a c := ⟨fun r i p h => y.up r i p (x.up r i p h), fun p o h f => let ⟨h1, f1⟩ := x.kp p o h f; y.kp p o h1 f1⟩
theorem Le.refl {w : Wd} : Le w w := ⟨Le0.refl, fun _ => ⟨rfl, fun _ _ => rfl⟩⟩
theorem Le.trans {a b c : Wd} (x : Le a b) (y : Le b c) : Le a c := ⟨x.toLe0.trans y.toLe0, fun i => ⟨(y.rs i).1.trans (x.rs i).1, fun p e => ((y.rs i).2 p ((x.rs i).1.trans e)).trans ((x.rs i).2 p e)⟩⟩
/-- read in a frozen thing -/
def FR (w : Wd) (p : Addr) (u : HO) : Prop := Rd w.H p u ∧ w.Fz p
theorem FR.le0 {w w' : Wd} {p : Addr} {u : HO} (f : FR w p u) (e : Le0 w w') : FR w' p u := by
  obtain ⟨r, z⟩ := f
  rcases r with r | ⟨o, r⟩
  · obtain ⟨a, b⟩ := e.kp _ _ r z; exact ⟨.inl a, b⟩
  · obtain ⟨a, b⟩ := e.kp _ _ r z; exact ⟨.inr ⟨o, a⟩, b⟩
theorem FR.le {w w' : Wd} {p : Addr} {u : HO} (f : FR w p u) (e : Le w w') : FR w' p u := f.le0 e.toLe0
/-- a written list, a written tuple of the module -/
def KT (K : PySem.W.Frag) (a : Addr) (xs : List V) : Prop := ∃ (o : Obj) (its : Array Value) (n : Nat), K.lookup a = some o ∧ o.cls = .type "tuple" ∧ o.data = .seq its n ∧ its.size ≤ sizeLine ∧ Vals xs its.toList
def KL (K : PySem.W.Frag) (a : Addr) (xs : List V) : Prop := ∃ (o : Obj) (its : Array Value) (n : Nat), K.lookup a = some o ∧ o.cls = .type "list" ∧ o.dict = none ∧ o.data = .seq its n ∧ its.size ≤ sizeLine ∧ Vals xs its.toList
section
variable (G : Cb)
mutual
inductive SV (w : Wd) : V → D → Prop
  | non : SV w .non .non
  | bl (b : Bool) : SV w (.bl b) (.bl b)
  | int (i : Int) : SV w (.int i) (.int i)
  | str (x : Str) : SV w (.str x) (.str x)
  | ty (n : String) : SV w (.ty n) (.ty n)
  | cls {c : String} {C : Addr} (h : G.cl c = some C) : SV w (.ref C) (.cls c)
  | ref {r i : Nat} {p : Addr} (h : w.ρ (some r) i = some p) : SV w (.ref p) (.ref r i)
  | tup {p : Addr} {vs : List V} {ds : List D} (h : FR w p (.tup vs)) (s : SVs w vs ds) : SV w (.ref p) (.tup ds)
  | lst {p : Addr} {vs : List V} {ds : List D} (h : w.H p = some (.lst vs)) (f : w.Fz p) (s : SVs w vs ds) : SV w (.ref p) (.lst ds)
  | rol {p : Addr} {vs : List V} {ds : List D} (h : FR w p (.lst vs)) (s : SVs w vs ds) : SV w (.ref p) (.rol ds)
  | ktup {p : Addr} {vs : List V} {ds : List D} (h : KT G.K p vs) (s : SVs w vs ds) : SV w (.ref p) (.tup ds)
  | klst {p : Addr} {vs : List V} {ds : List D} (h : KL G.K p vs) (s : SVs w vs ds) : SV w (.ref p) (.rol ds)
inductive SVs (w : Wd) : List V → List D → Prop
  | nil : SVs w [] []
  | cons {v : V} {d : D} {vs : List V} {ds : List D} (h : SV w v d) (t : SVs w vs ds) : SVs w (v :: vs) (d :: ds)
inductive SFs (w : Wd) : List (Str × V) → List (String × D) → Prop
  | nil : SFs w [] []
  | cons {f : String} {v : V} {d : D} {vs : List (Str × V)} {ds : List (String × D)} (h : SV w v d) (t : SFs w vs ds) : SFs w ((Str.ofString f, v) :: vs) ((f, d) :: ds)
end
end
section
variable {G : Cb} {w w' : Wd}
mutual
theorem SV.le0 (e : Le0 w w') : ∀ {v : V} {d : D}, SV G w v d → SV G w' v d
  | _, _, .non => .non
  | _, _, .bl b => .bl b
  | _, _, .int i => .int i
  | _, _, .str x => .str x
  | _, _, .ty n => .ty n
  | _, _, .cls h => .cls h
  | _, _, .ref h => .ref (e.up _ _ _ h)
  | _, _, .tup h s => .tup (h.le0 e) (SVs.le0 e s)
  | _, _, .lst h f s => .lst (e.kp _ _ h f).1 (e.kp _ _ h f).2 (SVs.le0 e s)
  | _, _, .rol h s => .rol (h.le0 e) (SVs.le0 e s)
  | _, _, .ktup h s => .ktup h (SVs.le0 e s)
  | _, _, .klst h s => .klst h (SVs.le0 e s)
theorem SVs.le0 (e : Le0 w w') : ∀ {vs : List V} {ds : List D}, SVs G w vs ds → SVs G w' vs ds
  | _, _, .nil => .nil
  | _, _, .cons h t => .cons (SV.le0 e h) (SVs.le0 e t)
theorem SFs.le0 (e : Le0 w w') : ∀ {vs : List (Str × V)} {ds : List (String × D)}, SFs G w vs ds → SFs G w' vs ds
  | _, _, .nil => .nil
  | _, _, .cons h t => .cons (SV.le0 e h) (SFs.le0 e t)
end
theorem SV.le {v : V} {d : D} (s : SV G w v d) (e : Le w w') : SV G w' v d := SV.le0 e.toLe0 s
theorem SVs.le {v : List V} {d : List D} (s : SVs G w v d) (e : Le w w') : SVs G w' v d := SVs.le0 e.toLe0 s
theorem SFs.le {v : List (Str × V)} {d : List (String × D)} (s : SFs G w v d) (e : Le w w') : SFs G w' v d := SFs.le0 e.toLe0 s
theorem SVs.length : ∀ {vs : List V} {ds : List D}, SVs G w vs ds → vs.length = ds.length
  | _, _, .nil => rfl
  | _, _, .cons _ t => by simp [SVs.length t]
theorem SVs.get : ∀ {vs : List V} {ds : List D}, SVs G w vs ds → ∀ (i : Nat) (d : D), ds[i]? = some d → ∃ v, vs[i]? = some v ∧ SV G w v d
  | _, _, .nil, _, _, e => by simp at e
  | _, _, .cons h t, 0, _, e => by simp at e; subst e; exact ⟨_, rfl, h⟩
  | _, _, .cons h t, i + 1, d, e => by
    obtain ⟨v, q, s⟩ := SVs.get t i d (by simpa using e)
    exact ⟨v, by simpa using q, s⟩
theorem SVs.getV : ∀ {vs : List V} {ds : List D}, SVs G w vs ds → ∀ (i : Nat) (v : V), vs[i]? = some v → ∃ d, ds[i]? = some d ∧ SV G w v d
  | _, _, .nil, _, _, e => by simp at e
  | _, _, .cons h t, 0, _, e => by simp at e; subst e; exact ⟨_, rfl, h⟩
  | _, _, .cons h t, i + 1, d, e => by
    obtain ⟨v, q, s⟩ := SVs.getV t i d (by simpa using e)
    exact ⟨v, by simpa using q, s⟩
theorem SVs.set {v : V} {d : D} (s : SV G w v d) : ∀ {vs : List V} {ds : List D} (i : Nat), SVs G w vs ds → SVs G w (vs.set i v) (ds.set i d)
  | _, _, _, .nil => .nil
  | _, _, 0, .cons _ t => .cons s t
  | _, _, i + 1, .cons q t => .cons q (SVs.set s i t)
theorem SVs.append : ∀ {vs us : List V} {ds es : List D}, SVs G w vs ds → SVs G w us es → SVs G w (vs ++ us) (ds ++ es)
  | _, _, _, _, .nil, s => s
  | _, _, _, _, .cons r t, s => .cons r (SVs.append t s)
theorem SVs.take : ∀ {vs : List V} {ds : List D} (n : Nat), SVs G w vs ds → SVs G w (vs.take n) (ds.take n)
  | _, _, 0, _ => .nil
  | _, _, _ + 1, .nil => .nil
  | _, _, n + 1, .cons r t => .cons r (SVs.take n t)
theorem SVs.drop : ∀ {vs : List V} {ds : List D} (n : Nat), SVs G w vs ds → SVs G w (vs.drop n) (ds.drop n)
  | _, _, 0, s => s
  | _, _, _ + 1, .nil => .nil
  | _, _, n + 1, .cons _ t => SVs.drop n t
theorem SFs.lookup : ∀ {vs : List (Str × V)} {ds : List (String × D)} {f : String} {d : D}, SFs G w vs ds → ds.lookup f = some d → ∃ v, vs.lookup (Str.ofString f) = some v ∧ SV G w v d
  | _, _, _, _, .nil, e => by simp at e
  | _, _, f, d, .cons (f := g) h t, e => by
    by_cases q : f = g
    · subst q; simp [List.lookup] at e ⊢; subst e; exact h
    · have q' : (f == g) = false := by simpa using q
      have q2 : (Str.ofString f == Str.ofString g) = false := by
        rw [beq_eq_false_iff_ne]; exact fun z => q (S_inj.mp z)
      simp only [List.lookup, q', q2] at e ⊢
      exact SFs.lookup t e
theorem SFs.lookup_none : ∀ {vs : List (Str × V)} {ds : List (String × D)} {f : String}, SFs G w vs ds → ds.lookup f = none → vs.lookup (Str.ofString f) = none
  | _, _, _, .nil, _ => rfl
  | _, _, f, .cons (f := g) h t, e => by
    by_cases q : f = g
    · subst q; simp [List.lookup] at e
    · have q' : (f == g) = false := by simpa using q
      have q2 : (Str.ofString f == Str.ofString g) = false := by
        rw [beq_eq_false_iff_ne]; exact fun z => q (S_inj.mp z)
      simp only [List.lookup, q', q2] at e ⊢
      exact SFs.lookup_none t e
theorem SFs.length : ∀ {vs : List (Str × V)} {ds : List (String × D)}, SFs G w vs ds → vs.length = ds.length
  | _, _, .nil => rfl
  | _, _, .cons _ t => by simp [SFs.length t]
end
/-- a field put -/
def putD (f : String) (v : D) : List (String × D) → List (String × D)
  | [] => [(f, v)]
  | (g, x) :: r => if g = f then (g, v) :: r else (g, x) :: putD f v r
theorem putD_mem {f : String} {d : D} {fl : List String} (hf : f ∈ fl) : ∀ {ds : List (String × D)}, (∀ g x, (g, x) ∈ ds → g ∈ fl) → ∀ g x, (g, x) ∈ putD f d ds → g ∈ fl
  | [], _, g, x, e => by simp [putD] at e; rw [e.1]; exact hf
  | (g', x') :: ds, k, g, x, e => by
    unfold putD at e
    split at e
    · rcases List.mem_cons.mp e with e | e
      · cases e; exact k _ _ List.mem_cons_self
      · exact k _ _ (List.mem_cons_of_mem _ e)
    · rcases List.mem_cons.mp e with e | e
      · cases e; exact k _ _ List.mem_cons_self
      · exact putD_mem hf (fun g x q => k g x (List.mem_cons_of_mem _ q)) g x e
theorem SFs.put {G : Cb} {w : Wd} {f : String} {v : V} {d : D} (s : SV G w v d) : ∀ {vs : List (Str × V)} {ds : List (String × D)}, SFs G w vs ds → SFs G w (putF (Str.ofString f) v vs) (putD f d ds)
  | _, _, .nil => .cons s .nil
  | _, _, .cons (f := g) h t => by
    unfold putF putD
    by_cases q : g = f
    · subst q; rw [if_pos rfl, if_pos rfl]; exact .cons s t
    · rw [if_neg q, if_neg (fun z => q (S_inj.mp z))]; exact .cons h (SFs.put s t)

/-! ### objects, the heap, the slots -/
/-- a caught exception that is kept, at a: its class, its dict -/
def ExK (cls : Value) (d : Option Addr) (a : Addr) : HO := .ext fun h => ∃ oe : Obj, h.get? a = some oe ∧ Zc cls d oe ∧ ∃ vs, oe.data = .fields vs
section
variable (G : Cb)
inductive SKs (w : Wd) : List (Key × V) → List (Key × D) → Prop
  | nil : SKs w [] []
  | cons {k : Key} {v : V} {d : D} {vs : List (Key × V)} {ds : List (Key × D)} (h : SV G w v d) (t : SKs w vs ds) : SKs w ((k, v) :: vs) ((k, d) :: ds)
inductive STs (w : Wd) : List (List Key × V) → List (List Key × D) → Prop
  | nil : STs w [] []
  | cons {k : List Key} {v : V} {d : D} {vs : List (List Key × V)} {ds : List (List Key × D)} (h : SV G w v d) (t : STs w vs ds) : STs w ((k, v) :: vs) ((k, d) :: ds)
inductive SO (w : Wd) (p : Addr) : O → Prop
  | lst {vs : List V} {ds : List D} (h : w.H p = some (.lst vs)) (s : SVs G w vs ds) : SO w p (.lst ds)
  | ins {C dx : Addr} {c : String} {fs' : List (Str × V)} {fs : List (String × D)} {fl : List String} (h : w.H p = some (.ins C dx fs')) (hc : G.tb.lookup c = some (C, true, fl)) (hf : ∀ f d, (f, d) ∈ fs → f ∈ fl) (s : SFs G w fs' fs) : SO w p (.ins c fs)
  | dct {vs : List (Key × V)} {ds : List (Key × D)} (h : w.H p = some (.dK vs)) (s : SKs G w vs ds) : SO w p (.dct ds)
  | dtt {vs : List (List Key × V)} {ds : List (List Key × D)} (h : w.H p = some (.dT vs)) (s : STs G w vs ds) : SO w p (.dtt ds)
  | exn {c : String} {C : Addr} {dx : Option Addr} {fs : List (String × D)} (h : w.H p = some (ExK (.ref C) dx p)) (hc : G.xc c = some C) (x : (dx = none ∧ fs = []) ∨ ∃ a fs', dx = some a ∧ (w.H a = some (.xd fs') ∧ w.Fz a) ∧ fs ≠ [] ∧ SFs G w fs' fs) : SO w p (.exn c fs)
  | dcf {od : Obj} {vs : List (Key × V)} {ds : List (Key × D)} (h : w.H p = some (.frz od (.dK vs))) (s : SKs G w vs ds) : SO w p (.dcf ds od vs)
end
/-- what stays true of the world besides; the slot that holds a caught exception -/
structure Gb extends Cb where
  inv : Wd → Prop
  invle : ∀ w w', Le0 w w' → inv w → inv w'
  cau : Option (Nat × Addr)
instance : Coe Gb Cb := ⟨Gb.toCb⟩
def Gb.fr (G : Gb) (i : Nat) : Bool := match G.cau with | none => true | some (j, _) => i != j
structure SH (G : Gb) (w : Wd) (h : MH) : Prop where
  inj : ∀ r i q j p, w.ρ r i = some p → w.ρ q j = some p → r = q ∧ i = j
  dom : ∀ r i p, w.ρ (some r) i = some p → ∃ o, h.at r i = some o
  obj : ∀ r i o, h.at r i = some o → ∃ p, w.ρ (some r) i = some p ∧ SO G w p o
  rsv : ∀ i p, w.ρ none i = some p → ∃ o, w.H p = some o
  rsf : ∃ k, ∀ j, k ≤ j → w.ρ none j = none
  iv : G.inv w
def SS (G : Gb) (w : Wd) (σ : L2.St) (s : List (Option D)) : Prop := σ.length = s.length ∧ (∀ (i : Nat) (d : D), s[i]? = some (some d) → ∃ v, σ[i]? = some (some v) ∧ SV G w v d) ∧ ∀ i a, G.cau = some (i, a) → σ[i]? = some (some (.ref a))
section
variable {G : Cb} {w w' : Wd} {h : MH}
theorem SKs.le0 (e : Le0 w w') : ∀ {vs : List (Key × V)} {ds : List (Key × D)}, SKs G w vs ds → SKs G w' vs ds
  | _, _, .nil => .nil
  | _, _, .cons h t => .cons (SV.le0 e h) (SKs.le0 e t)
theorem STs.le0 (e : Le0 w w') : ∀ {vs : List (List Key × V)} {ds : List (List Key × D)}, STs G w vs ds → STs G w' vs ds
  | _, _, .nil => .nil
  | _, _, .cons h t => .cons (SV.le0 e h) (STs.le0 e t)
theorem SO.le0 {p : Addr} {o : O} (e : Le0 w w') (k : w'.H p = w.H p) : SO G w p o → SO G w' p o
  | .lst h s => .lst (k.trans h) (SVs.le0 e s)
  | .ins h hc hf s => .ins (k.trans h) hc hf (SFs.le0 e s)
  | .dct h s => .dct (k.trans h) (SKs.le0 e s)
  | .dtt h s => .dtt (k.trans h) (STs.le0 e s)
  | .exn h c x => .exn (k.trans h) c (x.imp id fun ⟨a, fs', q, f, n, s⟩ => ⟨a, fs', q, e.kp _ _ f.1 f.2, n, SFs.le0 e s⟩)
  | .dcf h s => .dcf (k.trans h) (SKs.le0 e s)
theorem SO.le {p : Addr} {o : O} (e : Le w w') (k : w'.H p = w.H p) : SO G w p o → SO G w' p o := SO.le0 e.toLe0 k
theorem SO.there {p : Addr} {o : O} : SO G w p o → ∃ u, w.H p = some u
  | .lst h _ => ⟨_, h⟩
  | .ins h _ _ _ => ⟨_, h⟩
  | .dct h _ => ⟨_, h⟩
  | .dtt h _ => ⟨_, h⟩
  | .exn h _ _ => ⟨_, h⟩
  | .dcf h _ => ⟨_, h⟩
end
section
variable {G : Gb} {w w' : Wd} {h : MH}
theorem SH.there (s : SH G w h) {r i : Nat} {p : Addr} (e : w.ρ (some r) i = some p) : ∃ o, h.at r i = some o ∧ SO G w p o := by
  obtain ⟨o, q⟩ := s.dom r i p e
  obtain ⟨p', e', so⟩ := s.obj r i o q
  rw [e] at e'; cases e'
  exact ⟨o, q, so⟩
theorem SH.look (s : SH G w h) {r i : Nat} {p : Addr} {o : O} (e : w.ρ (some r) i = some p) (q : h.at r i = some o) : SO G w p o := by
  obtain ⟨p', e', so⟩ := s.obj r i o q
  rw [e] at e'; cases e'
  exact so
/-- a place that is free is in no region -/
theorem SH.fresh (s : SH G w h) {p : Addr} (n : w.H p = none) : w.Fz p := fun r i e => by
  cases r with
  | some r =>
    obtain ⟨o, _, so⟩ := s.there e
    obtain ⟨u, q⟩ := so.there
    rw [n] at q; cases q
  | none =>
    obtain ⟨u, q⟩ := s.rsv i p e
    rw [n] at q; cases q
theorem SS.le0 {σ : L2.St} {s : List (Option D)} (x : SS G w σ s) (e : Le0 w w') : SS G w' σ s := ⟨x.1, fun i d q => let ⟨v, a, b⟩ := x.2.1 i d q; ⟨v, a, SV.le0 e b⟩, x.2.2⟩
theorem SS.le {σ : L2.St} {s : List (Option D)} (x : SS G w σ s) (e : Le w w') : SS G w' σ s := x.le0 e.toLe0
theorem Gb.fr_ne {i j : Nat} {a : Addr} (h : G.fr i = true) (c : G.cau = some (j, a)) : i ≠ j := by
  unfold Gb.fr at h; rw [c] at h; simpa using h
theorem SS.put {σ : L2.St} {s : List (Option D)} (x : SS G w σ s) (i : Nat) (o : Option V) (e : Option D) (hoe : ∀ d, e = some d → ∃ v, o = some v ∧ SV G w v d) (hfr : G.fr i = true) : SS G w (σ.set i o) (s.set i e) := by
  refine ⟨by simp [x.1], fun j d h => ?_, fun j a c => ?_⟩
  · by_cases hj : j = i
    · subst hj
      have hl : j < s.length := by
        have := (List.getElem?_eq_some_iff.mp h).1; simpa using this
      rw [List.getElem?_set_self hl] at h
      have h' : e = some d := Option.some.inj h
      obtain ⟨v, rfl, q⟩ := hoe d h'
      exact ⟨v, by rw [List.getElem?_set_self (by rw [x.1]; exact hl)], q⟩
    · rw [List.getElem?_set_ne (Ne.symm hj)] at h
      obtain ⟨u, a, b⟩ := x.2.1 j d h
      exact ⟨u, by rw [List.getElem?_set_ne (Ne.symm hj)]; exact a, b⟩
  · rw [List.getElem?_set_ne (Gb.fr_ne hfr c)]; exact x.2.2 j a c
theorem SS.set {σ : L2.St} {s : List (Option D)} {v : V} {d : D} (x : SS G w σ s) (q : SV G w v d) (i : Nat) (hfr : G.fr i = true) : SS G w (σ.set i (some v)) (s.set i (some d)) := x.put i _ _ (fun d' e => by cases e; exact ⟨v, rfl, q⟩) hfr
theorem SS.wipe {σ : L2.St} {s : List (Option D)} (x : SS G w σ s) (i : Nat) (hfr : G.fr i = true) : SS G w (σ.set i none) (s.set i none) := x.put i _ _ (fun d' e => by cases e) hfr

/-- a frozen thing is laid -/
theorem Wd.lay (s : SH G w h) {p : Addr} {u : HO} (n : w.H p = none) : Le w ⟨w.ρ, L2.upd w.H p u⟩ ∧ SH G ⟨w.ρ, L2.upd w.H p u⟩ h ∧ Wd.Fz ⟨w.ρ, L2.upd w.H p u⟩ p := by
  have fz := s.fresh n
  have le : Le w ⟨w.ρ, L2.upd w.H p u⟩ := ⟨⟨fun _ _ _ e => e, fun q o e f => ⟨by show L2.upd w.H p u q = _; rw [upd_ne (ne_of_none e n)]; exact e, f⟩⟩, fun i => ⟨rfl, fun q e => upd_ne (fun z => fz none i (by rw [← z]; exact e))⟩⟩
  refine ⟨le, ⟨s.inj, s.dom, fun r i o e => ?_, fun i q e => ?_, s.rsf, G.invle _ _ le.toLe0 s.iv⟩, fz⟩
  · obtain ⟨q, a, b⟩ := s.obj r i o e
    obtain ⟨v, c⟩ := b.there
    exact ⟨q, a, b.le le (by show L2.upd w.H p u q = _; rw [upd_ne (ne_of_none c n)])⟩
  · obtain ⟨o, c⟩ := s.rsv i q e
    exact ⟨o, by show L2.upd w.H p u q = _; rw [upd_ne (ne_of_none c n)]; exact c⟩
/-- a new object of a region; a reserved one -/
def ext (ρ : Option Nat → Nat → Option Addr) (r : Option Nat) (i : Nat) (p : Addr) : Option Nat → Nat → Option Addr := fun q j => if q = r ∧ j = i then some p else ρ q j
theorem ext_ne {ρ : Option Nat → Nat → Option Addr} {r q : Option Nat} {i j : Nat} {p : Addr} (n : ¬ (q = r ∧ j = i)) : ext ρ r i p q j = ρ q j := by unfold ext; rw [if_neg n]
theorem ext_none {ρ : Option Nat → Nat → Option Addr} {r i j : Nat} {p : Addr} : ext ρ (some r) i p none j = ρ none j := ext_ne (by rintro ⟨z, _⟩; cases z)
theorem ext_at {ρ : Option Nat → Nat → Option Addr} {r : Option Nat} {i : Nat} {p : Addr} : ext ρ r i p r i = some p := by unfold ext; rw [if_pos ⟨rfl, rfl⟩]
theorem ext_inj {ρ : Option Nat → Nat → Option Addr} {r : Option Nat} {i : Nat} {p : Addr} (s : ∀ r i q j p, ρ r i = some p → ρ q j = some p → r = q ∧ i = j) (fz : ∀ r i, ρ r i ≠ some p) :
    ∀ a j q k x, ext ρ r i p a j = some x → ext ρ r i p q k = some x → a = q ∧ j = k := fun a j q k x e1 e2 => by
  by_cases t1 : a = r ∧ j = i
  · by_cases t2 : q = r ∧ k = i
    · exact ⟨t1.1.trans t2.1.symm, t1.2.trans t2.2.symm⟩
    · rw [ext_ne t2] at e2
      rw [t1.1, t1.2, ext_at] at e1; cases e1; exact (fz _ _ e2).elim
  · rw [ext_ne t1] at e1
    by_cases t2 : q = r ∧ k = i
    · rw [t2.1, t2.2, ext_at] at e2; cases e2; exact (fz _ _ e1).elim
    · rw [ext_ne t2] at e2; exact s _ _ _ _ _ e1 e2
theorem ext_fz {w : Wd} {r : Option Nat} {i : Nat} {p q : Addr} {H' : Hp} (f : w.Fz q) (n : q ≠ p) : Wd.Fz ⟨ext w.ρ r i p, H'⟩ q := fun a b c => by
  have c : ext w.ρ r i p a b = some q := c
  by_cases t : a = r ∧ b = i
  · rw [t.1, t.2, ext_at] at c; cases c; exact n rfl
  · rw [ext_ne t] at c; exact f _ _ c
theorem Wd.make (s : SH G w h) (r : Nat) {p : Addr} {u : HO} {o : O} (n : w.H p = none) (so : Le w ⟨ext w.ρ (some r) (h r).length p, L2.upd w.H p u⟩ → SO G ⟨ext w.ρ (some r) (h r).length p, L2.upd w.H p u⟩ p o) :
    Le w ⟨ext w.ρ (some r) (h r).length p, L2.upd w.H p u⟩ ∧ SH G ⟨ext w.ρ (some r) (h r).length p, L2.upd w.H p u⟩ (h.new r o) := by
  have fz := s.fresh n
  have no : ∀ x, w.ρ (some r) (h r).length ≠ some x := fun x e => by
    obtain ⟨o, q⟩ := s.dom _ _ _ e
    unfold MH.at at q; rw [List.getElem?_eq_none (Nat.le_refl _)] at q; cases q
  have le : Le w ⟨ext w.ρ (some r) (h r).length p, L2.upd w.H p u⟩ := by
    refine ⟨⟨fun q j x e => ?_, fun q o e f => ⟨by show L2.upd w.H p u q = _; rw [upd_ne (ne_of_none e n)]; exact e, ext_fz f (ne_of_none e n)⟩⟩, fun i => ⟨by show ext w.ρ (some r) (h r).length p none i = _; exact ext_none, fun q e => upd_ne (fun z => fz none i (by rw [← z]; exact e))⟩⟩
    show ext w.ρ (some r) (h r).length p (some q) j = _
    rw [ext_ne]; exact e
    rintro ⟨z, rfl⟩; cases z; exact no _ e
  refine ⟨le, ⟨ext_inj s.inj fz, fun a i x e => ?_, fun a i x e => ?_, fun i q e => ?_, s.rsf.imp fun k hk j hj => by show ext w.ρ (some r) (h r).length p none j = _; rw [ext_none]; exact hk j hj, G.invle _ _ le.toLe0 s.iv⟩⟩
  · have e : ext w.ρ (some r) (h r).length p (some a) i = some x := e
    by_cases t : some a = some r ∧ i = (h r).length
    · obtain ⟨z, rfl⟩ := t; cases z; exact ⟨o, MH.new_at.mpr (.inl ⟨rfl, rfl, rfl⟩)⟩
    · rw [ext_ne t] at e
      obtain ⟨o', q⟩ := s.dom _ _ _ e
      exact ⟨o', MH.new_at.mpr (.inr q)⟩
  · rcases MH.new_at.mp e with ⟨rfl, rfl, rfl⟩ | e
    · exact ⟨p, ext_at, so le⟩
    · obtain ⟨q, a1, b⟩ := s.obj _ _ _ e
      obtain ⟨v, c⟩ := b.there
      refine ⟨q, le.up _ _ _ a1, b.le le (by show L2.upd w.H p u q = _; rw [upd_ne (ne_of_none c n)])⟩
  · have e : ext w.ρ (some r) (h r).length p none i = some q := e
    rw [ext_none] at e
    obtain ⟨o, c⟩ := s.rsv i q e
    exact ⟨o, by show L2.upd w.H p u q = _; rw [upd_ne (ne_of_none c n)]; exact c⟩
/-- an object changes -/
theorem Wd.change (s : SH G w h) {r i : Nat} {p : Addr} {u : HO} {o old : O} (e : w.ρ (some r) i = some p) (ho : h.at r i = some old) (so : Le w ⟨w.ρ, L2.upd w.H p u⟩ → SO G ⟨w.ρ, L2.upd w.H p u⟩ p o) :
    Le w ⟨w.ρ, L2.upd w.H p u⟩ ∧ SH G ⟨w.ρ, L2.upd w.H p u⟩ (h.upd r i o) := by
  have nr : ∀ j q, w.ρ none j = some q → q ≠ p := fun j q c z => by
    have := s.inj _ _ _ _ _ c (by rw [z]; exact e); cases this.1
  have le : Le w ⟨w.ρ, L2.upd w.H p u⟩ := ⟨⟨fun _ _ _ e => e, fun q o e' f => ⟨by show L2.upd w.H p u q = _; rw [upd_ne (fun z => f (some r) i (by rw [z]; exact e))]; exact e', f⟩⟩, fun j => ⟨rfl, fun q c => upd_ne (nr j q c)⟩⟩
  refine ⟨le, ⟨s.inj, fun a j x q => ?_, fun a j x q => ?_, fun j q c => ?_, s.rsf, G.invle _ _ le.toLe0 s.iv⟩⟩
  · obtain ⟨o', q'⟩ := s.dom a j x q
    by_cases t : a = r ∧ j = i
    · exact ⟨o, (MH.upd_at ho).mpr (.inl ⟨t.1, t.2, rfl⟩)⟩
    · exact ⟨o', (MH.upd_at ho).mpr (.inr ⟨t, q'⟩)⟩
  · rcases (MH.upd_at ho).mp q with ⟨rfl, rfl, rfl⟩ | ⟨t, q⟩
    · exact ⟨p, e, so le⟩
    · obtain ⟨y, a1, b⟩ := s.obj _ _ _ q
      refine ⟨y, a1, b.le le (by show L2.upd w.H p u y = _; rw [upd_ne (fun z => t (by have := s.inj _ _ _ _ _ a1 (by rw [z]; exact e); exact ⟨Option.some.inj this.1, this.2⟩))])⟩
  · obtain ⟨o', c'⟩ := s.rsv j q c
    exact ⟨o', by show L2.upd w.H p u q = _; rw [upd_ne (nr j q c)]; exact c'⟩
end
end M

set_option Elab.async false
set_option linter.all false
set_option maxRecDepth 100000
namespace M
open PySem PySem.Spec PyProof.Rows L2
/-! ### what is wished, in the model -/
abbrev MSt := List (Option D)
abbrev MK := D → MH → Prop
abbrev MX := String → List (String × D) → MH → Prop
abbrev ME := MSt → MH → MX → MK → Prop
abbrev MT := MSt → MH → MX → (Bool → MH → Prop) → Prop
abbrev MA := MSt → MH → MX → (List D → MH → Prop) → Prop
structure MEnds where
  nx : MSt → MH → Prop
  rt : MK
  bk : MSt → MH → Prop
  ct : MSt → MH → Prop
  ex : MSt → MX
abbrev MS := MEnds → MSt → MH → Prop
/-- a def of the model -/
abbrev MDef := List D → MH → MX → MK → Prop
abbrev M2 := D → D → MH → MK → Prop
abbrev M1 := D → MH → MK → Prop
abbrev MC := List D → MH → MK → Prop
section
variable (G : Gb)
def LQ (w : Wd) (MQ : MK) (Q : VK) : Prop := ∀ w' h' d v, Le w w' → SH G w' h' → SV G w' v d → MQ d h' → Q v w'.H
def LB (w : Wd) (MQ : Bool → MH → Prop) (Q : Bool → Hp → Prop) : Prop := ∀ w' h' b, Le w w' → SH G w' h' → MQ b h' → Q b w'.H
def LA (w : Wd) (MQ : List D → MH → Prop) (Q : List V → Hp → Prop) : Prop := ∀ w' h' ds vs, Le w w' → SH G w' h' → SVs G w' vs ds → MQ ds h' → Q vs w'.H
def LN (w : Wd) (N' : MSt → MH → Prop) (N : L2.St → Hp → Prop) : Prop := ∀ w' h' s' σ', Le w w' → SH G w' h' → SS G w' σ' s' → N' s' h' → N σ' w'.H
/-- an exception's dict -/
def XD (w : Wd) (dx : Option Addr) (fs : List (String × D)) : Prop := (dx = none ∧ fs = []) ∨ ∃ a fs', dx = some a ∧ (w.H a = some (.xd fs') ∧ w.Fz a) ∧ fs ≠ [] ∧ SFs G w fs' fs
def LX (w : Wd) (X : MX) (E : XK) : Prop := ∀ w' h' c C dx fs, Le w w' → SH G w' h' → G.xc c = some C → XD G w' dx fs → X c fs h' → E (.ref C) dx w'.H
end
section
variable {G : Gb} {w w' : Wd}
theorem XD.le {dx : Option Addr} {fs : List (String × D)} (x : XD G w dx fs) (e : Le w w') : XD G w' dx fs := x.imp id fun ⟨a, fs', q, f, s⟩ => ⟨a, fs', q, e.kp _ _ f.1 f.2, s.1, s.2.le e⟩
theorem LQ.le {MQ : MK} {Q : VK} (x : LQ G w MQ Q) (e : Le w w') : LQ G w' MQ Q := fun w'' h' d v e' => x w'' h' d v (e.trans e')
theorem LB.le {MQ : Bool → MH → Prop} {Q : Bool → Hp → Prop} (x : LB G w MQ Q) (e : Le w w') : LB G w' MQ Q := fun w'' h' d e' => x w'' h' d (e.trans e')
theorem LA.le {MQ : List D → MH → Prop} {Q : List V → Hp → Prop} (x : LA G w MQ Q) (e : Le w w') : LA G w' MQ Q := fun w'' h' d v e' => x w'' h' d v (e.trans e')
theorem LN.le {N' : MSt → MH → Prop} {N : L2.St → Hp → Prop} (x : LN G w N' N) (e : Le w w') : LN G w' N' N := fun w'' h' d v e' => x w'' h' d v (e.trans e')
theorem LX.le {X : MX} {E : XK} (x : LX G w X E) (e : Le w w') : LX G w' X E := fun w'' h' c C dx fs e' => x w'' h' c C dx fs (e.trans e')
theorem LX.none : LX G w (fun _ _ _ => False) (fun _ _ _ => False) := fun _ _ _ _ _ _ _ _ _ _ q => q
end
/-- the ends of a statement -/
structure LD (G : Gb) (W : WX) (w : Wd) (M : MEnds) (N : Ends) : Prop where
  nx : LN G w M.nx N.nx
  rt : LQ G w M.rt N.rt
  bk : LN G w M.bk N.bk
  ct : LN G w M.ct N.ct
  ex : ∀ w' s' σ', Le w w' → SS G w' σ' s' → LX G w' (M.ex s') (WE W σ')
theorem LD.le {G : Gb} {W : WX} {w w' : Wd} {M : MEnds} {N : Ends} (x : LD G W w M N) (e : Le w w') : LD G W w' M N :=
  ⟨x.nx.le e, x.rt.le e, x.bk.le e, x.ct.le e, fun w'' s' σ' e' => x.ex w'' s' σ' (e.trans e')⟩
/-! ### readings that come from the model -/
section
variable (G : Gb) (W : WX)
def RE (m : ME) : TE := fun σ H Q => ∃ ρ s h X MQ, SS G ⟨ρ, H⟩ σ s ∧ SH G ⟨ρ, H⟩ h ∧ LX G ⟨ρ, H⟩ X (WE W σ) ∧ LQ G ⟨ρ, H⟩ MQ Q ∧ m s h X MQ
def RT (m : MT) : TT := fun σ H Q => ∃ ρ s h X MQ, SS G ⟨ρ, H⟩ σ s ∧ SH G ⟨ρ, H⟩ h ∧ LX G ⟨ρ, H⟩ X (WE W σ) ∧ LB G ⟨ρ, H⟩ MQ Q ∧ m s h X MQ
def RA (m : MA) : TA := fun σ H Q => ∃ ρ s h X MQ, SS G ⟨ρ, H⟩ σ s ∧ SH G ⟨ρ, H⟩ h ∧ LX G ⟨ρ, H⟩ X (WE W σ) ∧ LA G ⟨ρ, H⟩ MQ Q ∧ m s h X MQ
def RS (m : MS) : TS := fun N σ H => ∃ ρ s h M, SS G ⟨ρ, H⟩ σ s ∧ SH G ⟨ρ, H⟩ h ∧ LD G W ⟨ρ, H⟩ M N ∧ m M s h
end
section
variable (G : Gb)
def RO (o : M2) : R2 := fun x y H Q => ∃ ρ h d e MQ, SH G ⟨ρ, H⟩ h ∧ SV G ⟨ρ, H⟩ x d ∧ SV G ⟨ρ, H⟩ y e ∧ LQ G ⟨ρ, H⟩ MQ Q ∧ o d e h MQ
def RU (o : M1) : V → Hp → VK → Prop := fun x H Q => ∃ ρ h d MQ, SH G ⟨ρ, H⟩ h ∧ SV G ⟨ρ, H⟩ x d ∧ LQ G ⟨ρ, H⟩ MQ Q ∧ o d h MQ
def RC (o : MC) : List V → Hp → VK → Prop := fun xs H Q => ∃ ρ h ds MQ, SH G ⟨ρ, H⟩ h ∧ SVs G ⟨ρ, H⟩ xs ds ∧ LQ G ⟨ρ, H⟩ MQ Q ∧ o ds h MQ
/-- the promise of a def with n parameters -/
def SPm (n : Nat) (m : MDef) : Sp := fun vs H Q E => ∃ ρ h ds X MQ, SH G ⟨ρ, H⟩ h ∧ SVs G ⟨ρ, H⟩ vs ds ∧ LX G ⟨ρ, H⟩ X E ∧ LQ G ⟨ρ, H⟩ MQ Q ∧ ds.length = n ∧ m ds h X MQ
theorem SPm.len {n : Nat} {m : MDef} {vs : List V} {H : Hp} {Q : VK} {E : XK} (h : SPm G n m vs H Q E) : vs.length = n := by
  obtain ⟨_, _, _, _, _, _, s, _, _, l, _⟩ := h; rw [s.length, l]
end
section
variable {X : Cx} {t t' : TE} {u u' : TT} {ta ta' : TA} {ts ts' : TS} {e : Expr} {es : List Expr} {st : Stmt} {sts : List Stmt}
theorem peI (h : PE X e t) (k : ∀ σ H Q, t' σ H Q → t σ H Q) : PE X e t' := ⟨fun pins s σ H Q I q => h.run pins s σ H Q I (k _ _ _ q)⟩
theorem ptI (h : PT X e u) (k : ∀ σ H Q, u' σ H Q → u σ H Q) : PT X e u' := ⟨fun pins s σ H Q I q => h.run pins s σ H Q I (k _ _ _ q)⟩
theorem pwI (h : PW X e u) (k : ∀ σ H Q, u' σ H Q → u σ H Q) : PW X e u' := ⟨fun wh pins s σ H Q I q => h.run wh pins s σ H Q I (k _ _ _ q)⟩
theorem paI (h : PA X es ta) (k : ∀ σ H Q, ta' σ H Q → ta σ H Q) : PA X es ta' := ⟨fun pos pins s σ H Q I q => h.run pos pins s σ H Q I (k _ _ _ q)⟩
theorem psI (h : PS X st ts) (k : ∀ N σ H, ts' N σ H → ts N σ H) : PS X st ts' := ⟨fun pins s σ H N I q => h.run pins s σ H N I (k _ _ _ q)⟩
theorem pssI (h : PSs X sts ts) (k : ∀ N σ H, ts' N σ H → ts N σ H) : PSs X sts ts' := ⟨fun pins s σ H N I q => h.run pins s σ H N I (k _ _ _ q)⟩
end
/-! ### expressions -/
def mVar (i : Nat) : ME := fun s h _ Q => match s[i]? with | some (some d) => Q d h | _ => False
def mC (d : D) : ME := fun _ h _ Q => Q d h
def mOp (o : M2) (a b : ME) : ME := fun s h X Q => a s h X fun x h1 => b s h1 X fun y h2 => o x y h2 Q
def mUn (o : M1) (a : ME) : ME := fun s h X Q => a s h X fun x h1 => o x h1 Q
def mNil : MA := fun _ h _ Q => Q [] h
def mCons (a : ME) (r : MA) : MA := fun s h X Q => a s h X fun x h1 => r s h1 X fun xs h2 => Q (x :: xs) h2
def mCB (o : MC) (a : MA) : ME := fun s h X Q => a s h X fun xs h1 => o xs h1 Q
def mCall (m : MDef) (a : MA) : ME := fun s h X Q => a s h X fun xs h1 => m xs h1 X Q
/-- a value as a truth -/
def isB : D → (Bool → Prop) → Prop
  | .bl b, k => k b
  | _, _ => False
def mB (a : ME) : MT := fun s h X Q => a s h X fun x h1 => isB x fun b => Q b h1
def mAnd (a b : MT) : MT := fun s h X Q => a s h X fun c h1 => if c = true then b s h1 X Q else Q false h1
def mOr (a b : MT) : MT := fun s h X Q => a s h X fun c h1 => if c = true then Q true h1 else b s h1 X Q
def mNot (a : MT) : MT := fun s h X Q => a s h X fun c h1 => Q (!c) h1
def mAndV (a b : ME) : ME := fun s h X Q => a s h X fun x h1 => isB x fun c => if c = true then b s h1 X Q else Q (.bl false) h1
def mOrV (a b : ME) : ME := fun s h X Q => a s h X fun x h1 => isB x fun c => if c = true then Q (.bl true) h1 else b s h1 X Q
def mNotV (a : ME) : ME := fun s h X Q => a s h X fun x h1 => isB x fun c => Q (.bl (!c)) h1
def mIf (t : MT) (a b : ME) : ME := fun s h X Q => t s h X fun c h1 => if c = true then a s h1 X Q else b s h1 X Q
def mChain (o p : M2) (a b c : ME) : ME := fun s h X Q => a s h X fun x h1 => b s h1 X fun y h2 => o x y h2 fun z h3 => isB z fun k => if k = true then c s h3 X fun u h4 => p y u h4 Q else Q (.bl false) h3
section
variable {X : Cx} {G : Gb} {W : WX} {a b c : Expr} {ma mb mc : ME} {tA tB : MT} {mr : MA} {pos : Pos} {rest : List Expr}
theorem m_var {i : Nat} {x : Str} (h : PE X (.Name x pos) (tVar i)) : PE X (.Name x pos) (RE G W (mVar i)) := peI h fun σ H Q ⟨ρ, s, h, X, MQ, ss, sh, _, lq, m⟩ => by
  unfold mVar at m
  split at m
  · rename_i d e
    obtain ⟨v, hv, sv⟩ := ss.2.1 i d e
    exact ⟨v, hv, lq _ _ _ _ Le.refl sh sv m⟩
  · exact m.elim
theorem m_c {d : D} {v : V} (h : PE X a (tC v)) (s : ∀ w, SV G w v d) : PE X a (RE G W (mC d)) := peI h fun σ H Q ⟨ρ, _, h, X, MQ, ss, sh, _, lq, m⟩ => lq _ _ _ _ Le.refl sh (s _) m
theorem m_int {i j} : PE X (.Constant (.int i) j pos) (RE G W (mC (.int i))) := m_c pe_int fun _ => .int i
theorem m_bl {i j} : PE X (.Constant (.bool i) j pos) (RE G W (mC (.bl i))) := m_c pe_bl fun _ => .bl i
theorem m_str {i j} : PE X (.Constant (.str i) j pos) (RE G W (mC (.str i))) := m_c pe_str fun _ => .str i
theorem m_non {j} : PE X (.Constant .none j pos) (RE G W (mC .non)) := m_c pe_non fun _ => .non
theorem bin_RO {ta tb : TE} {o : M2} {σ : L2.St} {H : Hp} {Q : VK} (ka : ∀ H Q, RE G W ma σ H Q → ta σ H Q) (kb : ∀ H Q, RE G W mb σ H Q → tb σ H Q) (h : RE G W (mOp o ma mb) σ H Q) : tOp (RO G o) ta tb σ H Q := by
  obtain ⟨ρ, s, h, X, MQ, ss, sh, lx, lq, m⟩ := h
  refine ka _ _ ⟨ρ, s, h, X, _, ss, sh, lx, fun w1 h1 d v e1 sh1 sv q => kb _ _ ?_, m⟩
  refine ⟨w1.ρ, s, h1, X, _, ss.le e1, sh1, lx.le e1, fun w2 h2 d2 v2 e2 sh2 sv2 q2 => ?_, q⟩
  exact ⟨w2.ρ, h2, d, d2, MQ, sh2, sv.le e2, sv2, lq.le (e1.trans e2), q2⟩
theorem m_op {op} {o : M2} (ho : OpR X (binaryOp op) (RO G o)) (ha : PE X a (RE G W ma)) (hb : PE X b (RE G W mb)) : PE X (.BinOp a op b pos) (RE G W (mOp o ma mb)) :=
  peI (pe_op ho ha hb) fun σ H Q h => bin_RO (fun _ _ q => q) (fun _ _ q => q) h
theorem m_cmp {op : CmpOp} {o : M2} (ho : OpR X (compareOp op) (RO G o)) (ha : PE X a (RE G W ma)) (hb : PE X b (RE G W mb)) (hm : behindInMarks op b = false) : PE X (.Compare a [op] [b] pos) (RE G W (mOp o ma mb)) :=
  peI (pe_cmpR ho ha hb hm) fun σ H Q h => bin_RO (fun _ _ q => q) (fun _ _ q => q) h
theorem m_un {op} {o : M1} (ho : UnR X (unaryOp op) (RU G o)) (ha : PE X a (RE G W ma)) : PE X (.UnaryOp op a pos) (RE G W (mUn o ma)) :=
  peI (pe_un ho ha) fun σ H Q ⟨ρ, s, h, X, MQ, ss, sh, lx, lq, m⟩ => ⟨ρ, s, h, X, _, ss, sh, lx, fun w1 h1 d v e1 sh1 sv q => ⟨w1.ρ, h1, d, MQ, sh1, sv, lq.le e1, q⟩, m⟩
theorem isB_is {x : D} {k : Bool → Prop} (h : isB x k) : ∃ b, x = .bl b ∧ k b := by
  cases x <;> first | exact ⟨_, rfl, h⟩ | exact h.elim
theorem SV.isB {w : Wd} {v : V} {b : Bool} (s : SV G w v (.bl b)) : v = .bl b := by cases s; rfl
theorem RE_B {σ : L2.St} {H : Hp} {Q : Bool → Hp → Prop} (h : RT G W (mB ma) σ H Q) : RE G W ma σ H fun x H1 => ∃ c, x = .bl c ∧ Q c H1 := by
  obtain ⟨ρ, s, h, X, MQ, ss, sh, lx, lq, m⟩ := h
  refine ⟨ρ, s, h, X, _, ss, sh, lx, fun w1 h1 d v e1 sh1 sv q => ?_, m⟩
  obtain ⟨b, rfl, q⟩ := isB_is q
  exact ⟨b, sv.isB, lq _ _ _ e1 sh1 q⟩
theorem m_test (ha : PE X a (RE G W ma)) (he : ∀ whole, isTrue a X.env whole = (do let v ← whole; standAt a.pos; holding [v] (truthy v)) := by intro _; rfl) : PT X a (RT G W (mB ma)) := ptI (pt_val ha he) fun _ _ _ h => RE_B h
theorem m_tcmp {op : CmpOp} {o : M2} (ho : OpR X (compareOp op) (RO G o)) (ha : PE X a (RE G W ma)) (hb : PE X b (RE G W mb)) (hm : behindInMarks op b = false) : PT X (.Compare a [op] [b] pos) (RT G W (mB (mOp o ma mb))) :=
  ptI (pt_cmpR ho ha hb hm) fun σ H Q h => bin_RO (fun _ _ q => q) (fun _ _ q => q) (RE_B h)
theorem m_or1 (ha : PT X a (RT G W tA)) : PW X (.BoolOp .Or [a] pos) (RT G W tA) := pw_or1 ha
theorem m_or (ha : PT X a (RT G W tA)) (hb : PW X (.BoolOp .Or (b :: rest) pos) (RT G W tB)) : PW X (.BoolOp .Or (a :: b :: rest) pos) (RT G W (mOr tA tB)) :=
  pwI (pw_or ha hb) fun σ H Q ⟨ρ, s, h, X, MQ, ss, sh, lx, lq, m⟩ => ⟨ρ, s, h, X, _, ss, sh, lx, fun w1 h1 c e1 sh1 q => by
    cases c with
    | false => exact ⟨w1.ρ, s, h1, X, MQ, ss.le e1, sh1, lx.le e1, lq.le e1, q⟩
    | true => exact lq _ _ _ e1 sh1 q, m⟩
theorem m_not (ha : PT X a (RT G W tA)) : PT X (.UnaryOp .Not a pos) (RT G W (mNot tA)) :=
  ptI (pt_not ha) fun σ H Q ⟨ρ, s, h, X, MQ, ss, sh, lx, lq, m⟩ => ⟨ρ, s, h, X, _, ss, sh, lx, fun w1 h1 c e1 sh1 q => lq _ _ _ e1 sh1 q, m⟩
theorem m_one {op} (ha : PE X a (RE G W ma)) : PE X (.BoolOp op [a] pos) (RE G W ma) := pe_one ha
theorem m_andV (ha : PE X a (RE G W ma)) (hb : PE X (.BoolOp .And (b :: rest) pos) (RE G W mb)) : PE X (.BoolOp .And (a :: b :: rest) pos) (RE G W (mAndV ma mb)) :=
  peI (pe_and ha hb) fun σ H Q ⟨ρ, s, h, X, MQ, ss, sh, lx, lq, m⟩ => ⟨ρ, s, h, X, _, ss, sh, lx, fun w1 h1 d v e1 sh1 sv q => by
    obtain ⟨c, rfl, q⟩ := isB_is q
    refine ⟨c, sv.isB, ?_⟩
    cases c with
    | true => exact ⟨w1.ρ, s, h1, X, MQ, ss.le e1, sh1, lx.le e1, lq.le e1, q⟩
    | false => exact lq _ _ _ _ e1 sh1 (.bl _) q, m⟩
theorem m_orV (ha : PE X a (RE G W ma)) (hb : PE X (.BoolOp .Or (b :: rest) pos) (RE G W mb)) : PE X (.BoolOp .Or (a :: b :: rest) pos) (RE G W (mOrV ma mb)) :=
  peI (pe_or ha hb) fun σ H Q ⟨ρ, s, h, X, MQ, ss, sh, lx, lq, m⟩ => ⟨ρ, s, h, X, _, ss, sh, lx, fun w1 h1 d v e1 sh1 sv q => by
    obtain ⟨c, rfl, q⟩ := isB_is q
    refine ⟨c, sv.isB, ?_⟩
    cases c with
    | false => exact ⟨w1.ρ, s, h1, X, MQ, ss.le e1, sh1, lx.le e1, lq.le e1, q⟩
    | true => exact lq _ _ _ _ e1 sh1 (.bl _) q, m⟩
theorem m_notV (ha : PE X a (RE G W ma)) : PE X (.UnaryOp .Not a pos) (RE G W (mNotV ma)) :=
  peI (pe_not ha) fun σ H Q ⟨ρ, s, h, X, MQ, ss, sh, lx, lq, m⟩ => ⟨ρ, s, h, X, _, ss, sh, lx, fun w1 h1 d v e1 sh1 sv q => by
    obtain ⟨c, rfl, q⟩ := isB_is q
    exact ⟨c, sv.isB, lq _ _ _ _ e1 sh1 (.bl _) q⟩, m⟩
theorem m_if (ht : PT X c (RT G W tA)) (ha : PE X a (RE G W ma)) (hb : PE X b (RE G W mb)) : PE X (.IfExp c a b pos) (RE G W (mIf tA ma mb)) :=
  peI (pe_ifExp ht ha hb) fun σ H Q ⟨ρ, s, h, X, MQ, ss, sh, lx, lq, m⟩ => ⟨ρ, s, h, X, _, ss, sh, lx, fun w1 h1 c e1 sh1 q => by
    cases c with
    | true => exact ⟨w1.ρ, s, h1, X, MQ, ss.le e1, sh1, lx.le e1, lq.le e1, q⟩
    | false => exact ⟨w1.ρ, s, h1, X, MQ, ss.le e1, sh1, lx.le e1, lq.le e1, q⟩, m⟩
theorem m_chain {op op' : CmpOp} {o o' : M2} (ho : OpR X (compareOp op) (RO G o)) (ho' : OpR X (compareOp op') (RO G o')) (ha : PE X a (RE G W ma)) (hb : PE X b (RE G W mb)) (hc : PE X c (RE G W mc))
    (hm : lastMarks [op, op'] [b, c] = false := by with_unfolding_all rfl) : PE X (.Compare a [op, op'] [b, c] pos) (RE G W (mChain o o' ma mb mc)) :=
  peI (pe_chain ho ho' ha hb hc hm) fun σ H Q ⟨ρ, s, h, X, MQ, ss, sh, lx, lq, m⟩ => by
    refine ⟨ρ, s, h, X, _, ss, sh, lx, fun w1 h1 d1 v1 e1 sh1 sv1 q => ?_, m⟩
    refine ⟨w1.ρ, s, h1, X, _, ss.le e1, sh1, lx.le e1, fun w2 h2 d2 v2 e2 sh2 sv2 q => ?_, q⟩
    refine ⟨w2.ρ, h2, d1, d2, _, sh2, sv1.le e2, sv2, fun w3 h3 d3 v3 e3 sh3 sv3 q => ?_, q⟩
    obtain ⟨k, rfl, q⟩ := isB_is q
    refine ⟨k, sv3.isB, ?_⟩
    have e123 := e1.trans (e2.trans e3)
    cases k with
    | true =>
      refine ⟨w3.ρ, s, h3, X, _, ss.le e123, sh3, lx.le e123, fun w4 h4 d4 v4 e4 sh4 sv4 q => ?_, q⟩
      exact ⟨w4.ρ, h4, d2, d4, MQ, sh4, sv2.le (e3.trans e4), sv4, lq.le (e123.trans e4), q⟩
    | false => exact lq _ _ _ _ e123 sh3 (.bl _) q
theorem m_nil : PA X [] (RA G W mNil) := paI pa_nil fun σ H Q ⟨ρ, s, h, X, MQ, ss, sh, lx, lq, m⟩ => lq _ _ _ _ Le.refl sh .nil m
theorem m_cons {e : Expr} {es : List Expr} (ha : PE X e (RE G W ma)) (hr : PA X es (RA G W mr)) (hs : starEach (e :: es) X.env = (false, eval e X.env) :: starEach es X.env := by rfl) : PA X (e :: es) (RA G W (mCons ma mr)) :=
  paI (pa_cons ha hr hs) fun σ H Q ⟨ρ, s, h, X, MQ, ss, sh, lx, lq, m⟩ => by
    refine ⟨ρ, s, h, X, _, ss, sh, lx, fun w1 h1 d v e1 sh1 sv q => ?_, m⟩
    refine ⟨w1.ρ, s, h1, X, _, ss.le e1, sh1, lx.le e1, fun w2 h2 ds vs e2 sh2 svs q => ?_, q⟩
    exact lq _ _ _ _ (e1.trans e2) sh2 (.cons (sv.le e2) svs) q
theorem RC_of {mo : MC} {σ : L2.St} {H : Hp} {Q : VK} (h : RE G W (mCB mo mr) σ H Q) : RA G W mr σ H fun vs H1 => RC G mo vs H1 Q := by
  obtain ⟨ρ, s, h, X, MQ, ss, sh, lx, lq, m⟩ := h
  exact ⟨ρ, s, h, X, _, ss, sh, lx, fun w1 h1 ds vs e1 sh1 svs q => ⟨w1.ρ, h1, ds, MQ, sh1, svs, lq.le e1, q⟩, m⟩
theorem SP_of {m : MDef} {n : Nat} {σ : L2.St} {H : Hp} {Q : VK} {E : XK} {ρ : Option Nat → Nat → Option Addr} {h : MH} {Y : MX} {MQ : MK} {ds : List D} {vs : List V} (hl : ds.length = n) (sh : SH G ⟨ρ, H⟩ h) (sv : SVs G ⟨ρ, H⟩ vs ds) (lx : LX G ⟨ρ, H⟩ Y E) (lq : LQ G ⟨ρ, H⟩ MQ Q) (m0 : m ds h Y MQ) : SPm G n m vs H Q E :=
  ⟨ρ, h, ds, Y, MQ, sh, sv, lx, lq, hl, m0⟩
end
/-! ### statements -/
def mNext : MS := fun M s h => M.nx s h
def mSeq (t u : MS) : MS := fun M s h => t { M with nx := u M } s h
def mBreak : MS := fun M s h => M.bk s h
def mCont : MS := fun M s h => M.ct s h
def mDrop (a : ME) : MS := fun M s h => a s h (M.ex s) fun _ h1 => M.nx s h1
def mRet (a : ME) : MS := fun M s h => a s h (M.ex s) M.rt
def mRetN : MS := fun M _ h => M.rt .non h
def mIfS (t : MT) (a b : MS) : MS := fun M s h => t s h (M.ex s) fun c h1 => if c = true then a M s h1 else b M s h1
def mSet (i : Nat) (a : ME) : MS := fun M s h => a s h (M.ex s) fun d h1 => M.nx (s.set i (some d)) h1
section
variable {X : Cx} {G : Gb} {W : WX} {st : Stmt} {rest : List Stmt} {t u : MS} {e c : Expr} {ma : ME} {pos : Pos}
theorem s_nil : PSs X [] (RS G W mNext) := pssI pss_nil fun N σ H ⟨ρ, s, h, M, ss, sh, ld, m⟩ => ld.nx _ _ _ _ Le.refl sh ss m
theorem s_seq (h1 : PS X st (RS G W t)) (h2 : PSs X rest (RS G W u)) : PSs X (st :: rest) (RS G W (mSeq t u)) :=
  pssI (pss_cons h1 h2) fun N σ H ⟨ρ, s, h, M, ss, sh, ld, m⟩ => ⟨ρ, s, h, { M with nx := u M }, ss, sh, ⟨fun w1 h1 s1 σ1 e1 sh1 ss1 q => ⟨w1.ρ, s1, h1, M, ss1, sh1, ld.le e1, q⟩, ld.rt, ld.bk, ld.ct, ld.ex⟩, m⟩
theorem s_one (h1 : PS X st (RS G W t)) : PSs X [st] (RS G W t) := pss_one h1
theorem s_expr (he : PE X e (RE G W ma)) (hs : swapsWith e none pos.line X.env = pure false := by rfl) : PS X (.Expr e pos) (RS G W (mDrop ma)) :=
  psI (ps_expr he hs) fun N σ H ⟨ρ, s, h, M, ss, sh, ld, m⟩ => ⟨ρ, s, h, _, _, ss, sh, ld.ex _ _ _ Le.refl ss, fun w1 h1 d v e1 sh1 sv q => ld.nx _ _ _ _ e1 sh1 (ss.le e1) q, m⟩
theorem s_ret (he : PE X e (RE G W ma)) : PS X (.Return (some e) pos) (RS G W (mRet ma)) :=
  psI (ps_ret he) fun N σ H ⟨ρ, s, h, M, ss, sh, ld, m⟩ => ⟨ρ, s, h, _, _, ss, sh, ld.ex _ _ _ Le.refl ss, ld.rt, m⟩
theorem s_if {a b : List Stmt} {tc : MT} (hc : PT X c (RT G W tc)) (ha : PSs X a (RS G W t)) (hb : PSs X b (RS G W u)) : PS X (.If c a b pos) (RS G W (mIfS tc t u)) :=
  psI (ps_if hc ha hb) fun N σ H ⟨ρ, s, h, M, ss, sh, ld, m⟩ => ⟨ρ, s, h, _, _, ss, sh, ld.ex _ _ _ Le.refl ss, fun w1 h1 b e1 sh1 q => by
    cases b with
    | true => exact ⟨w1.ρ, s, h1, M, ss.le e1, sh1, ld.le e1, q⟩
    | false => exact ⟨w1.ρ, s, h1, M, ss.le e1, sh1, ld.le e1, q⟩, m⟩
theorem set_R {i : Nat} {N : Ends} {σ : L2.St} {H : Hp} (hfr : G.fr i = true) (h : RS G W (mSet i ma) N σ H) : tAsg (RE G W ma) (gName i) N σ H := by
  obtain ⟨ρ, s, h, M, ss, sh, ld, m⟩ := h
  exact ⟨ρ, s, h, _, _, ss, sh, ld.ex _ _ _ Le.refl ss, fun w1 h1 d v e1 sh1 sv q => ld.nx _ _ _ _ e1 sh1 ((ss.le e1).set sv i hfr) q, m⟩
theorem s_set {i : Nat} {x : Str} {pos' : Pos} (hN : X.N.Nodup) (hi : X.N[i]? = some x) (hx : Loc X.env.scope x) (he : PE X e (RE G W ma)) (hs : swapsWith e (some (.Name x pos')) pos.line X.env = pure false := by rfl) (hf : X.fn x = true ∨ X.env.scope.names.lookup x = some .local := by first | exact .inl rfl | exact .inr rfl | assumption) (hfr : G.fr i = true := by rfl) :
    PS X (.Assign [.Name x pos'] e pos) (RS G W (mSet i ma)) := psI (ps_set hN hi hx he hs hf) fun N σ H h => set_R hfr h
end
end M

set_option Elab.async false
set_option linter.all false
set_option maxRecDepth 100000
namespace M
open PySem PySem.Spec PyProof.Rows L2
/-! ### operations -/
def itemsL (h : MH) : D → Option (List D)
  | .lst l => some l
  | .rol l => some l
  | .ref r i => match h.at r i with | some (.lst l) => some l | _ => none
  | _ => none
def properL (h : MH) : D → Option (List D)
  | .lst l => some l
  | .ref r i => match h.at r i with | some (.lst l) => some l | _ => none
  | _ => none
/-- a list comes: a tree, or a new object of a region -/
def mkL (l : List D) (h : MH) (Q : MK) : Prop := Q (.lst l) h ∨ ∃ r, Q (.ref r (h r).length) (h.new r (.lst l))
section
variable {G : Gb} {w : Wd} {h : MH} {v : V} {d : D} {ds : List D} {vs : List V}
theorem line {n : Nat} (q : n ≤ 1000000) : n ≤ sizeLine := by unfold sizeLine; omega
theorem properL_ok (sh : SH G w h) (sv : SV G w v d) (e : properL h d = some ds) : ∃ p vs, v = .ref p ∧ w.H p = some (.lst vs) ∧ SVs G w vs ds := by
  cases sv with
  | lst a f s => cases e; exact ⟨_, _, rfl, a, s⟩
  | @ref r i p q =>
    have so := sh.there q
    obtain ⟨o, ho, so⟩ := so
    simp only [properL, ho] at e
    cases so with
    | lst a s => cases e; exact ⟨_, _, rfl, a, s⟩
    | ins a b c s => cases e
    | dct a s => cases e
    | dtt a s => cases e
    | exn a b s => cases e
    | dcf a s => cases e
  | _ => cases e
theorem itemsL_ok (sh : SH G w h) (sv : SV G w v d) (e : itemsL h d = some ds) : ∃ p vs, v = .ref p ∧ SqL G.K w.H p vs ∧ SVs G w vs ds := by
  cases sv with
  | rol a s => cases e; exact ⟨_, _, rfl, .inl a.1, s⟩
  | klst a s => cases e; exact ⟨_, _, rfl, .inr a, s⟩
  | lst a f s => cases e; exact ⟨_, _, rfl, SqL.of a, s⟩
  | @ref r i p q =>
    obtain ⟨p, vs, ep, hp, s⟩ := properL_ok (d := .ref r i) sh (.ref q) e
    exact ⟨p, vs, ep, SqL.of hp, s⟩
  | _ => cases e
theorem tup_ok (sv : SV G w v (.tup ds)) : ∃ p vs, v = .ref p ∧ SqT G.K w.H p vs ∧ SVs G w vs ds := by
  cases sv with
  | tup a s => exact ⟨_, _, rfl, .inl a.1, s⟩
  | ktup a s => exact ⟨_, _, rfl, .inr a, s⟩
theorem mkL_ok {ρ : Option Nat → Nat → Option Addr} {H : Hp} {MQ : MK} {Q : VK} (sh : SH G ⟨ρ, H⟩ h) (s : SVs G ⟨ρ, H⟩ vs ds) (lq : LQ G ⟨ρ, H⟩ MQ Q) (m : mkL ds h MQ) : ∀ p, H p = none → Q (.ref p) (L2.upd H p (.lst vs)) := fun p n => by
  rcases m with m | ⟨r, m⟩
  · obtain ⟨le, sh', fz⟩ := Wd.lay (u := .lst vs) sh n
    exact lq ⟨ρ, L2.upd H p (.lst vs)⟩ h _ _ le sh' (.lst upd_same fz (s.le le)) m
  · obtain ⟨le, sh'⟩ := Wd.make (u := .lst vs) (o := .lst ds) sh r n fun le => .lst upd_same (s.le le)
    exact lq ⟨ext ρ (some r) (h r).length p, L2.upd H p (.lst vs)⟩ _ _ _ le sh' (.ref ext_at) m
theorem mkT_ok {ρ : Option Nat → Nat → Option Addr} {H : Hp} {MQ : MK} {Q : VK} (sh : SH G ⟨ρ, H⟩ h) (s : SVs G ⟨ρ, H⟩ vs ds) (lq : LQ G ⟨ρ, H⟩ MQ Q) (m : MQ (.tup ds) h) : ∀ p, H p = none → Q (.ref p) (L2.upd H p (.tup vs)) := fun p n => by
  obtain ⟨le, sh', fz⟩ := Wd.lay (u := .tup vs) sh n
  exact lq ⟨ρ, L2.upd H p (.tup vs)⟩ h _ _ le sh' (.tup ⟨.inl upd_same, fz⟩ (s.le le)) m
end
/-! displays -/
def mTup (a : MA) : ME := fun s h X Q => a s h X fun ds h1 => ds.length ≤ 1000000 ∧ Q (.tup ds) h1
def mLst (a : MA) : ME := fun s h X Q => a s h X fun ds h1 => ds.length ≤ 1000000 ∧ mkL ds h1 Q
section
variable {X : Cx} {G : Gb} {W : WX} {a b : Expr} {es : List Expr} {mr : MA} {pos : Pos}
theorem m_tup {k} (h : PA X es (RA G W mr)) : PE X (.Tuple es k pos) (RE G W (mTup mr)) :=
  peI (pe_tup h) fun σ H Q ⟨ρ, s, h, X, MQ, ss, sh, lx, lq, m⟩ => ⟨ρ, s, h, X, _, ss, sh, lx, fun w1 h1 ds vs e1 sh1 svs q => ⟨by rw [svs.length]; exact line q.1, mkT_ok sh1 svs (lq.le e1) q.2⟩, m⟩
theorem m_lst (h : PA X es (RA G W mr)) : PE X (.List es pos) (RE G W (mLst mr)) :=
  peI (pe_lst h) fun σ H Q ⟨ρ, s, h, X, MQ, ss, sh, lx, lq, m⟩ => ⟨ρ, s, h, X, _, ss, sh, lx, fun w1 h1 ds vs e1 sh1 svs q => ⟨by rw [svs.length]; exact line q.1, mkL_ok sh1 svs (lq.le e1) q.2⟩, m⟩
end
/-! two ints -/
def opI (C : Int → Int → Prop) (g : Int → Int → D) : M2 := fun x y h Q => match x, y with | .int i, .int j => C i j ∧ Q (g i j) h | _, _ => False
def opI0 (g : Int → Int → D) : M2 := fun x y h Q => match x, y with | .int i, .int j => Q (g i j) h | _, _ => False
def mulOk (i j : Int) : Prop := CMul i j ∨ CMulW i j
def divOk (_ j : Int) : Prop := 0 < j ∧ j < 2 ^ 250
def shOk (i j : Int) : Prop := 0 ≤ j ∧ j ≤ 1000 ∧ -(2 ^ 64) < i ∧ i < 2 ^ 64
def opSub : M2 := opI0 fun i j => .int (i - j)
def opMul0 : M2 := opI mulOk fun i j => .int (i * j)
def opDiv : M2 := opI divOk fun i j => .int (i / j)
def opMod : M2 := opI (fun _ j => 0 < j) fun i j => .int (i % j)
def opPow : M2 := opI shOk fun i j => .int (i ^ j.toNat)
def opShl : M2 := opI shOk fun i j => .int (i * 2 ^ j.toNat)
def opShr : M2 := opI (fun _ j => 0 ≤ j) fun i j => .int (i / 2 ^ j.toNat)
def opBand : M2 := opI0 fun i j => .int (Builtin.bitAnd i j)
def opBor : M2 := opI0 fun i j => .int (Builtin.bitOr i j)
def opBxor : M2 := opI0 fun i j => .int (Builtin.bitXor i j)
def opLt : M2 := opI0 fun i j => .bl (decide (i < j))
def opLe : M2 := opI0 fun i j => .bl (decide (i ≤ j))
def opGt : M2 := opI0 fun i j => .bl (decide (j < i))
def opGe : M2 := opI0 fun i j => .bl (decide (j ≤ i))
def opNeg : M1 := fun x h Q => match x with | .int i => Q (.int (-i)) h | _ => False
section
variable {X : Cx} {G : Gb}
theorem OpR.imp {f : Value → Value → Sem Value} {r r' : R2} (h : OpR X f r) (k : ∀ x y H Q, r' x y H Q → r x y H Q) : OpR X f r' := fun pins s σ H x y v u Q I rx ry q => h pins s σ H x y v u Q I rx ry (k _ _ _ _ q)
theorem UnR.imp {f : Value → Sem Value} {r r' : V → Hp → VK → Prop} (h : UnR X f r) (k : ∀ x H Q, r' x H Q → r x H Q) : UnR X f r' := fun pins s σ H x v Q I rx q => h pins s σ H x v Q I rx (k _ _ _ q)
theorem CallR.imp {f : Value} {r r' : List V → Hp → VK → Prop} (h : CallR X f r) (k : ∀ x H Q, r' x H Q → r x H Q) : CallR X f r' := fun pins s σ H x v Q I rx q => h pins s σ H x v Q I rx (k _ _ _ q)
theorem IxR.imp {r r' : R2} (h : IxR X r) (k : ∀ x y H Q, r' x y H Q → r x y H Q) : IxR X r' := fun a b pins s σ H x y v u Q I rx ry q e => h a b pins s σ H x y v u Q I rx ry (k _ _ _ _ q) e
theorem MtR.imp {id : String} {r r' : V → List V → Hp → VK → Prop} (h : MtR X id r) (k : ∀ x y H Q, r' x y H Q → r x y H Q) : MtR X id r' := fun pins s σ H x y v u Q I rx ry q => h pins s σ H x y v u Q I rx ry (k _ _ _ _ q)
theorem SlR.imp {r r' : V → Option Int → Option Int → Hp → VK → Prop} (h : SlR X r) (k : ∀ x y z H Q, r' x y z H Q → r x y z H Q) : SlR X r' := fun pins s σ H x v vl vu lo hi sl Q I rx a b c q => h pins s σ H x v vl vu lo hi sl Q I rx a b c (k _ _ _ _ _ q)
theorem OpR.or {f : Value → Value → Sem Value} {r r' : R2} (h : OpR X f r) (h' : OpR X f r') : OpR X f (fun x y H Q => r x y H Q ∨ r' x y H Q) := fun pins s σ H x y v u Q I rx ry q => q.elim (h pins s σ H x y v u Q I rx ry) (h' pins s σ H x y v u Q I rx ry)
theorem CallR.or {f : Value} {r r' : List V → Hp → VK → Prop} (h : CallR X f r) (h' : CallR X f r') : CallR X f (fun x H Q => r x H Q ∨ r' x H Q) := fun pins s σ H x v Q I rx q => q.elim (h pins s σ H x v Q I rx) (h' pins s σ H x v Q I rx)
theorem IxR.or {r r' : R2} (h : IxR X r) (h' : IxR X r') : IxR X (fun x y H Q => r x y H Q ∨ r' x y H Q) := fun a b pins s σ H x y v u Q I rx ry q e => q.elim (fun q => h a b pins s σ H x y v u Q I rx ry q e) (fun q => h' a b pins s σ H x y v u Q I rx ry q e)
theorem SV.int' {w : Wd} {v : V} {i : Int} (s : SV G w v (.int i)) : v = .int i := by cases s; rfl
theorem SV.str' {w : Wd} {v : V} {i : Str} (s : SV G w v (.str i)) : v = .str i := by cases s; rfl
theorem SV.bl' {w : Wd} {v : V} {i : Bool} (s : SV G w v (.bl i)) : v = .bl i := by cases s; rfl
theorem SV.non' {w : Wd} {v : V} (s : SV G w v .non) : v = .non := by cases s; rfl
theorem opI_is {C : Int → Int → Prop} {g : Int → Int → D} {x y : D} {h : MH} {Q : MK} (m : opI C g x y h Q) : ∃ i j, x = .int i ∧ y = .int j ∧ C i j ∧ Q (g i j) h := by
  unfold opI at m; split at m
  · exact ⟨_, _, rfl, rfl, m⟩
  · exact m.elim
theorem opI0_is {g : Int → Int → D} {x y : D} {h : MH} {Q : MK} (m : opI0 g x y h Q) : ∃ i j, x = .int i ∧ y = .int j ∧ Q (g i j) h := by
  unfold opI0 at m; split at m
  · exact ⟨_, _, rfl, rfl, m⟩
  · exact m.elim
theorem ro_I {f : Value → Value → Sem Value} {C C' : Int → Int → Prop} {g : Int → Int → V} {g' : Int → Int → D} (h : OpR X f (rI C g)) (hc : ∀ i j, C' i j → C i j) (hg : ∀ w i j, SV G w (g i j) (g' i j)) : OpR X f (RO G (opI C' g')) :=
  OpR.imp h fun x y H Q ⟨ρ, h, d, e, MQ, sh, sx, sy, lq, m⟩ => by
    obtain ⟨i, j, rfl, rfl, c, q⟩ := opI_is m
    exact ⟨i, j, sx.int', sy.int', hc _ _ c, lq _ _ _ _ Le.refl sh (hg _ _ _) q⟩
theorem ro_I0 {f : Value → Value → Sem Value} {g : Int → Int → V} {g' : Int → Int → D} (h : OpR X f (rI0 g)) (hg : ∀ w i j, SV G w (g i j) (g' i j)) : OpR X f (RO G (opI0 g')) :=
  OpR.imp h fun x y H Q ⟨ρ, h, d, e, MQ, sh, sx, sy, lq, m⟩ => by
    obtain ⟨i, j, rfl, rfl, q⟩ := opI0_is m
    exact ⟨i, j, sx.int', sy.int', lq _ _ _ _ Le.refl sh (hg _ _ _) q⟩
theorem ro_sub : OpR X (binaryOp .Sub) (RO G opSub) := ro_I0 op_sub fun _ _ _ => .int _
theorem ro_mod : OpR X (binaryOp .Mod) (RO G opMod) := ro_I op_mod (fun _ _ c => c) fun _ _ _ => .int _
theorem ro_mul0 : OpR X (binaryOp .Mult) (RO G opMul0) := by
  refine OpR.imp (OpR.or op_mul op_mulW) fun x y H Q ⟨ρ, h, d, e, MQ, sh, sx, sy, lq, m⟩ => ?_
  obtain ⟨i, j, rfl, rfl, c, q⟩ := opI_is m
  rcases c with c | c
  · exact .inl ⟨i, j, sx.int', sy.int', c, lq _ _ _ _ Le.refl sh (.int _) q⟩
  · exact .inr ⟨i, j, sx.int', sy.int', c, lq _ _ _ _ Le.refl sh (.int _) q⟩
theorem ro_div : OpR X (binaryOp .FloorDiv) (RO G opDiv) := ro_I op_fdivW (fun i j c => ⟨c.1, by
  have h : j.natAbs < 2 ^ 250 := by
    obtain ⟨n, rfl⟩ := Int.eq_ofNat_of_zero_le (Int.le_of_lt c.1)
    rw [Int.natAbs_natCast]
    exact_mod_cast c.2
  exact Nat.lt_of_lt_of_le (PySem.Flt.log2_lt_of (by decide) h) (by decide)⟩) fun _ _ _ => .int _
theorem ro_lt : OpR X (compareOp .Lt) (RO G opLt) := ro_I0 op_lt fun _ _ _ => .bl _
theorem ro_le : OpR X (compareOp .LtE) (RO G opLe) := ro_I0 op_le fun _ _ _ => .bl _
theorem ro_gt : OpR X (compareOp .Gt) (RO G opGt) := ro_I0 op_gt fun _ _ _ => .bl _
theorem ro_neg : UnR X (unaryOp .USub) (RU G opNeg) := UnR.imp un_neg fun x H Q ⟨ρ, h, d, MQ, sh, sx, lq, m⟩ => by
  unfold opNeg at m; split at m
  · exact ⟨_, sx.int', lq _ _ _ _ Le.refl sh (.int _) m⟩
  · exact m.elim
end
/-! a constant power -/
theorem m_powc {X : Cx} {G : Gb} {W : WX} {a b : Expr} {pos : Pos} {i j r : Int} (hr : i ^ j.toNat = r) (hc : CPow i j) (ha : PE X a (tC (.int i))) (hb : PE X b (tC (.int j))) : PE X (.BinOp a .Pow b pos) (RE G W (mC (.int r))) :=
  peI (pe_op op_pow ha hb) fun σ H Q ⟨ρ, _, h, X, MQ, ss, sh, _, lq, m⟩ => ⟨i, j, rfl, rfl, hc, by show Q (.int (i ^ j.toNat)) H; rw [hr]; exact lq _ _ _ _ Le.refl sh (.int _) m⟩
/-! + : ints, lists, texts -/
def opCat : M2 := fun x y h Q => match properL h x, properL h y with
  | some xs, some ys => xs.length + ys.length ≤ 1000000 ∧ mkL (xs ++ ys) h Q
  | _, _ => False
def opAdd : M2 := fun x y h Q => match x, y with
  | .int i, .int j => Q (.int (i + j)) h
  | .str a, .str b => a.length + b.length ≤ 1000000 ∧ Q (.str (a ++ b)) h
  | x, y => opCat x y h Q
/-- xs * k -/
def opRep : M2 := fun x y h Q => match properL h x, y with
  | some xs, .int k => (k ≤ 1000000 ∧ -1000000 ≤ k ∧ xs.length * k.toNat ≤ 1000000) ∧ mkL (List.replicate k.toNat xs).flatten h Q
  | _, _ => False
section
variable {X : Cx} {G : Gb}
theorem opCat_is {x y : D} {h : MH} {Q : MK} (m : opCat x y h Q) : ∃ xs ys, properL h x = some xs ∧ properL h y = some ys ∧ xs.length + ys.length ≤ 1000000 ∧ mkL (xs ++ ys) h Q := by
  unfold opCat at m; split at m
  · exact ⟨_, _, by assumption, by assumption, m⟩
  · exact m.elim
theorem ro_cat : OpR X (binaryOp .Add) (RO G opCat) := OpR.imp op_cat fun x y H Q ⟨ρ, h, d, e, MQ, sh, sx, sy, lq, m⟩ => by
  obtain ⟨xs, ys, e1, e2, hl, q⟩ := opCat_is m
  obtain ⟨p, vs, rfl, hp, s1⟩ := properL_ok sh sx e1
  obtain ⟨p2, us, rfl, hp2, s2⟩ := properL_ok sh sy e2
  exact ⟨p, p2, vs, us, rfl, rfl, hp, hp2, by rw [s1.length, s2.length]; exact line hl, mkL_ok sh (s1.append s2) lq q⟩
theorem ro_add : OpR X (binaryOp .Add) (RO G opAdd) := by
  refine OpR.imp (OpR.or op_add (OpR.or op_add_str (ro_cat (G := G)))) fun x y H Q ⟨ρ, h, d, e, MQ, sh, sx, sy, lq, m⟩ => ?_
  unfold opAdd at m
  split at m
  · exact .inl ⟨_, _, sx.int', sy.int', lq _ _ _ _ Le.refl sh (.int _) m⟩
  · exact .inr (.inl ⟨_, _, sx.str', sy.str', line m.1, lq _ _ _ _ Le.refl sh (.str _) m.2⟩)
  · exact .inr (.inr ⟨ρ, h, _, _, MQ, sh, sx, sy, lq, m⟩)
theorem SVs.flat {w : Wd} {vs : List V} {ds : List D} (s : SVs G w vs ds) : ∀ k, SVs G w (List.replicate k vs).flatten (List.replicate k ds).flatten
  | 0 => .nil
  | k + 1 => by rw [List.replicate_succ, List.replicate_succ, List.flatten_cons, List.flatten_cons]; exact s.append (SVs.flat s k)
theorem ro_rep : OpR X (binaryOp .Mult) (RO G opRep) := OpR.imp op_rep fun x y H Q ⟨ρ, h, d, e, MQ, sh, sx, sy, lq, m⟩ => by
  unfold opRep at m
  split at m
  · rename_i xs k e1
    obtain ⟨p, vs, rfl, hp, s1⟩ := properL_ok sh sx e1
    exact ⟨p, k, vs, rfl, sy.int', hp, by have := m.1.2.1; omega, by have := m.1.1; omega, by rw [s1.length]; exact line m.1.2.2, mkL_ok sh (s1.flat _) lq m.2⟩
  · exact m.elim
end
def opMul : M2 := fun x y h Q => match x, y with
  | .int i, .int j => mulOk i j ∧ Q (.int (i * j)) h
  | x, y => opRep x y h Q
section
variable {X : Cx} {G : Gb}
theorem ro_mul : OpR X (binaryOp .Mult) (RO G opMul) := by
  refine OpR.imp (OpR.or (ro_mul0 (G := G)) (ro_rep (G := G))) fun x y H Q ⟨ρ, h, d, e, MQ, sh, sx, sy, lq, m⟩ => ?_
  unfold opMul at m
  split at m
  · exact .inl ⟨ρ, h, _, _, MQ, sh, sx, sy, lq, m⟩
  · exact .inr ⟨ρ, h, _, _, MQ, sh, sx, sy, lq, m⟩
end
/-! is None -/
def isN : D → Bool | .non => true | _ => false
def opIs : M2 := fun x y h Q => match y with
  | .non => Q (.bl (isN x)) h
  | .bl b => (match x with | .bl a => Q (.bl (decide (a = b))) h | _ => False)
  | _ => False
def opIsNot : M2 := fun x y h Q => match y with
  | .non => Q (.bl (!isN x)) h
  | .bl b => (match x with | .bl a => Q (.bl (!decide (a = b))) h | _ => False)
  | _ => False
section
variable {X : Cx} {G : Gb}
theorem SV.isN {w : Wd} {v : V} {d : D} (s : SV G w v d) : decide (v = .non) = M.isN d := by cases s <;> rfl
theorem ro_is : OpR X (compareOp .Is) (RO G opIs) := fun pins s σ H x y v u Q I rx ry ⟨ρ, h, d, e, MQ, sh, sx, sy, lq, m⟩ => by
  unfold opIs at m; split at m
  · exact op_isN pins s σ H x y v u Q I rx ry ⟨sy.non', lq _ _ _ _ Le.refl sh (by rw [sx.isN]; exact .bl _) m⟩
  · split at m
    · cases sx; cases sy
      exact op_isBl pins s σ H _ _ v u Q I rx ry ⟨_, _, rfl, rfl, lq _ _ _ _ Le.refl sh (.bl _) m⟩
    · exact m.elim
  · exact m.elim
theorem ro_isnot : OpR X (compareOp .IsNot) (RO G opIsNot) := fun pins s σ H x y v u Q I rx ry ⟨ρ, h, d, e, MQ, sh, sx, sy, lq, m⟩ => by
  unfold opIsNot at m; split at m
  · exact op_notN pins s σ H x y v u Q I rx ry ⟨sy.non', lq _ _ _ _ Le.refl sh (by rw [sx.isN]; exact .bl _) m⟩
  · split at m
    · cases sx; cases sy
      exact op_notBl pins s σ H _ _ v u Q I rx ry ⟨_, _, rfl, rfl, lq _ _ _ _ Le.refl sh (.bl _) m⟩
    · exact m.elim
  · exact m.elim
end
/-! data: trees without objects; == -/
mutual
def py : D → PyData
  | .non => .none
  | .bl b => .bool b
  | .int i => .int i
  | .str x => .str x
  | .tup l => .tuple (pys l)
  | .lst l => .list (pys l)
  | .rol l => .list (pys l)
  | .ref _ _ => .dict []
  | .ty _ => .dict []
  | .cls _ => .dict []
def pys : List D → List PyData
  | [] => []
  | d :: ds => py d :: pys ds
end
def deq (a b : D) : Bool := PyData.eqv (py a) (py b)
def deqs (a b : List D) : Bool := PyData.eqvAll (pys a) (pys b)
/-- the tree that a value is, its depth at most n -/
def rs (h : MH) : Nat → D → Option D
  | _, .non => some .non
  | _, .bl b => some (.bl b)
  | _, .int i => some (.int i)
  | _, .str x => if PyData.strOk x then some (.str x) else none
  | n + 1, .tup l => (l.mapM (rs h n)).map .tup
  | n + 1, .lst l => (l.mapM (rs h n)).map .lst
  | n + 1, .rol l => (l.mapM (rs h n)).map .rol
  | n + 1, .ref r i => match h.at r i with | some (.lst l) => (l.mapM (rs h n)).map .lst | _ => none
  | _, _ => none
def dat : Nat → D → Bool
  | _, .non => true
  | _, .bl _ => true
  | _, .int _ => true
  | _, .str x => PyData.strOk x
  | n + 1, .tup l => l.all (dat n)
  | n + 1, .lst l => l.all (dat n)
  | n + 1, .rol l => l.all (dat n)
  | _, _ => false
theorem rs_dat {h : MH} : ∀ {n : Nat} {d : D}, dat n d = true → rs h n d = some d := by
  intro n
  induction n with
  | zero => intro d q; cases d <;> first | rfl | (unfold dat at q; cases q; done) | (unfold dat at q; unfold rs; simp [q])
  | succ n ih =>
    have all : ∀ l : List D, l.all (dat n) = true → l.mapM (rs h n) = some l := by
      intro l
      induction l with
      | nil => intro _; rfl
      | cons x xs ih2 =>
        intro q
        simp only [List.all_cons, Bool.and_eq_true] at q
        simp [List.mapM_cons, ih q.1, ih2 q.2]
    intro d q
    cases d <;> first | rfl | (unfold dat at q; cases q; done) | (unfold dat at q; unfold rs; simp [q, all])
def opEq : M2 := fun x y h Q => match x, y with
  | .int i, .int j => Q (.bl (decide (i = j))) h
  | .str a, .str b => Q (.bl (decide (a = b))) h
  | .bl a, .bl b => Q (.bl (decide (a = b))) h
  | x, y => ∃ a b, rs h 60 x = some a ∧ rs h 60 y = some b ∧ Q (.bl (deq a b)) h
def opNe : M2 := fun x y h Q => match x, y with
  | .int i, .int j => Q (.bl (!decide (i = j))) h
  | .str a, .str b => Q (.bl (!decide (a = b))) h
  | .bl a, .bl b => Q (.bl (!decide (a = b))) h
  | x, y => ∃ a b, rs h 60 x = some a ∧ rs h 60 y = some b ∧ Q (.bl (!deq a b)) h
section
variable {X : Cx} {G : Gb} {w : Wd} {h : MH}
theorem rs_all {n : Nat} (sh : SH G w h) (ih : ∀ {d a : D} {v : V}, rs h n d = some a → SV G w v d → Dp G.K w.H v (py a) ∧ (py a).canLay0 = true ∧ (py a).depth ≤ n) :
    ∀ {l as : List D} {vs : List V}, l.mapM (rs h n) = some as → SVs G w vs l → DpAll G.K w.H vs (pys as) ∧ PyData.canLayAll0 (pys as) = true ∧ PyData.depthAll (pys as) ≤ n := by
  intro l
  induction l with
  | nil => intro as vs e s; cases s; simp at e; subst e; exact ⟨.nil, rfl, by show PyData.depthAll [] ≤ n; unfold PyData.depthAll; omega⟩
  | cons x xs ih2 =>
    intro as vs e s
    cases s with
    | cons q t =>
      rw [List.mapM_cons] at e
      cases e1 : rs h n x with
      | none => rw [e1] at e; cases e
      | some a =>
        cases e2 : xs.mapM (rs h n) with
        | none => rw [e1, e2] at e; cases e
        | some as' =>
          rw [e1, e2] at e
          cases e
          obtain ⟨a1, a2, a3⟩ := ih e1 q
          obtain ⟨b1, b2, b3⟩ := ih2 e2 t
          refine ⟨.cons a1 b1, ?_, ?_⟩
          · show PyData.canLayAll0 (py a :: pys as') = true
            unfold PyData.canLayAll0; rw [a2, b2]; rfl
          · show PyData.depthAll (py a :: pys as') ≤ n
            unfold PyData.depthAll; omega
theorem rs_ok (sh : SH G w h) : ∀ {n : Nat} {d a : D} {v : V}, rs h n d = some a → SV G w v d → Dp G.K w.H v (py a) ∧ (py a).canLay0 = true ∧ (py a).depth ≤ n := by
  intro n
  induction n with
  | zero =>
    intro d a v e s
    cases d <;> first
      | (cases e; cases s; exact ⟨by constructor, rfl, Nat.zero_le _⟩)
      | (unfold rs at e; split at e <;> cases e; rename_i x q; cases s; exact ⟨.str _, by show PyData.canLay0 (.str _) = true; unfold PyData.canLay0; exact q, Nat.zero_le _⟩)
      | (unfold rs at e; cases e)
  | succ n ih =>
    have al := @rs_all G w h n sh ih
    intro d a v e s
    have tl : ∀ {l as : List D} {vs : List V}, l.mapM (rs h n) = some as → SVs G w vs l → DpAll G.K w.H vs (pys as) ∧ (PyData.tuple (pys as)).canLay0 = true ∧ (PyData.tuple (pys as)).depth ≤ n + 1 ∧ (PyData.list (pys as)).canLay0 = true ∧ (PyData.list (pys as)).depth ≤ n + 1 := fun {l as vs} e s => by
      obtain ⟨a, b, c⟩ := al e s
      have d1 : (PyData.tuple (pys as)).depth = PyData.depthAll (pys as) + 1 := by conv => lhs; unfold PyData.depth
      have d2 : (PyData.list (pys as)).depth = PyData.depthAll (pys as) + 1 := by conv => lhs; unfold PyData.depth
      exact ⟨a, by unfold PyData.canLay0; exact b, by omega, by unfold PyData.canLay0; exact b, by omega⟩
    cases d with
    | non => cases e; cases s; exact ⟨.non, rfl, Nat.zero_le _⟩
    | bl b => cases e; cases s; exact ⟨.bl _, rfl, Nat.zero_le _⟩
    | int b => cases e; cases s; exact ⟨.int _, rfl, Nat.zero_le _⟩
    | str x =>
      unfold rs at e; split at e <;> cases e; rename_i q; cases s
      exact ⟨.str _, by show PyData.canLay0 (.str _) = true; unfold PyData.canLay0; exact q, Nat.zero_le _⟩
    | tup l =>
      unfold rs at e
      cases e1 : l.mapM (rs h n) with
      | none => rw [e1] at e; cases e
      | some as =>
        rw [e1] at e; cases e
        obtain ⟨p, vs, rfl, hp, s⟩ := tup_ok s
        obtain ⟨a, b, c, _, _⟩ := tl e1 s
        exact ⟨.tup hp a, b, c⟩
    | lst l =>
      unfold rs at e
      cases e1 : l.mapM (rs h n) with
      | none => rw [e1] at e; cases e
      | some as =>
        rw [e1] at e; cases e
        obtain ⟨p, vs, rfl, hp, s⟩ := itemsL_ok (ds := l) sh s rfl
        obtain ⟨a, _, _, b, c⟩ := tl e1 s
        exact ⟨.lst hp a, b, c⟩
    | rol l =>
      unfold rs at e
      cases e1 : l.mapM (rs h n) with
      | none => rw [e1] at e; cases e
      | some as =>
        rw [e1] at e; cases e
        obtain ⟨p, vs, rfl, hp, s⟩ := itemsL_ok (ds := l) sh s rfl
        obtain ⟨a, _, _, b, c⟩ := tl e1 s
        exact ⟨.lst hp a, b, c⟩
    | ref r i =>
      unfold rs at e
      split at e
      · rename_i l ho
        cases e1 : l.mapM (rs h n) with
        | none => rw [e1] at e; cases e
        | some as =>
          rw [e1] at e; cases e
          obtain ⟨p, vs, rfl, hp, s⟩ := itemsL_ok (ds := l) sh s (by simp only [itemsL, ho])
          obtain ⟨a, _, _, b, c⟩ := tl e1 s
          exact ⟨.lst hp a, b, c⟩
      · cases e
    | ty n => unfold rs at e; cases e
    | cls n => unfold rs at e; cases e
theorem shaped_of {d : PyData} (a : d.canLay0 = true) (b : d.depth ≤ 60) : SeqAt.shaped d = true := by
  unfold SeqAt.shaped; rw [a, decide_eq_true (show d.depth ≤ 64 by omega)]; rfl
theorem ro_eq (hu : X.A.units + 64 < cLine) (hK : X.K = G.K) : OpR X (compareOp .Eq) (RO G opEq) := by
  refine OpR.imp (OpR.or op_eq (op_eqD hu)) fun x y H Q ⟨ρ, h, d, e, MQ, sh, sx, sy, lq, m⟩ => ?_
  unfold opEq at m
  split at m
  · rw [sx.int', sy.int']; exact .inl ⟨rfl, lq _ _ _ _ Le.refl sh (by simp only [V.int.injEq]; exact .bl _) m⟩
  · rw [sx.str', sy.str']; exact .inl ⟨rfl, lq _ _ _ _ Le.refl sh (by simp only [V.str.injEq]; exact .bl _) m⟩
  · rw [sx.bl', sy.bl']; exact .inl ⟨rfl, lq _ _ _ _ Le.refl sh (by simp only [V.bl.injEq]; exact .bl _) m⟩
  · obtain ⟨a, b, e1, e2, q⟩ := m
    obtain ⟨a1, a2, a3⟩ := rs_ok sh e1 sx
    obtain ⟨b1, b2, b3⟩ := rs_ok sh e2 sy
    rw [hK]
    exact .inr ⟨_, _, a1, b1, shaped_of a2 a3, shaped_of b2 b3, lq _ _ _ _ Le.refl sh (.bl _) q⟩
theorem ro_ne (hu : X.A.units + 64 < cLine) (hK : X.K = G.K) : OpR X (compareOp .NotEq) (RO G opNe) := by
  refine OpR.imp (OpR.or op_ne (op_neD hu)) fun x y H Q ⟨ρ, h, d, e, MQ, sh, sx, sy, lq, m⟩ => ?_
  unfold opNe at m
  split at m
  · rw [sx.int', sy.int']; exact .inl ⟨rfl, lq _ _ _ _ Le.refl sh (by simp only [V.int.injEq]; exact .bl _) m⟩
  · rw [sx.str', sy.str']; exact .inl ⟨rfl, lq _ _ _ _ Le.refl sh (by simp only [V.str.injEq]; exact .bl _) m⟩
  · rw [sx.bl', sy.bl']; exact .inl ⟨rfl, lq _ _ _ _ Le.refl sh (by simp only [V.bl.injEq]; exact .bl _) m⟩
  · obtain ⟨a, b, e1, e2, q⟩ := m
    obtain ⟨a1, a2, a3⟩ := rs_ok sh e1 sx
    obtain ⟨b1, b2, b3⟩ := rs_ok sh e2 sy
    rw [hK]
    exact .inr ⟨_, _, a1, b1, shaped_of a2 a3, shaped_of b2 b3, lq _ _ _ _ Le.refl sh (.bl _) q⟩
end
end M

set_option Elab.async false
set_option linter.all false
set_option maxRecDepth 100000
namespace M
open PySem PySem.Spec PyProof.Rows L2
/-! ### items -/
def seqI (h : MH) : D → Option (List D)
  | .tup l => some l
  | x => itemsL h x
def opIx : M2 := fun x y h Q => match y with
  | .int i => match x with
    | .str z => match atI z.cps.toList i with | some c => z.length ≤ 1000000 ∧ Q (.str ⟨#[c]⟩) h | none => False
    | x => match seqI h x with
      | some l => match atI l i with | some d => Q d h | none => False
      | none => False
  | _ => False
def cutD (xs : List D) (lo hi : Option Int) : List D := (xs.drop (HT.sIx xs.length 0 lo)).take (HT.sIx xs.length xs.length hi - HT.sIx xs.length 0 lo)
abbrev MO := MSt → MH → MX → (Option Int → MH → Prop) → Prop
def mNoPart : MO := fun _ h _ Q => Q none h
def mPart (a : ME) : MO := fun s h X Q => a s h X fun x h1 => match x with | .int i => Q (some i) h1 | _ => False
def opSl (x : D) (lo hi : Option Int) (h : MH) (Q : MK) : Prop := match x with
  | .tup l => Q (.tup (cutD l lo hi)) h
  | .str z => z.length ≤ 1000000 ∧ Q (.str (cutS z lo hi)) h
  | x => match itemsL h x with | some l => mkL (cutD l lo hi) h Q | none => False
def mSl (a : ME) (lo hi : MO) : ME := fun s h X Q => a s h X fun x h1 => lo s h1 X fun l h2 => hi s h2 X fun u h3 => opSl x l u h3 Q
section
variable {X : Cx} {G : Gb} {W : WX} {w : Wd} {vs : List V} {ds : List D}
theorem SVs.atI (s : SVs G w vs ds) {i : Int} {d : D} (e : L2.atI ds i = some d) : ∃ v, L2.atI vs i = some v ∧ SV G w v d := by
  unfold L2.atI at e ⊢
  rw [s.length]
  cases q : ixN ds.length i with
  | none => rw [q] at e; cases e
  | some j => rw [q] at e; exact s.get j d e
theorem SVs.cut (s : SVs G w vs ds) (lo hi : Option Int) : SVs G w (cutV vs lo hi) (cutD ds lo hi) := by
  unfold cutV cutD
  rw [s.length]
  exact (s.drop _).take _
theorem seqI_ok {h : MH} {v : V} {d : D} (sh : SH G w h) (sv : SV G w v d) (e : seqI h d = some ds) : ∃ p vs, v = .ref p ∧ (SqL G.K w.H p vs ∨ SqT G.K w.H p vs) ∧ SVs G w vs ds := by
  unfold seqI at e
  split at e
  · cases e
    obtain ⟨p, vs, a, b, c⟩ := tup_ok sv
    exact ⟨p, vs, a, .inr b, c⟩
  · obtain ⟨p, vs, a, b, c⟩ := itemsL_ok sh sv e
    exact ⟨p, vs, a, .inl b, c⟩
theorem rx_ix (hK : X.K = G.K) : IxR X (RO G opIx) := by
  refine IxR.imp (IxR.or ix_str (IxR.or ix_list ix_tup)) fun x y H Q ⟨ρ, h, d, e, MQ, sh, sx, sy, lq, m⟩ => ?_
  unfold opIx at m
  split at m
  · rename_i i
    obtain rfl := sy.int'
    split at m
    · rename_i z
      split at m
      · rename_i c hc
        exact .inl ⟨z, i, c, sx.str', rfl, line m.1, hc, lq _ _ _ _ Le.refl sh (.str _) m.2⟩
      · exact m.elim
    · split at m
      · rename_i l hl
        split at m
        · rename_i dd hd
          obtain ⟨p, vs, rfl, hp, svs⟩ := seqI_ok sh sx hl
          obtain ⟨v, hv, sv⟩ := svs.atI hd
          rw [hK]
          rcases hp with hp | hp
          · exact .inr (.inl ⟨p, vs, i, v, rfl, rfl, hp, hv, lq _ _ _ _ Le.refl sh sv m⟩)
          · exact .inr (.inr ⟨p, vs, i, v, rfl, rfl, hp, hv, lq _ _ _ _ Le.refl sh sv m⟩)
        · exact m.elim
      · exact m.elim
  · exact m.elim
theorem m_ix {a b : Expr} {ma mb : ME} {pos : Pos} (hK : X.K = G.K) (ha : PE X a (RE G W ma)) (hb : PE X b (RE G W mb)) (hs : PlainIx b := by exact fun _ _ => rfl) : PE X (.Subscript a b pos) (RE G W (mOp opIx ma mb)) :=
  peI (pe_ix (rx_ix hK) ha hb hs) fun σ H Q h => bin_RO (fun _ _ q => q) (fun _ _ q => q) h
def RP (G : Gb) (W : WX) (m : MO) : TO := fun σ H Q => ∃ ρ s h X MQ, SS G ⟨ρ, H⟩ σ s ∧ SH G ⟨ρ, H⟩ h ∧ LX G ⟨ρ, H⟩ X (WE W σ) ∧ (∀ w' h' o, Le ⟨ρ, H⟩ w' → SH G w' h' → MQ o h' → Q o w'.H) ∧ m s h X MQ
theorem poI {e : Option Expr} {t t' : TO} (h : PO X e t) (k : ∀ σ H Q, t' σ H Q → t σ H Q) : PO X e t' := ⟨fun pins s σ H Q I q => h.run pins s σ H Q I (k _ _ _ q)⟩
theorem m_nopart : PO X none (RP G W mNoPart) := poI po_none fun σ H Q ⟨ρ, s, h, X, MQ, ss, sh, lx, lq, m⟩ => lq _ _ _ Le.refl sh m
theorem m_part {a : Expr} {ma : ME} (ha : PE X a (RE G W ma)) : PO X (some a) (RP G W (mPart ma)) := poI (po_some ha) fun σ H Q ⟨ρ, s, h, X, MQ, ss, sh, lx, lq, m⟩ =>
  ⟨ρ, s, h, X, _, ss, sh, lx, fun w1 h1 d v e1 sh1 sv q => by
    split at q
    · exact ⟨_, sv.int', lq _ _ _ e1 sh1 q⟩
    · exact q.elim, m⟩
def RSl (G : Gb) : V → Option Int → Option Int → Hp → VK → Prop := fun x lo hi H Q => ∃ ρ h d MQ, SH G ⟨ρ, H⟩ h ∧ SV G ⟨ρ, H⟩ x d ∧ LQ G ⟨ρ, H⟩ MQ Q ∧ opSl d lo hi h MQ
theorem rx_sl (hK : X.K = G.K) : SlR X (RSl G) := by
  refine SlR.imp (SlR.or sl_str (SlR.or sl_list sl_tupA)) fun x lo hi H Q ⟨ρ, h, d, MQ, sh, sx, lq, m⟩ => ?_
  unfold opSl at m
  split at m
  · rename_i l
    obtain ⟨p, vs, rfl, hp, svs⟩ := tup_ok sx
    refine .inr (.inr ⟨p, vs, rfl, by rw [hK]; exact hp, fun q => ?_, fun _ => mkT_ok sh (svs.cut lo hi) lq m⟩)
    have e : cutD l lo hi = l := by
      unfold cutD
      rw [← svs.length, q.1, q.2]
      simp [svs.length]
    rw [e] at m
    exact lq _ _ _ _ Le.refl sh sx m
  · exact .inl ⟨_, sx.str', line m.1, lq _ _ _ _ Le.refl sh (.str _) m.2⟩
  · split at m
    · rename_i l hl
      obtain ⟨p, vs, rfl, hp, svs⟩ := itemsL_ok sh sx hl
      exact .inr (.inl ⟨p, vs, rfl, by rw [hK]; exact hp, mkL_ok sh (svs.cut lo hi) lq m⟩)
    · exact m.elim
theorem m_sl {a : Expr} {lo hi : Option Expr} {ma : ME} {ml mh : MO} {pos p2 : Pos} (hK : X.K = G.K) (ha : PE X a (RE G W ma)) (hl : PO X lo (RP G W ml)) (hh : PO X hi (RP G W mh)) : PE X (.Subscript a (.Slice lo hi none p2) pos) (RE G W (mSl ma ml mh)) :=
  peI (pe_slice (rx_sl hK) ha hl hh) fun σ H Q ⟨ρ, s, h, X, MQ, ss, sh, lx, lq, m⟩ => by
    refine ⟨ρ, s, h, X, _, ss, sh, lx, fun w1 h1 d v e1 sh1 sv q => ?_, m⟩
    refine ⟨w1.ρ, s, h1, X, _, ss.le e1, sh1, lx.le e1, fun w2 h2 o e2 sh2 q => ?_, q⟩
    refine ⟨w2.ρ, s, h2, X, _, ss.le (e1.trans e2), sh2, lx.le (e1.trans e2), fun w3 h3 o' e3 sh3 q => ?_, q⟩
    exact ⟨w3.ρ, h3, d, MQ, sh3, sv.le (e2.trans e3), lq.le (e1.trans (e2.trans e3)), q⟩
end
/-! x in y: flat things -/
def flatD : D → Bool
  | .non => true
  | .bl _ => true
  | .int _ => true
  | .str _ => true
  | _ => false
def eqF (a b : D) : Bool := match a, b with
  | .non, .non => true
  | .bl a, .bl b => a == b
  | .bl a, .int j => (if a then 1 else 0) == j
  | .int i, .bl b => i == (if b then 1 else 0)
  | .int i, .int j => i == j
  | .str x, .str y => x == y
  | _, _ => false
def opInB (g : Bool → Bool) : M2 := fun x y h Q => match y with
  | .str z => match x with | .str y => (∃ c, y = ⟨#[c]⟩ ∧ Q (.bl (g (decide (c ∈ z.cps.toList)))) h) | _ => False
  | y => match seqI h y with
    | some l => (flatD x = true ∧ l.all flatD = true) ∧ Q (.bl (g (l.any fun e => eqF e x))) h
    | none => False
abbrev opIn : M2 := opInB id
abbrev opNotIn : M2 := opInB not
section
variable {X : Cx} {G : Gb} {w : Wd}
theorem SV.flat {v : V} {d : D} (s : SV G w v d) (f : flatD d = true) : flatV v = true := by cases s <;> first | rfl | cases f
theorem SV.eqF {v u : V} {d e : D} (s : SV G w v d) (t : SV G w u e) (f : flatD d = true) (g : flatD e = true) : L2.eqV v u = M.eqF d e := by
  cases s <;> first
    | (cases f; done)
    | (cases t <;> first | rfl | (cases g; done))
theorem SVs.flat' {vs : List V} {ds : List D} : SVs G w vs ds → ds.all flatD = true → vs.all flatV = true
  | .nil, _ => rfl
  | .cons s t, f => by
    simp only [List.all_cons, Bool.and_eq_true] at f ⊢
    exact ⟨s.flat f.1, t.flat' f.2⟩
theorem SVs.anyF {vs : List V} {ds : List D} {v : V} {d : D} (s : SV G w v d) (f : flatD d = true) : SVs G w vs ds → ds.all flatD = true → inV v vs = ds.any fun e => M.eqF e d
  | .nil, _ => rfl
  | .cons q t, g => by
    simp only [List.all_cons, Bool.and_eq_true] at g
    show (L2.eqV _ v || _) = (M.eqF _ d || _)
    rw [q.eqF s g.1 f]
    exact congrArg _ (SVs.anyF s f t g.2)
theorem ro_in (hK : X.K = G.K) : OpR X (compareOp .In) (RO G opIn) := by
  refine OpR.imp (OpR.or op_in_sign op_in_seq) fun x y H Q ⟨ρ, h, d, e, MQ, sh, sx, sy, lq, m⟩ => ?_
  simp only [opIn, opInB] at m
  split at m
  · split at m
    · obtain ⟨c, rfl, m⟩ := m
      exact .inl ⟨_, _, sx.str', sy.str', lq _ _ _ _ Le.refl sh (.bl _) m⟩
    · exact m.elim
  · split at m
    · rename_i l hl
      obtain ⟨p, vs, rfl, hp, svs⟩ := seqI_ok sh sy hl
      refine .inr ⟨p, vs, rfl, by rw [hK]; exact hp, sx.flat m.1.1, svs.flat' m.1.2, lq _ _ _ _ Le.refl sh ?_ m.2⟩
      rw [if_neg Bool.false_ne_true, SVs.anyF sx m.1.1 svs m.1.2]; exact .bl _
    · exact m.elim
end
/-! ### built-in calls -/
def cLen : MC := fun ds h Q => match ds with
  | [.str z] => z.length ≤ 1000000 ∧ Q (.int z.length) h
  | [x] => match seqI h x with | some l => Q (.int l.length) h | none => False
  | _ => False
def cList : MC := fun ds h Q => match ds with | [x] => (match seqI h x with | some l => mkL l h Q | none => False) | _ => False
def cTuple : MC := fun ds h Q => match ds with
  | [x] => (match seqI h x with | some l => Q (.tup l) h | none => False)
  | _ => False
def cInt : MC := fun ds h Q => match ds with
  | [.int i] => Q (.int i) h
  | [.bl b] => Q (.int (if b = true then 1 else 0)) h
  | [.str z] => match PySem.intText? z with | some n => z.length ≤ 640 ∧ Q (.int n) h | none => False
  | _ => False
def cStr : MC := fun ds h Q => match ds with
  | [.int i] => (-(2 ^ 200) < i ∧ i < 2 ^ 200) ∧ Q (.str (toString i)) h
  | [.str z] => Q (.str z) h
  | _ => False
def cAbs : MC := fun ds h Q => match ds with | [.int i] => Q (.int (if i < 0 then -i else i)) h | _ => False
def cMin : MC := fun ds h Q => match ds with | [.int i, .int j] => Q (.int (if j < i then j else i)) h | _ => False
def cMax : MC := fun ds h Q => match ds with | [.int i, .int j] => Q (.int (if j > i then j else i)) h | _ => False
def cDivmod : MC := fun ds h Q => match ds with | [.int i, .int j] => (0 < j ∧ j < 1073741824) ∧ Q (.tup [.int (i / j), .int (i % j)]) h | _ => False
/-- the ints, the truths of a list -/
def intsD : List D → Option (List Int)
  | [] => some []
  | .int i :: l => (intsD l).map (i :: ·)
  | _ => none
def boolsD : List D → Option (List Bool)
  | [] => some []
  | .bl i :: l => (boolsD l).map (i :: ·)
  | _ => none
def cSum : MC := fun ds h Q => match ds with | [x] => (match (itemsL h x).bind intsD with | some l => Q (.int l.sum) h | none => False) | _ => False
def cAll : MC := fun ds h Q => match ds with | [x] => (match (itemsL h x).bind boolsD with | some l => Q (.bl (l.all id)) h | none => False) | _ => False
def cAny : MC := fun ds h Q => match ds with | [x] => (match (itemsL h x).bind boolsD with | some l => Q (.bl (l.any id)) h | none => False) | _ => False
section
variable {X : Cx} {G : Gb} {W : WX} {w : Wd}
theorem SVs.one' {vs : List V} {d : D} (s : SVs G w vs [d]) : ∃ v, vs = [v] ∧ SV G w v d := by
  cases s with
  | cons a b => cases b; exact ⟨_, rfl, a⟩
theorem SVs.ints {vs : List V} : ∀ {ds : List D} {l : List Int}, SVs G w vs ds → intsD ds = some l → vs = l.map V.int := by
  intro ds
  induction ds generalizing vs with
  | nil => intro l s e; cases s; cases e; rfl
  | cons d ds ih =>
    intro l s e
    cases s with
    | cons a b =>
      unfold intsD at e
      split at e
      · rename_i q; cases q
      · rename_i i l' q; cases q
        cases e1 : intsD ds with
        | none => rw [e1] at e; cases e
        | some r => rw [e1] at e; cases e; rw [a.int', ih b e1]; rfl
      · cases e
theorem SVs.bools {vs : List V} : ∀ {ds : List D} {l : List Bool}, SVs G w vs ds → boolsD ds = some l → vs = l.map V.bl := by
  intro ds
  induction ds generalizing vs with
  | nil => intro l s e; cases s; cases e; rfl
  | cons d ds ih =>
    intro l s e
    cases s with
    | cons a b =>
      unfold boolsD at e
      split at e
      · rename_i q; cases q
      · rename_i i l' q; cases q
        cases e1 : boolsD ds with
        | none => rw [e1] at e; cases e
        | some r => rw [e1] at e; cases e; rw [a.bl', ih b e1]; rfl
      · cases e
theorem m_callB {e : Expr} {es : List Expr} {x : Str} {id : String} {o : MC} {mr : MA} {p pos : Pos} (hc : CallR X (.builtin id) (RC G o)) (hg : Gl X x) (hm : X.mg x = none) (hv : bootBuiltins x = some (.builtin id)) (ha : PA X (e :: es) (RA G W mr)) (hn : x ≠ "__name__" := by decide) (hdb : (x == ("__debug__" : Str)) = false := by decide)
    (he : starEach (e :: es) X.env = (false, eval e X.env) :: starEach es X.env := by rfl) (hpl : (backTo pos (starEach es X.env)).any (·.1) = false := by rfl) : PE X (.Call (.Name x p) (e :: es) [] pos) (RE G W (mCB o mr)) :=
  peI (pe_callB hc hg hm hv ha hn hdb he hpl) fun σ H Q h => RC_of h
theorem rc_len (hK : X.K = G.K) : CallR X (.builtin "len") (RC G cLen) := by
  refine CallR.imp call_len fun xs H Q ⟨ρ, h, ds, MQ, sh, svs, lq, m⟩ => ?_
  unfold cLen at m
  split at m
  · rename_i z
    obtain ⟨v, rfl, s⟩ := svs.one'
    obtain rfl := s.str'
    exact ⟨_, z.length, rfl, ⟨line m.1, rfl⟩, lq _ _ _ _ Le.refl sh (.int _) m.2⟩
  · rename_i x _
    obtain ⟨v, rfl, s⟩ := svs.one'
    split at m
    · rename_i l hl
      obtain ⟨p, vs, rfl, hp, sv⟩ := seqI_ok sh s hl
      refine ⟨_, vs.length, rfl, ?_, by rw [sv.length]; exact lq _ _ _ _ Le.refl sh (.int _) m⟩
      rw [hK]
      exact hp.imp (fun q => ⟨vs, q, rfl⟩) (fun q => ⟨vs, q, rfl⟩)
    · exact m.elim
  · exact m.elim
theorem rc_list (hK : X.K = G.K) : CallR X (.type "list") (RC G cList) := by
  refine CallR.imp call_list_of fun xs H Q ⟨ρ, h, ds, MQ, sh, svs, lq, m⟩ => ?_
  unfold cList at m
  split at m
  · obtain ⟨v, rfl, s⟩ := svs.one'
    split at m
    · rename_i l hl
      obtain ⟨p, vs, rfl, hp, sv⟩ := seqI_ok sh s hl
      exact ⟨p, vs, rfl, by rw [hK]; exact hp, mkL_ok sh sv lq m⟩
    · exact m.elim
  · exact m.elim
theorem rc_tuple (hK : X.K = G.K) : CallR X (.type "tuple") (RC G cTuple) := by
  refine CallR.imp call_tuple_of fun xs H Q ⟨ρ, h, ds, MQ, sh, svs, lq, m⟩ => ?_
  unfold cTuple at m
  split at m
  · obtain ⟨v, rfl, s⟩ := svs.one'
    split at m
    · rename_i l hl
      unfold seqI at hl
      split at hl
      · cases hl
        obtain ⟨p, vs, rfl, hp, sv⟩ := tup_ok s
        exact ⟨p, vs, rfl, .inr ⟨by rw [hK]; exact hp, lq _ _ _ _ Le.refl sh s m⟩⟩
      · obtain ⟨p, vs, rfl, hp, sv⟩ := itemsL_ok sh s hl
        exact ⟨p, vs, rfl, .inl ⟨by rw [hK]; exact hp, mkT_ok sh sv lq m⟩⟩
    · exact m.elim
  · exact m.elim
theorem rc_all (hK : X.K = G.K) (hc : X.calm = true) : CallR X (.builtin "all") (RC G cAll) := CallR.imp (cr_all hc) fun xs H Q ⟨ρ, h, ds, MQ, sh, svs, lq, m⟩ => by
  unfold cAll at m
  split at m
  · obtain ⟨v, rfl, s⟩ := svs.one'
    split at m
    · rename_i l hl
      obtain ⟨ds, h1, h2⟩ := Option.bind_eq_some_iff.mp hl
      obtain ⟨p, vs, rfl, hp, sv⟩ := itemsL_ok sh s h1
      rw [sv.bools h2] at hp
      exact ⟨p, l, rfl, by rw [hK]; exact hp, lq _ _ _ _ Le.refl sh (.bl _) m⟩
    · exact m.elim
  · exact m.elim
end
end M

set_option Elab.async false
set_option linter.all false
set_option maxRecDepth 100000
namespace M
open PySem PySem.Spec PyProof.Rows L2
/-! ### targets -/
inductive Pt where
  | nm (i : Nat) | tp (l : List Pt)
mutual
def Pt.bind : Pt → D → MSt → Option MSt
  | .nm i, d, s => some (s.set i (some d))
  | .tp l, .tup ds, s => Pt.binds l ds s
  | .tp _, _, _ => none
def Pt.binds : List Pt → List D → MSt → Option MSt
  | [], [], s => some s
  | p :: ps, d :: ds, s => match Pt.bind p d s with | some s1 => Pt.binds ps ds s1 | none => none
  | _, _, _ => none
end
mutual
def Pt.slots : Pt → List Nat
  | .nm i => [i]
  | .tp l => Pt.slotsL l
def Pt.slotsL : List Pt → List Nat
  | [] => []
  | p :: ps => Pt.slots p ++ Pt.slotsL ps
end
/-- alike but for some slots -/
def Off (vs : List Nat) (σ σ' : L2.St) : Prop := σ'.length = σ.length ∧ ∀ j, j ∉ vs → σ'[j]? = σ[j]?
def RG (G : Gb) (p : Pt) : TG := fun v σ H Q => ∃ ρ s h d s', SH G ⟨ρ, H⟩ h ∧ SS G ⟨ρ, H⟩ σ s ∧ SV G ⟨ρ, H⟩ v d ∧ p.bind d s = some s' ∧ ∀ σ', Off p.slots σ σ' → SS G ⟨ρ, H⟩ σ' s' → Q σ' H
def RGs (G : Gb) (ps : List Pt) : TGs := fun vs σ H Q => ∃ ρ s h ds s', SH G ⟨ρ, H⟩ h ∧ SS G ⟨ρ, H⟩ σ s ∧ SVs G ⟨ρ, H⟩ vs ds ∧ Pt.binds ps ds s = some s' ∧ ∀ σ', Off (Pt.slotsL ps) σ σ' → SS G ⟨ρ, H⟩ σ' s' → Q σ' H
section
variable {X : Cx} {G : Gb} {W : WX} {e : Expr} {es : List Expr} {p : Pt} {ps : List Pt} {pos : Pos}
theorem pgI {t t' : TG} (h : PG X e t) (k : ∀ v σ H Q, t' v σ H Q → t v σ H Q) : PG X e t' := ⟨fun pins s σ H v u Q I r q => h.run pins s σ H v u Q I r (k _ _ _ _ q)⟩
theorem pgsI {t t' : TGs} (h : PGs X es t) (k : ∀ v σ H Q, t' v σ H Q → t v σ H Q) : PGs X es t' := ⟨fun pins s σ H v u Q I r q => h.run pins s σ H v u Q I r (k _ _ _ _ q)⟩
theorem g_nm {i : Nat} {x : Str} (hN : X.N.Nodup) (hi : X.N[i]? = some x) (hx : Loc X.env.scope x) (hf : X.fn x = true ∨ X.env.scope.names.lookup x = some .local := by first | exact .inl rfl | exact .inr rfl | assumption) (hfr : G.fr i = true := by rfl) : PG X (.Name x pos) (RG G (.nm i)) :=
  pgI (pg_name hN hi hx hf) fun v σ H Q ⟨ρ, s, h, d, s', sh, ss, sv, b, q⟩ => by
    simp only [Pt.bind, Option.some.injEq] at b
    subst b
    exact q _ ⟨by simp, fun j hj => by rw [List.getElem?_set_ne]; simp [Pt.slots] at hj; exact Ne.symm hj⟩ (ss.set sv i hfr)
theorem g_nil : PGs X [] (RGs G []) := pgsI pgs_nil fun v σ H Q ⟨ρ, s, h, ds, s', sh, ss, sv, b, q⟩ => by
  cases sv with
  | nil => simp only [Pt.binds, Option.some.injEq] at b; subst b; exact ⟨rfl, q _ ⟨rfl, fun _ _ => rfl⟩ ss⟩
  | cons _ _ => simp [Pt.binds] at b
theorem g_cons (h1 : PG X e (RG G p)) (h2 : PGs X es (RGs G ps)) (hs : (assignEach (e :: es) X.env).map (·.2) = assign e X.env :: (assignEach es X.env).map (·.2) := by rfl) : PGs X (e :: es) (RGs G (p :: ps)) :=
  pgsI (pgs_cons h1 h2 hs) fun v σ H Q ⟨ρ, s, h, ds, s', sh, ss, sv, b, q⟩ => by
    cases sv with
    | nil => simp [Pt.binds] at b
    | cons a t =>
      unfold Pt.binds at b
      split at b
      · rename_i s1 e1
        exact ⟨_, _, rfl, ρ, s, h, _, s1, sh, ss, a, e1, fun σ' of ss' => ⟨ρ, s1, h, _, s', sh, ss', t, b, fun σ2 of2 => q σ2 ⟨of2.1.trans of.1, fun j hj => by
          simp only [Pt.slotsL, List.mem_append, not_or] at hj
          exact (of2.2 j hj.2).trans (of.2 j hj.1)⟩⟩⟩
      · cases b
theorem Pt.binds_len : ∀ {ps : List Pt} {ds : List D} {s s' : MSt}, Pt.binds ps ds s = some s' → ds.length = ps.length
  | [], [], _, _, _ => rfl
  | p :: ps, d :: ds, s, s', b => by
    unfold Pt.binds at b
    split at b
    · simp [Pt.binds_len b]
    · cases b
  | [], d :: ds, _, _, b => by simp [Pt.binds] at b
  | p :: ps, [], _, _, b => by simp [Pt.binds] at b
theorem g_tp {k : Nat} (hK : X.K = G.K) (hc : X.calm = true) (h : PGs X es (RGs G ps)) (hn : (assignEach es X.env).length = ps.length := by rfl) (hst : (assignEach es X.env).findIdx? (·.1) = none := by rfl) : PG X (.Tuple es k pos) (RG G (.tp ps)) :=
  pgI (pg_tup hc h hn hst) fun v σ H Q ⟨ρ, s, h, d, s', sh, ss, sv, b, q⟩ => by
    cases d with
    | tup ds =>
      simp only [Pt.bind] at b
      obtain ⟨p, vs, rfl, hp, svs⟩ := tup_ok sv
      exact ⟨p, vs, rfl, by rw [hK]; exact hp, by rw [svs.length, Pt.binds_len b], ρ, s, h, ds, s', sh, ss, svs, b, q⟩
    | _ => simp [Pt.bind] at b
end
/-- a, b = e -/
def mAsg (p : Pt) (a : ME) : MS := fun M s h => a s h (M.ex s) fun d h1 => match p.bind d s with | some s1 => M.nx s1 h1 | none => False
/-! ### o[i] = v -/
def setD (x y v : D) (h : MH) (N : MH → Prop) : Prop := match x, y with
  | .ref r i, .int k => match h.at r i with
    | some (.lst l) => match ixN l.length k with | some j => N (h.upd r i (.lst (l.set j v))) | none => False
    | _ => False
  | _, _ => False
def mSetIx (o i e : ME) : MS := fun M s h => e s h (M.ex s) fun v h1 => o s h1 (M.ex s) fun x h2 => i s h2 (M.ex s) fun y h3 => setD x y v h3 fun h4 => M.nx s h4
section
variable {X : Cx} {G : Gb} {W : WX}
theorem setD_ok {ρ : Option Nat → Nat → Option Addr} {H : Hp} {h : MH} {x y v : V} {dx dy dv : D} {N : MH → Prop} (sh : SH G ⟨ρ, H⟩ h) (sx : SV G ⟨ρ, H⟩ x dx) (sy : SV G ⟨ρ, H⟩ y dy) (sv : SV G ⟨ρ, H⟩ v dv) (m : setD dx dy dv h N)
    {Q : Hp → Prop} (k : ∀ w1 h1, Le ⟨ρ, H⟩ w1 → SH G w1 h1 → N h1 → Q w1.H) : rSetL x y v H Q := by
  unfold setD at m
  split at m
  · rename_i r i k'
    split at m
    · rename_i l hl
      split at m
      · rename_i j hj
        cases sx with
        | ref hp =>
          rename_i p
          have so := sh.look hp hl
          cases so with
          | lst a s =>
            obtain ⟨le, sh'⟩ := Wd.change (u := .lst (_ : List V)) (o := .lst (l.set j dv)) sh hp hl fun le => .lst (vs := (_ : List V).set j v) upd_same ((SVs.set sv j s).le le)
            exact ⟨p, _, k', j, rfl, sy.int', a, by rw [s.length]; exact hj, k _ _ le sh' m⟩
      · exact m.elim
    · exact m.elim
  · exact m.elim
theorem s_setix {o i e : Expr} {mo mi me : ME} {pos pos' : Pos} (he : PE X e (RE G W me)) (ho : PE X o (RE G W mo)) (hi : PE X i (RE G W mi)) (hs : swapsWithSole [.Subscript o i pos'] e pos.line X.env = pure false := by rfl) (hw : swappedStores [.Subscript o i pos'] e X.env = pure none := by rfl)
    (h1 : (assignEach [.Subscript o i pos'] X.env).map (·.2) = [assign (.Subscript o i pos') X.env] := by rfl)
    (ha : ∀ v, assign (.Subscript o i pos') X.env v = (do
      let ov ← holding [v] (eval o X.env)
      let iv ← holding [v, ov] (eval i X.env)
      standAt pos'
      holding [v, ov, iv] (setItem ov iv v)
      release [v, ov, iv] []) := by intro _; rfl) : PS X (.Assign [.Subscript o i pos'] e pos) (RS G W (mSetIx mo mi me)) :=
  psI (ps_asg he (pg_sub ho hi set_list ha) hs hw h1) fun N σ H ⟨ρ, s, h, M, ss, sh, ld, m⟩ => by
    have lx := ld.ex _ _ _ Le.refl ss
    refine ⟨ρ, s, h, _, _, ss, sh, lx, fun w1 h1 dv v e1 sh1 sv q => ?_, m⟩
    refine ⟨w1.ρ, s, h1, _, _, ss.le e1, sh1, lx.le e1, fun w2 h2 dx x e2 sh2 sx q => ?_, q⟩
    refine ⟨w2.ρ, s, h2, _, _, ss.le (e1.trans e2), sh2, lx.le (e1.trans e2), fun w3 h3 dy y e3 sh3 sy q => ?_, q⟩
    exact setD_ok sh3 (sx.le e3) sy (sv.le (e2.trans e3)) q fun w4 h4 e4 sh4 q => ld.nx _ _ _ _ ((e1.trans (e2.trans e3)).trans e4) sh4 (ss.le ((e1.trans (e2.trans e3)).trans e4)) q
end
/-! ### attributes -/
def fldD (h : MH) (x : D) (f : String) : Option D := match x with
  | .ref r i => match h.at r i with | some (.ins _ fs) => fs.lookup f | _ => none
  | _ => none
def mFld (f : String) (a : ME) : ME := fun s h X Q => a s h X fun x h1 => match fldD h1 x f with | some d => Q d h1 | none => False
def clsD (h : MH) (x : D) : Option String := match x with
  | .ref r i => match h.at r i with | some (.ins c _) => some c | _ => none
  | _ => none
def sfD (c : String) (x : D) (f : String) (v : D) (h : MH) (N : MH → Prop) : Prop := match x with
  | .ref r i => match h.at r i with | some (.ins c' fs) => c' = c ∧ fs.length < 900 ∧ N (h.upd r i (.ins c (putD f v fs))) | _ => False
  | _ => False
def mSFld (c f : String) (a e : ME) : MS := fun M s h => e s h (M.ex s) fun v h1 => a s h1 (M.ex s) fun x h2 => sfD c x f v h2 fun h3 => M.nx s h3
/-- a.f op= e -/
def mSFldAug (c f : String) (o : M2) (a e : ME) : MS := fun M s h => a s h (M.ex s) fun x h1 => clsD h1 x = some c ∧ match fldD h1 x f with
  | some d => e s h1 (M.ex s) fun y h2 => o d y h2 fun z h3 => sfD c x f z h3 fun h4 => M.nx s h4
  | none => False
section
variable {X : Cx} {G : Gb} {W : WX} {a e : Expr} {ma me : ME} {pos pos' : Pos} {c f : String} {C : Addr} {fl : List String}
theorem fldD_ok {w : Wd} {h : MH} {x : V} {d dv : D} (sh : SH G w h) (sx : SV G w x d) (e : fldD h d f = some dv) : ∃ p C dx fs' c fs fl v, x = .ref p ∧ w.H p = some (.ins C dx fs') ∧ G.tb.lookup c = some (C, true, fl) ∧ f ∈ fl ∧ fs'.lookup (Str.ofString f) = some v ∧ SV G w v dv ∧ fs'.length = (fs : List (String × D)).length ∧ clsD h d = some c := by
  unfold fldD at e
  split at e
  · split at e
    · rename_i r i c fs hl
      cases sx with
      | ref hp =>
        have so := sh.look hp hl
        cases so with
        | ins a1 hc hf s =>
          obtain ⟨v, hv, sv⟩ := s.lookup e
          exact ⟨_, _, _, _, c, fs, _, v, rfl, a1, hc, hf _ _ (look_mem e), hv, sv, s.length, by simp only [clsD, hl]⟩
    · cases e
  · cases e
theorem m_fld (ok : GOk G) (hK : X.K = G.K) (ha : PE X a (RE G W ma)) (hb : attributeBase a (Str.ofString f) X.env (eval a X.env) = eval a X.env := by rfl) : PE X (.Attribute a (Str.ofString f) pos) (RE G W (mFld f ma)) :=
  peI (pe_fld ha hb) fun σ H Q ⟨ρ, s, h, Y, MQ, ss, sh, lx, lq, m⟩ => ⟨ρ, s, h, Y, _, ss, sh, lx, fun w1 h1 d v e1 sh1 sv q => by
    split at q
    · rename_i dv hd
      obtain ⟨p, C, dx, fs', c, fs, fl, v', rfl, hp, hc, hf, hl, sv', _⟩ := fldD_ok sh1 sv hd
      rw [hK]
      exact ⟨p, C, dx, fs', v', rfl, hp, (ok.at hc).1, (ok.at hc).2 _ hf, hl, lq _ _ _ _ e1 sh1 sv' q⟩
    · exact q.elim, m⟩
theorem sfD_ok (ok : GOk G) {w : Wd} {h : MH} {x v : V} {dx dv : D} {N : MH → Prop} (hc : G.tb.lookup c = some (C, true, fl)) (hf : f ∈ fl) (sh : SH G w h) (sx : SV G w x dx) (sv : SV G w v dv) (m : sfD c dx f dv h N) :
    ∃ p dx fs, x = .ref p ∧ w.H p = some (.ins C dx fs) ∧ fs.length < 1000 ∧ ∃ w1 h1, w1.H = L2.upd w.H p (.ins C dx (putF (Str.ofString f) v fs)) ∧ Le w w1 ∧ SH G w1 h1 ∧ N h1 := by
  unfold sfD at m
  split at m
  · rename_i r i
    split at m
    · rename_i c' fs hl
      obtain ⟨rfl, hlen, m⟩ := m
      cases sx with
      | ref hp =>
        have so := sh.look hp hl
        cases so with
        | ins a1 hc' hf' s =>
          rw [hc] at hc'; cases hc'
          obtain ⟨le, sh'⟩ := Wd.change (u := .ins C _ (putF (Str.ofString f) v _)) (o := .ins c' (putD f dv fs)) sh hp hl fun le => .ins upd_same hc (putD_mem hf hf') ((SFs.put sv s).le le)
          exact ⟨_, _, _, rfl, a1, by rw [s.length]; omega, _, _, rfl, le, sh', m⟩
    · exact m.elim
  · exact m.elim
theorem s_sfld (ok : GOk G) (hK : X.K = G.K) (hc : G.tb.lookup c = some (C, true, fl)) (hf : f ∈ fl) (ha : PE X a (RE G W ma)) (he : PE X e (RE G W me)) (hs : swapsWith e (some (.Attribute a (Str.ofString f) pos')) pos.line X.env = pure false := by rfl) : PS X (.Assign [.Attribute a (Str.ofString f) pos'] e pos) (RS G W (mSFld c f ma me)) :=
  psI (ps_fld ha he hs) fun N σ H ⟨ρ, s, h, M, ss, sh, ld, m⟩ => by
    have lx := ld.ex _ _ _ Le.refl ss
    refine ⟨ρ, s, h, _, _, ss, sh, lx, fun w1 h1 dv v e1 sh1 sv q => ?_, m⟩
    refine ⟨w1.ρ, s, h1, _, _, ss.le e1, sh1, lx.le e1, fun w2 h2 dx x e2 sh2 sx q => ?_, q⟩
    obtain ⟨p, d, fs, rfl, hp, hl, w3, h3, e3, le, sh3, q⟩ := sfD_ok ok hc hf sh2 sx (sv.le e2) q
    refine ⟨p, C, d, fs, rfl, hp, by rw [hK]; exact (ok.at hc).1, by rw [hK]; exact (ok.at hc).2 _ hf, hl, ?_⟩
    rw [← e3]
    exact ld.nx _ _ _ _ ((e1.trans e2).trans le) sh3 (ss.le ((e1.trans e2).trans le)) q
end
/-! ### a name op= e; o[i] op= e -/
def mAug (i : Nat) (o : M2) (a : ME) : MS := fun M s h => match s[i]? with
  | some (some x) => a s h (M.ex s) fun y h1 => o x y h1 fun z h2 => M.nx (s.set i (some z)) h2
  | _ => False
def mAugIx (o : M2) (a i e : ME) : MS := fun M s h => a s h (M.ex s) fun x h1 => i s h1 (M.ex s) fun y h2 => opIx x y h2 fun v h3 => e s h3 (M.ex s) fun u h4 => o v u h4 fun z h5 => setD x y z h5 fun h6 => M.nx s h6
section
variable {X : Cx} {G : Gb} {W : WX} {a e i : Expr} {ma me mi : ME} {pos pos' : Pos}
end
end M

set_option Elab.async false
set_option linter.all false
set_option maxRecDepth 100000
namespace M
open PySem PySem.Spec PyProof.Rows L2
/-! ### o[i] op= e -/
section
variable {X : Cx} {G : Gb} {W : WX}
def getL (x y : D) (h : MH) (Q : MK) : Prop := match x, y with
  | .ref r i, .int k => match h.at r i with
    | some (.lst l) => match atI l k with | some d => Q d h | none => False
    | _ => False
  | _, _ => False
end
def mAugL (o : M2) (a i e : ME) : MS := fun M s h => a s h (M.ex s) fun x h1 => i s h1 (M.ex s) fun y h2 => getL x y h2 fun v h3 => e s h3 (M.ex s) fun u h4 => o v u h4 fun z h5 => setD x y z h5 fun h6 => M.nx s h6
section
variable {X : Cx} {G : Gb} {W : WX}
end
/-! ### methods of lists -/
def isL (h : MH) : D → Prop
  | .lst _ => True
  | .rol _ => True
  | .ref r i => match h.at r i with | some (.lst _) => True | _ => False
  | _ => False
def mLM (o : D → List D → MH → MK → Prop) (a : ME) (args : MA) : ME := fun s h X Q => a s h X fun x h1 => isL h1 x ∧ args s h1 X fun ds h2 => o x ds h2 Q
/-- the list object at x and its items -/
def lstAt (h : MH) : D → Option (Nat × Nat × List D)
  | .ref r i => match h.at r i with | some (.lst l) => some (r, i, l) | _ => none
  | _ => none
def lAppend : D → List D → MH → MK → Prop := fun x ds h Q => match lstAt h x, ds with | some (r, i, l), [y] => l.length < 1000000 ∧ Q .non (h.upd r i (.lst (l ++ [y]))) | _, _ => False
def lClear : D → List D → MH → MK → Prop := fun x ds h Q => match lstAt h x, ds with | some (r, i, _), [] => Q .non (h.upd r i (.lst [])) | _, _ => False
def lReverse : D → List D → MH → MK → Prop := fun x ds h Q => match lstAt h x, ds with | some (r, i, l), [] => Q .non (h.upd r i (.lst l.reverse)) | _, _ => False
def lPop : D → List D → MH → MK → Prop := fun x ds h Q => match lstAt h x, ds with
  | some (r, i, l), [] => match l[l.length - 1]? with | some y => Q y (h.upd r i (.lst l.dropLast)) | none => False
  | some (r, i, l), [.int k] => (-1000000 ≤ k ∧ k ≤ 1000000) ∧ match seqIndex? k l.length with
    | some j => match l[j]? with | some y => Q y (h.upd r i (.lst (l.eraseIdx j))) | none => False
    | none => False
  | _, _ => False
/-- the first place of a flat thing -/
def lIndex : D → List D → MH → MK → Prop := fun x ds h Q => match itemsL h x, ds with
  | some l, [y] => (flatD y = true ∧ l.all flatD = true) ∧ match l.findIdx? (fun e => eqF e y) with | some j => Q (.int j) h | none => False
  | _, _ => False
def lCount : D → List D → MH → MK → Prop := fun x ds h Q => match (itemsL h x).bind intsD, ds with
  | some l, [.int k] => Q (.int (l.count k)) h
  | _, _ => False
section
variable {X : Cx} {G : Gb} {W : WX} {w : Wd} {h : MH}
theorem isL_ok {v : V} {d : D} (sh : SH G w h) (sv : SV G w v d) (m : isL h d) : tyV G.K "list" v w.H := by
  unfold isL at m
  split at m
  · obtain ⟨p, vs, rfl, hp, _⟩ := itemsL_ok sh sv rfl; exact .inl ⟨rfl, vs, hp⟩
  · obtain ⟨p, vs, rfl, hp, _⟩ := itemsL_ok sh sv rfl; exact .inl ⟨rfl, vs, hp⟩
  · split at m
    · rename_i r i l hl
      obtain ⟨p, vs, rfl, hp, _⟩ := itemsL_ok (ds := l) sh sv (by simp only [itemsL, hl]); exact .inl ⟨rfl, vs, hp⟩
    · exact m.elim
  · exact m.elim
def RM (G : Gb) (o : D → List D → MH → MK → Prop) : V → List V → Hp → VK → Prop := fun x xs H Q => ∃ ρ h d ds MQ, SH G ⟨ρ, H⟩ h ∧ SV G ⟨ρ, H⟩ x d ∧ SVs G ⟨ρ, H⟩ xs ds ∧ LQ G ⟨ρ, H⟩ MQ Q ∧ o d ds h MQ
theorem RM_of {a : Expr} {ma : ME} {mr : MA} {o : D → List D → MH → MK → Prop} {σ : L2.St} {H : Hp} {Q : VK} (h : RE G W (mLM o ma mr) σ H Q) : tBM G.K "list" (RM G o) (RE G W ma) (RA G W mr) σ H Q := by
  obtain ⟨ρ, s, h, X, MQ, ss, sh, lx, lq, m⟩ := h
  refine ⟨ρ, s, h, X, _, ss, sh, lx, fun w1 h1 d v e1 sh1 sv q => ⟨isL_ok sh1 sv q.1, ?_⟩, m⟩
  refine ⟨w1.ρ, s, h1, X, _, ss.le e1, sh1, lx.le e1, fun w2 h2 ds vs e2 sh2 svs q => ?_, q.2⟩
  exact ⟨w2.ρ, h2, d, ds, MQ, sh2, sv.le e2, svs, lq.le (e1.trans e2), q⟩
theorem m_lm {o e : Expr} {es : List Expr} {name : Str} {apos cpos : Pos} {id : String} {mo : ME} {mr : MA} {f : D → List D → MH → MK → Prop} (hK : X.K = G.K) (slot : Slot "list" name id) (hty : typeOf (.builtin id) = pure (.type "method_descriptor")) (hm : MtR X id (RM G f)) (ho : PE X o (RE G W mo)) (ha : PA X (e :: es) (RA G W mr))
    (hbase : attributeBase o name X.env (eval o X.env) = eval o X.env := by rfl)
    (hfew : ((backTo cpos (starEach (e :: es) X.env)).all (fun x => !x.1) && (backToKw cpos (keywordEach [] X.env)).all (fun x => x.1.isSome)
      && decide ((e :: es).length + ([] : List Keyword).length + (if ([] : List Keyword).isEmpty then 0 else 1) < 30)) = true := by rfl)
    (hline : (apos.endLine == cpos.line) = true := by rfl) (hs : starEach (e :: es) X.env = (false, eval e X.env) :: starEach es X.env := by rfl) (hplain : (backTo cpos (starEach es X.env)).any (·.1) = false := by rfl) :
    PE X (.Call (.Attribute o name apos) (e :: es) [] cpos) (RE G W (mLM f mo mr)) :=
  peI (pe_bm PySem.F.plainAttrs_list slot hty hm ho ha hbase hfew hline hs hplain) fun σ H Q h => by rw [hK]; exact RM_of (a := o) h
theorem lstAt_ok {v : V} {d : D} {r i : Nat} {l : List D} (sh : SH G w h) (sv : SV G w v d) (e : lstAt h d = some (r, i, l)) : ∃ p vs, v = .ref p ∧ w.H p = some (.lst vs) ∧ SVs G w vs l ∧ w.ρ (some r) i = some p ∧ h.at r i = some (.lst l) := by
  unfold lstAt at e
  split at e
  · split at e
    · rename_i hl
      cases e
      cases sv with
      | ref hr =>
        have so := sh.look hr hl
        cases so with
        | lst a s => exact ⟨_, _, rfl, a, s, hr, hl⟩
    · cases e
  · cases e
theorem lst_change {ρ : Option Nat → Nat → Option Addr} {H : Hp} {p : Addr} {r i : Nat} {l l' : List D} {vs' : List V} {MQ : MK} {Q : VK} (sh : SH G ⟨ρ, H⟩ h) (hr : ρ (some r) i = some p) (hl : h.at r i = some (.lst l)) (s : SVs G ⟨ρ, H⟩ vs' l') (lq : LQ G ⟨ρ, H⟩ MQ Q) {d : D} {v : V} (sv : SV G ⟨ρ, H⟩ v d) (m : MQ d (h.upd r i (.lst l'))) : Q v (L2.upd H p (.lst vs')) := by
  obtain ⟨le, sh'⟩ := Wd.change (u := .lst vs') (o := .lst l') sh hr hl fun le => .lst upd_same (s.le le)
  exact lq ⟨ρ, L2.upd H p (.lst vs')⟩ _ _ _ le sh' (sv.le le) m
theorem rm_append : MtR X "list.append" (RM G lAppend) := MtR.imp mt_append fun x xs H Q ⟨ρ, h, d, ds, MQ, sh, sx, svs, lq, m⟩ => by
  unfold lAppend at m
  split at m
  · rename_i r i l y e
    obtain ⟨p, vs, rfl, hp, s, hr, hl⟩ := lstAt_ok sh sx e
    obtain ⟨v, rfl, sv⟩ := svs.one'
    exact ⟨p, vs, v, rfl, rfl, hp, by rw [s.length]; unfold sizeLine; have := m.1; omega, lst_change sh hr hl (s.append (.cons sv .nil)) lq .non m.2⟩
  · exact m.elim
theorem SVs.reverse {vs : List V} {ds : List D} : SVs G w vs ds → SVs G w vs.reverse ds.reverse
  | .nil => .nil
  | .cons a b => by rw [List.reverse_cons, List.reverse_cons]; exact (SVs.reverse b).append (.cons a .nil)
theorem SVs.dropLast {vs : List V} {ds : List D} (s : SVs G w vs ds) : SVs G w vs.dropLast ds.dropLast := by
  rw [List.dropLast_eq_take, List.dropLast_eq_take, s.length]; exact s.take _
end
end M

set_option Elab.async false
set_option linter.all false
set_option maxRecDepth 100000
namespace Z
open PySem PySem.Spec PyProof.Rows L2 Evl
/-! defs packed: a def of the top by its name; a method of a class; a class made -/
structure Dn (P : Program) (w : World) (K : PySem.W.Frag) (mg : Str → Option Value) (base : Heap) (k : Nat) (x : Str) (sp : Sp) : Prop where
  ex : ∃ (f : Addr) (fd : FuncData) (ps : List Str), FnOk P w K mg base (L2.CX P w) k f fd ps sp ∧ mg x = some (.ref f) ∧ PySem.W.keepIn K (.ref f) = true ∧ Binds K fd ps []
structure Mn (P : Program) (w : World) (K : PySem.W.Frag) (mg : Str → Option Value) (base : Heap) (k : Nat) (C : Addr) (m : Str) (sp : Sp) : Prop where
  ex : ∃ (f : Addr) (fd : FuncData) (ps : List Str), FnOk P w K mg base (L2.CX P w) k f fd ps sp ∧ Cls K C ∧ Meth K C m f ∧ Binds K fd ps []
/-- the def as the top left it -/
structure Df (K : PySem.W.Frag) (mg : Str → Option Value) (x : Str) (st : Stmt) (ps : List Str) : Prop where
  ex : ∃ (f : Addr) (fd : FuncData), Fun K x x st f fd ∧ mg x = some (.ref f) ∧ ∀ us : List Value, us.length = ps.length → bindArgs fd ⟨us, []⟩ = pure (ps.zip us)
structure Mf (K : PySem.W.Frag) (C : Addr) (m q : Str) (st : Stmt) (ps : List Str) : Prop where
  ex : ∃ (f : Addr) (fd : FuncData), Fun K m q st f fd ∧ Meth K C m f ∧ Binds K fd ps []
section
variable {P : Program} {w : World} {K : PySem.W.Frag} {mg : Str → Option Value} {base : Heap} {x : Str} {st : Stmt} {ps N : List Str} {k : Nat} {sp : Sp} {C : Addr} {m q : Str}
/-- a def keeps its promise by its body -/
theorem Df.dn (F : Df K mg x st ps) (S : FnScope N ps (defScope st)) (len : ∀ vs H Q E, sp vs H Q E → vs.length = ps.length)
    (hbody : ∀ (cdv : Value) (f : Addr) (A : Around) (outer : List Env) (s : Shared) (H : Hp) (vs : List V) (Q : VK) (E : XK), Room k (A.deeper (envOfC x (defScope st) s.heap.objs.size f cdv)) → sp vs H Q E →
      ∃ t, PSs (cxOf (L2.CX P w) P w K mg base N x (defScope st) f cdv A outer s H E) (defBody st) t ∧ t { nx := fun _ H' => Q .non H', rt := Q } (start N vs) H) : Dn P w K mg base (k + 1) x sp := by
  obtain ⟨f, fd, F1, hm, hb⟩ := F.ex
  exact ⟨f, fd, ps, F1.okX S len (fun cdv A outer s H vs Q E hr h => hbody cdv f A outer s H vs Q E hr h), hm, F1.kp, .all hb⟩
/-- the law's own def -/
theorem Df.law {p : Str} {fa : Addr} (F : Df K mg x st [p]) (hfa : mg x = some (.ref fa)) (S : FnScope N [p] (defScope st)) (len : ∀ vs H Q E, sp vs H Q E → vs.length = [p].length)
    (hbody : ∀ base : Heap, K.In base → base.Ns mainGlobals mg → ∀ (cdv : Value) (f : Addr) (A : Around) (outer : List Env) (s : Shared) (H : Hp) (vs : List V) (Q : VK) (E : XK), Room k (A.deeper (envOfC x (defScope st) s.heap.objs.size f cdv)) → sp vs H Q E →
      ∃ t, PSs (cxOf (L2.CX P w) P w K mg base N x (defScope st) f cdv A outer s H E) (defBody st) t ∧ t { nx := fun _ H' => Q .non H', rt := Q } (start N vs) H) :
    ∃ fd : FuncData, (∀ (s : Shared) (u : Value), BindsTo s fd ⟨[u], []⟩ [(p, u)]) ∧ ∀ base : Heap, K.In base → base.Ns mainGlobals mg → FnOk P w K mg base (L2.CX P w) (k + 1) fa fd [p] sp := by
  obtain ⟨f, fd, F1, hm, hb⟩ := F.ex
  rw [hfa] at hm
  cases hm
  exact ⟨fd, fun s u => .of_eq (hb [u] rfl), fun base kb gb => F1.okX S len (fun cdv A outer s H vs Q E hr h => hbody base kb gb cdv _ A outer s H vs Q E hr h)⟩
theorem Mf.mn (F : Mf K C m q st ps) (c : Cls K C) (S : FnScope N ps (defScope st)) (len : ∀ vs H Q E, sp vs H Q E → vs.length = ps.length)
    (hbody : ∀ (cdv : Value) (f : Addr) (A : Around) (outer : List Env) (s : Shared) (H : Hp) (vs : List V) (Q : VK) (E : XK), Room k (A.deeper (envOfC q (defScope st) s.heap.objs.size f cdv)) → sp vs H Q E →
      ∃ t, PSs (cxOf (L2.CX P w) P w K mg base N q (defScope st) f cdv A outer s H E) (defBody st) t ∧ t { nx := fun _ H' => Q .non H', rt := Q } (start N vs) H) : Mn P w K mg base (k + 1) C m sp := by
  obtain ⟨f, fd, F1, hm, hb⟩ := F.ex
  exact ⟨f, fd, ps, F1.okX S len (fun cdv A outer s H vs Q E hr h => hbody cdv f A outer s H vs Q E hr h), c, hm, hb⟩
end
section
variable {X : Cx} {k j : Nat} {C : Addr} {sp : Sp} {W : WX} {x m : Str} {p pos apos : Pos} {e o : Expr} {es : List Expr} {ta : TE} {t : TA}
/-- f(e, ..) -/
theorem pe_d (D : Dn X.prog X.w X.K X.mg X.base k x sp) (hr : Room j X.A) (hk : k ≤ j) (tk : Takes X W) (ha : PA X (e :: es) t) (hg : Gl X x := by rfl) (hdb : (x == ("__debug__" : Str)) = false := by decide)
    (he : starEach (e :: es) X.env = (false, eval e X.env) :: starEach es X.env := by rfl) (hpl : (backTo pos (starEach es X.env)).any (·.1) = false := by rfl) : PE X (.Call (.Name x p) (e :: es) [] pos) (tCallS sp (WE W) t) := by
  obtain ⟨f, fd, ps, F, hm, kp, hb⟩ := D.ex
  exact pe_callS F (hr.mono hk) hg hm kp hb (fun σ => passAt tk σ) ha hdb he hpl
end
end Z
namespace Z
open PySem PySem.Spec PyProof.Rows L2 Evl
section
variable {X : Cx} {k j : Nat} {C : Addr} {sp : Sp} {W : WX} {x m : Str} {p pos apos : Pos} {e o : Expr} {es : List Expr} {ta : TE} {t : TA}
/-- o.m(e, ..) -/
def tMS (C : Addr) (m : Str) (sp : Sp) (E : L2.St → XK) (ta : TE) (t : TA) : TE := fun σ H Q => ta σ H fun x H1 => ∃ a dx fs, x = .ref a ∧ H1 a = some (.ins C dx fs) ∧ fs.lookup m = none ∧ t σ H1 fun vs H2 => sp (x :: vs) H2 Q (E σ)
theorem pe_m0 {pl : Sem Bool} (he : PE X o ta) (M : Mn X.prog X.w X.K X.mg X.base k C m sp) (hr : Room j X.A) (hk : k ≤ j) (tk : Takes X W)
    (ht : eval (.Call (.Attribute o m apos) [] [] pos) X.env = (do
      let ov ← eval o X.env
      standAt apos.atName
      let (f, first) ← holding [ov] (getMethod ov m pl)
      callWith pos f first (backTo pos (starEach [] X.env)) (backToKw pos (keywordEach [] X.env))) := by rfl) :
    PE X (.Call (.Attribute o m apos) [] [] pos) (tMS C m sp (WE W) ta tNil) := by
  obtain ⟨f, fd, ps, F, c, hm, hb⟩ := M.ex
  refine ⟨fun pins s σ H Q I h => ?_⟩
  refine PySem.W.methodCall_KW (pl := pl) (thn (he.run pins s σ H _ I h) fun u s1 ⟨x, H1, I1, rx, a, dx, fs, ex, ea, l, q⟩ => ?_) ht
  subst ex
  obtain rfl : u = Value.ref a := rx
  refine getmeth_ok I1 ea c hm l (PySem.W.callWith_K0 (first := [.ref a]) I1.kIn hm.kp ?_)
  exact run_fnS (us := [.ref a]) (vs := [.ref a]) (E := WE W) F (hr.mono hk) hb (passAt tk σ) I1 (.cons rfl .nil) q
end
structure Kn (P : Program) (w : World) (K : PySem.W.Frag) (mg : Str → Option Value) (base : Heap) (k : Nat) (x : Str) (C : Addr) (sp : Sp) : Prop where
  ex : ∃ (f : Addr) (fd : FuncData) (ps : List Str), FnOk P w K mg base (L2.CX P w) k f fd ps sp ∧ Mk K C f ∧ mg x = some (.ref C) ∧ Binds K fd ps []
theorem Mf.kn {P : Program} {w : World} {K : PySem.W.Frag} {mg : Str → Option Value} {base : Heap} {x q : Str} {st : Stmt} {ps N : List Str} {k : Nat} {sp : Sp} {C : Addr} (F : Mf K C "__init__" q st ps) (mk : PySem.W.makesIn K C = true ∧ PySem.W.keepIn K (.ref C) = true) (hm : mg x = some (.ref C))
    (S : FnScope N ps (defScope st)) (len : ∀ vs H Q E, sp vs H Q E → vs.length = ps.length)
    (hbody : ∀ (cdv : Value) (f : Addr) (A : Around) (outer : List Env) (s : Shared) (H : Hp) (vs : List V) (Q : VK) (E : XK), Room k (A.deeper (envOfC q (defScope st) s.heap.objs.size f cdv)) → sp vs H Q E →
      ∃ t, PSs (cxOf (L2.CX P w) P w K mg base N q (defScope st) f cdv A outer s H E) (defBody st) t ∧ t { nx := fun _ H' => Q .non H', rt := Q } (start N vs) H) : Kn P w K mg base (k + 1) x C sp := by
  obtain ⟨f, fd, F1, me, hb⟩ := F.ex
  exact ⟨f, fd, ps, F1.okX S len (fun cdv A outer s H vs Q E hr h => hbody cdv f A outer s H vs Q E hr h), ⟨mk.1, me.at_, me.fn, mk.2⟩, hm, hb⟩
/-- C(e, ..) -/
def tMk (C : Addr) (sp : Sp) (E : L2.St → XK) (t : TA) : TE := fun σ H Q => t σ H fun vs H1 => ∀ x dx, H1 x = none → H1 dx = none → dx ≠ x → sp (.ref x :: vs) (L2.upd (L2.upd H1 dx (.own x)) x (.ins C dx [])) (fun v H2 => v = .non ∧ Q (.ref x) H2) (E σ)
section
variable {X : Cx} {k j : Nat} {C : Addr} {sp : Sp} {W : WX} {x : Str} {p pos : Pos} {e : Expr} {es : List Expr} {t : TA}
theorem run_mk {pins : List (Addr × Obj)} {σ : L2.St} {H : Hp} {s : Shared} {Q : VK} {us : List Value} {vs : List V} (D : Kn X.prog X.w X.K X.mg X.base k x C sp) (hr : Room (k + 1) X.A) (tk : Takes X W) (I : Inv X pins σ H s) (r : Vals vs us)
    (h : ∀ x dx, H x = none → H dx = none → dx ≠ x → sp (.ref x :: vs) (L2.upd (L2.upd H dx (.own x)) x (.ins C dx [])) (fun v H2 => v = .non ∧ Q (.ref x) H2) (WE W σ)) :
    wpAny (model X.prog X.w) X.A (call (.ref C) us) (EP X pins σ Q) X.xe s := by
  obtain ⟨f, fd, ps, F, M, _, hb⟩ := D.ex
  have want := h (s.heap.objs.size + 1) s.heap.objs.size (I.hok.fresh (Nat.le_succ _)) (I.hok.fresh (Nat.le_refl _)) (Nat.ne_of_lt (Nat.lt_succ_self _))
  have I2 := Inv.made (C := C) I
  have rr : Vals (V.ref (s.heap.objs.size + 1) :: vs) (Value.ref (s.heap.objs.size + 1) :: us) := .cons rfl r
  have nargs : (Value.ref (s.heap.objs.size + 1) :: us).length = ps.length := by rw [← rr.length, F.len _ _ _ _ want]
  have b := hb _ (Value.ref (s.heap.objs.size + 1) :: us) I2.kIn (by rw [List.append_nil]; exact nargs)
  rw [List.append_nil] at b
  refine wpAny_call (make_map (f := f) I.kIn M.makes M.init (beq_iff_eq.mp M.fn) (codeAny_mono (F.run _ X.stack _ _ ⟨Value.ref (s.heap.objs.size + 1) :: us, []⟩ (Value.ref (s.heap.objs.size + 1) :: us) _ _ (WE W σ) (hr.make C us []) (I2.env0.make C us []) b rr want) fun res s' done => ?_))
  match res, done with
  | .error er, done => exact passAt tk σ pins _ _ er s' I2 done
  | .ok (.ret u), done =>
    obtain ⟨v, H', I3, rv, ev, q⟩ := I2.after done
    subst ev
    exact ⟨rv, ⟨V.ref (s.heap.objs.size + 1), H', I3, rfl, q⟩⟩
  | .ok .next, done => exact done.elim
  | .ok .brk, done => exact done.elim
  | .ok .cont, done => exact done.elim
theorem pe_k (D : Kn X.prog X.w X.K X.mg X.base k x C sp) (hr : Room j X.A) (hk : k + 1 ≤ j) (tk : Takes X W) (ha : PA X (e :: es) t) (hg : Gl X x := by rfl) (hdb : (x == ("__debug__" : Str)) = false := by decide)
    (he : starEach (e :: es) X.env = (false, eval e X.env) :: starEach es X.env := by rfl) (hpl : (backTo pos (starEach es X.env)).any (·.1) = false := by rfl) : PE X (.Call (.Name x p) (e :: es) [] pos) (tMk C sp (WE W) t) := by
  obtain ⟨f, fd, ps, F, M, hm, hb⟩ := id D.ex
  refine ⟨fun pins s σ H Q I h => wpAny_Call_Name_kw (ld_glob I hg hm ?_ hdb)⟩
  exact PySem.W.callWith_K (h₀ := X.base) I.ok.mod.kin M.kp (thn (ha.run pos pins s σ H _ I h) fun us s1 ⟨vs, H1, I1, r, q⟩ => ⟨I1.kIn, run_mk D (hr.mono hk) tk I1 r q⟩) he hpl
end
/-- the law's promise -/
def sp_law (K : PySem.W.Frag) : Sp := fun vs H Q _ => ∃ (a : Addr) (ns : List Int), vs = [.ref a] ∧ SqL K H a (ns.map V.int) ∧ ns.length ≤ 63 ∧ ∀ H', Q (.bl true) H'
/-! ### what the top has left -/
section
open PySem.W
variable {K : Frag} {h : Heap} {mg : Str → Option Value} {x q : Str} {st : Stmt} {ps : List Str} {C : Addr}
theorem Df.mk' {f : Addr} {od an : Option Addr} {sl : Array (Option Value)} {oc kV dc pm cd ct : Value} (X : K.In h) (G : h.Ns mainGlobals mg) (a : nsIn K mainGlobals x = some (some (.ref f)))
    (l : K.lookup f = some ⟨oc, od, .func (fnOf x x (defArgs st) (defBody st) (defScope st) .none kV dc pm an cd ct), sl⟩) (c : codeIn K cd x = true) (k : keepIn K (.ref f) = true)
    (hb : ∀ (kV doc pm : Value) (an : Option Addr) (cdv ct : Value) (us : List Value), us.length = ps.length → bindArgs (PySem.W.fnOf x x (defArgs st) (defBody st) (defScope st) .none kV doc pm an cdv ct) ⟨us, []⟩ = pure (ps.zip us)) : Df K mg x st ps :=
  have F := fun_mk (st := st) l c k
  ⟨f, _, F, mg_of X G a, hb kV dc pm an cd ct⟩
theorem Mf.mk' {f : Addr} {m : Str} {od an : Option Addr} {sl : Array (Option Value)} {oc kV dc pm cd ct : Value} (a : findIn K (.ref C) m = some (some (.ref f))) (i : isFn K (.ref f) = true)
    (l : K.lookup f = some ⟨oc, od, .func (fnOf m q (defArgs st) (defBody st) (defScope st) .none kV dc pm an cd ct), sl⟩) (c : codeIn K cd q = true) (k : keepIn K (.ref f) = true)
    (hb : ∀ (kV doc pm : Value) (an : Option Addr) (cdv ct : Value) (us : List Value), us.length = ps.length → bindArgs (PySem.W.fnOf m q (defArgs st) (defBody st) (defScope st) .none kV doc pm an cdv ct) ⟨us, []⟩ = pure (ps.zip us)) : Mf K C m q st ps :=
  have F := fun_mk (st := st) l c k
  ⟨f, _, F, ⟨a, i, k⟩, F.binds hb⟩
theorem cst_of (X : K.In h) (G : h.Ns mainGlobals mg) {i : Int} {t : Tok} (a : nsIn K mainGlobals x = some (some (.int i t))) : ∃ t, mg x = some (.int i t) := ⟨t, mg_of X G a⟩
end
theorem walk_z {l : PySem.W.OpenLaw} {k : Nat} {q : Program} {loose : List Str} {XP : (Str → Option Value) → Heap → Prop} {YP : World → Heap → Prop} {d : DefRec} {K : Params → PySem.W.Frag} (hn : l.most = some 63) (hdf : d.params.defaults = []) (hk : k ≤ 60)
    (hY : ∀ (w : World) (h : Heap), YP w h → (K w.params).In h)
    (F : ∀ (w : World) (mg : Str → Option Value) (fa : Addr) (h : Heap), (K w.params).In h → h.Ns mainGlobals mg → mg d.name = some (.ref fa) →
      ∃ fd : FuncData, (∀ (s : Shared) (u : Value), BindsTo s fd ⟨[u], []⟩ [("_law_script", u)]) ∧ ∀ base : Heap, (K w.params).In base → base.Ns mainGlobals mg → FnOk l.prog w (K w.params) mg base (L2.CX l.prog w) k fa fd ["_law_script"] (sp_law (K w.params))) :
    PySem.W.WalkO q loose XP YP l.row.toRowW d [] (fun f vs => PySem.call f vs) :=
  L2.walk_of (n := 63) (k := k) (x := "_law_script") (CX := fun w => L2.CX l.prog w) (sp := fun w => sp_law (K w.params)) hn (by decide) hdf ((⟨rfl, by decide, by decide⟩ : Room 60 callerA).mono hk) hY F (fun _ _ a ns hl _ hS => ⟨a, ns, rfl, hS, hl, fun _ => rfl⟩)
    fun _ _ _ _ _ h => by
      obtain ⟨_, _, _, _, _, _, _, _, _, _, _, _, z⟩ := h
      exact z.elim
/-! ### a def that is called in an except suite with the caught exception: p its object, cls its class, d its dict -/
abbrev SpE := Addr → Value → Option Addr → Sp
structure FnE (P : Program) (w : World) (K : PySem.W.Frag) (mg : Str → Option Value) (base : Heap) (k : Nat) (f : Addr) (fd : FuncData) (ps : List Str) (sp : SpE) : Prop where
  len : ∀ a c d vs H Q E, sp a c d vs H Q E → vs.length = ps.length
  run : ∀ (A : Around) (outer : List Env) (s : Shared) (H : Hp) (args : Args) (us : List Value) (vs : List V) (Q : VK) (p : Addr × Obj) (c : Value) (d : Option Addr), L2H.RoomH k A → L2H.PinOk outer H s p → Zc c d p.2 → (∃ fs, p.2.data = .fields fs) →
    Env0 P w K mg base A outer s H → BindsTo s fd args (ps.zip us) → Vals vs us → sp p.1 c d vs H Q (fun _ _ _ => False) → codeAny (model P w) A (.call (.ref f) args) (CR CX0 outer P w H s Q fun _ _ _ => False) s
theorem fn_e {P : Program} {w : World} {K : PySem.W.Frag} {mg : Str → Option Value} {base : Heap} {k : Nat} {f : Addr} {fd : FuncData} {x qual : Str} {st : Stmt} {N ps : List Str} {sp : SpE} (F : Fun K x qual st f fd) (S : FnScope N ps (defScope st))
    (len : ∀ a c d vs H Q E, sp a c d vs H Q E → vs.length = ps.length)
    (hbody : ∀ (cdv : Value) (A : Around) (outer : List Env) (s : Shared) (H : Hp) (vs : List V) (Q : VK) (p : Addr × Obj) (c : Value) (d : Option Addr), Zc c d p.2 → (∃ fs, p.2.data = .fields fs) → sp p.1 c d vs H Q (fun _ _ _ => False) →
      ∃ t, PSs (L2H.cxH CX0 P w K mg base N qual (defScope st) f cdv A outer s H (fun _ _ _ => False) p) (defBody st) t ∧ t { nx := fun _ H' => Q .non H', rt := Q } (start N vs) H) : FnE P w K mg base (k + 1) f fd ps sp := by
  obtain ⟨oc, od, kV, doc, pm, an, cdv, ct, osl, rfl, lk, hcd⟩ := F.ex
  refine ⟨len, fun A outer s H args us vs Q p c d room pin zc fl e0 bnd rel want => ?_⟩
  have grows : ∀ b o, base.get? b = some o → s.heap.get? b = some o := fun b o e => (e0.bs b o e).1
  have inK : K.In s.heap := e0.mod.kin.keeps grows
  refine codeAny_call_function room.depth (inK _ _ lk) rfl S.co S.gen rfl (PySem.W.codeRec_of inK hcd) (bnd _ _ _ _ ?_)
  refine wpAny_newFunctionEnv_cells S.kind (fun y hy => ?_) fun env he s1 frame => ?_
  · obtain ⟨n, v⟩ := y
    exact (S.par n (List.of_mem_zip hy).1).elim .inl fun q => .inr ⟨q, PySem.W.cellsFrom_some _ _ _ (.inl q)⟩
  · subst he
    obtain ⟨t, ht, hq⟩ := hbody cdv A outer s H vs Q p c d zc fl want
    have start0 := L2H.inv_startH (CX := CX0) (qual := qual) (f := f) (cd := cdv) (E := fun _ _ _ => False) S pin e0 (len _ _ _ _ _ _ _ want) rel frame
    refine ⟨(e0.mod.nolimit.keeps grows).keeps frame.toInCall.keep, codeAny_func (wpAny_mono (ht.run [] s1 (start N vs) H _ start0 hq) (fun fl s' done => ?_) fun _ _ z => z)⟩
    cases fl with
    | brk => exact done.elim fun _ z => z.elim fun _ z => z.2.elim
    | cont => exact done.elim fun _ z => z.elim fun _ z => z.2.elim
    | ret u =>
      obtain ⟨v, σ', H', J, rv, q⟩ := done
      exact ⟨v, H', J.os, J.bare, J.base, J.hok, rv, q⟩
    | next =>
      obtain ⟨σ', H', J, q⟩ := done
      exact ⟨.non, H', J.os, J.bare, J.base, J.hok, rfl, q⟩
structure En (P : Program) (w : World) (K : PySem.W.Frag) (mg : Str → Option Value) (base : Heap) (k : Nat) (x : Str) (sp : SpE) : Prop where
  ex : ∃ (f : Addr) (fd : FuncData) (ps : List Str), FnE P w K mg base k f fd ps sp ∧ mg x = some (.ref f) ∧ PySem.W.keepIn K (.ref f) = true ∧ Binds K fd ps []
theorem Df.en {P : Program} {w : World} {K : PySem.W.Frag} {mg : Str → Option Value} {base : Heap} {x : Str} {st : Stmt} {ps N : List Str} {k : Nat} {sp : SpE} (F : Df K mg x st ps) (S : FnScope N ps (defScope st)) (len : ∀ a c d vs H Q E, sp a c d vs H Q E → vs.length = ps.length)
    (hbody : ∀ (cdv : Value) (f : Addr) (A : Around) (outer : List Env) (s : Shared) (H : Hp) (vs : List V) (Q : VK) (p : Addr × Obj) (c : Value) (d : Option Addr), Zc c d p.2 → (∃ fs, p.2.data = .fields fs) → sp p.1 c d vs H Q (fun _ _ _ => False) →
      ∃ t, PSs (L2H.cxH CX0 P w K mg base N x (defScope st) f cdv A outer s H (fun _ _ _ => False) p) (defBody st) t ∧ t { nx := fun _ H' => Q .non H', rt := Q } (start N vs) H) : En P w K mg base (k + 1) x sp := by
  obtain ⟨f, fd, F1, hm, hb⟩ := F.ex
  exact ⟨f, fd, ps, fn_e F1 S len (fun cdv A outer s H vs Q p c d => hbody cdv f A outer s H vs Q p c d), hm, F1.kp, .all hb⟩
section
variable {X : Cx} {k j : Nat} {sp : SpE} {x : Str} {p q pos : Pos} {e : Expr} {es : List Expr} {t : TA} {a : Addr} {oe : Obj} {cls : Value} {d : Option Addr} {pn : List (Addr × Obj)} {Y : Cx}
/-- isinstance(e, C), e the caught one (its class without own fields) -/
def rIsP (K : PySem.W.Frag) (a : Addr) (cls : Value) (d : Option Addr) : List V → Hp → VK → Prop := fun xs H Q => ∃ (D : Addr) (c : V) (cv : Value) (b : Bool), cls = .ref D ∧ d = none ∧ ExcC K D ∧ xs = [.ref a, c] ∧ (∀ u, RelV c u → u = cv) ∧ PySem.W.kitOne K (.ref D) cv = some b ∧ Q (.bl b) H
end
end Z
namespace Z
open PySem PySem.Spec PyProof.Rows L2 Evl
/-! ### refusals: own exception classes without own fields -/
structure ExD (K : PySem.W.Frag) (B D : Addr) : Prop where
  q : PySem.W.excIn K D [.type "ValueError", .type "Exception", .type "BaseException", .type "object"] "ValueError.__new__" = true
  k : PySem.W.keepIn K (.ref D) = true
  b : PySem.W.subIn K (.ref D) (.type "BaseException") = some true
  t : PySem.W.typeIn K (.ref D) = some (.type "type")
  c : ExcC K D
  m : PySem.W.exmOne K (.ref D) (.ref B) = some true
theorem pmk_o {X : Cx} {x m : Str} {C B : Addr} {j : Nat} {p p2 pos : Pos} (E : ExD X.K B C) (gC : X.mg x = some (.ref C)) (hg : Gl X x := by rfl) (hdb : (x == ("__debug__" : Str)) = false := by decide) :
    PMk X (.Call (.Name x p) [.Constant (.str m) j p2] [] pos) (fun _ H Q => Q (.ref C) none H) := pmk_own PySem.F.excBase_ValueError E.q gC E.k (raises_own E.b E.t) hg hdb
end Z

set_option Elab.async false
set_option linter.all false
set_option maxRecDepth 100000
namespace M
open PySem PySem.Spec PyProof.Rows L2 Z
/-! ### calls -/
def mFn (n : Nat) (m : MDef) (a : MA) : ME := fun s h X Q => a s h X fun ds h1 => ds.length = n ∧ m ds h1 X Q
def mMt (c : String) (n : Nat) (m : MDef) (o : ME) (a : MA) : ME := fun s h X Q => o s h X fun x h1 => clsD h1 x = some c ∧ a s h1 X fun ds h2 => (x :: ds).length = n ∧ m (x :: ds) h2 X Q
def mNew (c : String) (n : Nat) (m : MDef) (a : MA) : ME := fun s h X Q => a s h X fun ds h1 => ds.length + 1 = n ∧ ∃ r, m (.ref r (h1 r).length :: ds) (h1.new r (.ins c [])) X fun d h2 => d = .non ∧ Q (.ref r (h1 r).length) h2
section
variable {X : Cx} {G : Gb} {W : WX} {k j n : Nat} {x m : Str} {c : String} {C : Addr} {fl : List String} {md : MDef} {p pos apos : Pos} {e o : Expr} {es : List Expr} {mo : ME} {mr : MA}
theorem m_fn (D : Dn X.prog X.w X.K X.mg X.base k x (SPm G n md)) (hr : Room j X.A) (hk : k ≤ j) (tk : Takes X W) (ha : PA X (e :: es) (RA G W mr)) (hg : Gl X x := by rfl) (hdb : (x == ("__debug__" : Str)) = false := by decide)
    (he : starEach (e :: es) X.env = (false, eval e X.env) :: starEach es X.env := by rfl) (hpl : (backTo pos (starEach es X.env)).any (·.1) = false := by rfl) : PE X (.Call (.Name x p) (e :: es) [] pos) (RE G W (mFn n md mr)) :=
  peI (pe_d D hr hk tk ha hg hdb he hpl) fun σ H Q ⟨ρ, s, h, Y, MQ, ss, sh, lx, lq, m⟩ => ⟨ρ, s, h, Y, _, ss, sh, lx, fun w1 h1 ds vs e1 sh1 svs q => ⟨w1.ρ, h1, ds, Y, MQ, sh1, svs, lx.le e1, lq.le e1, q.1, q.2⟩, m⟩
theorem clsD_ok {w : Wd} {h : MH} {v : V} {d : D} (sh : SH G w h) (sv : SV G w v d) (hc : G.tb.lookup c = some (C, true, fl)) (e : clsD h d = some c) : ∃ a dx fs, v = .ref a ∧ w.H a = some (.ins C dx fs) ∧ ∀ f, f ∉ fl → fs.lookup (Str.ofString f) = none := by
  unfold clsD at e
  split at e
  · split at e
    · rename_i r i c' fs hl
      cases e
      cases sv with
      | ref hr =>
        have so := sh.look hr hl
        cases so with
        | ins a1 hc' hf s =>
          rw [hc] at hc'; cases hc'
          exact ⟨_, _, _, rfl, a1, fun f hn => s.lookup_none (by
            cases q : fs.lookup f with
            | none => rfl
            | some d => exact (hn (hf _ _ (look_mem q))).elim)⟩
    · cases e
  · cases e
theorem m_mt0 {pl : Sem Bool} {m : String} (hc : G.tb.lookup c = some (C, true, fl)) (hm : m ∉ fl) (he : PE X o (RE G W mo)) (Mq : Mn X.prog X.w X.K X.mg X.base k C (Str.ofString m) (SPm G n md)) (hr : Room j X.A) (hk : k ≤ j) (tk : Takes X W)
    (ht : eval (.Call (.Attribute o (Str.ofString m) apos) [] [] pos) X.env = (do
      let ov ← eval o X.env
      standAt apos.atName
      let (f, first) ← holding [ov] (getMethod ov (Str.ofString m) pl)
      callWith pos f first (backTo pos (starEach [] X.env)) (backToKw pos (keywordEach [] X.env))) := by rfl) :
    PE X (.Call (.Attribute o (Str.ofString m) apos) [] [] pos) (RE G W (mMt c n md mo mNil)) :=
  peI (pe_m0 he Mq hr hk tk ht) fun σ H Q ⟨ρ, s, h, Y, MQ, ss, sh, lx, lq, mm⟩ => ⟨ρ, s, h, Y, _, ss, sh, lx, fun w1 h1 d v e1 sh1 sv q => by
    obtain ⟨a, dx, fs, rfl, hp, hl⟩ := clsD_ok sh1 sv hc q.1
    exact ⟨a, dx, fs, rfl, hp, hl m hm, w1.ρ, h1, [d], Y, MQ, sh1, .cons sv .nil, lx.le e1, lq.le e1, q.2.1, q.2.2⟩, mm⟩
theorem mk_R (hc : G.tb.lookup c = some (C, true, fl)) {σ : L2.St} {H : Hp} {Q : VK} (hh : RE G W (mNew c n md mr) σ H Q) : tMk C (SPm G n md) (WE W) (RA G W mr) σ H Q := by
  obtain ⟨ρ, s, h, Y, MQ, ss, sh, lx, lq, m⟩ := hh
  refine ⟨ρ, s, h, Y, _, ss, sh, lx, fun w1 h1 ds vs e1 sh1 svs q => ?_, m⟩
  intro x dx nx ndx nxx
  obtain ⟨ql, r, q⟩ := q
  obtain ⟨le2, sh2, _⟩ := Wd.lay (u := .own x) sh1 ndx
  have nx2 : L2.upd w1.H dx (.own x) x = none := by rw [upd_ne (Ne.symm nxx)]; exact nx
  obtain ⟨le3, sh3⟩ := Wd.make (w := ⟨w1.ρ, L2.upd w1.H dx (.own x)⟩) (u := .ins C dx []) (o := .ins c []) sh2 r nx2 fun _ => .ins (fl := fl) upd_same hc (fun _ _ z => by cases z) .nil
  have e123 := e1.trans (le2.trans le3)
  refine ⟨_, _, _, Y, _, sh3, .cons (.ref ext_at) (svs.le (le2.trans le3)), lx.le e123, fun w4 h4 d v e4 sh4 sv q4 => ?_, by simpa using ql, q⟩
  obtain ⟨rfl, q4⟩ := q4
  exact ⟨sv.non', lq _ _ _ _ (e123.trans e4) sh4 (.ref (e4.up _ _ _ ext_at)) q4⟩
theorem m_new (hc : G.tb.lookup c = some (C, true, fl)) (D : Kn X.prog X.w X.K X.mg X.base k x C (SPm G n md)) (hr : Room j X.A) (hk : k + 1 ≤ j) (tk : Takes X W) (ha : PA X (e :: es) (RA G W mr)) (hg : Gl X x := by rfl) (hdb : (x == ("__debug__" : Str)) = false := by decide)
    (he : starEach (e :: es) X.env = (false, eval e X.env) :: starEach es X.env := by rfl) (hpl : (backTo pos (starEach es X.env)).any (·.1) = false := by rfl) : PE X (.Call (.Name x p) (e :: es) [] pos) (RE G W (mNew c n md mr)) :=
  peI (pe_k D hr hk tk ha hg hdb he hpl) fun σ H Q h => mk_R hc h
end
/-- a def's body as a def of the model: N slots -/
def mBody (N : Nat) (t : MS) : MDef := fun ds h X Q => t ⟨fun _ h1 => Q .non h1, Q, fun _ _ => False, fun _ _ => False, fun _ => X⟩ (ds.map some ++ List.replicate (N - ds.length) none) h
section
variable {G : Gb} {n : Nat} {md : MDef}
theorem SS.start (hca : G.cau = none) {w : Wd} {N : List Str} {vs : List V} {ds : List D} (s : SVs G w vs ds) : SS G w (L2.start N vs) (ds.map some ++ List.replicate (N.length - ds.length) none) := by
  refine ⟨by simp [L2.start, s.length], fun i d e => ?_, fun i a c => by rw [hca] at c; cases c⟩
  have hl := s.length
  rw [List.getElem?_append] at e
  split at e
  · rename_i hi
    simp at hi
    rw [List.getElem?_map] at e
    cases q : ds[i]? with
    | none => rw [q] at e; cases e
    | some d' =>
      rw [q] at e; cases e
      obtain ⟨v, hv, sv⟩ := s.get i _ q
      refine ⟨v, ?_, sv⟩
      unfold L2.start
      rw [List.getElem?_append_left (by simp; omega), List.getElem?_map, hv]; rfl
  · rename_i hi
    exfalso
    rw [List.getElem?_replicate] at e
    split at e <;> cases e
/-- the body of a def read from its promise -/
theorem body_R (hca : G.cau = none) {W : WX} {N : List Str} {t : MS} {vs : List V} {H : Hp} {Q : VK} {E : XK} (hW : ∀ σ, WE W σ = E) (hh : SPm G n (mBody N.length t) vs H Q E) : RS G W t { nx := fun _ H' => Q .non H', rt := Q } (L2.start N vs) H := by
  obtain ⟨ρ, h, ds, Y, MQ, sh, svs, lx, lq, hl, m⟩ := hh
  exact ⟨ρ, _, h, _, SS.start hca svs, sh, ⟨fun w1 h1 s1 σ1 e1 sh1 ss1 q => lq _ _ _ _ e1 sh1 .non q, lq, fun _ _ _ _ _ _ _ q => q, fun _ _ _ _ _ _ _ q => q, fun w1 s1 σ1 e1 ss1 => by rw [hW]; exact lx.le e1⟩, m⟩
end
/-! ### isinstance(x, a built-in type) -/
inductive Ty where | non | bool | int | str | tuple | list | dict
inductive Kd where | bool | int | str | tuple | list | dict
def Ty.nm : Ty → String | .non => "NoneType" | .bool => "bool" | .int => "int" | .str => "str" | .tuple => "tuple" | .list => "list" | .dict => "dict"
def Kd.nm : Kd → String | .bool => "bool" | .int => "int" | .str => "str" | .tuple => "tuple" | .list => "list" | .dict => "dict"
def Kd.has : Kd → Ty → Bool
  | .bool, .bool => true | .int, .int => true | .int, .bool => true | .str, .str => true | .tuple, .tuple => true | .list, .list => true | .dict, .dict => true
  | _, _ => false
def tyOf (h : MH) : D → Option Ty
  | .non => some .non
  | .bl _ => some .bool
  | .int _ => some .int
  | .str _ => some .str
  | .tup _ => some .tuple
  | .lst _ => some .list
  | .rol _ => some .list
  | .ref r i => match h.at r i with | some (.lst _) => some .list | some (.dct _) => some .dict | some (.dtt _) => some .dict | _ => none
  | _ => none
def mIsK (k : Kd) (a : ME) : ME := fun s h X Q => a s h X fun x h1 => match tyOf h1 x with | some t => Q (.bl (k.has t)) h1 | none => False
section
variable {X : Cx} {G : Gb} {W : WX}
theorem kit_has (k : Kd) (t : Ty) : kitB t.nm k.nm = some (k.has t) := by cases k <;> cases t <;> rfl
theorem tyOf_ok {w : Wd} {h : MH} {v : V} {d : D} {t : Ty} (sh : SH G w h) (sv : SV G w v d) (e : tyOf h d = some t) : TyX G.K w.H v (.type t.nm) := by
  cases sv with
  | non => cases e; exact .base .non
  | bl b => cases e; exact .base (.bl b)
  | int i => cases e; exact .base (.int i)
  | str x => cases e; exact .base (.str x)
  | ty n => cases e
  | cls h => cases e
  | tup f s =>
    cases e
    rcases f.1 with r | ⟨o, r⟩
    · exact .base (.tup r)
    · exact .fTuple r
  | lst hp f s => cases e; exact .base (.lst hp)
  | rol f s =>
    cases e
    rcases f.1 with r | ⟨o, r⟩
    · exact .base (.lst r)
    · exact .base (.frz r)
  | ktup f s => cases e; obtain ⟨o, its, n, hk, hc, _⟩ := f; exact .kTuple hk hc
  | klst f s => cases e; obtain ⟨o, its, n, hk, hc, _⟩ := f; exact .kList hk hc
  | ref hr =>
    obtain ⟨o, ho, so⟩ := sh.there hr
    simp only [tyOf, ho] at e
    cases so with
    | lst a s => cases e; exact .base (.lst a)
    | ins a b c s => cases e
    | dct a s => cases e; exact .base (.dK a)
    | dtt a s => cases e; exact .base (.dT a)
    | exn a b s => cases e
    | dcf a s => cases e
theorem m_isk {a : Expr} {ma : ME} {p p2 pos : Pos} {x : Str} (k : Kd) (hK : X.K = G.K) (hx : x = Str.ofString k.nm) (hg : Gl X "isinstance") (hm : X.mg "isinstance" = none) (hv : bootBuiltins "isinstance" = some (.builtin "isinstance")) (ha : PE X a (RE G W ma)) (hb : PE X (.Name x p2) (tC (.ty k.nm)))
    (he : starEach [a, .Name x p2] X.env = (false, eval a X.env) :: starEach [.Name x p2] X.env := by rfl) (hpl : (backTo pos (starEach [.Name x p2] X.env)).any (·.1) = false := by rfl) : PE X (.Call (.Name "isinstance" p) [a, .Name x p2] [] pos) (RE G W (mIsK k ma)) :=
  peI (pe_callB call_isi hg hm hv (pa_cons (hs := he) ha (pa_cons hb pa_nil)) (by decide) (by decide) he hpl) fun σ H Q ⟨ρ, s, h, Y, MQ, ss, sh, lx, lq, m⟩ => ⟨ρ, s, h, Y, _, ss, sh, lx, fun w1 h1 d v e1 sh1 sv q => by
    split at q
    · rename_i t ht
      rw [hK]
      exact ⟨v, .ty k.nm, _, _, _, rfl, .ty k.nm, tyOf_ok sh1 sv ht, kit_ty (kit_has k t), lq _ _ _ _ e1 sh1 (.bl _) q⟩
    · exact q.elim, m⟩
end
/-! ### what is walked -/
abbrev MI := MSt → MH → MX → (List D → (MH → Prop) → MH → Prop) → Prop
def miL (a : ME) : MI := fun s h X R => a s h X fun x h1 => match x with
  | .lst l => R l (fun _ => True) h1
  | .rol l => R l (fun _ => True) h1
  | .ref r i => match h1.at r i with | some (.lst l) => R l (fun h2 => h2.at r i = some (.lst l)) h1 | _ => False
  | _ => False
def miT (a : ME) : MI := fun s h X R => a s h X fun x h1 => match x with | .tup l => R l (fun _ => True) h1 | _ => False
def intsUp (lo : Int) (n : Nat) : List D := (List.range n).map fun (i : Nat) => D.int (lo + i)
def miR1 (a : ME) : MI := fun s h X R => a s h X fun x h1 => match x with | .int j => (-1000000000 ≤ j ∧ j ≤ 1000000000) ∧ R (intsUp 0 j.toNat) (fun _ => True) h1 | _ => False
def miR2 (a b : ME) : MI := fun s h X R => a s h X fun x h1 => b s h1 X fun y h2 => match x, y with | .int i, .int j => (-1000000000 ≤ i ∧ i ≤ 1000000000 ∧ -1000000000 ≤ j ∧ j ≤ 1000000000) ∧ R (intsUp i (j - i).toNat) (fun _ => True) h2 | _, _ => False
def enumD (l : List D) : List D := l.mapIdx fun (i : Nat) d => D.tup [.int i, d]
def zipD (l k : List D) : List D := (l.zip k).map fun p => D.tup [p.1, p.2]
/-- the items of a list, and what keeps them -/
def liveL (h : MH) : D → Option (List D × (MH → Prop))
  | .lst l => some (l, fun _ => True)
  | .rol l => some (l, fun _ => True)
  | .ref r i => match h.at r i with | some (.lst l) => some (l, fun h2 => h2.at r i = some (.lst l)) | _ => none
  | _ => none
def miE (a : ME) : MI := fun s h X R => a s h X fun x h1 => match liveL h1 x with | some (l, c) => R (enumD l) c h1 | none => False
def miZ (a b : ME) : MI := fun s h X R => a s h X fun x h1 => b s h1 X fun y h2 => match liveL h2 x, liveL h2 y with | some (l, c), some (k, d) => R (zipD l k) (fun h3 => c h3 ∧ d h3) h2 | _, _ => False
/-- the iterator gives these -/
def ItOk (G : Gb) (w : Wd) (J : It) (ds : List D) (chk : MH → Prop) : Prop := ∀ w' h', Le0 w w' → SH G w' h' → chk h' → ∀ i,
  (i < ds.length → J.go i w'.H ∧ ∀ x H', J.yld i w'.H x H' → ∃ d w'', ds[i]? = some d ∧ w''.H = H' ∧ Le w' w'' ∧ SH G w'' h' ∧ SV G w'' x d) ∧ (ds.length ≤ i → J.stop i w'.H)
def RI (G : Gb) (W : WX) (m : MI) : TI := fun σ H R => ∃ ρ s h X MR, SS G ⟨ρ, H⟩ σ s ∧ SH G ⟨ρ, H⟩ h ∧ LX G ⟨ρ, H⟩ X (WE W σ) ∧ (∀ w' h' ds chk J, Le ⟨ρ, H⟩ w' → SH G w' h' → ItOk G w' J ds chk → MR ds chk h' → R J w'.H) ∧ m s h X MR
section
variable {X : Cx} {G : Gb} {W : WX} {tg : Expr}
theorem piI {e : Expr} {t t' : TI} (h : PI X tg e t) (k : ∀ σ H R, t' σ H R → t σ H R) : PI X tg e t' := ⟨fun pins s σ H R I q => h.run pins s σ H R I (k _ _ _ q)⟩
/-- a list that is kept -/
theorem liveL_ok {w : Wd} {h : MH} {v : V} {d : D} {l : List D} {c : MH → Prop} (sh : SH G w h) (sv : SV G w v d) (e : liveL h d = some (l, c)) :
    ∃ p vs, v = .ref p ∧ SqL G.K w.H p vs ∧ SVs G w vs l ∧ ∀ w' h', Le0 w w' → SH G w' h' → c h' → ∃ vs', SqL G.K w'.H p vs' ∧ SVs G w' vs' l := by
  cases sv with
  | lst a f s => cases e; exact ⟨_, _, rfl, SqL.of a, s, fun w' h' le sh' _ => ⟨_, SqL.of (le.kp _ _ a f).1, SVs.le0 le s⟩⟩
  | rol a s => cases e; exact ⟨_, _, rfl, .inl a.1, s, fun w' h' le sh' _ => ⟨_, .inl (a.le0 le).1, SVs.le0 le s⟩⟩
  | klst a s => cases e; exact ⟨_, _, rfl, .inr a, s, fun w' h' le sh' _ => ⟨_, .inr a, SVs.le0 le s⟩⟩
  | @ref r i p hr =>
    simp only [liveL] at e
    split at e
    · rename_i l' hl
      cases e
      have so := sh.look hr hl
      cases so with
      | lst a s =>
        refine ⟨_, _, rfl, SqL.of a, s, fun w' h' le sh' hc => ?_⟩
        have so' := sh'.look (le.up _ _ _ hr) hc
        cases so' with
        | lst a' s' => exact ⟨_, SqL.of a', s'⟩
    · cases e
  | _ => cases e
theorem it_list {w : Wd} {p : Addr} {l : List D} {c : MH → Prop} (hl : ∀ w' h', Le0 w w' → SH G w' h' → c h' → ∃ vs', SqL G.K w'.H p vs' ∧ SVs G w' vs' l) : ItOk G w (Itl G.K p) l c := fun w' h' le sh hc i => by
  obtain ⟨vs, hp, s⟩ := hl w' h' le sh hc
  refine ⟨fun hi => ⟨⟨vs, vs[i]'(by rw [s.length]; exact hi), hp, List.getElem?_eq_getElem _⟩, fun x H' ⟨e, hx⟩ => ?_⟩, fun hi => ⟨vs, hp, by rw [s.length]; exact hi⟩⟩
  subst e
  obtain ⟨d, hd, sd⟩ := s.getV i x (hx vs hp)
  exact ⟨d, w', hd, rfl, Le.refl, sh, sd⟩
theorem it_rng {w : Wd} {lo : Int} {n : Nat} {c : MH → Prop} : ItOk G w (Itr lo n) (intsUp lo n) c := fun w' h' le sh hc i => by
  have hl : (intsUp lo n).length = n := by simp [intsUp]
  refine ⟨fun hi => ⟨by rw [hl] at hi; exact hi, fun x H' ⟨e, hx⟩ => ?_⟩, fun hi => by rw [hl] at hi; exact hi⟩
  subst e hx
  rw [hl] at hi
  exact ⟨_, w', by simp [intsUp, hi], rfl, Le.refl, sh, .int _⟩
theorem it_enum {w : Wd} {p : Addr} {l : List D} {c : MH → Prop} (hl : ∀ w' h', Le0 w w' → SH G w' h' → c h' → ∃ vs', SqL G.K w'.H p vs' ∧ SVs G w' vs' l) : ItOk G w (Ite G.K p) (enumD l) c := fun w' h' le sh hc i => by
  obtain ⟨vs, hp, s⟩ := hl w' h' le sh hc
  have hle : (enumD l).length = l.length := by simp [enumD]
  rw [hle]
  refine ⟨fun hi => ⟨⟨vs, vs[i]'(by rw [s.length]; exact hi), hp, List.getElem?_eq_getElem _⟩, fun v H' ⟨T, x, e, hT, eH, hx⟩ => ?_⟩, fun hi => ⟨vs, hp, by rw [s.length]; exact hi⟩⟩
  subst e eH
  obtain ⟨d, hd, sd⟩ := s.getV i x (hx vs hp)
  obtain ⟨le2, sh2, fz⟩ := Wd.lay (u := .tup [.int (i : Nat), x]) sh hT
  refine ⟨.tup [.int i, d], _, by simp [enumD, hd], rfl, le2, sh2, .tup ⟨.inl upd_same, fz⟩ (.cons (.int _) (.cons (sd.le le2) .nil))⟩
variable {a b : Expr} {ma mb : ME} {p pos tpos : Pos}
theorem i_L (hK : X.K = G.K) (ha : PE X a (RE G W ma)) : PI X tg a (RI G W (miL ma)) := piI (pi_list ha) fun σ H R ⟨ρ, s, h, Y, MR, ss, sh, lx, lr, m⟩ => ⟨ρ, s, h, Y, _, ss, sh, lx, fun w1 h1 d v e1 sh1 sv q => by
  have key : ∀ l c, liveL h1 d = some (l, c) → MR l c h1 → ∃ a, v = .ref a ∧ (∃ xs, SqL X.K w1.H a xs) ∧ R (Itl X.K a) w1.H := fun l c e q => by
    obtain ⟨p, vs, rfl, hp, s1, hk⟩ := liveL_ok sh1 sv e
    rw [hK]
    exact ⟨p, rfl, ⟨vs, hp⟩, lr _ _ _ _ _ e1 sh1 (it_list hk) q⟩
  split at q
  · exact key _ _ rfl q
  · exact key _ _ rfl q
  · split at q
    · rename_i hl
      exact key _ _ (by simp only [liveL, hl]) q
    · exact q.elim
  · exact q.elim, m⟩
theorem i_R1 (hg : Gl X "range") (hm : X.mg "range" = none) (ha : PE X a (RE G W ma)) (hs : starEach [a] X.env = [(false, eval a X.env)] := by rfl) : PI X tg (.Call (.Name "range" p) [a] [] pos) (RI G W (miR1 ma)) :=
  piI (pi_range1 hg hm (pa_cons (hs := hs) ha pa_nil) hs) fun σ H R ⟨ρ, s, h, Y, MR, ss, sh, lx, lr, m⟩ => ⟨ρ, s, h, Y, _, ss, sh, lx, fun w1 h1 d v e1 sh1 sv q => by
    split at q
    · rename_i j
      exact ⟨j, by rw [sv.int'], by omega, by omega, lr _ _ _ _ _ e1 sh1 it_rng q.2⟩
    · exact q.elim, m⟩
theorem i_E {elts : List Expr} {kk : Nat} (hK : X.K = G.K) (hg : Gl X "enumerate") (hm : X.mg "enumerate" = none) (ha : PE X a (RE G W ma)) (hs : starEach [a] X.env = [(false, eval a X.env)] := by rfl) : PI X (.Tuple elts kk tpos) (.Call (.Name "enumerate" p) [a] [] pos) (RI G W (miE ma)) :=
  piI (pi_enum hg hm (pa_cons (hs := hs) ha pa_nil) hs) fun σ H R ⟨ρ, s, h, Y, MR, ss, sh, lx, lr, m⟩ => ⟨ρ, s, h, Y, _, ss, sh, lx, fun w1 h1 d v e1 sh1 sv q => by
    split at q
    · rename_i l c e
      obtain ⟨p, vs, rfl, hp, s1, hk⟩ := liveL_ok sh1 sv e
      rw [hK]
      exact ⟨p, vs, rfl, hp, lr _ _ _ _ _ e1 sh1 (it_enum hk) q⟩
    · exact q.elim, m⟩
end
end M

set_option Elab.async false
set_option linter.all false
set_option maxRecDepth 100000
namespace M
open PySem PySem.Spec PyProof.Rows L2 Z
/-! ### loops -/
def mGo (chk : MH → Prop) (p : Pt) (body : MS) (N : MEnds) : List D → MSt → MH → Prop
  | [], s, h => chk h ∧ N.nx s h
  | d :: ds, s, h => chk h ∧ match p.bind d s with | some s1 => body { N with nx := mGo chk p body N ds, ct := mGo chk p body N ds, bk := N.nx } s1 h | none => False
def mFor (it : MI) (p : Pt) (body : MS) : MS := fun N s h => it s h (N.ex s) fun ds chk h1 => mGo chk p body N ds s h1
def mIter (t : MT) (b : MS) (N : MEnds) : Nat → MSt → MH → Prop
  | 0, _, _ => False
  | n + 1, s, h => t s h (N.ex s) fun c h1 => if c = true then b { N with nx := mIter t b N n, ct := mIter t b N n, bk := N.nx } s h1 else N.nx s h1
def mWhile (t : MT) (b : MS) : MS := fun N s h => ∃ n, mIter t b N n s h
section
variable {X : Cx} {G : Gb} {W : WX}
theorem s_for {tg iter : Expr} {bd : List Stmt} {mi : MI} {p : Pt} {mb : MS} {pos : Pos} (hp : PassesOwn (model X.prog X.w) X.A X.env X.xe) (hc : X.calm = true) (hi : PI X tg iter (RI G W mi)) (hg : PG X tg (RG G p)) (hb : PSs X bd (RS G W mb))
    (hs : ∀ x, foldedSetIterable iter X.env x = pure x := by intro _; rfl) : PS X (.For tg iter bd [] pos) (RS G W (mFor mi p mb)) :=
  psI (ps_for hp hc hi hg hb hs) fun N σ H ⟨ρ, s, h, Mn, ss, sh, ld, m⟩ => by
    refine ⟨ρ, s, h, Mn.ex s, _, ss, sh, ld.ex _ _ _ Le.refl ss, fun w1 h1 ds chk J e1 sh1 itok q => ?_, m⟩
    refine ⟨fun i n σ' H' => i + n = ds.length ∧ ∃ ρ' s' h', Le w1 ⟨ρ', H'⟩ ∧ SS G ⟨ρ', H'⟩ σ' s' ∧ SH G ⟨ρ', H'⟩ h' ∧ mGo chk p mb Mn (ds.drop i) s' h', ⟨ds.length, by omega, w1.ρ, s, h1, Le.refl, ss.le e1, sh1, q⟩, ?_⟩
    rintro i n σ' H' ⟨el, ρ', s', h', le, ss', sh', q⟩
    cases n with
    | zero =>
      have hd : ds.drop i = [] := List.drop_eq_nil_of_le (by omega)
      rw [hd] at q
      exact .inl ⟨(itok ⟨ρ', H'⟩ h' le.toLe0 sh' q.1 i).2 (by omega), ld.nx _ _ _ _ (e1.trans le) sh' ss' q.2⟩
    | succ n =>
      have hi' : i < ds.length := by omega
      have hd : ds.drop i = ds[i] :: ds.drop (i + 1) := List.drop_eq_getElem_cons hi'
      rw [hd] at q
      obtain ⟨qc, q⟩ := q
      obtain ⟨go, turn⟩ := (itok ⟨ρ', H'⟩ h' le.toLe0 sh' qc i).1 hi'
      refine .inr ⟨go, fun σ2 H2 => ∃ ρ2 s2 h2, Le w1 ⟨ρ2, H2⟩ ∧ SS G ⟨ρ2, H2⟩ σ2 s2 ∧ SH G ⟨ρ2, H2⟩ h2 ∧ mGo chk p mb Mn (ds.drop (i + 1)) s2 h2, fun σ2 H2 hN => ⟨n, by omega, by omega, hN⟩, fun x H2 hy => ?_⟩
      obtain ⟨d, w2, hdi, rfl, le2, sh2, sv⟩ := turn x H2 hy
      have ed : ds[i] = d := by rw [List.getElem?_eq_getElem hi'] at hdi; exact Option.some.inj hdi
      rw [ed] at q
      have le12 := le.trans le2
      split at q
      · rename_i s1 eb
        refine ⟨w2.ρ, s', h', d, s1, sh2, ss'.le le2, sv, eb, fun σ3 _ ss3 => ?_⟩
        refine ⟨w2.ρ, s1, h', { Mn with nx := mGo chk p mb Mn (ds.drop (i + 1)), ct := mGo chk p mb Mn (ds.drop (i + 1)), bk := Mn.nx }, ss3, sh2, ⟨fun w3 h3 s3 σ4 e3 sh3 ss4 q3 => ?_, ld.rt.le (e1.trans le12), fun w3 h3 s3 σ4 e3 sh3 ss4 q3 => ld.nx _ _ _ _ ((e1.trans le12).trans e3) sh3 ss4 q3, fun w3 h3 s3 σ4 e3 sh3 ss4 q3 => ?_, fun w3 s3 σ4 e3 ss4 => ld.ex _ _ _ ((e1.trans le12).trans e3) ss4⟩, q⟩
        · exact ⟨w3.ρ, s3, h3, le12.trans e3, ss4, sh3, q3⟩
        · exact ⟨w3.ρ, s3, h3, le12.trans e3, ss4, sh3, q3⟩
      · exact q.elim
end
/-! ### comprehensions -/
abbrev WF : WX := fun _ _ _ _ => False
abbrev NX : MX := fun _ _ _ => False
def mWipe (s : MSt) : List Nat → MSt
  | [] => s
  | v :: vs => (mWipe s vs).set v none
def mYes : MT := fun _ h _ Q => Q true h
def lcGo (chk : MH → Prop) (p : Pt) (tt : MT) (te : ME) (s0 : MSt) : List D → List D → MH → (List D → MH → Prop) → Prop
  | [], acc, h, Q => chk h ∧ Q acc h
  | d :: ds, acc, h, Q => chk h ∧ match p.bind d s0 with
    | some s1 => tt s1 h NX fun b h1 => if b = true then te s1 h1 NX fun y h2 => acc.length < 1000000 ∧ lcGo chk p tt te s0 ds (acc ++ [y]) h2 Q else lcGo chk p tt te s0 ds acc h1 Q
    | none => False
def mLc (it : MI) (p : Pt) (tt : MT) (te : ME) (vs : List Nat) : ME := fun s h X Q => it s h X fun ds chk h1 => lcGo chk p tt te (mWipe s vs) ds [] h1 fun ys h2 => mkL ys h2 Q
section
variable {G : Gb} {w : Wd} {h : MH}
theorem SS.wipes {σ : L2.St} {s : MSt} (x : SS G w σ s) (hfr : ∀ i, G.fr i = true) : ∀ vs : List Nat, SS G w (L2.wipe σ vs) (mWipe s vs)
  | [] => x
  | v :: vs => SS.wipe (SS.wipes x hfr vs) v (hfr v)
theorem Off.wipe {vs vs' : List Nat} {σ σ' : L2.St} (o : Off vs σ σ') (hv : ∀ i ∈ vs, i ∈ vs') : L2.wipe σ' vs' = L2.wipe σ vs' := by
  have key : ∀ (us : List Nat) (j : Nat), (L2.wipe σ' us)[j]? = if j ∈ us ∧ j < σ.length then some none else if j ∈ us then none else σ'[j]? := by
    intro us
    induction us with
    | nil => intro j; simp [L2.wipe]
    | cons u us ih =>
      intro j
      show ((L2.wipe σ' us).set u none)[j]? = _
      rw [List.getElem?_set, wipe_length, o.1]
      by_cases hu : u = j
      · subst hu
        by_cases hl : u < σ.length
        · simp [hl]
        · simp [hl]
      · rw [if_neg hu, ih j]
        have : j ≠ u := Ne.symm hu
        simp [this]
  have key2 : ∀ (us : List Nat) (j : Nat), (L2.wipe σ us)[j]? = if j ∈ us ∧ j < σ.length then some none else if j ∈ us then none else σ[j]? := by
    intro us
    induction us with
    | nil => intro j; simp [L2.wipe]
    | cons u us ih =>
      intro j
      show ((L2.wipe σ us).set u none)[j]? = _
      rw [List.getElem?_set, wipe_length]
      by_cases hu : u = j
      · subst hu
        by_cases hl : u < σ.length
        · simp [hl]
        · simp [hl]
      · rw [if_neg hu, ih j]
        have : j ≠ u := Ne.symm hu
        simp [this]
  apply List.ext_getElem?
  intro j
  rw [key, key2]
  by_cases hj : j ∈ vs'
  · simp [hj]
  · have : j ∉ vs := fun z => hj (hv j z)
    simp [hj, o.2 j this]
/-- a list is reserved at a free place -/
theorem Wd.reserve (s : SH G w h) {p : Addr} {u : HO} (n : w.H p = none) : ∃ k, w.ρ none k = none ∧ Le0 w ⟨ext w.ρ none k p, L2.upd w.H p u⟩ ∧ SH G ⟨ext w.ρ none k p, L2.upd w.H p u⟩ h := by
  obtain ⟨k, hk⟩ := s.rsf
  have fz := s.fresh n
  have le : Le0 w ⟨ext w.ρ none k p, L2.upd w.H p u⟩ := by
    refine ⟨fun r i q e => ?_, fun q o e f => ⟨by show L2.upd w.H p u q = _; rw [upd_ne (ne_of_none e n)]; exact e, ext_fz f (ne_of_none e n)⟩⟩
    show ext w.ρ none k p (some r) i = _
    rw [ext_ne (by rintro ⟨z, _⟩; cases z)]; exact e
  refine ⟨k, hk k (Nat.le_refl _), le, ⟨ext_inj s.inj fz, fun r i q e => ?_, fun r i o e => ?_, fun i q e => ?_, ⟨k + 1, fun j hj => ?_⟩, G.invle _ _ le s.iv⟩⟩
  · have e : ext w.ρ none k p (some r) i = some q := e
    rw [ext_ne (by rintro ⟨z, _⟩; cases z)] at e
    exact s.dom _ _ _ e
  · obtain ⟨q, a, b⟩ := s.obj r i o e
    obtain ⟨v, c⟩ := b.there
    exact ⟨q, le.up _ _ _ a, b.le0 le (by show L2.upd w.H p u q = _; rw [upd_ne (ne_of_none c n)])⟩
  · have e : ext w.ρ none k p none i = some q := e
    by_cases hi : i = k
    · subst hi; rw [ext_at] at e; cases e; exact ⟨u, upd_same⟩
    · rw [ext_ne (fun z => hi z.2)] at e
      obtain ⟨o, c⟩ := s.rsv i q e
      exact ⟨o, by show L2.upd w.H p u q = _; rw [upd_ne (ne_of_none c n)]; exact c⟩
  · show ext w.ρ none k p none j = none
    rw [ext_ne (by rintro ⟨_, z⟩; omega)]; exact hk j (by omega)
/-- what is reserved changes -/
theorem Wd.turn (s : SH G w h) {p : Addr} {k : Nat} {u : HO} (hp : w.ρ none k = some p) : Le0 w ⟨w.ρ, L2.upd w.H p u⟩ ∧ SH G ⟨w.ρ, L2.upd w.H p u⟩ h := by
  have le : Le0 w ⟨w.ρ, L2.upd w.H p u⟩ := ⟨fun _ _ _ e => e, fun q o e f => ⟨by show L2.upd w.H p u q = _; rw [upd_ne (fun z => f none k (by rw [z]; exact hp))]; exact e, f⟩⟩
  refine ⟨le, ⟨s.inj, s.dom, fun r i o e => ?_, fun i q e => ?_, s.rsf, G.invle _ _ le s.iv⟩⟩
  · obtain ⟨q, a, b⟩ := s.obj r i o e
    exact ⟨q, a, b.le0 le (by show L2.upd w.H p u q = _; rw [upd_ne (fun z => by have := s.inj _ _ _ _ _ a (by rw [z]; exact hp); cases this.1)])⟩
  · by_cases hi : q = p
    · subst hi; exact ⟨u, upd_same⟩
    · obtain ⟨o, c⟩ := s.rsv i q e
      exact ⟨o, by show L2.upd w.H p u q = _; rw [upd_ne hi]; exact c⟩
/-- what was reserved is a tree, or an object of a region -/
def unres (ρ : Option Nat → Nat → Option Addr) (k : Nat) : Option Nat → Nat → Option Addr := fun q j => if q = none ∧ j = k then none else ρ q j
theorem unres_some {ρ : Option Nat → Nat → Option Addr} {k r i : Nat} : unres ρ k (some r) i = ρ (some r) i := by unfold unres; rw [if_neg]; rintro ⟨z, _⟩; cases z
theorem unres_of {ρ : Option Nat → Nat → Option Addr} {k i : Nat} {r : Option Nat} {p : Addr} (e : unres ρ k r i = some p) : ρ r i = some p ∧ ¬ (r = none ∧ i = k) := by
  unfold unres at e
  split at e
  · cases e
  · exact ⟨e, by assumption⟩
theorem Wd.tree (s : SH G w h) {p : Addr} {k : Nat} {vs : List V} {ds : List D} (hp : w.ρ none k = some p) (hl : w.H p = some (.lst vs)) (sv : SVs G w vs ds) :
    Le0 w ⟨unres w.ρ k, w.H⟩ ∧ SH G ⟨unres w.ρ k, w.H⟩ h ∧ SV G ⟨unres w.ρ k, w.H⟩ (.ref p) (.lst ds) := by
  have le : Le0 w ⟨unres w.ρ k, w.H⟩ := ⟨fun r i q e => by show unres w.ρ k (some r) i = _; rw [unres_some]; exact e, fun q o e f => ⟨e, fun r i z => f r i (unres_of z).1⟩⟩
  refine ⟨le, ⟨fun r i q j x e1 e2 => s.inj _ _ _ _ _ (unres_of (k := k) e1).1 (unres_of (k := k) e2).1, fun r i q e => s.dom _ _ _ (unres_of (k := k) e).1, fun r i o e => ?_, fun i q e => s.rsv _ _ (unres_of (k := k) e).1, ?_, G.invle _ _ le s.iv⟩, .lst hl (fun r i z => ?_) (SVs.le0 le sv)⟩
  · obtain ⟨q, a, b⟩ := s.obj r i o e
    exact ⟨q, le.up _ _ _ a, b.le0 le rfl⟩
  · obtain ⟨n, hn⟩ := s.rsf
    exact ⟨n, fun j hj => by show unres w.ρ k none j = none; unfold unres; split <;> first | rfl | exact hn j hj⟩
  · obtain ⟨z1, z2⟩ := unres_of z
    exact z2 (s.inj _ _ _ _ _ z1 hp)
theorem Wd.adopt (s : SH G w h) {p : Addr} {k : Nat} {vs : List V} {ds : List D} (hp : w.ρ none k = some p) (hl : w.H p = some (.lst vs)) (sv : SVs G w vs ds) (r : Nat) :
    Le0 w ⟨ext (unres w.ρ k) (some r) (h r).length p, w.H⟩ ∧ SH G ⟨ext (unres w.ρ k) (some r) (h r).length p, w.H⟩ (h.new r (.lst ds)) := by
  have no : ∀ x, w.ρ (some r) (h r).length ≠ some x := fun x e => by
    obtain ⟨o, q⟩ := s.dom _ _ _ e
    unfold MH.at at q; rw [List.getElem?_eq_none (Nat.le_refl _)] at q; cases q
  have fz : ∀ r i, unres w.ρ k r i ≠ some p := fun r i z => by
    obtain ⟨z1, z2⟩ := unres_of z
    exact z2 (s.inj _ _ _ _ _ z1 hp)
  have le : Le0 w ⟨ext (unres w.ρ k) (some r) (h r).length p, w.H⟩ := by
    refine ⟨fun q j x e => ?_, fun q o e f => ⟨e, ?_⟩⟩
    · show ext (unres w.ρ k) (some r) (h r).length p (some q) j = _
      rw [ext_ne, unres_some]; exact e
      rintro ⟨z, rfl⟩; cases z; exact no _ e
    · exact ext_fz (w := ⟨unres w.ρ k, w.H⟩) (fun r i z => f r i (unres_of z).1) (fun z => f none k (by rw [z]; exact hp))
  refine ⟨le, ⟨ext_inj (fun r i q j x e1 e2 => s.inj _ _ _ _ _ (unres_of (k := k) e1).1 (unres_of (k := k) e2).1) fz, fun a i x e => ?_, fun a i x e => ?_, fun i q e => ?_, ?_, G.invle _ _ le s.iv⟩⟩
  · have e : ext (unres w.ρ k) (some r) (h r).length p (some a) i = some x := e
    by_cases t : some a = some r ∧ i = (h r).length
    · obtain ⟨z, rfl⟩ := t; cases z; exact ⟨_, MH.new_at.mpr (.inl ⟨rfl, rfl, rfl⟩)⟩
    · rw [ext_ne t] at e
      obtain ⟨o', q⟩ := s.dom _ _ _ (unres_of e).1
      exact ⟨o', MH.new_at.mpr (.inr q)⟩
  · rcases MH.new_at.mp e with ⟨rfl, rfl, rfl⟩ | e
    · exact ⟨p, ext_at, .lst hl (SVs.le0 le sv)⟩
    · obtain ⟨q, a1, b⟩ := s.obj _ _ _ e
      exact ⟨q, le.up _ _ _ a1, b.le0 le rfl⟩
  · have e : ext (unres w.ρ k) (some r) (h r).length p none i = some q := e
    rw [ext_none] at e
    exact s.rsv _ _ (unres_of e).1
  · obtain ⟨n, hn⟩ := s.rsf
    exact ⟨n, fun j hj => by show ext (unres w.ρ k) (some r) (h r).length p none j = none; rw [ext_none]; unfold unres; split <;> first | rfl | exact hn j hj⟩
/-- behind what was reserved: all that stood before, stays -/
theorem Le.around {w0 w1 w2 w3 : Wd} {k : Nat} {p : Addr} (e : Le0 w1 w2) (hn : w1.H p = none) (hk : w1.ρ none k = none) (e12 : ∀ j, j ≠ k → w2.ρ none j = w1.ρ none j) (e12H : ∀ j q, w1.ρ none j = some q → w2.H q = w1.H q)
    (up : ∀ r i q, w2.ρ (some r) i = some q → w3.ρ (some r) i = some q) (kp : ∀ q, q ≠ p → w2.Fz q → w3.Fz q) (hH : w3.H = w2.H) (rk : w3.ρ none k = none) (ro : ∀ j, j ≠ k → w3.ρ none j = w2.ρ none j) : Le w1 w3 :=
  ⟨⟨fun r i q c => up _ _ _ (e.up _ _ _ c), fun q o c f => let ⟨a, b⟩ := e.kp q o c f; ⟨by rw [hH]; exact a, kp q (ne_of_none c hn) b⟩⟩, fun j => by
    by_cases hj : j = k
    · subst hj; exact ⟨rk.trans hk.symm, fun q c => by rw [hk] at c; cases c⟩
    · exact ⟨(ro j hj).trans (e12 j hj), fun q c => by rw [hH]; exact e12H j q c⟩⟩
end
section
variable {X : Cx} {G : Gb} {W : WX}
theorem lc_R (hfr : ∀ i, G.fr i = true) {mi : MI} {p : Pt} {tt : MT} {te : ME} {vs : List Nat} (hv : ∀ i ∈ p.slots, i ∈ vs) {σ : L2.St} {H : Hp} {Q : VK} (hh : RE G W (mLc mi p tt te vs) σ H Q) : tLc (RI G W mi) (RG G p) (RT G WF tt) (RE G WF te) vs σ H Q := by
  obtain ⟨ρ, s, h, Y, MQ, ss, sh, lx, lq, m⟩ := hh
  refine ⟨ρ, s, h, Y, _, ss, sh, lx, fun w1 h1 ds chk J e1 sh1 itok q => ?_, m⟩
  intro Dp nD
  obtain ⟨k, hk, leR, shR⟩ := Wd.reserve (u := .lst []) sh1 nD
  have ss1 := ss.le e1
  refine ⟨fun i n H' => i + n = ds.length ∧ ∃ ρ' h' acc us, Le0 w1 ⟨ρ', H'⟩ ∧ SH G ⟨ρ', H'⟩ h' ∧ ρ' none k = some Dp ∧ (∀ j, j ≠ k → ρ' none j = w1.ρ none j) ∧ (∀ j q, w1.ρ none j = some q → H' q = w1.H q) ∧ H' Dp = some (.lst us) ∧ SVs G ⟨ρ', H'⟩ us acc ∧
      lcGo chk p tt te (mWipe s vs) (ds.drop i) acc h' (fun ys h2 => mkL ys h2 MQ), ⟨ds.length, by omega, _, h1, [], [], leR, shR, ext_at, fun j hj => ext_ne (fun z => hj z.2), fun j q c => upd_ne (fun z => sh1.fresh nD none j (by rw [← z]; exact c)), upd_same, .nil, q⟩, ?_⟩
  rintro i n H' ⟨el, ρ', h', acc, us, le, sh', hD, ho, hoH, hl, svs, q⟩
  cases n with
  | zero =>
    have hd : ds.drop i = [] := List.drop_eq_nil_of_le (by omega)
    rw [hd] at q
    refine .inl ⟨(itok ⟨ρ', H'⟩ h' le sh' q.1 i).2 (by omega), ?_⟩
    rcases q.2 with q | ⟨r, q⟩
    · obtain ⟨le3, sh3, sv3⟩ := Wd.tree sh' hD hl svs
      refine lq ⟨unres ρ' k, H'⟩ _ _ _ (e1.trans ?_) sh3 sv3 q
      refine Le.around (w0 := w1) (w2 := ⟨ρ', H'⟩) (k := k) (p := Dp) le nD hk ho hoH (fun r i q c => le3.up _ _ _ c) (fun q _ f r i z => f r i (unres_of z).1) rfl ?_ fun j hj => ?_
      · show unres ρ' k none k = none; unfold unres; rw [if_pos ⟨rfl, rfl⟩]
      · show unres ρ' k none j = _; unfold unres; rw [if_neg (fun z => hj z.2)]
    · obtain ⟨le3, sh3⟩ := Wd.adopt sh' hD hl svs r
      refine lq ⟨ext (unres ρ' k) (some r) (h' r).length Dp, H'⟩ _ _ _ (e1.trans ?_) sh3 (.ref ext_at) q
      refine Le.around (w0 := w1) (w2 := ⟨ρ', H'⟩) (k := k) (p := Dp) le nD hk ho hoH (fun r i q c => le3.up _ _ _ c) (fun q hq f => ext_fz (w := ⟨unres ρ' k, H'⟩) (fun r i z => f r i (unres_of z).1) hq) rfl ?_ fun j hj => ?_
      · show ext (unres ρ' k) (some r) (h' r).length Dp none k = none; rw [ext_none]; unfold unres; rw [if_pos ⟨rfl, rfl⟩]
      · show ext (unres ρ' k) (some r) (h' r).length Dp none j = _; rw [ext_none]; unfold unres; rw [if_neg (fun z => hj z.2)]
  | succ n =>
    have hi' : i < ds.length := by omega
    have hd : ds.drop i = ds[i] :: ds.drop (i + 1) := List.drop_eq_getElem_cons hi'
    rw [hd] at q
    obtain ⟨qc, q⟩ := q
    obtain ⟨go, turn⟩ := (itok ⟨ρ', H'⟩ h' le sh' qc i).1 hi'
    refine .inr ⟨go, fun H2 => ∃ ρ' h' acc us, Le0 w1 ⟨ρ', H2⟩ ∧ SH G ⟨ρ', H2⟩ h' ∧ ρ' none k = some Dp ∧ (∀ j, j ≠ k → ρ' none j = w1.ρ none j) ∧ (∀ j q, w1.ρ none j = some q → H2 q = w1.H q) ∧ H2 Dp = some (.lst us) ∧ SVs G ⟨ρ', H2⟩ us acc ∧
      lcGo chk p tt te (mWipe s vs) (ds.drop (i + 1)) acc h' (fun ys h2 => mkL ys h2 MQ), fun H2 hN => ⟨n, by omega, by omega, hN⟩, fun x H2 hy => ?_⟩
    obtain ⟨d, w2, hdi, rfl, le2, sh2, sv⟩ := turn x H2 hy
    have ed : ds[i] = d := by rw [List.getElem?_eq_getElem hi'] at hdi; exact Option.some.inj hdi
    rw [ed] at q
    -- what holds at each later world
    have inv : ∀ w4, Le ⟨ρ', H'⟩ w4 → w4.ρ none k = some Dp ∧ (∀ j, j ≠ k → w4.ρ none j = w1.ρ none j) ∧ (∀ j q, w1.ρ none j = some q → w4.H q = w1.H q) ∧ w4.H Dp = some (.lst us) ∧ SVs G w4 us acc ∧ Le0 w1 w4 := fun w4 e4 => by
      refine ⟨(e4.rs k).1.trans hD, fun j hj => (e4.rs j).1.trans (ho j hj), fun j q c => ?_, ((e4.rs k).2 _ hD).trans hl, svs.le e4, le.trans e4.toLe0⟩
      have hj : j ≠ k := fun z => by subst z; rw [hk] at c; cases c
      exact ((e4.rs j).2 q ((ho j hj).trans c)).trans (hoH j q c)
    split at q
    · rename_i s1 eb
      have le12 := le.trans le2.toLe0
      refine ⟨w2.ρ, mWipe s vs, h', d, s1, sh2, SS.wipes (ss1.le0 le12) hfr vs, sv, eb, fun σ3 of ss3 => ⟨?_, ?_⟩⟩
      · rw [of.wipe hv]
        clear of ss3 eb
        induction vs with
        | nil => rfl
        | cons v vs ih =>
          have key : ∀ (us : List Nat) (σ : L2.St), (∀ i ∈ us, ∀ x, σ[i]? ≠ some (some x)) → L2.wipe σ us = σ := by
            intro us
            induction us with
            | nil => intro σ _; rfl
            | cons u us ih =>
              intro σ hu
              show (L2.wipe σ us).set u none = σ
              rw [ih σ (fun i hi => hu i (List.mem_cons_of_mem _ hi))]
              apply List.ext_getElem?
              intro j
              rw [List.getElem?_set]
              split
              · rename_i e; subst e
                split
                · rename_i hl
                  cases q : σ[u] with
                  | none => rw [List.getElem?_eq_getElem hl, q]
                  | some x => exact (hu u List.mem_cons_self x (by rw [List.getElem?_eq_getElem hl, q])).elim
                · rename_i hl; rw [List.getElem?_eq_none (by omega)]
              · rfl
          exact key _ _ fun i hi x z => (wipe_some z).2 hi
      · refine ⟨w2.ρ, s1, h', NX, _, ss3, sh2, LX.none, fun w3 h3 b e3 sh3 q => ?_, q⟩
        cases b with
        | false =>
          obtain ⟨i1, i2, i3, i4, i5, i6⟩ := inv w3 (le2.trans e3)
          exact ⟨w3.ρ, h3, acc, us, i6, sh3, i1, i2, i3, i4, i5, q⟩
        | true =>
          refine ⟨w3.ρ, s1, h3, NX, _, ss3.le e3, sh3, LX.none, fun w4 h4 y v e4 sh4 sv4 q => ?_, q⟩
          obtain ⟨i1, i2, i3, i4, i5, i6⟩ := inv w4 ((le2.trans e3).trans e4)
          refine ⟨us, i4, by rw [svs.length]; unfold sizeLine; have := q.1; omega, ?_⟩
          obtain ⟨le5, sh5⟩ := Wd.turn (u := .lst (us ++ [v])) sh4 i1
          refine ⟨w4.ρ, h4, acc ++ [y], us ++ [v], i6.trans le5, sh5, i1, i2, fun j q c => ?_, upd_same, SVs.le0 le5 (i5.append (.cons sv4 .nil)), q.2⟩
          have hj : j ≠ k := fun z => by subst z; rw [hk] at c; cases c
          show L2.upd w4.H Dp _ q = _
          rw [upd_ne]; exact i3 j q c
          intro z; subst z
          exact hj (sh4.inj _ _ _ _ _ ((i2 j hj).trans c) i1).2
    · exact q.elim
theorem ptsI {ifs : List Expr} {t t' : TT} (h : PTs X ifs t) (k : ∀ σ H Q, t' σ H Q → t σ H Q) : PTs X ifs t' := ⟨fun pins s σ H Q I q => h.run pins s σ H Q I (k _ _ _ q)⟩
theorem t_nil : PTs X [] (RT G W mYes) := ptsI pts_nil fun σ H Q ⟨ρ, s, h, Y, MQ, ss, sh, lx, lq, m⟩ => lq _ _ _ Le.refl sh m
theorem m_lc {elt tg iter : Expr} {ifs : List Expr} {scope : Scope} {own : List (Str × Nat)} {pos : Pos} {mi : MI} {p : Pt} {tt : MT} {te : ME} (hv : ∀ i ∈ p.slots, i ∈ own.map (·.2)) (hc : X.calm = true) (hN : X.N.Nodup) (hi : PI X tg iter (RI G W mi)) (ok : BlkOk X.N X.env.scope scope own)
    (hg : ∀ (s : Shared) (H : Hp) (C : Addr) (cl : List (Str × Addr)) (fp : List Addr), PG (X.blk s H scope (compEnvC scope cl C X.env) fp) tg (RG G p)) (ht : ∀ (s : Shared) (H : Hp) (C : Addr) (cl : List (Str × Addr)) (fp : List Addr), PTs (X.blk s H scope (compEnvC scope cl C X.env) fp) ifs (RT G WF tt))
    (he : ∀ (s : Shared) (H : Hp) (C : Addr) (cl : List (Str × Addr)) (fp : List Addr), PE (X.blk s H scope (compEnvC scope cl C X.env) fp) elt (RE G WF te)) (hs : ∀ x, foldedSetIterable iter X.env x = pure x := by intro _; rfl) (hfr : ∀ i, G.fr i = true := by intro _; rfl) :
    PE X (.ListComp elt [⟨tg, iter, ifs, 0⟩] scope pos) (RE G W (mLc mi p tt te (own.map (·.2)))) := peI (pe_lc hc hN hi ok hg ht he hs) fun σ H Q h => lc_R hfr hv h
theorem s_setLc {i : Nat} {y : Str} {py : Pos} {elt tg iter : Expr} {ifs : List Expr} {scope : Scope} {own : List (Str × Nat)} {pos spos : Pos} {mi : MI} {p : Pt} {tt : MT} {te : ME} (hv : ∀ i ∈ p.slots, i ∈ own.map (·.2)) (hc : X.calm = true) (hN : X.N.Nodup) (hy : X.N[i]? = some y) (hyl : X.env.scope.names.lookup y = some .local)
    (hsw : swapsWith (.ListComp elt [⟨tg, iter, ifs, 0⟩] scope pos) (some (.Name y py)) spos.line X.env = pure true) (hi : PI X tg iter (RI G W mi)) (ok : BlkOk X.N X.env.scope scope own)
    (hg : ∀ (s : Shared) (H : Hp) (C : Addr) (cl : List (Str × Addr)) (fp : List Addr), PG (X.blk s H scope (compEnvC scope cl C X.env) fp) tg (RG G p)) (ht : ∀ (s : Shared) (H : Hp) (C : Addr) (cl : List (Str × Addr)) (fp : List Addr), PTs (X.blk s H scope (compEnvC scope cl C X.env) fp) ifs (RT G WF tt))
    (he : ∀ (s : Shared) (H : Hp) (C : Addr) (cl : List (Str × Addr)) (fp : List Addr), PE (X.blk s H scope (compEnvC scope cl C X.env) fp) elt (RE G WF te)) (hs : ∀ x, foldedSetIterable iter X.env x = pure x := by intro _; rfl) (hfr : ∀ i, G.fr i = true := by intro _; rfl) :
    PS X (.Assign [.Name y py] (.ListComp elt [⟨tg, iter, ifs, 0⟩] scope pos) spos) (RS G W (mSet i (mLc mi p tt te (own.map (·.2))))) :=
  psI (ps_setLc hc hN hy hyl hsw hi ok hg ht he hs) fun N σ H ⟨ρ, s, h, Mn, ss, sh, ld, m⟩ => lc_R hfr hv ⟨ρ, s, h, _, _, ss, sh, ld.ex _ _ _ Le.refl ss, fun w1 h1 d v e1 sh1 sv q => ld.nx _ _ _ _ e1 sh1 ((ss.le e1).set sv i (hfr i)) q, m⟩
end
end M

set_option Elab.async false
set_option linter.all false
set_option maxRecDepth 100000
namespace M
open PySem PySem.Spec PyProof.Rows L2 Z
/-! ### exceptions -/
def mRaise (c : String) : MS := fun N s h => N.ex s c [] h
/-- k: which classes the clause catches -/
def mTry (k : String → Bool) (bd su : MS) : MS := fun N s h => bd { N with ex := fun s1 c fs h1 => if k c = true then su { N with ex := fun _ => NX } s1 h1 else N.ex s1 c fs h1 } s h
def mTryAs (k : String → Bool) (i : Nat) (bd : MS) (su : String → List (String × D) → MS) : MS := fun N s h => bd { N with ex := fun s1 c fs h1 => if k c = true then i < s1.length ∧ su c fs { N with nx := fun s2 h2 => N.nx (s2.set i none) h2, bk := fun s2 h2 => N.bk (s2.set i none) h2, ct := fun s2 h2 => N.ct (s2.set i none) h2, ex := fun _ => NX } (s1.set i none) h1 else N.ex s1 c fs h1 } s h
/-- e.f of the caught one -/
def mXf (c : String) (fs : List (String × D)) (c' f : String) : ME := fun _ h _ Q => c = c' ∧ match fs.lookup f with | some d => Q d h | none => False
/-- isinstance(e, C), C an own class or ValueError -/
def isSub (c e : String) : Bool := c == e || e == "HouseError" || e == "ValueError"
def mXi (c : String) (fs : List (String × D)) (e : String) : ME := fun _ h _ Q => fs = [] ∧ Q (.bl (isSub c e)) h
/-- a def that is called with the caught one -/
abbrev MDefE := String → List (String × D) → MDef
def mFe (c : String) (fs : List (String × D)) (n : Nat) (m : MDefE) (a : MA) : ME := fun s h X Q => a s h X fun ds h1 => ds.length + 1 = n ∧ m c fs ds h1 NX Q
/-- while an exception is handled: the slot that holds it, its object, its dict, its attributes -/
def Gb.hold (G : Gb) (i : Nat) (a : Addr) (d : Option Addr) (fs : List (String × D)) : Gb := { G with
  inv := fun w => G.inv w ∧ XD G w d fs
  invle := fun w w' e h => ⟨G.invle w w' e h.1, h.2.imp id fun ⟨x, fs', q, f, s⟩ => ⟨x, fs', q, e.kp _ _ f.1 f.2, s.1, SFs.le0 e s.2⟩⟩
  cau := some (i, a) }
section
variable {X : Cx} {G : Gb} {W : WX} {w : Wd} {h : MH}
theorem SH.hold {i : Nat} {a : Addr} {d : Option Addr} {fs : List (String × D)} (s : SH G w h) (x : XD G w d fs) : SH (G.hold i a d fs) w h := ⟨s.inj, s.dom, s.obj, s.rsv, s.rsf, s.iv, x⟩
theorem SH.xd {i : Nat} {a : Addr} {d : Option Addr} {fs : List (String × D)} (s : SH (G.hold i a d fs) w h) : XD G w d fs := s.iv.2
theorem s_raise {e : Expr} {c : String} {C : Addr} {pos : Pos} (hxc : G.xc c = some C) (hc : X.calm = true) (tk : Takes X W) (he : PMk X e (fun _ H Q => Q (.ref C) none H)) : PS X (.Raise (some e) none pos) (RS G W (mRaise c)) :=
  psI (ps_raise hc tk he) fun N σ H ⟨ρ, s, h, Mn, ss, sh, ld, m⟩ => ld.ex _ _ _ Le.refl ss _ _ _ _ _ _ Le.refl sh hxc (.inl ⟨rfl, rfl⟩) m
/-- what is told for each class -/
def RX (G : Gb) (i : Nat) (a : Addr) (cls : Value) (d : Option Addr) (su : String → List (String × D) → MS) : TS := fun N σ H => ∃ c C fs, cls = .ref C ∧ G.xc c = some C ∧ RS (G.hold i a d fs) WF (su c fs) N σ H
theorem SS.cau {i : Nat} {a : Addr} {d : Option Addr} {fs : List (String × D)} {σ : L2.St} {s : MSt} (x : SS (G.hold i a d fs) w σ s) : σ[i]? = some (some (.ref a)) := x.2.2 i a rfl
/-- the promise of a def that is called with the caught one -/
def SPe (G : Gb) (n : Nat) (m : MDefE) : SpE := fun a cls d vs H Q _ => ∃ ρ h ds c C fs us MQ, cls = .ref C ∧ G.xc c = some C ∧ XD G ⟨ρ, H⟩ d fs ∧ SH G ⟨ρ, H⟩ h ∧ vs = .ref a :: us ∧ SVs G ⟨ρ, H⟩ us ds ∧ LQ G ⟨ρ, H⟩ MQ Q ∧ ds.length + 1 = n ∧ m c fs ds h NX MQ
theorem SPe.len {n : Nat} {m : MDefE} {a : Addr} {cls : Value} {d : Option Addr} {vs : List V} {H : Hp} {Q : VK} {E : XK} (h : SPe G n m a cls d vs H Q E) : vs.length = n := by
  obtain ⟨_, _, ds, _, _, _, us, _, _, _, _, _, rfl, s, _, l, _⟩ := h
  simp [s.length]; exact l
/-- the body of such a def: its first slot holds the caught one -/
def mBodyE (N : Nat) (t : String → List (String × D) → MS) : MDefE := fun c fs ds h _ Q => t c fs ⟨fun _ h1 => Q .non h1, Q, fun _ _ => False, fun _ _ => False, fun _ => NX⟩ (none :: (ds.map some ++ List.replicate (N - 1 - ds.length) none)) h
end
end M

set_option Elab.async false
set_option linter.all false
set_option maxRecDepth 100000
namespace M
open PySem PySem.Spec PyProof.Rows L2 Z
section
variable {X : Cx} {G : Gb} {W : WX} {a b c : Expr} {ma mb mc : ME} {pos : Pos}
theorem RE_chain {o o' : M2} {σ : L2.St} {H : Hp} {Q : VK} (h : RE G W (mChain o o' ma mb mc) σ H Q) : tChain (RO G o) (RO G o') (RE G W ma) (RE G W mb) (RE G W mc) σ H Q := by
  obtain ⟨ρ, s, h, X, MQ, ss, sh, lx, lq, m⟩ := h
  refine ⟨ρ, s, h, X, _, ss, sh, lx, fun w1 h1 d1 v1 e1 sh1 sv1 q => ?_, m⟩
  refine ⟨w1.ρ, s, h1, X, _, ss.le e1, sh1, lx.le e1, fun w2 h2 d2 v2 e2 sh2 sv2 q => ?_, q⟩
  refine ⟨w2.ρ, h2, d1, d2, _, sh2, sv1.le e2, sv2, fun w3 h3 d3 v3 e3 sh3 sv3 q => ?_, q⟩
  obtain ⟨k, rfl, q⟩ := isB_is q
  refine ⟨k, sv3.isB, ?_⟩
  have e123 := e1.trans (e2.trans e3)
  cases k with
  | true =>
    refine ⟨w3.ρ, s, h3, X, _, ss.le e123, sh3, lx.le e123, fun w4 h4 d4 v4 e4 sh4 sv4 q => ?_, q⟩
    exact ⟨w4.ρ, h4, d2, d4, MQ, sh4, sv2.le (e3.trans e4), sv4, lq.le (e123.trans e4), q⟩
  | false => exact lq _ _ _ _ e123 sh3 (.bl _) q
theorem m_tchain {op op' : CmpOp} {o o' : M2} (ho : OpR X (compareOp op) (RO G o)) (ho' : OpR X (compareOp op') (RO G o')) (ha : PE X a (RE G W ma)) (hb : PE X b (RE G W mb)) (hc : PE X c (RE G W mc))
    (hm : lastMarks [op, op'] [b, c] = false := by with_unfolding_all rfl) : PT X (.Compare a [op, op'] [b, c] pos) (RT G W (mB (mChain o o' ma mb mc))) :=
  ptI (pt_chain ho ho' ha hb hc hm) fun σ H Q h => RE_chain (RE_B h)
theorem m_callTy {e : Expr} {es : List Expr} {x : Str} {n : String} {o : MC} {mr : MA} {p pos : Pos} (hc : CallR X (.type n) (RC G o)) (hg : Gl X x) (hm : X.mg x = none) (hv : bootBuiltins x = some (.type n)) (ha : PA X (e :: es) (RA G W mr)) (hn : x ≠ "__name__" := by decide) (hdb : (x == ("__debug__" : Str)) = false := by decide)
    (he : starEach (e :: es) X.env = (false, eval e X.env) :: starEach es X.env := by rfl) (hpl : (backTo pos (starEach es X.env)).any (·.1) = false := by rfl) : PE X (.Call (.Name x p) (e :: es) [] pos) (RE G W (mCB o mr)) :=
  peI (pe_callTy hc hg hm hv ha hn hdb he hpl) fun σ H Q h => RC_of h
end
def opAddI : M2 := opI0 fun i j => .int (i + j)
/-- what the clause of c catches -/
def catch_ (c e : String) : Bool := c == "HouseError" || c == "ValueError" || c == e
/-! ### the law's start -/
def G0 (C : Cb) : Gb := { C with inv := fun _ => True, invle := fun _ _ _ h => h, cau := none }
abbrev mh0 : MH := fun _ => []
theorem law_start {C : Cb} {m : MDef} (hm : ∀ ns : List Int, ns.length ≤ 63 → m [.rol (ns.map .int)] mh0 NX fun d _ => d = .bl true) {vs : List V} {H : Hp} {Q : VK} {E : XK} (h : sp_law C.K vs H Q E) : SPm (G0 C) 1 m vs H Q E := by
  obtain ⟨a, ns, rfl, hS, hl, q⟩ := h
  have hints : ∀ ns : List Int, SVs C ⟨fun _ _ => none, H⟩ (ns.map V.int) (ns.map D.int) := by
    intro ns; induction ns with
    | nil => exact .nil
    | cons n ns ih => exact .cons (.int n) ih
  refine ⟨fun _ _ => none, mh0, [.rol (ns.map .int)], NX, _, ⟨fun r i q j p e => (by cases e), fun r i p e => (by cases e), fun r i o e => (by simp [MH.at, mh0] at e), fun i p e => (by cases e), ⟨0, fun _ _ => rfl⟩, trivial⟩, .cons ?_ .nil, fun _ _ _ _ _ _ _ _ _ _ z => z.elim, ?_, rfl, hm ns hl⟩
  · rcases hS with r | k
    · exact .rol ⟨r, fun _ _ z => by cases z⟩ (hints ns)
    · exact .klst k (hints ns)
  · intro w' h' d v _ _ sv e
    subst e
    rw [sv.bl']
    exact q _
end M

set_option Elab.async false
set_option linter.all false
set_option maxRecDepth 100000
set_option checkBinderAnnotations false
namespace M
open PySem PySem.Spec PyProof.Rows L2 Z
/-! ### running the model, from its head: what follows stands in places where simp does not look -/
theorem hide {α : Sort u} {a b : α} (h : a = b) : a = b := h
class K0 where
  p : Prop
class K1 (α : Type) where
  k : α → Prop
class K2 where
  k : D → MH → Prop
class KD where
  k : List D → MH → Prop
class KN where
  n : MEnds
class KH where
  k : MH → Prop
def mite (c : Bool) [A : K0] [B : K0] : Prop := if c = true then A.p else B.p
theorem mite_t {A B : K0} : @mite true A B = A.p := hide rfl
theorem mite_f {A B : K0} : @mite false A B = B.p := hide rfl
theorem mite_of {c : Bool} {A B : K0} (h1 : c = true → A.p) (h2 : c = false → B.p) : @mite c A B := by
  cases c with
  | true => exact h1 rfl
  | false => exact h2 rfl
theorem mite_d {p : Prop} [Decidable p] {A B : K0} (h1 : p → A.p) (h2 : ¬ p → B.p) : @mite (decide p) A B := mite_of (fun h => h1 (of_decide_eq_true h)) fun h => h2 (of_decide_eq_false h)
theorem mite_dn {p : Prop} [Decidable p] {A B : K0} (h1 : ¬ p → A.p) (h2 : p → B.p) : @mite (!decide p) A B := mite_of (fun h => h1 (by simpa using h)) fun h => h2 (by simpa using h)
def optm {α : Type} (o : Option α) [K : K1 α] : Prop := match o with | some a => K.k a | none => False
theorem optm_some {α : Type} {a : α} {K : K1 α} : @optm α (some a) K = K.k a := hide rfl
theorem optm_of {α : Type} {o : Option α} {a : α} {K : K1 α} (h : o = some a) (q : K.k a) : @optm α o K := by rw [h]; exact q
def slotm (o : Option (Option D)) [K : K1 D] : Prop := match o with | some (some d) => K.k d | _ => False
theorem slotm_some {d : D} {K : K1 D} : @slotm (some (some d)) K = K.k d := hide rfl
def cndm (c : Prop) [A : K0] : Prop := c ∧ A.p
theorem cndm_t {A : K0} : @cndm True A = A.p := by unfold cndm; simp
theorem cndm_of {c : Prop} {A : K0} (h : c) (q : A.p) : @cndm c A := ⟨h, q⟩
/-- an operation -/
def opm (o : M2) (x y : D) (h : MH) [K : K2] : Prop := o x y h K.k
def unm (o : M1) (x : D) (h : MH) [K : K2] : Prop := o x h K.k
/-- a call of a built-in; of a def; of one with the caught exception -/
def cbm (o : MC) (ds : List D) (h : MH) [K : K2] : Prop := o ds h K.k
class KX where
  x : MX
def callm (m : MDef) (ds : List D) (h : MH) [X : KX] [K : K2] : Prop := m ds h X.x K.k
def callem (m : MDefE) (c : String) (fs : List (String × D)) (ds : List D) (h : MH) [K : K2] : Prop := m c fs ds h NX K.k
def newm (c : String) (m : MDef) (ds : List D) (h : MH) [X : KX] [K : K2] : Prop := ∃ q, m (.ref q (h q).length :: ds) (h.new q (.ins c [])) X.x fun d h2 => d = .non ∧ K.k (.ref q (h q).length) h2
theorem newm_of {c : String} {m : MDef} {ds : List D} {h : MH} {X : KX} {K : K2} (q : Nat) (k : m (.ref q (h q).length :: ds) (h.new q (.ins c [])) X.x fun d h2 => d = .non ∧ K.k (.ref q (h q).length) h2) : @newm c m ds h X K := ⟨q, k⟩
def mklm (l : List D) (h : MH) [K : K2] : Prop := mkL l h K.k
theorem mk_tree {l : List D} {h : MH} {K : K2} (q : K.k (.lst l) h) : @mklm l h K := .inl q
theorem mk_new {l : List D} {h : MH} {K : K2} (r : Nat) (q : K.k (.ref r (h r).length) (h.new r (.lst l))) : @mklm l h K := .inr ⟨r, q⟩
def setm (x y v : D) (h : MH) [K : KH] : Prop := setD x y v h K.k
def sfm (c : String) (x : D) (f : String) (v : D) (h : MH) [K : KH] : Prop := sfD c x f v h K.k
def getm (x y : D) (h : MH) [K : K2] : Prop := getL x y h K.k
def lmm (o : D → List D → MH → MK → Prop) (x : D) (ds : List D) (h : MH) [K : K2] : Prop := o x ds h K.k
def slm (x : D) (lo hi : Option Int) (h : MH) [K : K2] : Prop := opSl x lo hi h K.k
def gom (chk : MH → Prop) (p : Pt) (b : MS) (ds : List D) (s : MSt) (h : MH) [N : KN] : Prop := mGo chk p b N.n ds s h
def whm (t : MT) (b : MS) (s : MSt) (h : MH) [N : KN] : Prop := ∃ n, mIter t b N.n n s h
def lcm (chk : MH → Prop) (p : Pt) (t : MT) (e : ME) (s : MSt) (ds acc : List D) (h : MH) [K : KD] : Prop := lcGo chk p t e s ds acc h K.k
section
variable {s : MSt} {h : MH} {X : MX} {Q : MK} {QB : Bool → MH → Prop} {QA : List D → MH → Prop} {nx : MSt → MH → Prop} {rt : MK} {bk ct : MSt → MH → Prop} {ex : MSt → MX} {a b c : ME} {t u : MT} {x y : MS} {r : MA} {o p : M2} {i : Nat} {d : D}
theorem e_var : mVar i s h X Q = (@slotm s[i]? ⟨fun d => Q d h⟩) := hide rfl
theorem e_c : mC d s h X Q = (Q d h) := hide rfl
theorem e_op : mOp o a b s h X Q = (a s h X fun x h1 => b s h1 X fun y h2 => @opm o x y h2 ⟨Q⟩) := hide rfl
theorem e_un {o : M1} : mUn o a s h X Q = (a s h X fun x h1 => @unm o x h1 ⟨Q⟩) := hide rfl
theorem e_nil : mNil s h X QA = (QA [] h) := hide rfl
theorem e_cons : mCons a r s h X QA = (a s h X fun x h1 => r s h1 X fun xs h2 => QA (x :: xs) h2) := hide rfl
theorem e_cb {o : MC} : mCB o r s h X Q = (r s h X fun xs h1 => @cbm o xs h1 ⟨Q⟩) := hide rfl
theorem e_fn {n : Nat} {m : MDef} : mFn n m r s h X Q = (r s h X fun ds h1 => @cndm (ds.length = n) ⟨@callm m ds h1 ⟨X⟩ ⟨Q⟩⟩) := hide rfl
theorem e_mt {n : Nat} {m : MDef} {c : String} : mMt c n m a r s h X Q = (a s h X fun x h1 => @cndm (clsD h1 x = some c) ⟨r s h1 X fun ds h2 => @cndm ((x :: ds).length = n) ⟨@callm m (x :: ds) h2 ⟨X⟩ ⟨Q⟩⟩⟩) := hide rfl
theorem e_new {n : Nat} {m : MDef} {c : String} : mNew c n m r s h X Q = (r s h X fun ds h1 => @cndm (ds.length + 1 = n) ⟨@newm c m ds h1 ⟨X⟩ ⟨Q⟩⟩) := hide rfl
theorem e_isB {b : Bool} {k : Bool → Prop} : isB (.bl b) k = (k b) := hide rfl
theorem e_B : mB a s h X QB = (a s h X fun x h1 => isB x fun b => QB b h1) := hide rfl
theorem e_and : mAnd t u s h X QB = (t s h X fun c h1 => @mite c ⟨u s h1 X QB⟩ ⟨QB false h1⟩) := hide rfl
theorem e_or : mOr t u s h X QB = (t s h X fun c h1 => @mite c ⟨QB true h1⟩ ⟨u s h1 X QB⟩) := hide rfl
theorem e_not : mNot t s h X QB = (t s h X fun c h1 => QB (!c) h1) := hide rfl
theorem e_andV : mAndV a b s h X Q = (a s h X fun x h1 => isB x fun c => @mite c ⟨b s h1 X Q⟩ ⟨Q (.bl false) h1⟩) := hide rfl
theorem e_orV : mOrV a b s h X Q = (a s h X fun x h1 => isB x fun c => @mite c ⟨Q (.bl true) h1⟩ ⟨b s h1 X Q⟩) := hide rfl
theorem e_notV : mNotV a s h X Q = (a s h X fun x h1 => isB x fun c => Q (.bl (!c)) h1) := hide rfl
theorem e_if : mIf t a b s h X Q = (t s h X fun c h1 => @mite c ⟨a s h1 X Q⟩ ⟨b s h1 X Q⟩) := hide rfl
theorem e_chain : mChain o p a b c s h X Q = (a s h X fun x h1 => b s h1 X fun y h2 => @opm o x y h2 ⟨fun z h3 => isB z fun k => @mite k ⟨c s h3 X fun u h4 => @opm p y u h4 ⟨Q⟩⟩ ⟨Q (.bl false) h3⟩⟩) := hide rfl
theorem e_next : mNext ⟨nx, rt, bk, ct, ex⟩ s h = (nx s h) := hide rfl
theorem e_seq : mSeq x y ⟨nx, rt, bk, ct, ex⟩ s h = (x ⟨y ⟨nx, rt, bk, ct, ex⟩, rt, bk, ct, ex⟩ s h) := hide rfl
theorem e_brk : mBreak ⟨nx, rt, bk, ct, ex⟩ s h = (bk s h) := hide rfl
theorem e_cont : mCont ⟨nx, rt, bk, ct, ex⟩ s h = (ct s h) := hide rfl
theorem e_drop : mDrop a ⟨nx, rt, bk, ct, ex⟩ s h = (a s h (ex s) fun _ h1 => nx s h1) := hide rfl
theorem e_ret : mRet a ⟨nx, rt, bk, ct, ex⟩ s h = (a s h (ex s) rt) := hide rfl
theorem e_retN : mRetN ⟨nx, rt, bk, ct, ex⟩ s h = (rt .non h) := hide rfl
theorem e_ifS : mIfS t x y ⟨nx, rt, bk, ct, ex⟩ s h = (t s h (ex s) fun c h1 => @mite c ⟨x ⟨nx, rt, bk, ct, ex⟩ s h1⟩ ⟨y ⟨nx, rt, bk, ct, ex⟩ s h1⟩) := hide rfl
theorem e_set : mSet i a ⟨nx, rt, bk, ct, ex⟩ s h = (a s h (ex s) fun d h1 => nx (s.set i (some d)) h1) := hide rfl
theorem e_asg {p : Pt} : mAsg p a ⟨nx, rt, bk, ct, ex⟩ s h = (a s h (ex s) fun d h1 => @optm _ (p.bind d s) ⟨fun s1 => nx s1 h1⟩) := by unfold mAsg; congr; funext d h1; generalize p.bind d s = z; cases z <;> rfl
theorem e_aug : mAug i o a ⟨nx, rt, bk, ct, ex⟩ s h = (@slotm s[i]? ⟨fun x => a s h (ex s) fun y h1 => @opm o x y h1 ⟨fun z h2 => nx (s.set i (some z)) h2⟩⟩) := hide rfl
theorem e_setix : mSetIx a b c ⟨nx, rt, bk, ct, ex⟩ s h = (c s h (ex s) fun v h1 => a s h1 (ex s) fun x h2 => b s h2 (ex s) fun y h3 => @setm x y v h3 ⟨fun h4 => nx s h4⟩) := hide rfl
theorem e_augL : mAugL o a b c ⟨nx, rt, bk, ct, ex⟩ s h = (a s h (ex s) fun x h1 => b s h1 (ex s) fun y h2 => @getm x y h2 ⟨fun v h3 => c s h3 (ex s) fun u h4 => @opm o v u h4 ⟨fun z h5 => @setm x y z h5 ⟨fun h6 => nx s h6⟩⟩⟩) := hide rfl
theorem e_fld {f : String} : mFld f a s h X Q = (a s h X fun x h1 => @optm _ (fldD h1 x f) ⟨fun d => Q d h1⟩) := by unfold mFld; congr; funext d h1; generalize fldD h1 d f = z; cases z <;> rfl
theorem e_sfld {f k : String} : mSFld k f a b ⟨nx, rt, bk, ct, ex⟩ s h = (b s h (ex s) fun v h1 => a s h1 (ex s) fun x h2 => @sfm k x f v h2 ⟨fun h3 => nx s h3⟩) := hide rfl
theorem e_sfldaug {f k : String} : mSFldAug k f o a b ⟨nx, rt, bk, ct, ex⟩ s h = (a s h (ex s) fun x h1 => @cndm (clsD h1 x = some k) ⟨@optm _ (fldD h1 x f) ⟨fun d => b s h1 (ex s) fun y h2 => @opm o d y h2 ⟨fun z h3 => @sfm k x f z h3 ⟨fun h4 => nx s h4⟩⟩⟩⟩) := by unfold mSFldAug; congr; funext d h1; unfold cndm; generalize fldD h1 d f = z; cases z <;> rfl
theorem e_tup : mTup r s h X Q = (r s h X fun ds h1 => @cndm (ds.length ≤ 1000000) ⟨Q (.tup ds) h1⟩) := hide rfl
theorem e_lst : mLst r s h X Q = (r s h X fun ds h1 => @cndm (ds.length ≤ 1000000) ⟨@mklm ds h1 ⟨Q⟩⟩) := hide rfl
theorem e_lm {o : D → List D → MH → MK → Prop} : mLM o a r s h X Q = (a s h X fun x h1 => @cndm (isL h1 x) ⟨r s h1 X fun ds h2 => @lmm o x ds h2 ⟨Q⟩⟩) := hide rfl
theorem e_isk {k : Kd} : mIsK k a s h X Q = (a s h X fun x h1 => @optm _ (tyOf h1 x) ⟨fun t => Q (.bl (k.has t)) h1⟩) := by unfold mIsK; congr; funext d h1; generalize tyOf h1 d = z; cases z <;> rfl
theorem e_sl {l k : MO} : mSl a l k s h X Q = (a s h X fun x h1 => l s h1 X fun lo h2 => k s h2 X fun hi h3 => @slm x lo hi h3 ⟨Q⟩) := hide rfl
theorem e_nopart {q : Option Int → MH → Prop} : mNoPart s h X q = (q none h) := hide rfl
theorem e_for {it : MI} {p : Pt} : mFor it p x ⟨nx, rt, bk, ct, ex⟩ s h = (it s h (ex s) fun ds chk h1 => @gom chk p x ds s h1 ⟨⟨nx, rt, bk, ct, ex⟩⟩) := hide rfl
theorem e_while : mWhile t x ⟨nx, rt, bk, ct, ex⟩ s h = (@whm t x s h ⟨⟨nx, rt, bk, ct, ex⟩⟩) := hide rfl
theorem e_lc {it : MI} {p : Pt} {vs : List Nat} : mLc it p t a vs s h X Q = (it s h X fun ds chk h1 => @lcm chk p t a (mWipe s vs) ds [] h1 ⟨fun ys h2 => @mklm ys h2 ⟨Q⟩⟩) := hide rfl
theorem e_yes : mYes s h X QB = (QB true h) := hide rfl
theorem e_raise {k : String} : mRaise k ⟨nx, rt, bk, ct, ex⟩ s h = (ex s k [] h) := hide rfl
theorem e_try {k : String → Bool} : mTry k x y ⟨nx, rt, bk, ct, ex⟩ s h = (x ⟨nx, rt, bk, ct, fun s1 c fs h1 => @mite (k c) ⟨y ⟨nx, rt, bk, ct, fun _ => NX⟩ s1 h1⟩ ⟨ex s1 c fs h1⟩⟩ s h) := hide rfl
theorem e_tryas {k : String → Bool} {z : String → List (String × D) → MS} : mTryAs k i x z ⟨nx, rt, bk, ct, ex⟩ s h = (x ⟨nx, rt, bk, ct, fun s1 c fs h1 => @mite (k c) ⟨@cndm (i < s1.length) ⟨z c fs ⟨fun s2 h2 => nx (s2.set i none) h2, rt, fun s2 h2 => bk (s2.set i none) h2, fun s2 h2 => ct (s2.set i none) h2, fun _ => NX⟩ (s1.set i none) h1⟩⟩ ⟨ex s1 c fs h1⟩⟩ s h) := hide rfl
theorem e_xf {fs : List (String × D)} {k k' f : String} : mXf k fs k' f s h X Q = (@cndm (k = k') ⟨@optm _ (fs.lookup f) ⟨fun d => Q d h⟩⟩) := by unfold mXf cndm; generalize fs.lookup f = z; cases z <;> rfl
theorem e_xi {fs : List (String × D)} {k e : String} : mXi k fs e s h X Q = (@cndm (fs = []) ⟨Q (.bl (isSub k e)) h⟩) := hide rfl
theorem e_fe {fs : List (String × D)} {k : String} {n : Nat} {m : MDefE} : mFe k fs n m r s h X Q = (r s h X fun ds h1 => @cndm (ds.length + 1 = n) ⟨@callem m k fs ds h1 ⟨Q⟩⟩) := hide rfl
theorem e_NX {k : String} {fs : List (String × D)} : NX k fs h = False := hide rfl
theorem e_part {q : Option Int → MH → Prop} : mPart a s h X q = a s h X fun x h1 => @optm Int (match x with | .int i => some i | _ => none) ⟨fun i => q (some i) h1⟩ := by
  unfold mPart; congr; funext d h1; unfold optm; cases d <;> rfl
end
section
variable {h : MH} {K : K2} {i j : Int} {xs ys : List D} {k n d : D}
theorem o_addI : @opm opAdd (.int i) (.int j) h K = (K.k (.int (i + j)) h) := hide rfl
theorem o_addLL : @opm opAdd (.lst xs) (.lst ys) h K = (@cndm (xs.length + ys.length ≤ 1000000) ⟨@mklm (xs ++ ys) h K⟩) := hide rfl
theorem o_addS {a b : Str} : @opm opAdd (.str a) (.str b) h K = (@cndm (a.length + b.length ≤ 1000000) ⟨K.k (.str (a ++ b)) h⟩) := hide rfl
theorem o_addI' : @opm opAddI (.int i) (.int j) h K = (K.k (.int (i + j)) h) := hide rfl
theorem o_sub : @opm opSub (.int i) (.int j) h K = (K.k (.int (i - j)) h) := hide rfl
theorem o_mul : @opm opMul (.int i) (.int j) h K = (@cndm (mulOk i j) ⟨K.k (.int (i * j)) h⟩) := hide rfl
theorem o_repL : @opm opMul (.lst xs) (.int j) h K = (@cndm (j ≤ 1000000 ∧ -1000000 ≤ j ∧ xs.length * j.toNat ≤ 1000000) ⟨@mklm (List.replicate j.toNat xs).flatten h K⟩) := hide rfl
theorem o_div : @opm opDiv (.int i) (.int j) h K = (@cndm (divOk i j) ⟨K.k (.int (i / j)) h⟩) := hide rfl
theorem o_mod : @opm opMod (.int i) (.int j) h K = (@cndm (0 < j) ⟨K.k (.int (i % j)) h⟩) := hide rfl
theorem o_shr : @opm opShr (.int i) (.int j) h K = (@cndm (0 ≤ j) ⟨K.k (.int (i / 2 ^ j.toNat)) h⟩) := hide rfl
theorem o_shl : @opm opShl (.int i) (.int j) h K = (@cndm (shOk i j) ⟨K.k (.int (i * 2 ^ j.toNat)) h⟩) := hide rfl
theorem o_pow : @opm opPow (.int i) (.int j) h K = (@cndm (shOk i j) ⟨K.k (.int (i ^ j.toNat)) h⟩) := hide rfl
theorem o_band : @opm opBand (.int i) (.int j) h K = (K.k (.int (Builtin.bitAnd i j)) h) := hide rfl
theorem o_bor : @opm opBor (.int i) (.int j) h K = (K.k (.int (Builtin.bitOr i j)) h) := hide rfl
theorem o_bxor : @opm opBxor (.int i) (.int j) h K = (K.k (.int (Builtin.bitXor i j)) h) := hide rfl
theorem o_lt : @opm opLt (.int i) (.int j) h K = (K.k (.bl (decide (i < j))) h) := hide rfl
theorem o_le : @opm opLe (.int i) (.int j) h K = (K.k (.bl (decide (i ≤ j))) h) := hide rfl
theorem o_gt : @opm opGt (.int i) (.int j) h K = (K.k (.bl (decide (j < i))) h) := hide rfl
theorem o_ge : @opm opGe (.int i) (.int j) h K = (K.k (.bl (decide (j ≤ i))) h) := hide rfl
theorem o_eqI : @opm opEq (.int i) (.int j) h K = (K.k (.bl (decide (i = j))) h) := hide rfl
theorem o_neI : @opm opNe (.int i) (.int j) h K = (K.k (.bl (!decide (i = j))) h) := hide rfl
theorem o_eqB {b c : Bool} : @opm opEq (.bl b) (.bl c) h K = (K.k (.bl (decide (b = c))) h) := hide rfl
theorem o_neB {b c : Bool} : @opm opNe (.bl b) (.bl c) h K = (K.k (.bl (!decide (b = c))) h) := hide rfl
theorem o_eqS {b c : Str} : @opm opEq (.str b) (.str c) h K = (K.k (.bl (decide (b = c))) h) := hide rfl
theorem o_neS {b c : Str} : @opm opNe (.str b) (.str c) h K = (K.k (.bl (!decide (b = c))) h) := hide rfl
theorem o_is : @opm opIs k .non h K = (K.k (.bl (isN k)) h) := hide rfl
theorem o_isnot : @opm opIsNot k .non h K = (K.k (.bl (!isN k)) h) := hide rfl
theorem o_isB {b c : Bool} : @opm opIs (.bl b) (.bl c) h K = (K.k (.bl (decide (b = c))) h) := hide rfl
theorem o_isnotB {b c : Bool} : @opm opIsNot (.bl b) (.bl c) h K = (K.k (.bl (!decide (b = c))) h) := hide rfl
theorem o_neg : @unm opNeg (.int i) h K = K.k (.int (-i)) h := hide rfl
theorem o_ixL : @opm opIx (.lst xs) (.int i) h K = @optm _ (atI xs i) ⟨fun d => K.k d h⟩ := by unfold opm opIx seqI itemsL; dsimp only; generalize atI xs i = z; cases z <;> rfl
theorem o_ixR : @opm opIx (.rol xs) (.int i) h K = @optm _ (atI xs i) ⟨fun d => K.k d h⟩ := by unfold opm opIx seqI itemsL; dsimp only; generalize atI xs i = z; cases z <;> rfl
theorem o_ixT : @opm opIx (.tup xs) (.int i) h K = @optm _ (atI xs i) ⟨fun d => K.k d h⟩ := by unfold opm opIx seqI; dsimp only; generalize atI xs i = z; cases z <;> rfl
theorem o_ixO {r q : Nat} : @opm opIx (.ref r q) (.int i) h K = @optm _ (itemsL h (.ref r q)) ⟨fun l => @optm _ (atI l i) ⟨fun d => K.k d h⟩⟩ := by
  unfold opm opIx seqI; dsimp only; generalize itemsL h (.ref r q) = z
  cases z with
  | none => rfl
  | some l => show (match atI l i with | some d => K.k d h | none => False) = @optm _ (atI l i) ⟨fun d => K.k d h⟩; generalize atI l i = z; cases z <;> rfl
/-- == of data -/
def isSc : D → Bool
  | .int _ => true
  | .str _ => true
  | .bl _ => true
  | _ => false
theorem o_eqD {d' : D} (hk : isSc k = false) (h1 : rs h 60 k = some d) (h2 : rs h 60 n = some d') (q : K.k (.bl (deq d d')) h) : @opm opEq k n h K := by
  unfold opm
  cases k <;> first
    | exact ⟨_, _, h1, h2, q⟩
    | (cases hk; done)
theorem o_neD {d' : D} (hk : isSc k = false) (h1 : rs h 60 k = some d) (h2 : rs h 60 n = some d') (q : K.k (.bl (!deq d d')) h) : @opm opNe k n h K := by
  unfold opm
  cases k <;> first
    | exact ⟨_, _, h1, h2, q⟩
    | (cases hk; done)
/-! types -/
section
variable {h : MH} {b : Bool} {i : Int} {x : Str} {l : List D}
theorem n_non : isN .non = true := rfl
theorem n_bl : isN (.bl b) = false := rfl
theorem n_int : isN (.int i) = false := rfl
theorem n_str : isN (.str x) = false := rfl
theorem n_tup : isN (.tup l) = false := rfl
theorem n_lst : isN (.lst l) = false := rfl
theorem n_rol : isN (.rol l) = false := rfl
theorem n_ref {r q : Nat} : isN (.ref r q) = false := rfl
theorem ty_non : tyOf h .non = some .non := rfl
theorem ty_bl : tyOf h (.bl b) = some .bool := rfl
theorem ty_int : tyOf h (.int i) = some .int := rfl
theorem ty_str : tyOf h (.str x) = some .str := rfl
theorem ty_tup : tyOf h (.tup l) = some .tuple := rfl
theorem ty_lst : tyOf h (.lst l) = some .list := rfl
theorem ty_rol : tyOf h (.rol l) = some .list := rfl
theorem mulOk_r {j : Int} (h1 : -18446744073709551616 < j) (h2 : j < 18446744073709551616) : mulOk i j = True := by
  rw [eq_iff_iff]; exact ⟨fun _ => trivial, fun _ => .inl (.inr ⟨h1, h2⟩)⟩
theorem mulOk_l {j : Int} (h1 : -18446744073709551616 < j) (h2 : j < 18446744073709551616) : mulOk j i = True := by
  rw [eq_iff_iff]; exact ⟨fun _ => trivial, fun _ => .inl (.inl ⟨h1, h2⟩)⟩
theorem mulOk_of {j : Int} (h1 : -18446744073709551616 < i) (h2 : i < 18446744073709551616) : mulOk i j := .inl (.inl ⟨h1, h2⟩)
end
/-! comprehensions that change nothing -/
theorem lcm_map {chk : MH → Prop} {i : Nat} {e : ME} {s : MSt} {h : MH} {K : KD} {f : D → D} (hc : chk h) : ∀ {ds acc : List D}, acc.length + ds.length ≤ 1000000 → (∀ d ∈ ds, ∀ Q : MK, Q (f d) h → e (s.set i (some d)) h NX Q) → K.k (acc ++ ds.map f) h → @lcm chk (.nm i) mYes e s ds acc h K
  | [], acc, _, _, q => ⟨hc, by simpa using q⟩
  | d :: ds, acc, hl, hb, q => by
    refine ⟨hc, ?_⟩
    show e (s.set i (some d)) h NX fun y h2 => acc.length < 1000000 ∧ lcGo chk (.nm i) mYes e s ds (acc ++ [y]) h2 K.k
    refine hb d List.mem_cons_self _ ⟨by simp at hl; omega, ?_⟩
    exact lcm_map hc (by simp at hl ⊢; omega) (fun d' hd => hb d' (List.mem_cons_of_mem _ hd)) (by simpa using q)
theorem lcm_inv {chk : MH → Prop} {i : Nat} {e : ME} {s : MSt} {K : KD} {ds : List D} (P : Nat → List D → MH → Prop) (hc : ∀ n acc h, P n acc h → chk h) (hl : ∀ n acc h, P n acc h → acc.length ≤ n) (hn : ds.length ≤ 1000000)
    (step : ∀ n acc h d, ds[n]? = some d → P n acc h → ∀ Q : MK, (∀ y h', P (n + 1) (acc ++ [y]) h' → Q y h') → e (s.set i (some d)) h NX Q) (fin : ∀ acc h, P ds.length acc h → K.k acc h) {acc0 : List D} {h0 : MH} (p0 : P 0 acc0 h0) : @lcm chk (.nm i) mYes e s ds acc0 h0 K := by
  have key : ∀ (m n : Nat) (acc : List D) (h : MH), n + m = ds.length → P n acc h → lcGo chk (.nm i) mYes e s (ds.drop n) acc h K.k := by
    intro m
    induction m with
    | zero =>
      intro n acc h hm p
      have : ds.drop n = [] := List.drop_eq_nil_of_le (by omega)
      rw [this]
      have e : n = ds.length := by omega
      subst e
      exact ⟨hc _ _ _ p, fin _ _ p⟩
    | succ m ih =>
      intro n acc h hm p
      have hlt : n < ds.length := by omega
      rw [List.drop_eq_getElem_cons hlt]
      refine ⟨hc _ _ _ p, ?_⟩
      show e (s.set i (some ds[n])) h NX fun y h2 => acc.length < 1000000 ∧ lcGo chk (.nm i) mYes e s (ds.drop (n + 1)) (acc ++ [y]) h2 K.k
      exact step n acc h _ (List.getElem?_eq_getElem hlt) p _ fun y h' p' => ⟨by have := hl _ _ _ p; omega, ih (n + 1) _ _ (by omega) p'⟩
  have := key ds.length 0 acc0 h0 (by omega) p0
  exact this
/-- a loop by its invariant, one that never leaves early -/
theorem gom_inv {chk : MH → Prop} {p : Pt} {b : MS} {nx : MSt → MH → Prop} {rt : MK} {bk ct : MSt → MH → Prop} {ex : MSt → MX} {ds : List D} (P : Nat → MSt → MH → Prop) (hc : ∀ n s h, P n s h → chk h)
    (step : ∀ n s h d, ds[n]? = some d → P n s h → ∃ s1, p.bind d s = some s1 ∧ ∀ nx' ct' : MSt → MH → Prop, (∀ s2 h2, P (n + 1) s2 h2 → nx' s2 h2) → (∀ s2 h2, P (n + 1) s2 h2 → ct' s2 h2) → b ⟨nx', rt, nx, ct', ex⟩ s1 h) (fin : ∀ s h, P ds.length s h → nx s h) {s0 : MSt} {h0 : MH} (p0 : P 0 s0 h0) : @gom chk p b ds s0 h0 ⟨⟨nx, rt, bk, ct, ex⟩⟩ := by
  have key : ∀ (m n : Nat) (s : MSt) (h : MH), n + m = ds.length → P n s h → mGo chk p b ⟨nx, rt, bk, ct, ex⟩ (ds.drop n) s h := by
    intro m
    induction m with
    | zero =>
      intro n s h hm q
      have : ds.drop n = [] := List.drop_eq_nil_of_le (by omega)
      rw [this]
      have e : n = ds.length := by omega
      subst e
      exact ⟨hc _ _ _ q, fin _ _ q⟩
    | succ m ih =>
      intro n s h hm q
      have hlt : n < ds.length := by omega
      rw [List.drop_eq_getElem_cons hlt]
      refine ⟨hc _ _ _ q, ?_⟩
      obtain ⟨s1, e1, hb⟩ := step n s h _ (List.getElem?_eq_getElem hlt) q
      rw [e1]
      exact hb _ _ (fun s2 h2 p' => ih (n + 1) _ _ (by omega) p') (fun s2 h2 p' => ih (n + 1) _ _ (by omega) p')
  exact key ds.length 0 s0 h0 (by omega) p0
end
/-! built-in calls -/
theorem has_bool_non : Kd.has .bool .non = false := rfl
theorem has_bool_bool : Kd.has .bool .bool = true := rfl
theorem has_bool_int : Kd.has .bool .int = false := rfl
theorem has_bool_str : Kd.has .bool .str = false := rfl
theorem has_bool_tuple : Kd.has .bool .tuple = false := rfl
theorem has_bool_list : Kd.has .bool .list = false := rfl
theorem has_bool_dict : Kd.has .bool .dict = false := rfl
theorem has_int_non : Kd.has .int .non = false := rfl
theorem has_int_bool : Kd.has .int .bool = true := rfl
theorem has_int_int : Kd.has .int .int = true := rfl
theorem has_int_str : Kd.has .int .str = false := rfl
theorem has_int_tuple : Kd.has .int .tuple = false := rfl
theorem has_int_list : Kd.has .int .list = false := rfl
theorem has_int_dict : Kd.has .int .dict = false := rfl
theorem has_str_non : Kd.has .str .non = false := rfl
theorem has_str_bool : Kd.has .str .bool = false := rfl
theorem has_str_int : Kd.has .str .int = false := rfl
theorem has_str_str : Kd.has .str .str = true := rfl
theorem has_str_tuple : Kd.has .str .tuple = false := rfl
theorem has_str_list : Kd.has .str .list = false := rfl
theorem has_str_dict : Kd.has .str .dict = false := rfl
theorem has_tuple_non : Kd.has .tuple .non = false := rfl
theorem has_tuple_bool : Kd.has .tuple .bool = false := rfl
theorem has_tuple_int : Kd.has .tuple .int = false := rfl
theorem has_tuple_str : Kd.has .tuple .str = false := rfl
theorem has_tuple_tuple : Kd.has .tuple .tuple = true := rfl
theorem has_tuple_list : Kd.has .tuple .list = false := rfl
theorem has_tuple_dict : Kd.has .tuple .dict = false := rfl
theorem has_list_non : Kd.has .list .non = false := rfl
theorem has_list_bool : Kd.has .list .bool = false := rfl
theorem has_list_int : Kd.has .list .int = false := rfl
theorem has_list_str : Kd.has .list .str = false := rfl
theorem has_list_tuple : Kd.has .list .tuple = false := rfl
theorem has_list_list : Kd.has .list .list = true := rfl
theorem has_list_dict : Kd.has .list .dict = false := rfl
theorem has_dict_non : Kd.has .dict .non = false := rfl
theorem has_dict_bool : Kd.has .dict .bool = false := rfl
theorem has_dict_int : Kd.has .dict .int = false := rfl
theorem has_dict_str : Kd.has .dict .str = false := rfl
theorem has_dict_tuple : Kd.has .dict .tuple = false := rfl
theorem has_dict_list : Kd.has .dict .list = false := rfl
theorem has_dict_dict : Kd.has .dict .dict = true := rfl
section
variable {h : MH} {K : K2} {l : List D} {x y v : D} {i j : Int} {z : Str} {b : Bool} {r q : Nat} {X : MX}
theorem c_lenL : @cbm cLen [.lst l] h K = K.k (.int l.length) h := hide rfl
theorem c_lenR : @cbm cLen [.rol l] h K = K.k (.int l.length) h := hide rfl
theorem c_lenT : @cbm cLen [.tup l] h K = K.k (.int l.length) h := hide rfl
theorem c_lenS : @cbm cLen [.str z] h K = @cndm (z.length ≤ 1000000) ⟨K.k (.int z.length) h⟩ := hide rfl
theorem c_len_of (e : itemsL h x = some l) : @cbm cLen [x] h K = K.k (.int l.length) h := by
  unfold cbm
  cases x with
  | lst l' => cases e; rfl
  | rol l' => cases e; rfl
  | ref r i => show (match seqI h (.ref r i) with | some l => K.k (.int l.length) h | none => False) = _; unfold seqI; dsimp only; rw [e]
  | _ => cases e
theorem c_listL : @cbm cList [.lst l] h K = @mklm l h K := hide rfl
theorem c_listR : @cbm cList [.rol l] h K = @mklm l h K := hide rfl
theorem c_listT : @cbm cList [.tup l] h K = @mklm l h K := hide rfl
theorem c_list_of (e : itemsL h x = some l) : @cbm cList [x] h K = @mklm l h K := by
  unfold cbm cList seqI mklm
  cases x with
  | lst l' => cases e; rfl
  | rol l' => cases e; rfl
  | ref r i => dsimp only; rw [e]
  | _ => cases e
theorem c_tupT : @cbm cTuple [.tup l] h K = K.k (.tup l) h := hide rfl
theorem c_int : @cbm cInt [.int i] h K = K.k (.int i) h := hide rfl
theorem c_intB : @cbm cInt [.bl b] h K = K.k (.int (if b = true then 1 else 0)) h := hide rfl
theorem c_strI : @cbm cStr [.int i] h K = @cndm (-(2 ^ 200) < i ∧ i < 2 ^ 200) ⟨K.k (.str (toString i)) h⟩ := hide rfl
theorem c_strS : @cbm cStr [.str z] h K = K.k (.str z) h := hide rfl
theorem c_abs : @cbm cAbs [.int i] h K = K.k (.int (if i < 0 then -i else i)) h := hide rfl
theorem c_min : @cbm cMin [.int i, .int j] h K = K.k (.int (if j < i then j else i)) h := hide rfl
theorem c_max : @cbm cMax [.int i, .int j] h K = K.k (.int (if j > i then j else i)) h := hide rfl
theorem c_divmod : @cbm cDivmod [.int i, .int j] h K = @cndm (0 < j ∧ j < 1073741824) ⟨K.k (.tup [.int (i / j), .int (i % j)]) h⟩ := hide rfl
theorem c_sum : @cbm cSum [.lst l] h K = @optm _ (intsD l) ⟨fun ns => K.k (.int ns.sum) h⟩ := by unfold cbm cSum itemsL; show (match intsD l with | some l => K.k (.int l.sum) h | none => False) = _; generalize intsD l = o; cases o <;> rfl
theorem c_all : @cbm cAll [.lst l] h K = @optm _ (boolsD l) ⟨fun ns => K.k (.bl (ns.all id)) h⟩ := by unfold cbm cAll itemsL; show (match boolsD l with | some l => K.k (.bl (l.all id)) h | none => False) = _; generalize boolsD l = o; cases o <;> rfl
theorem c_any : @cbm cAny [.lst l] h K = @optm _ (boolsD l) ⟨fun ns => K.k (.bl (ns.any id)) h⟩ := by unfold cbm cAny itemsL; show (match boolsD l with | some l => K.k (.bl (l.any id)) h | none => False) = _; generalize boolsD l = o; cases o <;> rfl
theorem boolsD_map {α : Type} {f : α → Bool} : ∀ l : List α, boolsD (l.map fun a => D.bl (f a)) = some (l.map f)
  | [] => rfl
  | a :: l => by simp [boolsD, boolsD_map l]
/-! attributes by name -/
theorem lk_same {f : String} {v : D} {l : List (String × D)} : List.lookup f ((f, v) :: l) = some v := by simp [List.lookup]
theorem lk_ne {f g : String} {v : D} {l : List (String × D)} (n : (f == g) = false) : List.lookup f ((g, v) :: l) = List.lookup f l := by simp only [List.lookup, n]
theorem pd_nil {f : String} {v : D} : putD f v [] = [(f, v)] := rfl
theorem pd_same {f : String} {v u : D} {l : List (String × D)} : putD f v ((f, u) :: l) = (f, v) :: l := by unfold putD; rw [if_pos rfl]
theorem pd_ne {f g : String} {v u : D} {l : List (String × D)} (n : (g == f) = false) : putD f v ((g, u) :: l) = (g, u) :: putD f v l := by
  conv => lhs; unfold putD
  rw [if_neg (by simpa using n)]
/-! objects -/
theorem lstAt_of (e : h.at r q = some (.lst l)) : lstAt h (.ref r q) = some (r, q, l) := by simp only [lstAt, e]
theorem liveL_of (e : h.at r q = some (.lst l)) : liveL h (.ref r q) = some (l, fun h2 => h2.at r q = some (.lst l)) := by simp only [liveL, e]
theorem lm_popAt (e : h.at r q = some (.lst l)) : @lmm lPop (.ref r q) [.int i] h K = @cndm (-1000000 ≤ i ∧ i ≤ 1000000) ⟨@optm _ (seqIndex? i l.length) ⟨fun j => @optm _ l[j]? ⟨fun y => K.k y (h.upd r q (.lst (l.eraseIdx j)))⟩⟩⟩ := by
  unfold lmm lPop; rw [lstAt_of e]; dsimp only; unfold cndm; congr; generalize seqIndex? i l.length = o; cases o with
  | none => rfl
  | some j => dsimp only; show (match l[j]? with | some y => K.k y (h.upd r q (.lst (l.eraseIdx j))) | none => False) = @optm _ l[j]? ⟨fun y => K.k y (h.upd r q (.lst (l.eraseIdx j)))⟩; generalize l[j]? = o; cases o <;> rfl
theorem sf_of {KK : KH} {c c' f : String} {fs : List (String × D)} (e : h.at r q = some (.ins c' fs)) : @sfm c (.ref r q) f v h KK = @cndm (c' = c) ⟨@cndm (fs.length < 900) ⟨KK.k (h.upd r q (.ins c (putD f v fs)))⟩⟩ := by
  unfold sfm sfD; dsimp only; rw [e]; rfl
theorem sl_L {lo hi : Option Int} : @slm (.lst l) lo hi h K = @mklm (cutD l lo hi) h K := hide rfl
theorem sl_R {lo hi : Option Int} : @slm (.rol l) lo hi h K = @mklm (cutD l lo hi) h K := hide rfl
theorem sl_T {lo hi : Option Int} : @slm (.tup l) lo hi h K = K.k (.tup (cutD l lo hi)) h := hide rfl
/-! what is walked -/
class KI where
  k : List D → (MH → Prop) → MH → Prop
def im (x : D) (h : MH) [K : KI] : Prop := match liveL h x with | some (l, c) => K.k l c h | none => False
variable {s : MSt} {a b' : ME} {R : List D → (MH → Prop) → MH → Prop}
theorem i_miL : miL a s h X R = a s h X fun x h1 => @im x h1 ⟨R⟩ := by
  unfold miL; congr; funext d h1
  cases d <;> first | rfl | (unfold im liveL; dsimp only; split <;> rfl)
theorem im_L {K : KI} : @im (.lst l) h K = K.k l (fun _ => True) h := hide rfl
theorem im_R {K : KI} : @im (.rol l) h K = K.k l (fun _ => True) h := hide rfl
theorem im_of {K : KI} (e : h.at r q = some (.lst l)) : @im (.ref r q) h K = K.k l (fun h2 => h2.at r q = some (.lst l)) h := by unfold im; rw [liveL_of e]
def itm (x : D) (h : MH) [K : KI] : Prop := match x with | .tup l => K.k l (fun _ => True) h | _ => False
theorem i_miT : miT a s h X R = a s h X fun x h1 => @itm x h1 ⟨R⟩ := hide rfl
theorem itm_T {K : KI} : @itm (.tup l) h K = K.k l (fun _ => True) h := hide rfl
def irm (x y : D) (h : MH) [K : KI] : Prop := match x, y with | .int i, .int j => (-1000000000 ≤ i ∧ i ≤ 1000000000 ∧ -1000000000 ≤ j ∧ j ≤ 1000000000) ∧ K.k (intsUp i (j - i).toNat) (fun _ => True) h | _, _ => False
theorem i_miR2 : miR2 a b' s h X R = a s h X fun x h1 => b' s h1 X fun y h2 => @irm x y h2 ⟨R⟩ := hide rfl
theorem irm_I {K : KI} : @irm (.int i) (.int j) h K = @cndm (-1000000000 ≤ i ∧ i ≤ 1000000000 ∧ -1000000000 ≤ j ∧ j ≤ 1000000000) ⟨K.k (intsUp i (j - i).toNat) (fun _ => True) h⟩ := hide rfl
def ir1 (x : D) (h : MH) [K : KI] : Prop := match x with | .int j => (-1000000000 ≤ j ∧ j ≤ 1000000000) ∧ K.k (intsUp 0 j.toNat) (fun _ => True) h | _ => False
theorem i_miR1 : miR1 a s h X R = a s h X fun x h1 => @ir1 x h1 ⟨R⟩ := hide rfl
theorem ir1_I {K : KI} : @ir1 (.int j) h K = @cndm (-1000000000 ≤ j ∧ j ≤ 1000000000) ⟨K.k (intsUp 0 j.toNat) (fun _ => True) h⟩ := hide rfl
def iem (x : D) (h : MH) [K : KI] : Prop := match liveL h x with | some (l, c) => K.k (enumD l) c h | none => False
theorem i_miE : miE a s h X R = a s h X fun x h1 => @iem x h1 ⟨R⟩ := hide rfl
theorem iem_L {K : KI} : @iem (.lst l) h K = K.k (enumD l) (fun _ => True) h := hide rfl
theorem iem_R {K : KI} : @iem (.rol l) h K = K.k (enumD l) (fun _ => True) h := hide rfl
theorem iem_of {K : KI} (e : h.at r q = some (.lst l)) : @iem (.ref r q) h K = K.k (enumD l) (fun h2 => h2.at r q = some (.lst l)) h := by unfold iem; rw [liveL_of e]
/-! the heap -/
theorem at_put_same {k : List O} : (h.put r k).at r q = k[q]? := by unfold MH.at; rw [MH.put_same]
theorem upd_put {k : List O} {o : O} : (h.put r k).upd r q o = h.put r (k.set q o) := by unfold MH.upd; rw [MH.put_same, MH.put_put]
theorem new_put {k : List O} {o : O} : (h.put r k).new r o = h.put r (k ++ [o]) := by unfold MH.new; rw [MH.put_same, MH.put_put]
theorem new_def {o : O} : h.new r o = h.put r (h r ++ [o]) := rfl
end
end M
set_option Elab.async false
set_option linter.all false
set_option maxRecDepth 100000
set_option checkBinderAnnotations false
namespace M
open PySem PySem.Spec PyProof.Rows L2 Z
/-! ### == of trees, told -/
section
variable {a b : List D} {x y : D} {i j : Int} {p q : Bool} {s t : Str}
theorem deq_LL : deq (.lst a) (.lst b) = deqs a b := by unfold deq deqs py PyData.eqv; rfl
theorem deq_LR : deq (.lst a) (.rol b) = deqs a b := by unfold deq deqs py PyData.eqv; rfl
theorem deq_RL : deq (.rol a) (.lst b) = deqs a b := by unfold deq deqs py PyData.eqv; rfl
theorem deq_TT : deq (.tup a) (.tup b) = deqs a b := by unfold deq deqs py PyData.eqv; rfl
theorem deq_II : deq (.int i) (.int j) = decide (i = j) := by unfold deq py PyData.eqv; rw [Bool.beq_eq_decide_eq]
theorem deq_BB : deq (.bl p) (.bl q) = decide (p = q) := by unfold deq py PyData.eqv; rw [Bool.beq_eq_decide_eq]
theorem deq_SS : deq (.str s) (.str t) = decide (s = t) := by unfold deq py PyData.eqv; rw [Bool.beq_eq_decide_eq]
theorem deq_NN : deq .non .non = true := by unfold deq py PyData.eqv; rfl
theorem deqs_nil : deqs [] [] = true := by unfold deqs pys PyData.eqvAll; rfl
theorem deqs_cons : deqs (x :: a) (y :: b) = (deq x y && deqs a b) := by
  show PyData.eqvAll (py x :: pys a) (py y :: pys b) = _
  rw [PyData.eqvAll]; rfl
theorem deqs_nc : deqs [] (y :: b) = false := by unfold deqs pys PyData.eqvAll; rfl
theorem deqs_cn : deqs (x :: a) [] = false := by unfold deqs pys PyData.eqvAll; rfl
theorem deqs_self : ∀ {l : List D}, (∀ d ∈ l, deq d d = true) → deqs l l = true
  | [], _ => deqs_nil
  | d :: l, h => by rw [deqs_cons, h d List.mem_cons_self, deqs_self fun d' hd => h d' (List.mem_cons_of_mem _ hd)]; rfl
theorem deq_self : ∀ {n : Nat} {d : D}, dat n d = true → deq d d = true := by
  intro n
  induction n with
  | zero => intro d h; cases d <;> first | (unfold dat at h; cases h; done) | (simp [deq_NN, deq_II, deq_BB, deq_SS]; done)
  | succ n ih =>
    intro d h
    cases d with
    | non => exact deq_NN
    | bl b => simp [deq_BB]
    | int i => simp [deq_II]
    | str x => simp [deq_SS]
    | tup l => unfold dat at h; rw [deq_TT]; exact deqs_self fun d hd => ih (List.all_eq_true.mp h d hd)
    | lst l => unfold dat at h; rw [deq_LL]; exact deqs_self fun d hd => ih (List.all_eq_true.mp h d hd)
    | rol l => unfold dat at h; show PyData.eqv (.list (pys l)) (.list (pys l)) = true; rw [PyData.eqv]; exact deqs_self fun d hd => ih (List.all_eq_true.mp h d hd)
    | _ => unfold dat at h; cases h
end
section
variable {h : MH} {K : K2} {k n d d' : D}
theorem o_eqT (hk : isSc k = false) (h1 : rs h 60 k = some d) (h2 : rs h 60 n = some d') : @opm opEq k n h K = K.k (.bl (deq d d')) h := by
  refine propext ⟨fun q => ?_, fun q => o_eqD hk h1 h2 q⟩
  unfold opm at q
  cases k <;> first
    | (obtain ⟨a, b, e1, e2, q⟩ := q; rw [h1] at e1; rw [h2] at e2; cases e1; cases e2; exact q)
    | (cases hk; done)
theorem o_neT (hk : isSc k = false) (h1 : rs h 60 k = some d) (h2 : rs h 60 n = some d') : @opm opNe k n h K = K.k (.bl (!deq d d')) h := by
  refine propext ⟨fun q => ?_, fun q => o_neD hk h1 h2 q⟩
  unfold opm at q
  cases k <;> first
    | (obtain ⟨a, b, e1, e2, q⟩ := q; rw [h1] at e1; rw [h2] at e2; cases e1; cases e2; exact q)
    | (cases hk; done)
theorem mapM_some {f : D → Option D} {g : D → D} : ∀ {l : List D}, (∀ d ∈ l, f d = some (g d)) → l.mapM f = some (l.map g)
  | [], _ => rfl
  | d :: l, e => by rw [List.mapM_cons, e d List.mem_cons_self, mapM_some fun d' hd => e d' (List.mem_cons_of_mem _ hd)]; rfl
theorem mapM_same {f : D → Option D} {l : List D} (e : ∀ d ∈ l, f d = some d) : l.mapM f = some l := by
  rw [mapM_some (g := id) e, List.map_id]
theorem dat_le : ∀ {n m : Nat} {d : D}, dat n d = true → n ≤ m → dat m d = true := by
  intro n
  induction n with
  | zero => intro m d h _; cases d <;> first | (unfold dat at h; cases h; done) | (cases m <;> first | rfl | (unfold dat at h ⊢; exact h))
  | succ n ih =>
    intro m d h hm
    obtain ⟨m, rfl⟩ : ∃ k, m = k + 1 := ⟨m - 1, by omega⟩
    cases d with
    | tup l => unfold dat at h ⊢; exact List.all_eq_true.mpr fun d hd => ih (List.all_eq_true.mp h d hd) (by omega)
    | lst l => unfold dat at h ⊢; exact List.all_eq_true.mpr fun d hd => ih (List.all_eq_true.mp h d hd) (by omega)
    | rol l => unfold dat at h ⊢; exact List.all_eq_true.mpr fun d hd => ih (List.all_eq_true.mp h d hd) (by omega)
    | non => rfl
    | bl b => rfl
    | int i => rfl
    | str x => unfold dat at h ⊢; exact h
    | _ => unfold dat at h; cases h
theorem rs_lst {m : Nat} {l : List D} (hd : ∀ d ∈ l, dat m d = true) (hm : m ≤ 59) : rs h 60 (.lst l) = some (.lst l) := by
  unfold rs; rw [mapM_same fun d hd' => rs_dat (dat_le (hd d hd') hm)]; rfl
theorem rs_L {l : List D} (q : l.all (dat 20) = true) : rs h 60 (.lst l) = some (.lst l) := rs_lst (fun d hd => List.all_eq_true.mp q d hd) (by omega)
theorem o_eqL {a b : List D} (ha : a.all (dat 20) = true) (hb : b.all (dat 20) = true) : @opm opEq (.lst a) (.lst b) h K = K.k (.bl (deqs a b)) h := by rw [o_eqT rfl (rs_L ha) (rs_L hb), deq_LL]
theorem o_neL {a b : List D} (ha : a.all (dat 20) = true) (hb : b.all (dat 20) = true) : @opm opNe (.lst a) (.lst b) h K = K.k (.bl (!deqs a b)) h := by rw [o_neT rfl (rs_L ha) (rs_L hb), deq_LL]
theorem rs_T {l : List D} (q : l.all (dat 20) = true) : rs h 60 (.tup l) = some (.tup l) := by
  unfold rs; rw [mapM_same fun d hd' => rs_dat (dat_le (List.all_eq_true.mp q d hd') (by decide))]; rfl
theorem o_eqTT {a b : List D} (ha : a.all (dat 20) = true) (hb : b.all (dat 20) = true) : @opm opEq (.tup a) (.tup b) h K = K.k (.bl (deqs a b)) h := by rw [o_eqT rfl (rs_T ha) (rs_T hb), deq_TT]
theorem o_neTT {a b : List D} (ha : a.all (dat 20) = true) (hb : b.all (dat 20) = true) : @opm opNe (.tup a) (.tup b) h K = K.k (.bl (!deqs a b)) h := by rw [o_neT rfl (rs_T ha) (rs_T hb), deq_TT]
theorem intsUp_len {lo : Int} {n : Nat} : (intsUp lo n).length = n := by simp [intsUp]
theorem intsUp_at {lo : Int} {n i : Nat} {d : D} (e : (intsUp lo n)[i]? = some d) : i < n ∧ d = .int (lo + i) := by
  have hi : i < n := by have := (List.getElem?_eq_some_iff.mp e).1; rwa [intsUp_len] at this
  refine ⟨hi, ?_⟩
  unfold intsUp at e
  rw [List.getElem?_map, List.getElem?_range hi] at e
  exact (Option.some.inj e).symm
theorem enumD_len {l : List D} : (enumD l).length = l.length := by simp [enumD]
theorem enumD_at {l : List D} {i : Nat} {d : D} (e : (enumD l)[i]? = some d) : ∃ x, l[i]? = some x ∧ d = .tup [.int i, x] := by
  unfold enumD at e
  rw [List.getElem?_mapIdx] at e
  cases hx : l[i]? with
  | none => rw [hx] at e; cases e
  | some x => rw [hx] at e; exact ⟨x, rfl, (Option.some.inj e).symm⟩
theorem atI_nat' {α : Type} {xs : List α} {p : Nat} : L2.atI xs (p : Int) = xs[p]? := by
  unfold L2.atI L2.ixN
  rw [if_pos (by omega)]
  by_cases h : (p : Int) < xs.length
  · rw [if_pos h]; simp
  · rw [if_neg h, List.getElem?_eq_none (by omega)]; rfl
theorem ixN_nat {n p : Nat} (h : p < n) : L2.ixN n (p : Int) = some p := by
  unfold L2.ixN; rw [if_pos (by omega), if_pos (by omega)]; simp
theorem atI_0 {a : D} {l : List D} : atI (a :: l) 0 = some a := atI_nat' (p := 0)
theorem atI_1 {a b : D} {l : List D} : atI (a :: b :: l) 1 = some b := atI_nat' (p := 1)
theorem atI_2 {a b c : D} {l : List D} : atI (a :: b :: c :: l) 2 = some c := atI_nat' (p := 2)
theorem atI_3 {a b c d : D} {l : List D} : atI (a :: b :: c :: d :: l) 3 = some d := atI_nat' (p := 3)
end
end M

set_option Elab.async false
set_option linter.all false
set_option maxRecDepth 100000
set_option checkBinderAnnotations false
namespace M
open PySem PySem.Spec PyProof.Rows L2 Z
/-! ### objects told by what stands at their place -/
def fldO (o : Option O) (f : String) : Option D := match o with | some (.ins _ fs) => fs.lookup f | _ => none
def clsO (o : Option O) : Option String := match o with | some (.ins c _) => some c | _ => none
def lstO (o : Option O) : Option (List D) := match o with | some (.lst l) => some l | _ => none
def tyO (o : Option O) : Option Ty := match o with | some (.lst _) => some .list | some (.dct _) => some .dict | some (.dtt _) => some .dict | _ => none
def isLO (o : Option O) : Prop := match o with | some (.lst _) => True | _ => False
section
variable {h : MH} {K : K2} {KK : KH} {r q j : Nat} {i : Int} {f c c' : String} {fs : List (String × D)} {l xs : List D} {y v : D} {R k : List O} {o u : O}
theorem fldD_ref : fldD h (.ref r q) f = fldO (h r)[q]? f := hide rfl
theorem fldO_ins : fldO (some (.ins c fs)) f = fs.lookup f := hide rfl
theorem clsD_ref : clsD h (.ref r q) = clsO (h r)[q]? := hide rfl
theorem clsO_ins : clsO (some (.ins c fs)) = some c := hide rfl
theorem lstO_lst : lstO (some (.lst l)) = some l := hide rfl
theorem itemsL_ref : itemsL h (.ref r q) = lstO (h r)[q]? := hide rfl
theorem seqI_ref : seqI h (.ref r q) = lstO (h r)[q]? := hide rfl
theorem isL_lst : isL h (.lst l) = True := hide rfl
theorem isL_rol : isL h (.rol l) = True := hide rfl
theorem isL_ref : isL h (.ref r q) = isLO (h r)[q]? := hide rfl
theorem isLO_lst : isLO (some (.lst l)) = True := hide rfl
theorem tyOf_ref : tyOf h (.ref r q) = tyO (h r)[q]? := hide rfl
theorem tyO_lst : tyO (some (.lst l)) = some .list := hide rfl
theorem c_lenO : @cbm cLen [.ref r q] h K = @optm _ (lstO (h r)[q]?) ⟨fun l => K.k (.int l.length) h⟩ := by
  show (match lstO (h r)[q]? with | some l => K.k (.int l.length) h | none => False) = _; generalize lstO (h r)[q]? = z; cases z <;> rfl
theorem c_listO : @cbm cList [.ref r q] h K = @optm _ (lstO (h r)[q]?) ⟨fun l => @mklm l h K⟩ := by
  show (match lstO (h r)[q]? with | some l => mkL l h K.k | none => False) = _; generalize lstO (h r)[q]? = z; cases z <;> rfl
theorem c_tupO : @cbm cTuple [.ref r q] h K = @optm _ (lstO (h r)[q]?) ⟨fun l => K.k (.tup l) h⟩ := by
  show (match lstO (h r)[q]? with | some l => K.k (.tup l) h | none => False) = _; generalize lstO (h r)[q]? = z; cases z <;> rfl
theorem c_tupL : @cbm cTuple [.lst l] h K = K.k (.tup l) h := hide rfl
theorem c_tupR : @cbm cTuple [.rol l] h K = K.k (.tup l) h := hide rfl
theorem o_ixO2 : @opm opIx (.ref r q) (.int i) h K = @optm _ (lstO (h r)[q]?) ⟨fun l => @optm _ (atI l i) ⟨fun d => K.k d h⟩⟩ := by rw [o_ixO]; rfl
theorem getO : @getm (.ref r q) (.int i) h K = @optm _ (lstO (h r)[q]?) ⟨fun l => @optm _ (atI l i) ⟨fun d => K.k d h⟩⟩ := by
  unfold getm getL MH.at; dsimp only
  generalize (h r)[q]? = z
  cases z with
  | none => rfl
  | some z =>
    cases z <;> first | rfl | skip
    rename_i l
    show (match atI l i with | some d => K.k d h | none => False) = @optm _ (atI l i) ⟨fun d => K.k d h⟩
    generalize atI l i = z; cases z <;> rfl
theorem setO : @setm (.ref r q) (.int i) v h KK = @optm _ (lstO (h r)[q]?) ⟨fun l => @optm _ (ixN l.length i) ⟨fun j => KK.k (h.put r ((h r).set q (.lst (l.set j v))))⟩⟩ := by
  unfold setm setD MH.at; dsimp only
  generalize hz : (h r)[q]? = z
  cases z with
  | none => rfl
  | some z =>
    cases z <;> first | rfl | skip
    rename_i l
    show (match ixN l.length i with | some j => KK.k (h.upd r q (.lst (l.set j v))) | none => False) = @optm _ (ixN l.length i) ⟨fun j => KK.k (h.put r ((h r).set q (.lst (l.set j v))))⟩
    generalize ixN l.length i = z; cases z <;> rfl
def insO (o : Option O) : Option (String × List (String × D)) := match o with | some (.ins c fs) => some (c, fs) | _ => none
theorem insO_ins : insO (some (.ins c fs)) = some (c, fs) := hide rfl
theorem sfO : @sfm c (.ref r q) f v h KK = @optm _ (insO (h r)[q]?) ⟨fun p => @cndm (p.1 = c) ⟨@cndm (p.2.length < 900) ⟨KK.k (h.put r ((h r).set q (.ins c (putD f v p.2))))⟩⟩⟩ := by
  unfold sfm sfD MH.at; dsimp only
  generalize (h r)[q]? = z
  cases z with
  | none => rfl
  | some z => cases z <;> rfl
theorem appO : @lmm lAppend (.ref r q) [y] h K = @optm _ (lstO (h r)[q]?) ⟨fun l => @cndm (l.length < 1000000) ⟨K.k .non (h.put r ((h r).set q (.lst (l ++ [y]))))⟩⟩ := by
  unfold lmm lAppend lstAt MH.at; dsimp only
  generalize (h r)[q]? = z
  cases z with
  | none => rfl
  | some z => cases z <;> rfl
theorem clearO : @lmm lClear (.ref r q) [] h K = @optm _ (lstO (h r)[q]?) ⟨fun l => K.k .non (h.put r ((h r).set q (.lst [])))⟩ := by
  unfold lmm lClear lstAt MH.at; dsimp only
  generalize (h r)[q]? = z
  cases z with
  | none => rfl
  | some z => cases z <;> rfl
theorem revO : @lmm lReverse (.ref r q) [] h K = @optm _ (lstO (h r)[q]?) ⟨fun l => K.k .non (h.put r ((h r).set q (.lst l.reverse)))⟩ := by
  unfold lmm lReverse lstAt MH.at; dsimp only
  generalize (h r)[q]? = z
  cases z with
  | none => rfl
  | some z => cases z <;> rfl
theorem popO : @lmm lPop (.ref r q) [] h K = @optm _ (lstO (h r)[q]?) ⟨fun l => @optm _ l[l.length - 1]? ⟨fun y => K.k y (h.put r ((h r).set q (.lst l.dropLast)))⟩⟩ := by
  unfold lmm lPop lstAt MH.at; dsimp only
  generalize (h r)[q]? = z
  cases z with
  | none => rfl
  | some z =>
    cases z <;> first | rfl | skip
    rename_i l
    show (match l[l.length - 1]? with | some y => K.k y (h.upd r q (.lst l.dropLast)) | none => False) = @optm _ l[l.length - 1]? ⟨fun y => K.k y (h.put r ((h r).set q (.lst l.dropLast)))⟩
    generalize l[l.length - 1]? = z; cases z <;> rfl
theorem popAtO : @lmm lPop (.ref r q) [.int i] h K = @optm _ (lstO (h r)[q]?) ⟨fun l => @cndm (-1000000 ≤ i ∧ i ≤ 1000000) ⟨@optm _ (seqIndex? i l.length) ⟨fun j => @optm _ l[j]? ⟨fun y => K.k y (h.put r ((h r).set q (.lst (l.eraseIdx j))))⟩⟩⟩⟩ := by
  by_cases hz : ∃ l, (h r)[q]? = some (.lst l)
  · obtain ⟨l, hz⟩ := hz
    rw [lm_popAt (show h.at r q = _ from hz), hz]; rfl
  · unfold lmm lPop lstAt MH.at; dsimp only
    generalize (h r)[q]? = z at hz
    cases z with
    | none => rfl
    | some z => cases z <;> first | rfl | exact absurd ⟨_, rfl⟩ hz
def imO (o : Option O) (r q : Nat) (h : MH) [K : KI] : Prop := match o with | some (.lst l) => K.k l (fun h2 => (h2 r)[q]? = some (.lst l)) h | _ => False
theorem im_ref {K : KI} : @im (.ref r q) h K = @imO (h r)[q]? r q h K := by
  unfold im liveL imO MH.at; dsimp only
  generalize (h r)[q]? = z
  cases z with
  | none => rfl
  | some z => cases z <;> rfl
theorem imO_lst {K : KI} : @imO (some (.lst l)) r q h K = K.k l (fun h2 => (h2 r)[q]? = some (.lst l)) h := hide rfl
theorem iem_ref {K : KI} : @iem (.ref r q) h K = @imO (h r)[q]? r q h ⟨fun l => K.k (enumD l)⟩ := by
  unfold iem liveL imO MH.at; dsimp only
  generalize (h r)[q]? = z
  cases z with
  | none => rfl
  | some z => cases z <;> rfl
theorem sl_O {lo hi : Option Int} : @slm (.ref r q) lo hi h K = @optm _ (lstO (h r)[q]?) ⟨fun l => @mklm (cutD l lo hi) h K⟩ := by
  show (match itemsL h (.ref r q) with | some l => mkL (cutD l lo hi) h K.k | none => False) = _
  rw [itemsL_ref]; generalize lstO (h r)[q]? = z; cases z <;> rfl
/-! lists' methods on what does not change -/
theorem idxL : @lmm lIndex (.lst l) [y] h K = @cndm (flatD y = true ∧ l.all flatD = true) ⟨@optm _ (l.findIdx? (fun e => eqF e y)) ⟨fun j => K.k (.int j) h⟩⟩ := by
  unfold lmm lIndex itemsL cndm; dsimp only; congr 1
  generalize l.findIdx? (fun e => eqF e y) = z; cases z <;> rfl
theorem idxO : @lmm lIndex (.ref r q) [y] h K = @optm _ (lstO (h r)[q]?) ⟨fun l => @cndm (flatD y = true ∧ l.all flatD = true) ⟨@optm _ (l.findIdx? (fun e => eqF e y)) ⟨fun j => K.k (.int j) h⟩⟩⟩ := by
  unfold lmm lIndex; rw [itemsL_ref]; generalize lstO (h r)[q]? = z
  cases z with
  | none => rfl
  | some l =>
    show (_ ∧ match l.findIdx? (fun e => eqF e y) with | some j => K.k (.int j) h | none => False) = @cndm _ ⟨_⟩
    unfold cndm; congr 1
    generalize l.findIdx? (fun e => eqF e y) = z; cases z <;> rfl
theorem cntO : @lmm lCount (.ref r q) [.int i] h K = @optm _ (lstO (h r)[q]?) ⟨fun l => @optm _ (intsD l) ⟨fun ns => K.k (.int (ns.count i)) h⟩⟩ := by
  unfold lmm lCount; rw [itemsL_ref]; generalize lstO (h r)[q]? = z
  cases z with
  | none => rfl
  | some l =>
    show (match intsD l, [D.int i] with | some l, [.int k] => K.k (.int (l.count k)) h | _, _ => False) = @optm _ (intsD l) ⟨fun ns => K.k (.int (ns.count i)) h⟩
    generalize intsD l = z; cases z <;> rfl
theorem in_L : @opm opIn y (.lst l) h K = @cndm (flatD y = true ∧ l.all flatD = true) ⟨K.k (.bl (l.any fun e => eqF e y)) h⟩ := hide rfl
theorem in_R : @opm opIn y (.rol l) h K = @cndm (flatD y = true ∧ l.all flatD = true) ⟨K.k (.bl (l.any fun e => eqF e y)) h⟩ := hide rfl
theorem in_T : @opm opIn y (.tup l) h K = @cndm (flatD y = true ∧ l.all flatD = true) ⟨K.k (.bl (l.any fun e => eqF e y)) h⟩ := hide rfl
theorem in_O : @opm opIn y (.ref r q) h K = @optm _ (lstO (h r)[q]?) ⟨fun l => @cndm (flatD y = true ∧ l.all flatD = true) ⟨K.k (.bl (l.any fun e => eqF e y)) h⟩⟩ := by
  show (match seqI h (.ref r q) with | some l => (flatD y = true ∧ l.all flatD = true) ∧ K.k (.bl (id (l.any fun e => eqF e y))) h | none => False) = _
  rw [seqI_ref]; generalize lstO (h r)[q]? = z; cases z <;> rfl
theorem nin_L : @opm opNotIn y (.lst l) h K = @cndm (flatD y = true ∧ l.all flatD = true) ⟨K.k (.bl (!l.any fun e => eqF e y)) h⟩ := hide rfl
theorem nin_T : @opm opNotIn y (.tup l) h K = @cndm (flatD y = true ∧ l.all flatD = true) ⟨K.k (.bl (!l.any fun e => eqF e y)) h⟩ := hide rfl
theorem nin_O : @opm opNotIn y (.ref r q) h K = @optm _ (lstO (h r)[q]?) ⟨fun l => @cndm (flatD y = true ∧ l.all flatD = true) ⟨K.k (.bl (!l.any fun e => eqF e y)) h⟩⟩ := by
  show (match seqI h (.ref r q) with | some l => (flatD y = true ∧ l.all flatD = true) ∧ K.k (.bl (!(l.any fun e => eqF e y))) h | none => False) = _
  rw [seqI_ref]; generalize lstO (h r)[q]? = z; cases z <;> rfl
theorem flat_non : flatD .non = true := hide rfl
theorem flat_bl {b : Bool} : flatD (.bl b) = true := hide rfl
theorem flat_int : flatD (.int i) = true := hide rfl
theorem flat_str {x : Str} : flatD (.str x) = true := hide rfl
theorem eqF_II {i j : Int} : eqF (.int i) (.int j) = decide (i = j) := by show (i == j) = _; rw [Bool.eq_iff_iff]; simp
theorem eqF_SS {i j : Str} : eqF (.str i) (.str j) = decide (i = j) := by show (i == j) = _; rw [Bool.eq_iff_iff]; simp
theorem eqF_BB {i j : Bool} : eqF (.bl i) (.bl j) = decide (i = j) := by show (i == j) = _; rw [Bool.eq_iff_iff]; simp
theorem eqF_NN : eqF .non .non = true := hide rfl
theorem eqF_NI : eqF .non (.int i) = false := hide rfl
theorem eqF_IN : eqF (.int i) .non = false := hide rfl
/-! the heap by cases -/
theorem put_ap : (h.put r R) q = if q = r then R else h q := hide rfl
theorem upd_put' : h.upd r q o = h.put r ((h r).set q o) := hide rfl
theorem new_put' : h.new r o = h.put r (h r ++ [o]) := hide rfl
theorem put_put' : (h.put r R).put r k = h.put r k := MH.put_put
theorem set_at {α : Type} {l : List α} {i j : Nat} {a : α} : (l.set i a)[j]? = if i = j then l[j]?.map (fun _ => a) else l[j]? := by
  by_cases e : i = j
  · subst e; rw [if_pos rfl, List.getElem?_set_self']; rfl
  · rw [if_neg e, List.getElem?_set_ne e]
theorem snoc_last {α : Type} {l : List α} {a : α} : (l ++ [a])[l.length]? = some a := by simp
theorem mite_dt {p : Prop} [Decidable p] {A B : K0} (h : p) (q : A.p) : @mite (decide p) A B := by rw [decide_eq_true h]; exact q
theorem mite_df {p : Prop} [Decidable p] {A B : K0} (h : ¬ p) (q : B.p) : @mite (decide p) A B := by rw [decide_eq_false h]; exact q
theorem mite_nt {p : Prop} [Decidable p] {A B : K0} (h : ¬ p) (q : A.p) : @mite (!decide p) A B := by rw [decide_eq_false h]; exact q
theorem mite_nf {p : Prop} [Decidable p] {A B : K0} (h : p) (q : B.p) : @mite (!decide p) A B := by rw [decide_eq_true h]; exact q
/-! facts of a heap that stand in the context -/
class At (l : List O) (i : Nat) (o : outParam O) : Prop where
  e : l[i]? = some o
class Ne2 (i j : Nat) : Prop where
  e : i ≠ j
class Rg (R : List O) (S : outParam (List O)) : Prop where
  e : R = S
theorem at_at [F : At R q o] : R[q]? = some o := F.e
theorem ne_at [F : Ne2 q j] : (q = j) = False := eq_false F.e
theorem ne_at' [F : Ne2 q j] : (j = q) = False := eq_false (Ne.symm F.e)
theorem atI_nn {α : Type} {l : List α} {i : Int} (h : 0 ≤ i) : L2.atI l i = l[i.toNat]? := by
  have : i = (i.toNat : Int) := by omega
  rw [this, atI_nat']; rfl
end
end M

set_option Elab.async false
set_option linter.all false
set_option maxRecDepth 100000
set_option checkBinderAnnotations false
namespace M
open PySem PySem.Spec PyProof.Rows L2 Z
/-! loops over what stands for a plain list -/
section
variable {α : Type} {chk : MH → Prop} {p : Pt} {i : Nat} {b : MS} {t : MT} {e : ME} {s : MSt} {h : MH} {K : KD} {nx : MSt → MH → Prop} {rt : MK} {bk ct : MSt → MH → Prop} {ex : MSt → MX}
theorem gomT {l : List α} {ι : α → D} (P : Nat → MSt → MH → Prop) (hc : ∀ n s h, P n s h → chk h)
    (step : ∀ n s h a, l[n]? = some a → P n s h → ∃ s1, p.bind (ι a) s = some s1 ∧ ∀ nx' ct' : MSt → MH → Prop, (∀ s2 h2, P (n + 1) s2 h2 → nx' s2 h2) → (∀ s2 h2, P (n + 1) s2 h2 → ct' s2 h2) → b ⟨nx', rt, nx, ct', ex⟩ s1 h) (fin : ∀ s h, P l.length s h → nx s h) {s0 : MSt} {h0 : MH} (p0 : P 0 s0 h0) : @gom chk p b (l.map ι) s0 h0 ⟨⟨nx, rt, bk, ct, ex⟩⟩ := by
  refine gom_inv P hc (fun n s h d hd q => ?_) (fun s h q => fin s h (by simpa using q)) p0
  rw [List.getElem?_map] at hd
  cases ha : l[n]? with
  | none => rw [ha] at hd; cases hd
  | some a => rw [ha] at hd; cases hd; exact step n s h a ha q
theorem gomU {lo : Int} {m : Nat} (P : Nat → MSt → MH → Prop) (hc : ∀ n s h, P n s h → chk h)
    (step : ∀ n s h, n < m → P n s h → ∃ s1, p.bind (.int (lo + n)) s = some s1 ∧ ∀ nx' ct' : MSt → MH → Prop, (∀ s2 h2, P (n + 1) s2 h2 → nx' s2 h2) → (∀ s2 h2, P (n + 1) s2 h2 → ct' s2 h2) → b ⟨nx', rt, nx, ct', ex⟩ s1 h) (fin : ∀ s h, P m s h → nx s h) {s0 : MSt} {h0 : MH} (p0 : P 0 s0 h0) : @gom chk p b (intsUp lo m) s0 h0 ⟨⟨nx, rt, bk, ct, ex⟩⟩ := by
  refine gom_inv P hc (fun n s h d hd q => ?_) (fun s h q => fin s h (by rwa [intsUp_len] at q)) p0
  obtain ⟨hn, rfl⟩ := intsUp_at hd
  exact step n s h hn q
end
/-! cuts -/
section
variable {l : List D} {i j : Nat} {k m : Int}
theorem six_nat {n d : Nat} : HT.sIx n d (some (i : Int)) = min i n := by
  unfold HT.sIx; dsimp only; rw [if_neg (by omega)]; omega
theorem six_none {n d : Nat} : HT.sIx n d none = d := rfl
theorem cut_take : cutD l none (some (i : Int)) = l.take i := by
  unfold cutD; rw [six_nat, six_none]; simp
theorem cut_drop : cutD l (some (i : Int)) none = l.drop i := by
  unfold cutD; rw [six_nat, six_none]
  by_cases h : i ≤ l.length
  · rw [Nat.min_eq_left h, List.take_of_length_le (by simp)]
  · rw [Nat.min_eq_right (by omega), List.drop_of_length_le (Nat.le_refl _), List.drop_of_length_le (by omega)]; simp
theorem cut_td : cutD l (some (i : Int)) (some (j : Int)) = (l.take j).drop i := by
  unfold cutD; rw [six_nat, six_nat, List.drop_take]
  by_cases h : i ≤ l.length
  · rw [Nat.min_eq_left h]
    by_cases h2 : j ≤ l.length
    · rw [Nat.min_eq_left h2]
    · rw [Nat.min_eq_right (by omega), List.take_of_length_le (by simp), List.take_of_length_le (by simp; omega)]
  · have e1 : min i l.length = l.length := by omega
    rw [e1, List.drop_of_length_le (Nat.le_refl _), List.drop_of_length_le (by omega)]; simp
theorem cut_drop1 : cutD l (some ((i : Int) + 1)) none = l.drop (i + 1) := by rw [show (i : Int) + 1 = ((i + 1 : Nat) : Int) by omega, cut_drop]
theorem cut_takeN {n : Nat} : cutD l none (some (no_index (OfNat.ofNat n) : Int)) = l.take n := cut_take (i := n)
theorem cut_dropN {n : Nat} : cutD l (some (no_index (OfNat.ofNat n) : Int)) none = l.drop n := cut_drop (i := n)
theorem cut_tdN {n k : Nat} : cutD l (some (no_index (OfNat.ofNat n) : Int)) (some (no_index (OfNat.ofNat k) : Int)) = (l.take k).drop n := cut_td (i := n) (j := k)
theorem cut_all : cutD l none none = l := by
  unfold cutD; rw [six_none, six_none]; simp
end
/-! == with nothing; == of itself -/
section
variable {h : MH} {K : K2} {l : List D}
theorem deqs_emp : deqs l [] = decide (l.length = 0) := by
  cases l with
  | nil => rw [deqs_nil]; rfl
  | cons a l => rw [deqs_cn]; simp
theorem eq_nilL (ha : l.all (dat 20) = true) : @opm opEq (.lst l) (.lst []) h K = K.k (.bl (decide (l.length = 0))) h := by rw [o_eqL ha rfl, deqs_emp]
theorem ne_nilL (ha : l.all (dat 20) = true) : @opm opNe (.lst l) (.lst []) h K = K.k (.bl (!decide (l.length = 0))) h := by rw [o_neL ha rfl, deqs_emp]
theorem eq_selfL (ha : l.all (dat 20) = true) : @opm opEq (.lst l) (.lst l) h K = K.k (.bl true) h := by rw [o_eqL ha ha, deqs_self fun d hd => deq_self (List.all_eq_true.mp ha d hd)]
theorem ne_selfL (ha : l.all (dat 20) = true) : @opm opNe (.lst l) (.lst l) h K = K.k (.bl false) h := by rw [o_neL ha ha, deqs_self fun d hd => deq_self (List.all_eq_true.mp ha d hd)]; rfl
theorem eq_selfT (ha : l.all (dat 20) = true) : @opm opEq (.tup l) (.tup l) h K = K.k (.bl true) h := by rw [o_eqTT ha ha, deqs_self fun d hd => deq_self (List.all_eq_true.mp ha d hd)]
theorem ne_selfT (ha : l.all (dat 20) = true) : @opm opNe (.tup l) (.tup l) h K = K.k (.bl false) h := by rw [o_neTT ha ha, deqs_self fun d hd => deq_self (List.all_eq_true.mp ha d hd)]; rfl
end
end M

set_option Elab.async false
set_option linter.all false
set_option maxRecDepth 100000
namespace Z
open PySem PySem.Spec PyProof.Rows L2
/-! ### B.m(e, ..), B a class, m a def of it -/
structure UnB (K : PySem.W.Frag) (B : Addr) (m : Str) (u : Value) : Prop where
  rd : PySem.W.readsIn K B (.type "type") = true
  ga : PySem.W.specialIn K (.ref B) "__getattribute__" = some (some (.builtin "type.__getattribute__"))
  at_ : PySem.W.findCls K (.ref B) (.type "type") m = some (.val u)
section
variable {X : Cx} {k j : Nat} {B C a : Addr} {sp : Sp} {W : WX} {m : Str} {p1 pos apos : Pos} {e o : Expr} {es : List Expr} {t : TA} {pl : Sem Bool}
theorem pe_unb (he : PE X o (tC (.ref B))) {f : Addr} (U : UnB X.K B m (.ref f)) {fd : FuncData} {ps : List Str} (F : FnOk X.prog X.w X.K X.mg X.base (L2.CX X.prog X.w) k f fd ps sp) (hb : Binds X.K fd ps []) (kp : PySem.W.keepIn X.K (.ref f) = true) (hr : Room j X.A) (hk : k ≤ j) (tk : Takes X W) (ha : PA X (e :: es) t)
    (hst : starEach (e :: es) X.env = (false, eval e X.env) :: starEach es X.env := by rfl) (hpl : (backTo pos (starEach es X.env)).any (·.1) = false := by rfl)
    (ht : eval (.Call (.Attribute o m apos) (e :: es) [] pos) X.env = (do
      let ov ← eval o X.env
      standAt apos.atName
      let (f, first) ← holding [ov] (getMethod ov m pl)
      callWith pos f first (backTo pos (starEach (e :: es) X.env)) (backToKw pos (keywordEach [] X.env))) := by rfl) :
    PE X (.Call (.Attribute o m apos) (e :: es) [] pos) (fun σ H Q => t σ H fun vs H1 => sp vs H1 Q (WE W σ)) := by
  refine ⟨fun pins s σ H Q I h => ?_⟩
  refine PySem.W.methodCall_KW (pl := pl) (thn (he.run pins s σ H (fun v H1 => v = .ref B ∧ H1 = H) I ⟨rfl, rfl⟩) fun u s1 ⟨x, H1, I1, rx, ex, eH⟩ => ?_) ht
  subst ex eH
  obtain rfl : u = Value.ref B := rx
  refine PySem.W.method_cls I1.kIn U.ga (PySem.W.cls_value I1.kIn U.rd U.at_ (handed_of (v := .ref f) rfl) ?_)
  refine PySem.W.callWith_K (h₀ := X.base) I1.ok.mod.kin kp (thn (ha.run pos pins _ σ H1 _ (I1.tok _) h) fun us s2 ⟨vs, H2, I2, r, q⟩ => ⟨I2.kIn, ?_⟩) hst hpl
  exact run_fnS (E := WE W) F (hr.mono hk) hb (passAt tk σ) I2 r q
/-- B.__init__(self, ..), B an exception's class that has none of its own -/
theorem pe_heinit (he : PE X o (tC (.ref B))) (U : UnB X.K B "__init__" (.builtin "ValueError.__init__")) (ha : PA X (e :: es) t)
    (hst : starEach (e :: es) X.env = (false, eval e X.env) :: starEach es X.env := by rfl) (hpl : (backTo pos (starEach es X.env)).any (·.1) = false := by rfl)
    (ht : eval (.Call (.Attribute o "__init__" apos) (e :: es) [] pos) X.env = (do
      let ov ← eval o X.env
      standAt apos.atName
      let (f, first) ← holding [ov] (getMethod ov "__init__" pl)
      callWith pos f first (backTo pos (starEach (e :: es) X.env)) (backToKw pos (keywordEach [] X.env))) := by rfl) :
    PE X (.Call (.Attribute o "__init__" apos) (e :: es) [] pos) (tVeI X.K t) := by
  refine ⟨fun pins s σ H Q I h => ?_⟩
  refine PySem.W.methodCall_KW (pl := pl) (thn (he.run pins s σ H (fun v H1 => v = .ref B ∧ H1 = H) I ⟨rfl, rfl⟩) fun u s1 ⟨x, H1, I1, rx, ex, eH⟩ => ?_) ht
  subst ex eH
  obtain rfl : u = Value.ref B := rx
  refine PySem.W.method_cls I1.kIn U.ga (PySem.W.cls_value I1.kIn U.rd U.at_ (by decide +kernel) ?_)
  show wpAny _ _ (callWith pos (Value.builtin "ValueError.__init__") [] (backTo pos (starEach (e :: es) X.env)) []) _ _ _
  refine PyProof.Rows.callWith_method1 (thn (ha.run pos pins _ σ H1 _ (I1.tok _) h) fun us s2 ⟨vs, H2, I2, r1, a, C, ws, ev, hl, T, ea, q⟩ => ?_) hst hpl
  subst ev
  cases r1 with
  | @cons _ u0 _ ur ra rw' =>
    obtain rfl : u0 = Value.ref a := ra
    have hlen : ur.length ≤ sizeLine := by
      rw [← Paired.length rw', sizeLine_eq]
      omega
    exact oinit_ok T I2 ea hlen fun s' J => ⟨.non, H2, J, rfl, q⟩
end
/-! ### an exception with attributes of its own -/
/-- the attributes as the dict holds them: the last one first -/
def xfs (ns : List String) (vs : List V) : List (Str × V) := ((ns.map Str.ofString).zip vs).reverse
/-- what __init__ promises -/
def spX (C : Addr) (ns : List String) : Sp := fun vs H Q _ => ∃ (a : Addr) (us : List V), vs = .ref a :: us ∧ us.length = ns.length ∧ H a = some (exo a C none) ∧ ∀ d, H d = none → d ≠ a → Q .non (upd (upd H d (exd d (xfs ns us))) a (exo a C (some d)))
structure Xn (P : Program) (w : World) (K : PySem.W.Frag) (mg : Str → Option Value) (base : Heap) (k : Nat) (x : Str) (C : Addr) (ns : List String) : Prop where
  ex : ∃ (f : Addr) (fd : FuncData) (ps : List Str), FnOk P w K mg base (L2.CX P w) k f fd ps (spX C ns) ∧ PySem.W.findIn K (.ref C) "__init__" = some (some (.ref f)) ∧ PySem.W.typeIn K (.ref f) = some (.type "function") ∧ Binds K fd ps [] ∧ OexC K C ∧ mg x = some (.ref C)
theorem Mf.xn {P : Program} {w : World} {K : PySem.W.Frag} {mg : Str → Option Value} {base : Heap} {x q : Str} {st : Stmt} {ps N : List Str} {k : Nat} {C : Addr} {ns : List String} (F : Mf K C "__init__" q st ps) (T : OexC K C) (hm : mg x = some (.ref C)) (S : FnScope N ps (defScope st)) (hn : ns.length + 1 = ps.length)
    (hbody : ∀ (cdv : Value) (f : Addr) (A : Around) (outer : List Env) (s : Shared) (H : Hp) (vs : List V) (Q : VK) (E : XK), Room k (A.deeper (envOfC q (defScope st) s.heap.objs.size f cdv)) → spX C ns vs H Q E →
      ∃ t, PSs (cxOf (L2.CX P w) P w K mg base N q (defScope st) f cdv A outer s H E) (defBody st) t ∧ t { nx := fun _ H' => Q .non H', rt := Q } (start N vs) H) : Xn P w K mg base (k + 1) x C ns := by
  obtain ⟨f, fd, F1, me, hb⟩ := F.ex
  refine ⟨f, fd, ps, F1.okX S (fun vs H Q E h => ?_) (fun cdv A outer s H vs Q E hr h => hbody cdv f A outer s H vs Q E hr h), me.at_, ?_, hb, T, hm⟩
  · obtain ⟨a, us, rfl, hl, _⟩ := h; simp [hl, hn]
  · have := me.fn; unfold PySem.W.isFn at this; exact beq_iff_eq.mp this
section
variable {X : Cx} {k j : Nat} {C a d : Addr} {ns : List String} {W : WX} {x : Str} {p pos : Pos} {e o : Expr} {es : List Expr} {ta : TA} {K : PySem.W.Frag} {f : Str} {i : Nat} {y : V} {fs : List (Str × V)} {σ : L2.St} {H : Hp} {D : Ends} {Q : XK}
theorem r_ost0 (T : OexC K C) (no : PySem.W.findIn K (.ref C) f = some none) (h0 : σ[0]? = some (some (.ref a))) (hi : σ[i]? = some (some y)) (ha : H a = some (exo a C none)) (k : ∀ d, H d = none → d ≠ a → D.nx σ (upd (upd H d (exd d [(f, y)])) a (exo a C (some d)))) : tOst K f (tVar 0) (tVar i) D σ H :=
  ⟨y, hi, .ref a, h0, a, C, rfl, T, no, .inl ⟨ha, k⟩⟩
/-- C(e, ..) -/
def tMkX (C : Addr) (ns : List String) (ta : TA) : L2.St → Hp → XK → Prop := fun σ H Q => ta σ H fun vs H1 => vs.length = ns.length ∧ ∀ d, H1 d = none → Q (.ref C) (some d) (upd H1 d (.xd (xfs ns vs)))
theorem pa_mono {es : List Expr} (ha : PA X es ta) : PA X es (fun σ H Q' => ∃ Qm, ta σ H Qm ∧ ∀ vs H1, Qm vs H1 → Q' vs H1) :=
  ⟨fun pos pins s σ H Q I ⟨Qm, h, k⟩ => wpAny_mono (ha.run pos pins s σ H Qm I h) (fun us s' ⟨vs, H', I', r, q⟩ => ⟨vs, H', I', r, k _ _ q⟩) fun _ _ z => z⟩
theorem pmk_x {X : Cx} (M : Xn X.prog X.w X.K X.mg X.base k x C ns) (hr : Room j X.A) (hk : k + 1 ≤ j) (hn : ns.length ≤ 900) (ha : PA X (e :: es) ta) (hg : Gl X x := by rfl) (hdb : (x == ("__debug__" : Str)) = false := by decide)
    (he : starEach (e :: es) X.env = (false, eval e X.env) :: starEach es X.env := by rfl) (hpl : (backTo pos (starEach es X.env)).any (·.1) = false := by rfl) : PMk X (.Call (.Name x p) (e :: es) [] pos) (tMkX C ns ta) := by
  obtain ⟨f, fd, ps, F, iC, tI, hb, T, hm⟩ := M.ex
  intro pins s σ H Q I h
  refine pmk_oex (CX := L2.CX X.prog X.w) (ds := []) (dvs := []) T iC tI F (hr.mono hk) hb .nil (fun _ _ _ _ _ _ _ h => ?_) hg hm (pa_mono ha) hdb he hpl pins s σ H Q I ⟨_, h, fun vs H1 ⟨hl, q⟩ => ?_⟩
  · obtain ⟨_, _, _, _, _, _, _, _, _, _, _, _, z⟩ := h
    exact z.elim
  · refine ⟨by omega, fun a na => ?_⟩
    refine ⟨a, vs, by rw [List.append_nil], hl, upd_same, fun d nd ne => ⟨rfl, ?_⟩⟩
    rw [upd_ne ne] at nd
    refine ⟨d, xfs ns vs, upd_same, by rw [upd_ne ne, upd_same], nd, ?_⟩
    have e : upd (del (upd (upd (upd H1 a (exo a C none)) d (exd d (xfs ns vs))) a (exo a C (some d))) a) d (.xd (xfs ns vs)) = upd H1 d (.xd (xfs ns vs)) := by
      funext b
      by_cases hb : b = d
      · subst hb; rw [upd_same, upd_same]
      · rw [upd_ne hb, upd_ne hb]
        by_cases hba : b = a
        · subst hba; rw [del_same, na]
        · rw [del_ne hba, upd_ne hba, upd_ne hb, upd_ne hba]
    rw [e]
    exact q d nd
/-! ### isinstance(e, C), e the caught one -/
def rIsP2 (K : PySem.W.Frag) (a : Addr) (cls : Value) (d : Option Addr) : List V → Hp → VK → Prop := fun xs H Q => ∃ (D : Addr) (c : V) (cv : Value) (b : Bool), cls = .ref D ∧ (d = none ∨ ∃ dx fs, d = some dx ∧ H dx = some (.xd fs)) ∧ ExcC K D ∧ xs = [.ref a, c] ∧ (∀ u, RelV c u → u = cv) ∧ PySem.W.kitOne K (.ref D) cv = some b ∧ Q (.bl b) H
end
end Z
namespace M
open PySem PySem.Spec PyProof.Rows L2 Z
/-! ### raise C(e, ..) with attributes -/
def mRaiseF (c : String) (ns : List String) (a : MA) : MS := fun N s h => a s h (N.ex s) fun ds h1 => ds.length = ns.length ∧ N.ex s c (ns.zip ds).reverse h1
section
variable {X : Cx} {G : Gb} {W : WX} {w : Wd} {h : MH}
theorem SFs.append : ∀ {vs us : List (Str × V)} {ds es : List (String × D)}, SFs G.toCb w vs ds → SFs G.toCb w us es → SFs G.toCb w (vs ++ us) (ds ++ es)
  | _, _, _, _, .nil, s => s
  | _, _, _, _, .cons r t, s => .cons r (SFs.append t s)
theorem SFs.zip : ∀ {ns : List String} {vs : List V} {ds : List D}, SVs G.toCb w vs ds → SFs G.toCb w ((ns.map Str.ofString).zip vs) (ns.zip ds)
  | [], _, _, _ => by simp; exact .nil
  | n :: ns, _, _, .nil => by simp; exact .nil
  | n :: ns, _, _, .cons r t => .cons r (SFs.zip t)
theorem SFs.reverse : ∀ {vs : List (Str × V)} {ds : List (String × D)}, SFs G.toCb w vs ds → SFs G.toCb w vs.reverse ds.reverse
  | _, _, .nil => .nil
  | _, _, .cons r t => by rw [List.reverse_cons, List.reverse_cons]; exact SFs.append (SFs.reverse t) (.cons r .nil)
theorem s_raiseF {e : Expr} {es : List Expr} {c : String} {C : Addr} {ns : List String} {x : Str} {k j : Nat} {p p2 pos : Pos} {mr : MA} (hxc : G.xc c = some C) (hc : X.calm = true) (tk : Takes X W) (Mq : Xn X.prog X.w X.K X.mg X.base k x C ns) (hr : Room j X.A) (hk : k + 1 ≤ j) (hn : ns.length ≤ 900 ∧ ns ≠ []) (ha : PA X (e :: es) (RA G W mr)) (hg : Gl X x := by rfl) (hdb : (x == ("__debug__" : Str)) = false := by decide)
    (he : starEach (e :: es) X.env = (false, eval e X.env) :: starEach es X.env := by rfl) (hpl : (backTo p2 (starEach es X.env)).any (·.1) = false := by rfl) : PS X (.Raise (some (.Call (.Name x p) (e :: es) [] p2)) none pos) (RS G W (mRaiseF c ns mr)) :=
  psI (ps_raise hc tk (pmk_x Mq hr hk hn.1 ha hg hdb he hpl)) fun N σ H ⟨ρ, s, h, Mn, ss, sh, ld, m⟩ => by
    refine ⟨ρ, s, h, _, _, ss, sh, ld.ex _ _ _ Le.refl ss, fun w1 h1 ds vs e1 sh1 svs q => ?_, m⟩
    obtain ⟨hl, q⟩ := q
    refine ⟨by rw [svs.length, hl], fun d nd => ?_⟩
    obtain ⟨le, sh2, fz⟩ := Wd.lay sh1 (u := .xd (xfs ns vs)) nd
    refine ld.ex _ _ _ (e1.trans le) (ss.le (e1.trans le)) _ _ _ _ _ _ Le.refl sh2 hxc ?_ q
    refine .inr ⟨d, xfs ns vs, rfl, ⟨upd_same, fz⟩, ?_, SFs.reverse (SFs.zip (SVs.le svs le))⟩
    intro z
    have := congrArg List.length z
    simp [hl] at this
    exact hn.2 this
/-- isinstance(e, C) of the caught one -/
def mXi2 (c : String) (e : String) : ME := fun _ h _ Q => Q (.bl (isSub c e)) h
/-! ### B.m(e, ..) -/
def mUnb (n : Nat) (m : MDef) (a : MA) : ME := fun s h X Q => a s h X fun ds h1 => ds.length = n ∧ m ds h1 X Q
theorem m_unb {e o : Expr} {es : List Expr} {B f : Addr} {m : Str} {fd : FuncData} {ps : List Str} {k j n : Nat} {md : MDef} {mr : MA} {pos apos : Pos} {pl : Sem Bool} (he : PE X o (tC (.ref B))) (U : UnB X.K B m (.ref f)) (F : FnOk X.prog X.w X.K X.mg X.base (L2.CX X.prog X.w) k f fd ps (SPm G n md)) (hb : Binds X.K fd ps []) (kp : PySem.W.keepIn X.K (.ref f) = true) (hr : Room j X.A) (hk : k ≤ j) (tk : Takes X W) (ha : PA X (e :: es) (RA G W mr))
    (hst : starEach (e :: es) X.env = (false, eval e X.env) :: starEach es X.env := by rfl) (hpl : (backTo pos (starEach es X.env)).any (·.1) = false := by rfl)
    (ht : eval (.Call (.Attribute o m apos) (e :: es) [] pos) X.env = (do
      let ov ← eval o X.env
      standAt apos.atName
      let (f, first) ← holding [ov] (getMethod ov m pl)
      callWith pos f first (backTo pos (starEach (e :: es) X.env)) (backToKw pos (keywordEach [] X.env))) := by rfl) :
    PE X (.Call (.Attribute o m apos) (e :: es) [] pos) (RE G W (mUnb n md mr)) :=
  peI (pe_unb he U F hb kp hr hk tk ha hst hpl ht) fun σ H Q ⟨ρ, s, h, Y, MQ, ss, sh, lx, lq, m⟩ => ⟨ρ, s, h, Y, _, ss, sh, lx, fun w1 h1 ds vs e1 sh1 svs q => SP_of (σ := σ) q.1 sh1 svs (lx.le e1) (lq.le e1) q.2, m⟩
end
/-- the def B.m as it stands in the class B -/
structure Uf (K : PySem.W.Frag) (B : Addr) (m q : Str) (st : Stmt) (ps : List Str) : Prop where
  ex : ∃ (f : Addr) (fd : FuncData), Fun K m q st f fd ∧ UnB K B m (.ref f) ∧ Binds K fd ps []
structure Un (P : Program) (w : World) (K : PySem.W.Frag) (mg : Str → Option Value) (base : Heap) (k : Nat) (B : Addr) (m : Str) (sp : Sp) : Prop where
  ex : ∃ (f : Addr) (fd : FuncData) (ps : List Str), FnOk P w K mg base (L2.CX P w) k f fd ps sp ∧ UnB K B m (.ref f) ∧ PySem.W.keepIn K (.ref f) = true ∧ Binds K fd ps []
section
variable {P : Program} {w : World} {K : PySem.W.Frag} {mg : Str → Option Value} {base : Heap} {st : Stmt} {ps N : List Str} {k : Nat} {sp : Sp} {B : Addr} {m q : Str}
theorem Uf.un (F : Uf K B m q st ps) (S : FnScope N ps (defScope st)) (len : ∀ vs H Q E, sp vs H Q E → vs.length = ps.length)
    (hbody : ∀ (cdv : Value) (f : Addr) (A : Around) (outer : List Env) (s : Shared) (H : Hp) (vs : List V) (Q : VK) (E : XK), Room k (A.deeper (envOfC q (defScope st) s.heap.objs.size f cdv)) → sp vs H Q E →
      ∃ t, PSs (cxOf (L2.CX P w) P w K mg base N q (defScope st) f cdv A outer s H E) (defBody st) t ∧ t { nx := fun _ H' => Q .non H', rt := Q } (start N vs) H) : Un P w K mg base (k + 1) B m sp := by
  obtain ⟨f, fd, F1, u, hb⟩ := F.ex
  exact ⟨f, fd, ps, F1.okX S len (fun cdv A outer s H vs Q E hr h => hbody cdv f A outer s H vs Q E hr h), u, F1.kp, hb⟩
theorem Uf.mk' {f : Addr} {od an : Option Addr} {sl : Array (Option Value)} {oc kV dc pm cd ct : Value} (r : PySem.W.readsIn K B (.type "type") = true) (g : PySem.W.specialIn K (.ref B) "__getattribute__" = some (some (.builtin "type.__getattribute__"))) (a : PySem.W.findCls K (.ref B) (.type "type") m = some (.val (.ref f)))
    (l : K.lookup f = some ⟨oc, od, .func (PySem.W.fnOf m q (defArgs st) (defBody st) (defScope st) .none kV dc pm an cd ct), sl⟩) (c : PySem.W.codeIn K cd q = true) (k : PySem.W.keepIn K (.ref f) = true)
    (hb : ∀ (kV doc pm : Value) (an : Option Addr) (cdv ct : Value) (us : List Value), us.length = ps.length → bindArgs (PySem.W.fnOf m q (defArgs st) (defBody st) (defScope st) .none kV doc pm an cdv ct) ⟨us, []⟩ = pure (ps.zip us)) : Uf K B m q st ps :=
  have F := fun_mk (st := st) l c k
  ⟨f, _, F, ⟨r, g, a⟩, F.binds hb⟩
end
section
variable {X : Cx} {G : Gb} {W : WX}
theorem m_un' {e o : Expr} {es : List Expr} {B : Addr} {m : Str} {k j n : Nat} {md : MDef} {mr : MA} {pos apos : Pos} {pl : Sem Bool} (he : PE X o (tC (.ref B))) (U : Un X.prog X.w X.K X.mg X.base k B m (SPm G n md)) (hr : Room j X.A) (hk : k ≤ j) (tk : Takes X W) (ha : PA X (e :: es) (RA G W mr))
    (hst : starEach (e :: es) X.env = (false, eval e X.env) :: starEach es X.env := by rfl) (hpl : (backTo pos (starEach es X.env)).any (·.1) = false := by rfl)
    (ht : eval (.Call (.Attribute o m apos) (e :: es) [] pos) X.env = (do
      let ov ← eval o X.env
      standAt apos.atName
      let (f, first) ← holding [ov] (getMethod ov m pl)
      callWith pos f first (backTo pos (starEach (e :: es) X.env)) (backToKw pos (keywordEach [] X.env))) := by rfl) :
    PE X (.Call (.Attribute o m apos) (e :: es) [] pos) (RE G W (mUnb n md mr)) := by
  obtain ⟨f, fd, ps, F, u, kp, hb⟩ := U.ex
  exact m_unb he u F hb kp hr hk tk ha hst hpl ht
end
/-- the facts of an exception's class with attributes -/
structure XfD (K : PySem.W.Frag) (B D : Addr) : Prop where
  o : OexC K D
  x : XfC K D
  c : ExcC K D
  m : PySem.W.exmOne K (.ref D) (.ref B) = some true
section
variable {s : MSt} {h : MH} {X : MX} {Q : MK} {nx : MSt → MH → Prop} {rt : MK} {bk ct : MSt → MH → Prop} {ex : MSt → MX} {r : MA}
theorem e_raiseF {k : String} {ns : List String} : mRaiseF k ns r ⟨nx, rt, bk, ct, ex⟩ s h = r s h (ex s) fun ds h1 => @cndm (ds.length = ns.length) ⟨ex s k (ns.zip ds).reverse h1⟩ := hide rfl
theorem e_xi2 {k e : String} : mXi2 k e s h X Q = Q (.bl (isSub k e)) h := hide rfl
theorem e_unb {n : Nat} {m : MDef} : mUnb n m r s h X Q = r s h X fun ds h1 => @cndm (ds.length = n) ⟨@callm m ds h1 ⟨X⟩ ⟨Q⟩⟩ := hide rfl
end
theorem mulOk_of2 {i j : Int} (h1 : -18446744073709551616 < j) (h2 : j < 18446744073709551616) : mulOk i j := .inl (.inr ⟨h1, h2⟩)
section
variable {h : MH} {K : K2} {l : List D}
theorem eq_selfL' (ha : l.all (dat 20) = true) (q : K.k (.bl true) h) : @opm opEq (.lst l) (.lst l) h K := by rw [eq_selfL ha]; exact q
theorem ne_selfL' (ha : l.all (dat 20) = true) (q : K.k (.bl false) h) : @opm opNe (.lst l) (.lst l) h K := by rw [ne_selfL ha]; exact q
theorem eq_selfT' (ha : l.all (dat 20) = true) (q : K.k (.bl true) h) : @opm opEq (.tup l) (.tup l) h K := by rw [eq_selfT ha]; exact q
theorem ne_selfT' (ha : l.all (dat 20) = true) (q : K.k (.bl false) h) : @opm opNe (.tup l) (.tup l) h K := by rw [ne_selfT ha]; exact q
theorem eq_nilL' (ha : l.all (dat 20) = true) (q : K.k (.bl (decide (l.length = 0))) h) : @opm opEq (.lst l) (.lst []) h K := by rw [eq_nilL ha]; exact q
theorem ne_nilL' (ha : l.all (dat 20) = true) (q : K.k (.bl (!decide (l.length = 0))) h) : @opm opNe (.lst l) (.lst []) h K := by rw [ne_nilL ha]; exact q
end
section
variable {n : Nat} {i : Int} {b : Bool} {x : Str} {l : List D}
theorem dat_non : dat n .non = true := by cases n <;> rfl
theorem dat_bl : dat n (.bl b) = true := by cases n <;> rfl
theorem dat_int : dat n (.int i) = true := by cases n <;> rfl
theorem dat_str : dat n (.str x) = PyData.strOk x := by cases n <;> rfl
theorem dat_tup : dat (n + 1) (.tup l) = l.all (dat n) := rfl
theorem dat_lst : dat (n + 1) (.lst l) = l.all (dat n) := rfl
end
end M

set_option Elab.async false
set_option linter.all false
set_option maxRecDepth 100000
set_option checkBinderAnnotations false
namespace Z
open PySem PySem.Spec PyProof.Rows L2
/-! ### xs.count(y), flat items -/
section
variable {X : Cx}
def rCntF (K : PySem.W.Frag) : V → List V → Hp → VK → Prop := fun x xs H Q => ∃ (a : Addr) (ys : List V) (y : V), x = V.ref a ∧ xs = [y] ∧ SqL K H a ys ∧ flatV y = true ∧ ys.all flatV = true ∧ Q (.int ((ys.countP fun z => eqV z y) : Nat)) H
end
end Z
namespace M
open PySem PySem.Spec PyProof.Rows L2 Z
def lCountF : D → List D → MH → MK → Prop := fun x ds h Q => match itemsL h x, ds with
  | some l, [y] => (flatD y = true ∧ l.all flatD = true) ∧ Q (.int ((l.countP fun e => eqF e y) : Nat)) h
  | _, _ => False
section
variable {X : Cx} {G : Gb} {W : WX} {w : Wd}
end
section
variable {r q : Nat} {h : MH} {K : K2} {l : List D} {y : D}
theorem cntFO : @lmm lCountF (.ref r q) [y] h K = @optm _ (lstO (h r)[q]?) ⟨fun l => @cndm (flatD y = true ∧ l.all flatD = true) ⟨K.k (.int ((l.countP fun e => eqF e y) : Nat)) h⟩⟩ := by
  unfold lmm lCountF; rw [itemsL_ref]; generalize lstO (h r)[q]? = z; cases z <;> rfl
theorem cntFL : @lmm lCountF (.lst l) [y] h K = @cndm (flatD y = true ∧ l.all flatD = true) ⟨K.k (.int ((l.countP fun e => eqF e y) : Nat)) h⟩ := hide rfl
end
/-! ### isinstance(x, C), C an own class, x an instance of some own class -/
structure InsX (K : PySem.W.Frag) (C : Addr) : Prop where
  ha : PySem.W.findIn K (.ref C) "__class__" = some (some (.builtin "object.__class__"))
  hn : PySem.W.specialIn K (.builtin "object.__class__") "__get__" = some (some (.builtin "getset_descriptor.__get__"))
  htk : PySem.W.takesIn K (.builtin "object.__class__") = some true
  hm : PySem.W.mroIn K C (.type "object") = some true
def hasS : List String → String → Bool
  | [], _ => false
  | a :: l, c => (c == a) || hasS l c
theorem hasS_nil {c : String} : hasS [] c = false := rfl
theorem hasS_cons {a c : String} {l : List String} : hasS (a :: l) c = ((c == a) || hasS l c) := rfl
def mIsC (tab : List String) (a : ME) : ME := fun s h X Q => a s h X fun x h1 => match clsD h1 x with | some c => Q (.bl (hasS tab c)) h1 | none => False
section
variable {X : Cx} {G : Gb} {W : WX}
end
section
variable {s : MSt} {h : MH} {X : MX} {Q : MK} {a : ME}
theorem e_isc {tab : List String} : mIsC tab a s h X Q = (a s h X fun x h1 => @optm _ (clsD h1 x) ⟨fun c => Q (.bl (hasS tab c)) h1⟩) := by unfold mIsC; congr; funext d h1; generalize clsD h1 d = z; cases z <;> rfl
end
/-! ### while, by a measure -/
section
variable {t : MT} {b : MS} {nx : MSt → MH → Prop} {rt : MK} {bk ct : MSt → MH → Prop} {ex : MSt → MX}
end
end M

set_option Elab.async false
set_option linter.all false
set_option maxRecDepth 100000
set_option checkBinderAnnotations false
namespace M
open PySem PySem.Spec PyProof.Rows L2 Z
/-! ### {} -/
def mDct : ME := fun _ h _ Q => (∃ r, Q (.ref r (h r).length) (h.new r (.dct []))) ∨ ∃ r, Q (.ref r (h r).length) (h.new r (.dtt []))
section
variable {X : Cx} {G : Gb} {W : WX} {pos : Pos}
theorem pe_or {X : Cx} {e : Expr} {t u : TE} (h1 : PE X e t) (h2 : PE X e u) : PE X e (fun σ H Q => t σ H Q ∨ u σ H Q) := ⟨fun pins s σ H Q I q => q.elim (h1.run pins s σ H Q I) (h2.run pins s σ H Q I)⟩
theorem m_dct : PE X (.Dict [] [] pos) (RE G W mDct) := peI (pe_or pe_dnewK pe_dnewT) fun σ H Q ⟨ρ, s, h, Y, MQ, ss, sh, lx, lq, m⟩ => by
  rcases m with ⟨r, m⟩ | ⟨r, m⟩
  · refine .inl fun p n => ?_
    obtain ⟨le, sh'⟩ := Wd.make (u := .dK []) (o := .dct []) sh r n fun le => .dct upd_same .nil
    exact lq ⟨ext ρ (some r) (h r).length p, L2.upd H p (.dK [])⟩ _ _ _ le sh' (.ref ext_at) m
  · refine .inr fun p n => ?_
    obtain ⟨le, sh'⟩ := Wd.make (u := .dT []) (o := .dtt []) sh r n fun le => .dtt upd_same .nil
    exact lq ⟨ext ρ (some r) (h r).length p, L2.upd H p (.dT [])⟩ _ _ _ le sh' (.ref ext_at) m
end
def mkdm (h : MH) [K : K2] : Prop := (∃ r, K.k (.ref r (h r).length) (h.new r (.dct []))) ∨ ∃ r, K.k (.ref r (h r).length) (h.new r (.dtt []))
section
variable {s : MSt} {h : MH} {X : MX} {Q : MK} {K : K2}
theorem e_dct : mDct s h X Q = @mkdm h ⟨Q⟩ := hide rfl
theorem mk_dct (r : Nat) (q : K.k (.ref r (h r).length) (h.new r (.dct []))) : @mkdm h K := .inl ⟨r, q⟩
end
/-! ### in, index: deep things -/
def opInD : M2 := fun x y h Q => ∃ a l, rs h 60 x = some a ∧ rs h 60 y = some (.lst l) ∧ Q (.bl (l.any fun z => deq z a)) h
def lIndexD : D → List D → MH → MK → Prop := fun x ds h Q => ∃ y a l j z, ds = [y] ∧ rs h 60 y = some a ∧ rs h 60 x = some (.lst l) ∧ l[j]? = some z ∧ deq z a = true ∧ (∀ (m : Nat) z', m < j → l[m]? = some z' → deq z' a = false) ∧ Q (.int (j : Nat)) h
section
variable {X : Cx} {G : Gb} {w : Wd} {h : MH}
end
section
variable {x y : D} {h : MH} {K : K2}
end
end M

set_option Elab.async false
set_option linter.all false
set_option maxRecDepth 100000
set_option checkBinderAnnotations false
namespace M
open PySem PySem.Spec PyProof.Rows L2 Z
/-! ### dicts, keys ints and texts -/
def keyD : D → Option Key
  | .int i => some (.inl i)
  | .str x => some (.inr x)
  | _ => none
def kval : List (Key × D) → Key → Option D
  | [], _ => none
  | (g, d) :: r, k => if g = k then some d else kval r k
def kmap (k : Key) (v : D) : List (Key × D) → List (Key × D)
  | [] => []
  | (g, d) :: r => (if g = k then (g, v) else (g, d)) :: kmap k v r
def kput : List (Key × D) → Key → D → List (Key × D)
  | [], k, v => [(k, v)]
  | (g, d) :: r, k, v => if g = k then (g, v) :: kmap k v r else (g, d) :: kput r k v
def kdrop : List (Key × D) → Key → List (Key × D)
  | [], _ => []
  | (g, d) :: r, k => if g = k then kdrop r k else (g, d) :: kdrop r k
theorem kval_nil {k : Key} : kval [] k = none := rfl
theorem kval_cons {g k : Key} {d : D} {r : List (Key × D)} : kval ((g, d) :: r) k = if g = k then some d else kval r k := rfl
theorem kput_nil {k : Key} {v : D} : kput [] k v = [(k, v)] := rfl
theorem kput_cons {g k : Key} {d v : D} {r : List (Key × D)} : kput ((g, d) :: r) k v = if g = k then (g, v) :: kmap k v r else (g, d) :: kput r k v := rfl
theorem kmap_nil {k : Key} {v : D} : kmap k v [] = [] := rfl
theorem kmap_cons {g k : Key} {d v : D} {r : List (Key × D)} : kmap k v ((g, d) :: r) = (if g = k then (g, v) else (g, d)) :: kmap k v r := rfl
section
variable {G : Cb} {w : Wd}
theorem SKs.val {k : Key} : ∀ {vs : List (Key × V)} {ds : List (Key × D)}, SKs G w vs ds → (kval ds k = none → valV vs k = none) ∧ ∀ d, kval ds k = some d → ∃ v, valV vs k = some v ∧ SV G w v d
  | _, _, .nil => ⟨fun _ => rfl, fun d h => by cases h⟩
  | _, _, .cons (k := g) h t => by
    have ih := SKs.val (k := k) t
    rw [kval_cons]
    by_cases e : g = k
    · rw [if_pos e]
      exact ⟨fun z => (by cases z), fun d z => by cases z; exact ⟨_, valV_pos e, h⟩⟩
    · rw [if_neg e]
      exact ⟨fun z => by rw [valV_neg e]; exact ih.1 z, fun d z => by rw [valV_neg e]; exact ih.2 d z⟩
theorem SKs.length : ∀ {vs : List (Key × V)} {ds : List (Key × D)}, SKs G w vs ds → vs.length = ds.length
  | _, _, .nil => rfl
  | _, _, .cons _ t => by simp [SKs.length t]
theorem SKs.map {k : Key} {v : V} {d : D} (s : SV G w v d) : ∀ {vs : List (Key × V)} {ds : List (Key × D)}, SKs G w vs ds → SKs G w (vs.map fun kv => if kv.1 = k then (kv.1, v) else kv) (kmap k d ds)
  | _, _, .nil => .nil
  | _, _, .cons (k := g) h t => by
    rw [List.map_cons, kmap_cons]
    by_cases e : g = k
    · rw [if_pos e, if_pos e]; exact .cons s (SKs.map s t)
    · rw [if_neg e, if_neg e]; exact .cons h (SKs.map s t)
theorem putV_cons {g k : Key} {x v : V} {r : List (Key × V)} (e : ¬ g = k) : L2.putK ((g, x) :: r) k v = (g, x) :: L2.putK r k v := by
  unfold L2.putK
  rw [List.any_cons, decide_eq_false e, Bool.false_or, List.map_cons, if_neg e]
  split <;> rfl
theorem SKs.put {k : Key} {v : V} {d : D} (s : SV G w v d) : ∀ {vs : List (Key × V)} {ds : List (Key × D)}, SKs G w vs ds → SKs G w (L2.putK vs k v) (kput ds k d)
  | _, _, .nil => .cons s .nil
  | _, _, .cons (k := g) (v := x) h t => by
    rw [kput_cons]
    by_cases e : g = k
    · rw [if_pos e]
      unfold L2.putK
      rw [List.any_cons, decide_eq_true e, Bool.true_or, if_pos rfl, List.map_cons, if_pos e]
      exact .cons s (SKs.map s t)
    · rw [if_neg e, putV_cons e]
      exact .cons h (SKs.put s t)
theorem SKs.drop {k : Key} : ∀ {vs : List (Key × V)} {ds : List (Key × D)}, SKs G w vs ds → SKs G w (L2.dropK vs k) (kdrop ds k)
  | _, _, .nil => .nil
  | _, _, .cons (k := g) (v := x) (d := y) (vs := vs) (ds := ds) h t => by
    have ih := SKs.drop (k := k) t
    unfold kdrop
    by_cases e : g = k
    · rw [if_pos e]
      have : L2.dropK ((g, x) :: vs) k = L2.dropK vs k := by unfold L2.dropK; rw [List.filter_cons, if_neg (by simp [e])]
      rw [this]; exact ih
    · rw [if_neg e]
      have : L2.dropK ((g, x) :: vs) k = (g, x) :: L2.dropK vs k := by unfold L2.dropK; rw [List.filter_cons, if_pos (by simp [e])]
      rw [this]; exact .cons h ih
end
def dctO : Option O → Option (List (Key × D))
  | some (.dct l) => some l
  | _ => none
theorem dctO_dct {l : List (Key × D)} : dctO (some (.dct l)) = some l := rfl
def dctD (h : MH) : D → Option (List (Key × D))
  | .ref r i => dctO (h r)[i]?
  | _ => none
theorem dctD_ref {h : MH} {r i : Nat} : dctD h (.ref r i) = dctO (h r)[i]? := rfl
theorem keyD_int {i : Int} : keyD (.int i) = some (.inl i) := rfl
theorem keyD_str {x : Str} : keyD (.str x) = some (.inr x) := rfl
section
variable {G : Gb} {w : Wd} {h : MH} {v u : V} {d : D} {l : List (Key × D)} {k : Key}
end
theorem Room.u1 {k : Nat} {A : Around} (r : Room k A) : A.units + 1 < cLine := by have := r.un; omega
/-! d[k], k in d, d[k] = v -/
def opDIx : M2 := fun x y h Q => match dctD h x, keyD y with
  | some l, some k => match kval l k with | some d => Q d h | none => False
  | _, _ => False
def opDIn : M2 := fun y x h Q => match dctD h x, keyD y with
  | some l, some k => Q (.bl (kval l k).isSome) h
  | _, _ => False
def opDNin : M2 := fun y x h Q => match dctD h x, keyD y with
  | some l, some k => Q (.bl (!(kval l k).isSome)) h
  | _, _ => False
def mSetDx (o i e : ME) : MS := fun M s h => e s h (M.ex s) fun v h1 => o s h1 (M.ex s) fun x h2 => i s h2 (M.ex s) fun y h3 => match dctD h3 x, keyD y, x with
  | some l, some k, .ref r j => l.length ≤ 1000000 ∧ M.nx s (h3.upd r j (.dct (kput l k v)))
  | _, _, _ => False
/-- {k: v, ..}, the keys texts -/
def mDisp (ks : List String) (a : MA) : ME := fun s h X Q => ∃ r, a s (h.new r (.dct [])) X fun ds h2 => h2.at r (h r).length = some (.dct []) ∧ Q (.ref r (h r).length) (h2.upd r (h r).length (.dct ((ks.map fun x => (Sum.inr (Str.ofString x) : Key)).zip ds)))
section
variable {X : Cx} {G : Gb} {W : WX} {a b : Expr} {ma mb : ME} {pos : Pos}
/-! displays -/
def txK (ks : List String) : List Key := ks.map fun x => (Sum.inr (Str.ofString x) : Key)
structure PD (X : Cx) (G : Gb) (W : WX) (pos : Pos) (keys : List (Option Expr)) (values : List Expr) (ks : List String) (m : MA) : Prop where
  run : ∃ trs, PPs X pos keys values trs ∧ keys.all (·.isSome) = true ∧ keys.length = values.length ∧ keys.length = ks.length ∧ ∀ σ H Q, (∃ ρ s h Y MQ, SS G ⟨ρ, H⟩ σ s ∧ SH G ⟨ρ, H⟩ h ∧ LX G ⟨ρ, H⟩ Y (WE W σ) ∧
    (∀ w' h' ds vs, Le ⟨ρ, H⟩ w' → SH G w' h' → SVs G w' vs ds → ds.length = ks.length → MQ ds h' → Q (((txK ks).zip vs).map fun kv => (kV kv.1, kv.2)) w'.H) ∧ m s h Y MQ) → tPairs trs σ H Q
end
/-! stepping -/
def zipT : List String → List D → List (Key × D)
  | x :: ks, d :: ds => (Sum.inr (Str.ofString x), d) :: zipT ks ds
  | _, _ => []
theorem zipT_cons {x : String} {ks : List String} {d : D} {ds : List D} : zipT (x :: ks) (d :: ds) = (Sum.inr (Str.ofString x), d) :: zipT ks ds := rfl
theorem zipT_nil {ds : List D} : zipT [] ds = [] := rfl
theorem zipT_eq : ∀ {ks : List String} {ds : List D}, (ks.map fun x => (Sum.inr (Str.ofString x) : Key)).zip ds = zipT ks ds
  | [], _ => rfl
  | _ :: _, [] => rfl
  | x :: ks, d :: ds => by rw [List.map_cons, List.zip_cons_cons, zipT_eq]; rfl
def mdisp (ks : List String) (a : MA) (s : MSt) (h : MH) (X : MX) [K : K2] : Prop := ∃ r, a s (h.new r (.dct [])) X fun ds h2 => h2.at r (h r).length = some (.dct []) ∧ K.k (.ref r (h r).length) (h2.upd r (h r).length (.dct (zipT ks ds)))
section
variable {s : MSt} {h : MH} {X : MX} {Q : MK} {K : K2} {a b c : ME} {r q : Nat} {x y v : D} {l : List (Key × D)} {k : Key}
theorem e_disp {ks : List String} {a : MA} : mDisp ks a s h X Q = @mdisp ks a s h X ⟨Q⟩ := by
  unfold mDisp mdisp
  simp only [zipT_eq]
theorem e_dix_ri {i : Int} : @opm opDIx (.ref r q) (.int i) h K = @optm _ (dctO (h r)[q]?) ⟨fun l => @optm _ (kval l (.inl i)) ⟨fun d => K.k d h⟩⟩ := by
  unfold opm opDIx; rw [dctD_ref, keyD_int]; generalize dctO (h r)[q]? = z; cases z with | none => rfl | some l => show (match kval l (.inl i) with | some d => _ | none => _) = _; dsimp only [optm]; generalize kval l (.inl i) = z; cases z <;> rfl
theorem e_dix_rs {i : Str} : @opm opDIx (.ref r q) (.str i) h K = @optm _ (dctO (h r)[q]?) ⟨fun l => @optm _ (kval l (.inr i)) ⟨fun d => K.k d h⟩⟩ := by
  unfold opm opDIx; rw [dctD_ref, keyD_str]; generalize dctO (h r)[q]? = z; cases z with | none => rfl | some l => show (match kval l (.inr i) with | some d => _ | none => _) = _; dsimp only [optm]; generalize kval l (.inr i) = z; cases z <;> rfl
theorem e_din_ri {i : Int} : @opm opDIn (.int i) (.ref r q) h K = @optm _ (dctO (h r)[q]?) ⟨fun l => K.k (.bl (kval l (.inl i)).isSome) h⟩ := by
  unfold opm opDIn; rw [dctD_ref, keyD_int]; generalize dctO (h r)[q]? = z; cases z <;> rfl
theorem e_din_rs {i : Str} : @opm opDIn (.str i) (.ref r q) h K = @optm _ (dctO (h r)[q]?) ⟨fun l => K.k (.bl (kval l (.inr i)).isSome) h⟩ := by
  unfold opm opDIn; rw [dctD_ref, keyD_str]; generalize dctO (h r)[q]? = z; cases z <;> rfl
theorem e_dnin_ri {i : Int} : @opm opDNin (.int i) (.ref r q) h K = @optm _ (dctO (h r)[q]?) ⟨fun l => K.k (.bl (!(kval l (.inl i)).isSome)) h⟩ := by
  unfold opm opDNin; rw [dctD_ref, keyD_int]; generalize dctO (h r)[q]? = z; cases z <;> rfl
theorem e_dnin_rs {i : Str} : @opm opDNin (.str i) (.ref r q) h K = @optm _ (dctO (h r)[q]?) ⟨fun l => K.k (.bl (!(kval l (.inr i)).isSome)) h⟩ := by
  unfold opm opDNin; rw [dctD_ref, keyD_str]; generalize dctO (h r)[q]? = z; cases z <;> rfl
/-- x[y] = v, x a dict -/
def setdm (x y v : D) (h : MH) [K : KH] : Prop := match dctD h x, keyD y, x with
  | some l, some k, .ref r j => l.length ≤ 1000000 ∧ K.k (h.upd r j (.dct (kput l k v)))
  | _, _, _ => False
theorem e_setdx {nx : MSt → MH → Prop} {rt : MK} {bk ct : MSt → MH → Prop} {ex : MSt → MX} : mSetDx a b c ⟨nx, rt, bk, ct, ex⟩ s h = (c s h (ex s) fun v h1 => a s h1 (ex s) fun x h2 => b s h2 (ex s) fun y h3 => @setdm x y v h3 ⟨fun h4 => nx s h4⟩) := hide rfl
theorem setdm_i {K : KH} {i : Int} : @setdm (.ref r q) (.int i) v h K = @optm _ (dctO (h r)[q]?) ⟨fun l => @cndm (l.length ≤ 1000000) ⟨K.k (h.put r ((h r).set q (.dct (kput l (.inl i) v))))⟩⟩ := by
  unfold setdm; rw [dctD_ref, keyD_int]; generalize dctO (h r)[q]? = z; cases z <;> rfl
theorem setdm_s {K : KH} {i : Str} : @setdm (.ref r q) (.str i) v h K = @optm _ (dctO (h r)[q]?) ⟨fun l => @cndm (l.length ≤ 1000000) ⟨K.k (h.put r ((h r).set q (.dct (kput l (.inr i) v))))⟩⟩ := by
  unfold setdm; rw [dctD_ref, keyD_str]; generalize dctO (h r)[q]? = z; cases z <;> rfl
end
end M

set_option Elab.async false
set_option linter.all false
set_option maxRecDepth 100000
set_option checkBinderAnnotations false
namespace Z
open PySem PySem.Spec PyProof.Rows L2
/-! ### zip(tuple, text), enumerate(text) -/
def ItzS (K : PySem.W.Frag) (a : Addr) (xs : List V) (z : Str) : It :=
  ⟨fun i H => SqT K H a xs ∧ i < xs.length ∧ i < z.cps.size,
    fun i H v H' => ∃ T x c, v = .ref T ∧ H T = none ∧ H' = upd H T (.tup [x, .str ⟨#[c]⟩]) ∧ xs[i]? = some x ∧ z.cps[i]? = some c,
    fun i H => SqT K H a xs ∧ (xs.length ≤ i ∨ z.cps.size ≤ i)⟩
theorem turn_zipS {P : Program} {w : World} {K : PySem.W.Frag} {elts : List Expr} {kk : Nat} {tpos : Pos} {a z TI TO i1 i2 : Addr} {xs : List V} {x : Str} {t : Tok} (S : ZipSep2 z TI TO i1 i2 [i1, a] [i2]) (ha : a ≠ i1) :
    Turn P w K (.Tuple elts kk tpos) (ItzS K a xs x) [z, TI, TO, i1, i2] z (fun i h => (i ≤ xs.length ∧ i ≤ x.cps.size) ∧ IsZip h z TI TO .none ∧ IsPair h TI (.ref i1) (.ref i2) ∧ (∃ x y, IsPair h TO x y) ∧ h.IsTupleIter i1 a i ∧ h.IsStrIter i2 (strIterType x) x t i) where
  mem := by simp
  obj := fun i h st c hc => by
    obtain ⟨_, hz, hTI, ⟨x, y, hTO⟩, ⟨o1, e1, _, d1⟩, ⟨o2, e2, _, d2⟩⟩ := st
    have e' : c = z ∨ c = TI ∨ c = TO ∨ c = i1 ∨ c = i2 := by simpa using hc
    rcases e' with q | q | q | q | q
    · rw [q]; exact ⟨_, hz, fun v q => nomatch q⟩
    · rw [q]; exact ⟨_, hTI, fun v q => nomatch q⟩
    · rw [q]; exact ⟨_, hTO, fun v q => nomatch q⟩
    · rw [q]; exact ⟨o1, e1, fun v q => by rw [d1] at q; cases q⟩
    · rw [q]; exact ⟨o2, e2, fun v q => by rw [d2] at q; cases q⟩
  keep := fun i h h' st k => by
    obtain ⟨bd, hz, hTI, ⟨x, y, hTO⟩, h1, h2⟩ := st
    exact ⟨bd, k z (by simp) _ hz, k TI (by simp) _ hTI, ⟨x, y, k TO (by simp) _ hTO⟩, h1.at fun o q => k i1 (by simp) o q, let ⟨o, ho, r⟩ := h2; ⟨o, k i2 (by simp) o ho, r⟩⟩
  item := by
    intro X hP hw hK hc i pins s σ H E I hf st hg
    subst hP hw hK
    obtain ⟨bd, hz, hTI, ⟨x0, y0, hTO⟩, h1, h2⟩ := st
    obtain ⟨hqx, hxl, hlt⟩ := hg
    obtain ⟨v, hx⟩ : ∃ v, xs[i]? = some v := ⟨_, List.getElem?_eq_getElem hxl⟩
    obtain ⟨its, rv, p, _⟩ := I.tuple hqx
    obtain ⟨u, hu, ru⟩ := rv.get hx
    have hzl : z < s.heap.objs.size := Heap.lt_size hz
    have hul : i < its.toArray.size := by
      rw [List.size_toArray]; exact (List.getElem?_eq_some_iff.mp hu).1
    have D1 := Draws.tuple (prog := X.prog) (w := X.w) (A := X.A.in1) (show X.A.in1.handled = none from I.ok.hd hc) i1 a ha its.toArray
    have D2 := Draws.text (prog := X.prog) (w := X.w) (A := X.A.in1) (show X.A.in1.handled = none from I.ok.hd hc) i2 x t
    refine wpAny_pyNext_zipD2_item S D1 D2 hz hTI hTO ⟨h1, p⟩ h2 hul hlt fun x1 x2 h' tk y1 y2 z' TO' st1 st2 hT hsz hk => ?_
    obtain ⟨c, tc, hcx, rfl⟩ := y2
    have e1 : x1 = u := by
      have y1 : its.toArray[i]? = some x1 := y1
      rw [List.getElem?_toArray, hu] at y1; cases y1; rfl
    subst e1
    refine ⟨_, rfl, wpAny_letOwnedTupleGo_zip (s := { s with heap := h', toks := tk }) z' fun h'' z'' sb => ?_⟩
    have hT2 : h''.get? s.heap.objs.size = some { cls := .type "tuple", data := .seq #[x1, .str ⟨#[c]⟩ tc] } := (sb.2 _ (Nat.ne_of_gt hzl)).trans hT
    have new : ObjOk X.prog X.w (upd H s.heap.objs.size (.tup [v, .str ⟨#[c]⟩])) h'' s.heap.objs.size (.tup [v, .str ⟨#[c]⟩]) :=
      ⟨by show 2 ≤ sizeLine; decide, [x1, .str ⟨#[c]⟩ tc], .cons ru (.cons ⟨tc, rfl⟩ .nil), ⟨_, hT2, rfl, _, rfl⟩⟩
    have I1 : Inv X pins σ (upd H s.heap.objs.size (.tup [v, .str ⟨#[c]⟩])) { s with heap := h'', toks := tk } :=
      I.turnedNew (t' := tk) (ch := [z, TI, TO, i1, i2]) (fun c o hb q => (sb.2 c (fun q' => hb (by simp [q']))).trans (hk c o (fun q' => hb (by simp [q'])) (fun q' => hb (by simp [q'])) (fun q' => hb (by simp [q'])) (fun q' => hb (by simp [q'])) q)) hf (Nat.le_refl _) new
    refine ⟨.ref s.heap.objs.size, _, I1, rfl, ⟨_, v, c, rfl, I.hok.fresh (Nat.le_refl _), rfl, hx, hcx⟩, ⟨⟨hxl, hlt⟩, z'', ?_, ⟨x1, .str ⟨#[c]⟩ tc, ?_⟩, ?_, ?_⟩, fun c hcm => ?_⟩
    · exact (sb.2 _ S.TIz).trans (hk _ _ S.TIz S.TITO S.TIi1 S.TIi2 hTI)
    · exact (sb.2 _ S.TOz).trans TO'
    · exact st1.1.at fun o q => (sb.2 _ S.zi1.symm).trans q
    · obtain ⟨o, ho, r⟩ := st2; exact ⟨o, (sb.2 _ S.zi2.symm).trans ho, r⟩
    · have hlt : c < s.heap.objs.size := by
        have e' : c = z ∨ c = TI ∨ c = TO ∨ c = i1 ∨ c = i2 := by simpa using hcm
        rcases e' with q | q | q | q | q
        · rw [q]; exact hzl
        · rw [q]; exact Heap.lt_size hTI
        · rw [q]; exact Heap.lt_size hTO
        · rw [q]; obtain ⟨_, e1, _⟩ := h1; exact Heap.lt_size e1
        · rw [q]; obtain ⟨_, e2, _⟩ := h2; exact Heap.lt_size e2
      rw [upd_ne (Nat.ne_of_lt hlt)]
      exact (hf c hcm).1
  done := by
    intro X hP hw hK hc i pins s σ H E I hf st hg
    subst hP hw hK
    obtain ⟨bd, hz, hTI, ⟨x0, y0, hTO⟩, h1, h2⟩ := st
    obtain ⟨hqx, hend⟩ := hg
    obtain ⟨l1, l2⟩ := bd
    obtain ⟨its, rv, p, _⟩ := I.tuple hqx
    have ll := rv.length
    have e1 : its.toArray.size = xs.length := by rw [List.size_toArray, ← ll]
    have D1 := Draws.tuple (prog := X.prog) (w := X.w) (A := X.A.in1) (show X.A.in1.handled = none from I.ok.hd hc) i1 a ha its.toArray
    have D2 := Draws.text (prog := X.prog) (w := X.w) (A := X.A.in1) (show X.A.in1.handled = none from I.ok.hd hc) i2 x t
    exact wpAny_pyNext_zipD2_end S D1 D2 hz hTI hTO ⟨h1, p⟩ h2 (by rw [e1]; exact l1) l2 (by rw [e1]; omega) fun h' tk hk => ⟨rfl, I.turnedL (t' := tk) (ch := [z, TI, TO, i1, i2]) (fun c o hb q =>
      hk c o (fun q' => hb (by simp [q'])) (fun q' => hb (by simp [q'])) (fun q' => hb (by simp [q'])) (fun q' => hb (by simp [q'])) q) hf⟩
  self := fun A i s Q E st h => wpAny_pyIter_zip st.2.1 h
theorem zip_sep (n a : Nat) (h : a < n) : ZipSep2 (n + 4) (n + 2) (n + 3) n (n + 1) [n, a] [n + 1] := by
  have k : ∀ i j : Nat, i ≠ j → n + i ≠ n + j := fun i j h e => h (Nat.add_left_cancel e)
  have z : ∀ i, n + i ≠ a := fun i e => by have := Nat.le_add_right n i; rw [e] at this; exact absurd h (Nat.not_lt.mpr this)
  exact { TIz := k 2 4 (by decide), TOz := k 3 4 (by decide), TITO := k 2 3 (by decide), TIi1 := k 2 0 (by decide), mem1 := List.mem_cons_self, zf1 := fun e => by
            rcases List.mem_cons.mp e with e | e
            · exact k 4 0 (by decide) e
            · exact z 4 (List.mem_singleton.mp e)
          Tf1 := fun e => by
            rcases List.mem_cons.mp e with e | e
            · exact k 3 0 (by decide) e
            · exact z 3 (List.mem_singleton.mp e)
          TIi2 := k 2 1 (by decide), mem2 := List.mem_cons_self, zf2 := fun e => k 4 1 (by decide) (List.mem_singleton.mp e), Tf2 := fun e => k 3 1 (by decide) (List.mem_singleton.mp e), sep1_2 := fun e => k 0 1 (by decide) (List.mem_singleton.mp e), sep2_1 := fun e => by
            rcases List.mem_cons.mp e with e | e
            · exact k 1 0 (by decide) e
            · exact z 1 (List.mem_singleton.mp e) }
def iZipS (K : PySem.W.Frag) (ta : TA) : TI := fun σ H R => ta σ H fun vs H1 => ∃ a z xs, vs = [.ref a, .str z] ∧ SqT K H1 a xs ∧ R (ItzS K a xs z) H1
theorem pi_zipS {X : Cx} {e e2 : Expr} {ta : TA} {p pos tpos : Pos} {elts : List Expr} {kk : Nat} (hg : Gl X "zip") (hm : X.mg "zip" = none) (ha : PA X [e, e2] ta)
    (hs : starEach [e, e2] X.env = (false, eval e X.env) :: starEach [e2] X.env := by rfl) (hpl : (backTo pos (starEach [e2] X.env)).any (·.1) = false := by rfl) :
    PI X (.Tuple elts kk tpos) (.Call (.Name "zip" p) [e, e2] [] pos) (iZipS X.K ta) := by
  refine ⟨fun pins s σ H R I h => ?_⟩
  refine Call_ (ld_blt I hg hm PyProof.Rows.boot_zip (PyProof.Rows.callWith_type1 (thn (ha.run pos pins s σ H _ I h) fun us s1 ⟨vs, H1, I1, r1, q1⟩ => ?_) hs hpl))
  obtain ⟨a, x, xs, ex, hqx, q⟩ := q1
  subst ex
  cases r1 with
  | cons r rr =>
    cases rr with
    | cons r' rr =>
      cases rr
      cases r
      obtain ⟨t, rfl⟩ := r'
      have fresh5 : ∀ c, c ∈ [s1.heap.objs.size + 4, s1.heap.objs.size + 2, s1.heap.objs.size + 3, s1.heap.objs.size, s1.heap.objs.size + 1] → FpOk X pins H1 c := fun c hcm => by
        have e' : c = s1.heap.objs.size + 4 ∨ c = s1.heap.objs.size + 2 ∨ c = s1.heap.objs.size + 3 ∨ c = s1.heap.objs.size ∨ c = s1.heap.objs.size + 1 := by simpa using hcm
        have hle : s1.heap.objs.size ≤ c := by
          rcases e' with z | z | z | z | z
          · rw [z]; exact Nat.le_add_right _ _
          · rw [z]; exact Nat.le_add_right _ _
          · rw [z]; exact Nat.le_add_right _ _
          · rw [z]; exact Nat.le_refl _
          · rw [z]; exact Nat.le_add_right _ _
        exact I1.fpOk hle (I1.hok.fresh hle)
      obtain ⟨its, rv, p1, _⟩ := I1.tuple hqx
      obtain ⟨o1, ho1, _⟩ := id p1
      have la : a < s1.heap.objs.size := Heap.lt_size ho1
      refine zip_begins2 (begins_tuple a its.toArray) (begins_text x t) (show s1.heap.IsTuple a its.toArray from p1) trivial fun h' hz hTI hTO h1 h2 hsz hk => wpAny_pyIter_zip hz ?_
      have I2 : Inv X pins σ H1 { s1 with heap := h' } := I1.kept (t' := s1.toks) hk
      generalize hn : s1.heap.objs.size = n at la fresh5 hz hTI hTO h1 h2 ⊢
      have S : ZipSep2 (n + 4) (n + 2) (n + 3) n (n + 1) [n, a] [n + 1] := zip_sep n a la
      exact ⟨n + 4, [n + 4, n + 2, n + 3, n, n + 1], _, _, H1, rfl, I2, turn_zipS (t := t) S (Nat.ne_of_lt la), ⟨⟨Nat.zero_le _, Nat.zero_le _⟩, hz, hTI, ⟨_, _, hTO⟩, ⟨_, h1, rfl, rfl⟩, ⟨_, h2, rfl, rfl⟩⟩, fresh5, q⟩
/-- enumerate of a text -/
def IteS (z : Str) : It :=
  ⟨fun i _ => i < z.cps.size, fun i H v H' => ∃ T c, v = .ref T ∧ H T = none ∧ H' = upd H T (.tup [.int (i : Nat), .str ⟨#[c]⟩]) ∧ z.cps[i]? = some c, fun i _ => z.cps.size ≤ i⟩
def iEnumS (ta : TA) : TI := fun σ H R => ta σ H fun vs H1 => ∃ z, vs = [.str z] ∧ R (IteS z) H1
end Z
namespace M
open PySem PySem.Spec PyProof.Rows L2 Z
def chrsD (z : Str) : List D := z.cps.toList.map fun c => D.str ⟨#[c]⟩
/-- zip of a tuple and a text; enumerate of a text; a text -/
def miZS (a b : ME) : MI := fun s h X R => a s h X fun x h1 => b s h1 X fun y h2 => match x, y with | .tup l, .str z => R (zipD l (chrsD z)) (fun _ => True) h2 | _, _ => False
def miES (a : ME) : MI := fun s h X R => a s h X fun x h1 => match x with | .str z => R (enumD (chrsD z)) (fun _ => True) h1 | _ => False
section
variable {X : Cx} {G : Gb} {W : WX} {tg : Expr} {a b : Expr} {ma mb : ME} {p pos tpos : Pos}
theorem chrs_at {z : Str} {i c : Nat} (h : z.cps[i]? = some c) : (chrsD z)[i]? = some (.str ⟨#[c]⟩) := by
  unfold chrsD; rw [List.getElem?_map, Array.getElem?_toList, h]; rfl
theorem chrs_len {z : Str} : (chrsD z).length = z.cps.size := by unfold chrsD; simp
theorem i_ZS {elts : List Expr} {kk : Nat} (hK : X.K = G.K) (hg : Gl X "zip") (hm : X.mg "zip" = none) (ha : PE X a (RE G W ma)) (hb : PE X b (RE G W mb)) (hs : starEach [a, b] X.env = (false, eval a X.env) :: starEach [b] X.env := by rfl) (hpl : (backTo pos (starEach [b] X.env)).any (·.1) = false := by rfl) (hs2 : starEach [b] X.env = (false, eval b X.env) :: starEach [] X.env := by rfl) :
    PI X (.Tuple elts kk tpos) (.Call (.Name "zip" p) [a, b] [] pos) (RI G W (miZS ma mb)) :=
  piI (pi_zipS hg hm (pa_cons (hs := hs) ha (pa_cons (hs := hs2) hb pa_nil)) hs hpl) fun σ H R ⟨ρ, s, h, Y, MR, ss, sh, lx, lr, m⟩ => ⟨ρ, s, h, Y, _, ss, sh, lx, fun w1 h1 d v e1 sh1 sv q => by
    refine ⟨w1.ρ, s, h1, Y, _, ss.le e1, sh1, lx.le e1, fun w2 h2 d2 v2 e2 sh2 sv2 q => ?_, q⟩
    split at q
    · rename_i l z _
      have sv1 := sv.le e2
      obtain ⟨p, vs, rfl, hp, s1, stay⟩ : ∃ p vs, v = .ref p ∧ SqT G.K w2.H p vs ∧ SVs G.toCb w2 vs l ∧ ∀ w' : Wd, Le0 w2 w' → SqT G.K w'.H p vs := by
        cases sv1 with
        | tup f s => exact ⟨_, _, rfl, .inl f.1, s, fun w' le => .inl (f.le0 le).1⟩
        | ktup f s => exact ⟨_, _, rfl, .inr f, s, fun w' _ => .inr f⟩
      cases sv2
      rw [hK]
      refine ⟨p, z, vs, rfl, hp, lr _ _ _ _ _ (e1.trans e2) sh2 (fun w' h' le sh' _ i => ?_) q⟩
      have hq := stay w' le
      have s1 := SVs.le0 le s1
      have hl : (zipD l (chrsD z)).length = min vs.length z.cps.size := by unfold zipD; rw [List.length_map, List.length_zip, chrs_len, s1.length]
      refine ⟨fun hi => ?_, fun hi => ?_⟩
      · rw [hl] at hi
        have h1 : i < vs.length := by omega
        have h2 : i < z.cps.size := by omega
        refine ⟨⟨hq, h1, h2⟩, fun x H' y => ?_⟩
        obtain ⟨T, u, c, rfl, hT, rfl, f1, f2⟩ := y
        obtain ⟨d, hd, sd⟩ := s1.getV i u f1
        obtain ⟨le2, sh2, fz⟩ := Wd.lay (u := .tup [u, .str ⟨#[c]⟩]) sh' hT
        refine ⟨.tup [d, .str ⟨#[c]⟩], ⟨w'.ρ, L2.upd w'.H T (.tup [u, .str ⟨#[c]⟩])⟩, ?_, rfl, le2, sh2, .tup ⟨.inl upd_same, fz⟩ (.cons (sd.le le2) (.cons (.str _) .nil))⟩
        unfold zipD
        rw [List.getElem?_map, show (l.zip (chrsD z))[i]? = some (d, D.str ⟨#[c]⟩) from List.getElem?_zip_eq_some.mpr ⟨hd, chrs_at f2⟩]; rfl
      · rw [hl] at hi
        exact ⟨hq, by omega⟩
    · exact q.elim, m⟩
end
/-! stepping -/
def zsm (x y : D) (h : MH) [K : KI] : Prop := match x, y with | .tup l, .str z => K.k (zipD l (chrsD z)) (fun _ => True) h | _, _ => False
def esm (x : D) (h : MH) [K : KI] : Prop := match x with | .str z => K.k (enumD (chrsD z)) (fun _ => True) h | _ => False
section
variable {s : MSt} {h : MH} {X : MX} {a b : ME} {R : List D → (MH → Prop) → MH → Prop}
theorem i_miZS : miZS a b s h X R = (a s h X fun x h1 => b s h1 X fun y h2 => @zsm x y h2 ⟨R⟩) := hide rfl
theorem i_miES : miES a s h X R = (a s h X fun x h1 => @esm x h1 ⟨R⟩) := hide rfl
theorem zsm_TS {l : List D} {z : Str} {K : KI} : @zsm (.tup l) (.str z) h K = K.k (zipD l (chrsD z)) (fun _ => True) h := hide rfl
theorem esm_S {z : Str} {K : KI} : @esm (.str z) h K = K.k (enumD (chrsD z)) (fun _ => True) h := hide rfl
end
end M

set_option Elab.async false
set_option linter.all false
set_option maxRecDepth 100000
set_option checkBinderAnnotations false
namespace M
open PySem PySem.Spec PyProof.Rows L2 Z
/-! ### texts: upper, split, join -/
def strsD : List D → Option (List Str)
  | [] => some []
  | .str x :: l => (strsD l).map (x :: ·)
  | _ => none
def upD (x : D) (h : MH) (Q : MK) : Prop := match x with | .str z => z.length ≤ 1000000 ∧ Q (.str (Txt.upper z)) h | _ => False
def mUp (a : ME) : ME := fun s h X Q => a s h X fun x h1 => upD x h1 Q
def splitD (z : Str) (y : D) (h : MH) (Q : MK) : Prop := match y with | .str b => ((b.length == 0) = false ∧ z.length ≤ 1000000) ∧ mkL ((Txt.split z b).map .str) h Q | _ => False
def mSplit (a b : ME) : ME := fun s h X Q => a s h X fun x h1 => match x with | .str z => b s h1 X fun y h2 => splitD z y h2 Q | _ => False
def joinD (z : Str) (y : D) (h : MH) (Q : MK) : Prop := match seqI h y with
  | some l => match strsD l with | some ys => (ys.map (·.length)).sum + ys.length * z.length ≤ 16777216 ∧ Q (.str (Txt.join z ys)) h | none => False
  | none => False
def mJoin (a b : ME) : ME := fun s h X Q => a s h X fun x h1 => match x with | .str z => b s h1 X fun y h2 => joinD z y h2 Q | _ => False
section
variable {X : Cx} {G : Gb} {W : WX} {a b : Expr} {ma mb : ME} {apos pos : Pos} {w : Wd}
end
/-! tuple + tuple -/
def opAddT : M2 := fun x y h Q => match x, y with
  | .tup (a :: l), .tup k => (l.length + k.length ≤ 1000000) ∧ Q (.tup (a :: (l ++ k))) h
  | _, _ => False
section
variable {X : Cx} {G : Gb}
end
/-! stepping -/
def upm (x : D) (h : MH) [K : K2] : Prop := upD x h K.k
def splm (z : Str) (y : D) (h : MH) [K : K2] : Prop := splitD z y h K.k
def joim (z : Str) (y : D) (h : MH) [K : K2] : Prop := joinD z y h K.k
section
variable {s : MSt} {h : MH} {X : MX} {Q : MK} {K : K2} {a b : ME} {z y : Str} {l : List D} {r q : Nat}
theorem addT_TT {a : D} {l k : List D} : @opm opAddT (.tup (a :: l)) (.tup k) h K = @cndm (l.length + k.length ≤ 1000000) ⟨K.k (.tup (a :: (l ++ k))) h⟩ := hide rfl
theorem o_ixS {i : Int} : @opm opIx (.str z) (.int i) h K = @optm _ (atI z.cps.toList i) ⟨fun c => @cndm (z.length ≤ 1000000) ⟨K.k (.str ⟨#[c]⟩) h⟩⟩ := by
  unfold opm opIx; dsimp only; generalize atI z.cps.toList i = o; cases o <;> rfl
theorem sl_S {lo hi : Option Int} : @slm (.str z) lo hi h K = @cndm (z.length ≤ 1000000) ⟨K.k (.str (cutS z lo hi)) h⟩ := hide rfl
theorem e_up : mUp a s h X Q = (a s h X fun x h1 => @upm x h1 ⟨Q⟩) := hide rfl
theorem upm_S : @upm (.str z) h K = @cndm (z.length ≤ 1000000) ⟨K.k (.str (Txt.upper z)) h⟩ := hide rfl
theorem e_split : mSplit a b s h X Q = (a s h X fun x h1 => match x with | .str z => b s h1 X fun y h2 => @splm z y h2 ⟨Q⟩ | _ => False) := hide rfl
theorem splm_S : @splm z (.str y) h K = @cndm ((y.length == 0) = false ∧ z.length ≤ 1000000) ⟨@mklm ((Txt.split z y).map .str) h K⟩ := hide rfl
theorem e_join : mJoin a b s h X Q = (a s h X fun x h1 => match x with | .str z => b s h1 X fun y h2 => @joim z y h2 ⟨Q⟩ | _ => False) := hide rfl
theorem joim_L : @joim z (.lst l) h K = @optm _ (strsD l) ⟨fun ys => @cndm ((ys.map (·.length)).sum + ys.length * z.length ≤ 16777216) ⟨K.k (.str (Txt.join z ys)) h⟩⟩ := by
  unfold joim joinD; show (match strsD l with | some ys => _ | none => _) = _; generalize strsD l = o; cases o <;> rfl
theorem joim_R : @joim z (.rol l) h K = @optm _ (strsD l) ⟨fun ys => @cndm ((ys.map (·.length)).sum + ys.length * z.length ≤ 16777216) ⟨K.k (.str (Txt.join z ys)) h⟩⟩ := by
  unfold joim joinD; show (match strsD l with | some ys => _ | none => _) = _; generalize strsD l = o; cases o <;> rfl
theorem joim_T : @joim z (.tup l) h K = @optm _ (strsD l) ⟨fun ys => @cndm ((ys.map (·.length)).sum + ys.length * z.length ≤ 16777216) ⟨K.k (.str (Txt.join z ys)) h⟩⟩ := by
  unfold joim joinD; show (match strsD l with | some ys => _ | none => _) = _; generalize strsD l = o; cases o <;> rfl
theorem joim_O : @joim z (.ref r q) h K = @optm _ (lstO (h r)[q]?) ⟨fun l => @optm _ (strsD l) ⟨fun ys => @cndm ((ys.map (·.length)).sum + ys.length * z.length ≤ 16777216) ⟨K.k (.str (Txt.join z ys)) h⟩⟩⟩ := by
  unfold joim joinD; rw [seqI_ref]; generalize lstO (h r)[q]? = o; cases o with
  | none => rfl
  | some l => show (match strsD l with | some ys => _ | none => _) = _; dsimp only [optm]; generalize strsD l = o; cases o <;> rfl
theorem strsD_map : ∀ {ys : List Str}, strsD (ys.map D.str) = some ys
  | [] => rfl
  | x :: r => by rw [List.map_cons]; unfold strsD; rw [strsD_map]; rfl
end
end M

set_option Elab.async false
set_option linter.all false
set_option maxRecDepth 100000
set_option checkBinderAnnotations false
namespace Z
open PySem PySem.Spec PyProof.Rows L2
/-! ### classes whose __init__ has defaults: all of them lack, or all are written -/
structure MfD (K : PySem.W.Frag) (C : Addr) (m q : Str) (st : Stmt) (ps : List Str) (dvs : List V) : Prop where
  ex : ∃ (f : Addr) (fd : FuncData), FunD K m q (defArgs st) (defBody st) (defScope st) dvs [] f fd ∧ Meth K C m f ∧ Binds K fd ps [] ∧ ∃ ds, Vals dvs ds ∧ Binds K fd ps ds
structure KnD (P : Program) (w : World) (K : PySem.W.Frag) (mg : Str → Option Value) (base : Heap) (k : Nat) (x : Str) (C : Addr) (sp : Sp) (dvs : List V) : Prop where
  ex : ∃ (f : Addr) (fd : FuncData) (ps : List Str) (ds : List Value), FnOk P w K mg base (L2.CX P w) k f fd ps sp ∧ Mk K C f ∧ mg x = some (.ref C) ∧ Binds K fd ps [] ∧ Vals dvs ds ∧ Binds K fd ps ds
theorem KnD.kn {P : Program} {w : World} {K : PySem.W.Frag} {mg : Str → Option Value} {base : Heap} {k : Nat} {x : Str} {C : Addr} {sp : Sp} {dvs : List V} (D : KnD P w K mg base k x C sp dvs) : Kn P w K mg base k x C sp :=
  let ⟨f, fd, ps, ds, F, M, hm, hb, _⟩ := D.ex; ⟨f, fd, ps, F, M, hm, hb⟩
theorem MfD.kn {P : Program} {w : World} {K : PySem.W.Frag} {mg : Str → Option Value} {base : Heap} {x q : Str} {st : Stmt} {ps N : List Str} {k : Nat} {sp : Sp} {C : Addr} {dvs : List V} (F : MfD K C "__init__" q st ps dvs) (mk : PySem.W.makesIn K C = true ∧ PySem.W.keepIn K (.ref C) = true) (hm : mg x = some (.ref C))
    (S : FnScope N ps (defScope st)) (len : ∀ vs H Q E, sp vs H Q E → vs.length = ps.length)
    (hbody : ∀ (cdv : Value) (f : Addr) (A : Around) (outer : List Env) (s : Shared) (H : Hp) (vs : List V) (Q : VK) (E : XK), Room k (A.deeper (envOfC q (defScope st) s.heap.objs.size f cdv)) → sp vs H Q E →
      ∃ t, PSs (cxOf (L2.CX P w) P w K mg base N q (defScope st) f cdv A outer s H E) (defBody st) t ∧ t { nx := fun _ H' => Q .non H', rt := Q } (start N vs) H) : KnD P w K mg base (k + 1) x C sp dvs := by
  obtain ⟨f, fd, F1, me, hb, ds, hv, hb2⟩ := F.ex
  exact ⟨f, fd, ps, ds, F1.ok S len (fun cdv A outer s H vs Q E hr h => hbody cdv f A outer s H vs Q E hr h), ⟨mk.1, me.at_, me.fn, mk.2⟩, hm, hb, hv, hb2⟩
theorem MfD.mk' {K : PySem.W.Frag} {C : Addr} {q : Str} {st : Stmt} {ps : List Str} {dvs : List V} {f T : Addr} {m : Str} {od an td : Option Addr} {sl tsl : Array (Option Value)} {oc kV dc pm cd ct tc : Value} {its : List Value} {tn : Nat} (a : PySem.W.findIn K (.ref C) m = some (some (.ref f))) (i : PySem.W.isFn K (.ref f) = true)
    (l : K.lookup f = some ⟨oc, od, .func (PySem.W.fnOf m q (defArgs st) (defBody st) (defScope st) (.ref T) kV dc pm an cd ct), sl⟩) (c : PySem.W.codeIn K cd q = true) (k : PySem.W.keepIn K (.ref f) = true)
    (lT : K.lookup T = some ⟨tc, td, .seq its.toArray tn, tsl⟩) (hv : Vals dvs its) (hd : dvs ≠ []) (hl : dvs.length ≤ ps.length)
    (hb0 : ∀ (T : Addr) (kV doc pm : Value) (an : Option Addr) (cdv ct : Value) (us its : List Value), us.length = ps.length → its.length = dvs.length →
      ∃ k, bindArgs (PySem.W.fnOf m q (defArgs st) (defBody st) (defScope st) (.ref T) kV doc pm an cdv ct) ⟨us, []⟩ = seqItems? (.ref T) >>= k ∧ k (some its.toArray) = pure (ps.zip (us ++ its.drop dvs.length)))
    (hb1 : ∀ (T : Addr) (kV doc pm : Value) (an : Option Addr) (cdv ct : Value) (us its : List Value), us.length = ps.length - dvs.length → its.length = dvs.length →
      ∃ k, bindArgs (PySem.W.fnOf m q (defArgs st) (defBody st) (defScope st) (.ref T) kV doc pm an cdv ct) ⟨us, []⟩ = seqItems? (.ref T) >>= k ∧ k (some its.toArray) = pure (ps.zip (us ++ its.drop 0))) : MfD K C m q st ps dvs := by
  have F : FunD K m q (defArgs st) (defBody st) (defScope st) dvs [] f (PySem.W.fnOf m q (defArgs st) (defBody st) (defScope st) (.ref T) kV dc pm an cd ct) := ⟨⟨oc, od, _, kV, dc, pm, an, cd, ct, sl, rfl, l, c, .inr ⟨hd, T, _, its, tn, rfl, lT, rfl, hv⟩, .inl rfl⟩, k⟩
  obtain ⟨d0, v0, b0⟩ := F.binds1 ps.length dvs.length hd (by omega) hb0
  obtain ⟨d1, v1, b1⟩ := F.binds1 (ps.length - dvs.length) 0 hd (by omega) hb1
  rw [List.drop_length] at v0
  cases v0
  exact ⟨f, _, F, ⟨a, i, k⟩, b0, d1, v1, b1⟩
section
variable {X : Cx} {k j : Nat} {C : Addr} {sp : Sp} {W : WX} {x : Str} {p pos : Pos} {e : Expr} {es : List Expr} {t : TA} {dvs : List V}
theorem run_mkD {pins : List (Addr × Obj)} {σ : L2.St} {H : Hp} {s : Shared} {Q : VK} {us : List Value} {vs : List V} (D : KnD X.prog X.w X.K X.mg X.base k x C sp dvs) (hr : Room (k + 1) X.A) (tk : Takes X W) (I : Inv X pins σ H s) (r : Vals vs us)
    (h : ∀ x dx, H x = none → H dx = none → dx ≠ x → sp (.ref x :: (vs ++ dvs)) (L2.upd (L2.upd H dx (.own x)) x (.ins C dx [])) (fun v H2 => v = .non ∧ Q (.ref x) H2) (WE W σ)) :
    wpAny (model X.prog X.w) X.A (call (.ref C) us) (EP X pins σ Q) X.xe s := by
  obtain ⟨f, fd, ps, ds, F, M, _, _, hv, hb⟩ := D.ex
  have want := h (s.heap.objs.size + 1) s.heap.objs.size (I.hok.fresh (Nat.le_succ _)) (I.hok.fresh (Nat.le_refl _)) (Nat.ne_of_lt (Nat.lt_succ_self _))
  have I2 := Inv.made (C := C) I
  have rr : Vals (V.ref (s.heap.objs.size + 1) :: (vs ++ dvs)) ((Value.ref (s.heap.objs.size + 1) :: us) ++ ds) := .cons rfl (r.append hv)
  have nargs : ((Value.ref (s.heap.objs.size + 1) :: us) ++ ds).length = ps.length := by rw [← rr.length, F.len _ _ _ _ want]
  have b := hb _ (Value.ref (s.heap.objs.size + 1) :: us) I2.kIn nargs
  refine wpAny_call (make_map (f := f) I.kIn M.makes M.init (beq_iff_eq.mp M.fn) (codeAny_mono (F.run _ X.stack _ _ ⟨Value.ref (s.heap.objs.size + 1) :: us, []⟩ ((Value.ref (s.heap.objs.size + 1) :: us) ++ ds) _ _ (WE W σ) (hr.make C us []) (I2.env0.make C us []) b rr want) fun res s' done => ?_))
  match res, done with
  | .error er, done => exact passAt tk σ pins _ _ er s' I2 done
  | .ok (.ret u), done =>
    obtain ⟨v, H', I3, rv, ev, q⟩ := I2.after done
    subst ev
    exact ⟨rv, ⟨V.ref (s.heap.objs.size + 1), H', I3, rfl, q⟩⟩
  | .ok .next, done => exact done.elim
  | .ok .brk, done => exact done.elim
  | .ok .cont, done => exact done.elim
def tMkD (C : Addr) (sp : Sp) (dvs : List V) (E : L2.St → XK) (t : TA) : TE := fun σ H Q => t σ H fun vs H1 => ∀ x dx, H1 x = none → H1 dx = none → dx ≠ x → sp (.ref x :: (vs ++ dvs)) (L2.upd (L2.upd H1 dx (.own x)) x (.ins C dx [])) (fun v H2 => v = .non ∧ Q (.ref x) H2) (E σ)
theorem pe_kD (D : KnD X.prog X.w X.K X.mg X.base k x C sp dvs) (hr : Room j X.A) (hk : k + 1 ≤ j) (tk : Takes X W) (ha : PA X (e :: es) t) (hg : Gl X x := by rfl) (hdb : (x == ("__debug__" : Str)) = false := by decide)
    (he : starEach (e :: es) X.env = (false, eval e X.env) :: starEach es X.env := by rfl) (hpl : (backTo pos (starEach es X.env)).any (·.1) = false := by rfl) : PE X (.Call (.Name x p) (e :: es) [] pos) (tMkD C sp dvs (WE W) t) := by
  obtain ⟨f, fd, ps, ds, F, M, hm, hb⟩ := id D.ex
  refine ⟨fun pins s σ H Q I h => wpAny_Call_Name_kw (ld_glob I hg hm ?_ hdb)⟩
  exact PySem.W.callWith_K (h₀ := X.base) I.ok.mod.kin M.kp (thn (ha.run pos pins s σ H _ I h) fun us s1 ⟨vs, H1, I1, r, q⟩ => ⟨I1.kIn, run_mkD D (hr.mono hk) tk I1 r q⟩) he hpl
end
end Z
namespace M
open PySem PySem.Spec PyProof.Rows L2 Z
/-- C(e, ..), the defaults dd behind what is written -/
def mNewD (c : String) (n : Nat) (m : MDef) (dd : List D) (a : MA) : ME := fun s h X Q => a s h X fun ds h1 => (ds ++ dd).length + 1 = n ∧ ∃ r, m (.ref r (h1 r).length :: (ds ++ dd)) (h1.new r (.ins c [])) X fun d h2 => d = .non ∧ Q (.ref r (h1 r).length) h2
section
variable {X : Cx} {G : Gb} {W : WX} {k j n : Nat} {x : Str} {c : String} {C : Addr} {fl : List String} {md : MDef} {p pos : Pos} {e : Expr} {es : List Expr} {mr : MA} {dvs : List V} {dd : List D}
theorem m_newD (hc : G.tb.lookup c = some (C, true, fl)) (D : KnD X.prog X.w X.K X.mg X.base k x C (SPm G n md) dvs) (hd : ∀ w : Wd, SVs G.toCb w dvs dd) (hr : Room j X.A) (hk : k + 1 ≤ j) (tk : Takes X W) (ha : PA X (e :: es) (RA G W mr)) (hg : Gl X x := by rfl) (hdb : (x == ("__debug__" : Str)) = false := by decide)
    (he : starEach (e :: es) X.env = (false, eval e X.env) :: starEach es X.env := by rfl) (hpl : (backTo pos (starEach es X.env)).any (·.1) = false := by rfl) : PE X (.Call (.Name x p) (e :: es) [] pos) (RE G W (mNewD c n md dd mr)) :=
  peI (pe_kD D hr hk tk ha hg hdb he hpl) fun σ H Q ⟨ρ, s, h, Y, MQ, ss, sh, lx, lq, m⟩ => by
    refine ⟨ρ, s, h, Y, _, ss, sh, lx, fun w1 h1 ds vs e1 sh1 svs q => ?_, m⟩
    intro x dx nx ndx nxx
    obtain ⟨ql, r, q⟩ := q
    obtain ⟨le2, sh2, _⟩ := Wd.lay (u := .own x) sh1 ndx
    have nx2 : L2.upd w1.H dx (.own x) x = none := by rw [upd_ne (Ne.symm nxx)]; exact nx
    obtain ⟨le3, sh3⟩ := Wd.make (w := ⟨w1.ρ, L2.upd w1.H dx (.own x)⟩) (u := .ins C dx []) (o := .ins c []) sh2 r nx2 fun _ => .ins (fl := fl) upd_same hc (fun _ _ z => by cases z) .nil
    have e123 := e1.trans (le2.trans le3)
    refine ⟨_, _, _, Y, _, sh3, .cons (.ref ext_at) ((svs.append (hd _)).le (le2.trans le3)), lx.le e123, fun w4 h4 d v e4 sh4 sv q4 => ?_, by simpa using ql, q⟩
    obtain ⟨rfl, q4⟩ := q4
    exact ⟨sv.non', lq _ _ _ _ (e123.trans e4) sh4 (.ref (e4.up _ _ _ ext_at)) q4⟩
end
section
variable {s : MSt} {h : MH} {X : MX} {Q : MK} {a : MA} {c : String} {n : Nat} {m : MDef} {dd : List D}
theorem e_newD : mNewD c n m dd a s h X Q = (a s h X fun ds h1 => @cndm ((ds ++ dd).length + 1 = n) ⟨@newm c m (ds ++ dd) h1 ⟨X⟩ ⟨Q⟩⟩) := hide rfl
end
/-! calls while an exception is handled -/
section
variable {G : Gb} {i n : Nat} {a : Addr} {d : Option Addr} {fs : List (String × D)} {md : MDef}
end
end M

set_option Elab.async false
set_option linter.all false
set_option maxRecDepth 100000
set_option checkBinderAnnotations false
namespace Z
open PySem PySem.Spec PyProof.Rows L2
/-! ### defs that are called within an except suite, the caught exception not among what they get; they raise nothing -/
/-- the context bears the handled exception -/
structure HotP (X : Cx) : Prop where
  ex : ∃ (p : Addr × Obj) (c : Value) (d : Option Addr), p ∈ X.pn ∧ Zc c d p.2 ∧ ∃ fs, p.2.data = .fields fs
abbrev NoX : XK := fun _ _ _ => False
structure Qn (P : Program) (w : World) (K : PySem.W.Frag) (mg : Str → Option Value) (base : Heap) (k : Nat) (x : Str) (sp : Sp) : Prop where
  ex : ∃ (f : Addr) (fd : FuncData) (ps : List Str), FnE P w K mg base k f fd ps (fun _ _ _ => sp) ∧ mg x = some (.ref f) ∧ PySem.W.keepIn K (.ref f) = true ∧ Binds K fd ps []
structure Qm (P : Program) (w : World) (K : PySem.W.Frag) (mg : Str → Option Value) (base : Heap) (k : Nat) (C : Addr) (m : Str) (sp : Sp) : Prop where
  ex : ∃ (f : Addr) (fd : FuncData) (ps : List Str), FnE P w K mg base k f fd ps (fun _ _ _ => sp) ∧ Cls K C ∧ Meth K C m f ∧ Binds K fd ps []
section
variable {P : Program} {w : World} {K : PySem.W.Frag} {mg : Str → Option Value} {base : Heap} {x q m : Str} {st : Stmt} {ps N : List Str} {k : Nat} {sp : Sp} {C : Addr}
end
section
variable {X : Cx} {k j : Nat} {f C : Addr} {fd : FuncData} {ps : List Str} {sp : Sp} {x m : Str} {q pos apos : Pos} {e o : Expr} {es : List Expr} {ta : TE} {t : TA}
end
theorem _root_.L2H.RoomH.units {k : Nat} {A : Around} (r : L2H.RoomH k A) : A.units + 64 < cLine := by have := r.un; omega
/-! ### for over a tuple, left ahead of its end -/
def ItR (K : PySem.W.Frag) (a : Addr) : It := { Itt K a with stop := fun _ _ => False }
structure PIR (X : Cx) (iter : Expr) (te : TE) : Prop where
  run : PE X iter te
end Z
namespace M
open PySem PySem.Spec PyProof.Rows L2 Z
def mGoR (p : Pt) (body : MS) (N : MEnds) : List D → MSt → MH → Prop
  | [], _, _ => False
  | d :: ds, s, h => match p.bind d s with | some s1 => body { N with nx := mGoR p body N ds, ct := mGoR p body N ds, bk := N.nx } s1 h | none => False
/-- for over a tuple, which is left ahead of its end -/
def mForR (a : ME) (p : Pt) (body : MS) : MS := fun N s h => a s h (N.ex s) fun x h1 => match x with | .tup ds => mGoR p body N ds s h1 | _ => False
section
variable {X : Cx} {G : Gb} {W : WX}
end
section
variable {X : Cx} {G : Gb} {k j n : Nat} {x : Str} {c : String} {C : Addr} {fl : List String} {md : MDef} {p pos apos : Pos} {e o : Expr} {es : List Expr} {mo : ME} {mr : MA} {i : Nat} {a : Addr} {dd : Option Addr} {fs : List (String × D)} {W : WX}
end
/-! stepping -/
def gomR (p : Pt) (b : MS) (ds : List D) (s : MSt) (h : MH) [N : KN] : Prop := mGoR p b N.n ds s h
class KT1 where
  k : List D → Prop
def forRm (x : D) [K : KT1] : Prop := match x with | .tup ds => K.k ds | _ => False
section
variable {s : MSt} {h : MH} {nx : MSt → MH → Prop} {rt : MK} {bk ct : MSt → MH → Prop} {ex : MSt → MX} {a : ME} {p : Pt} {b : MS} {l ds : List D} {d : D}
theorem e_forR : mForR a p b ⟨nx, rt, bk, ct, ex⟩ s h = (a s h (ex s) fun x h1 => @forRm x ⟨fun ds => @gomR p b ds s h1 ⟨⟨nx, rt, bk, ct, ex⟩⟩⟩) := hide rfl
theorem forRm_T {K : KT1} : @forRm (.tup l) K = K.k l := hide rfl
theorem gomR_cons : @gomR p b (d :: ds) s h ⟨⟨nx, rt, bk, ct, ex⟩⟩ = @optm _ (p.bind d s) ⟨fun s1 => b ⟨fun s2 h2 => @gomR p b ds s2 h2 ⟨⟨nx, rt, bk, ct, ex⟩⟩, rt, nx, fun s2 h2 => @gomR p b ds s2 h2 ⟨⟨nx, rt, bk, ct, ex⟩⟩, ex⟩ s1 h⟩ := by
  unfold gomR; rw [mGoR]; dsimp only; generalize p.bind d s = z; cases z <;> rfl
end
end M

set_option Elab.async false
set_option linter.all false
set_option maxRecDepth 100000
set_option checkBinderAnnotations false
/-! ### a caught exception that outlives its suite -/
namespace Z
open PySem PySem.Spec PyProof.Rows L2 M
section
variable {X : Cx} {pins : List (Addr × Obj)} {σ : L2.St} {H : Hp} {s : Shared} {a : Addr} {cls : Value} {d : Option Addr} {oe : Obj}
/-- from here on the abstract heap knows the exception at a -/
theorem track (I : Inv X pins σ H s) (n0 : X.s_0.heap.get? a = none) (na : H a = none) (g : s.heap.get? a = some oe) (hz : Zc cls d oe) (hf : ∃ vs, oe.data = .fields vs) (nL : a ≠ X.env.locals) (nP : ∀ p ∈ X.pn ++ pins, p.1 ≠ a) : Inv X pins σ (upd H a (ExK cls d a)) s := by
  have nz : ∀ {b : Addr} {o : Obj}, X.s_0.heap.get? b = some o → b ≠ a := fun e z => by rw [z, n0] at e; cases e
  have nh : ∀ {b : Addr} {u : HO}, H b = some u → b ≠ a := fun e z => by rw [z, na] at e; cases e
  have new : ObjOk X.prog X.w (upd H a (ExK cls d a)) s.heap a (ExK cls d a) := ⟨⟨oe, g, hz, hf⟩, ⟨oe, g⟩, fun _ _ ⟨o, e, z, v⟩ k => ⟨o, k o e, z, v⟩⟩
  refine ⟨I.ok, I.os, I.bare, ⟨I.base.keep, I.base.slot, fun b o e n hx => by rw [upd_ne (nz e)]; exact I.base.free b o e n hx, I.base.there, fun b xs e => ?_, fun b o u e => ?_, fun b ps e => ?_⟩, I.loc, I.cell, by rw [upd_ne (Ne.symm nL)]; exact I.free, fun x c e => ?_, fun p hp => ?_, fun b u e => ?_, I.len⟩
  · have q := I.base.tups b xs e
    rw [upd_ne (nh q)]; exact q
  · have q := I.base.frzs b o u e
    rw [upd_ne (nh q)]; exact q
  · obtain ⟨m, q⟩ := I.base.tbls b ps e
    exact ⟨m, by rw [upd_ne (nh q)]; exact q⟩
  · obtain ⟨v, o, ho, hd⟩ := I.cell x c e
    have : c ≠ a := fun z => by
      subst z
      rw [g] at ho; cases ho
      obtain ⟨vs, hv⟩ := hf
      rw [hv] at hd; cases hd
    rw [upd_ne this]; exact I.freeC x c e
  · obtain ⟨p1, p2, p3, p4, p5⟩ := I.pin p hp
    exact ⟨p1, by rw [upd_ne (nP p hp)]; exact p2, p3, p4, p5⟩
  · by_cases hb : b = a
    · subst hb
      rw [upd_same] at e; cases e
      exact new
    · rw [upd_ne hb] at e
      exact (I.hok b u e).stay (fun c v _ q => q) (fun c q => by rw [upd_ne (nh q)]; exact q) fun c xs q => by rw [upd_ne (nh q)]; exact q
/-- the clause catches all that the body may raise here; its suite only goes on -/
def wK (K : PySem.W.Frag) (c : Value) (i : Nat) (ts : Addr → TS) (D : Ends) : WX := fun cls d σ H =>
  PySem.W.exmOne K cls c = some true ∧ ∀ a, H a = none → ts a { nx := fun σ' H' => H' a = none → D.nx (σ'.set i none) (upd H' a (ExK cls d a)), rt := fun _ _ => False, bk := fun _ _ => False, ct := fun _ _ => False } (σ.set i (some (.ref a))) H
theorem ps_try_keep {x n : Str} {c : Value} {i : Nat} {body suite : List Stmt} {b₀ : Stmt} {np pos pos' : Pos} {tb : WX → TS} {ts : Addr → TS} (hx : X.ex = []) (hs : X.stack = X.env :: X.outer) (hf : X.env.frame = some X.env.locals) (hN : X.N.Nodup) (hi : X.N[i]? = some n) (hln : X.env.kindOf n = some .local) (hc : Names X x c)
    (hb : ∀ (W : WX) (pn : List (Addr × Obj)) (xe : Value → Shared → Prop), Takes (X.tr pn xe) W → PassesOwn (model X.prog X.w) X.A X.env xe → PSs (X.tr pn xe) body (tb W))
    (hsu : ∀ (a : Addr) (oe : Obj) (cls : Value) (d : Option Addr) (pn : List (Addr × Obj)), Zc cls d oe → (∃ vs, oe.data = .fields vs) → PSs (X.suite a ((a, oe) :: pn)) (b₀ :: suite) (ts a)) :
    PS X (.Try body [.ExceptHandler (some (.Name x np)) (some n) (b₀ :: suite) pos'] [] [] pos) (fun D σ H => tb (wK X.K c i ts D) D σ H) := by
  refine ⟨fun pins s σ H D I h => ?_⟩
  have ok := I.ok
  have run := (hb (wK X.K c i ts D) (X.pn ++ pins) (fun e s₁ => wpAny (model X.prog X.w) X.A (noteFrame e X.env) (fun _ s₂ => wpAny (model X.prog X.w) X.A (setFlight e none) (fun _ s₃ =>
    wpAny (model X.prog X.w) X.A (handleBy e X.env [.ExceptHandler (some (.Name x np)) (some n) (b₀ :: suite) pos']) (SP X pins D) X.xe s₃) X.xe s₂) X.xe s₁) (fun u s' xx => ?_) PassesOwn.looking).run [] s σ H D (I.toTry _) h
  · refine wpAny_Try_except (wpAny_mono run (fun f s1 hsp => ?_) fun e s1 he => he)
    cases f with
    | next => obtain ⟨σ1, H1, J1, q⟩ := hsp; exact wpAny_execs_nil ⟨σ1, H1, J1.ofTry ok, q⟩
    | ret u => obtain ⟨v, σ1, H1, J1, r, q⟩ := hsp; exact ⟨v, σ1, H1, J1.ofTry ok, r, q⟩
    | brk => obtain ⟨σ1, H1, J1, q⟩ := hsp; exact ⟨σ1, H1, J1.ofTry ok, q⟩
    | cont => obtain ⟨σ1, H1, J1, q⟩ := hsp; exact ⟨σ1, H1, J1.ofTry ok, q⟩
  obtain ⟨a, B, sI, pins', σ1, H1, cls, d, rfl, J', nb, up, sky, na, os, ag, hex, hyes⟩ := xx
  have J : Inv X pins σ1 H1 sI := J'.ofTry ok
  have sky1 : Sky B (X.env :: X.outer) a (Zc cls d) X.env.locals s'.heap := by rw [← hs]; exact sky
  have hB : B.get? a = none := by rcases sky1 with ⟨_, z, _⟩ | ⟨_, z, _⟩ | ⟨_, z, _⟩ <;> exact z
  refine Sky.land Zc.steady (by rw [ok.frames, hs]) hf sky1 fun h3 fl3 up3 => ?_
  have J3 : Inv X pins σ1 H1 { s' with heap := h3 } := J.landed nb fl3.1 (up.trans up3) os ag
  obtain ⟨oe3, vs3, he3, hz3, hd3⟩ := fl3.there
  have nfr : a ∉ frs (X.env :: X.outer) := fun hm => by
    obtain ⟨_, o, e, hn⟩ := fl3.2.2.1.mem hm
    rw [he3] at e; cases e
    exact hn _ hd3
  have nL : a ≠ X.env.locals := fun z => nfr (List.mem_filterMap.mpr ⟨X.env, List.mem_cons_self, by rw [hf, z]⟩)
  have nF : a ∉ X.fs := fun hm => by
    obtain ⟨e, he, q⟩ := List.mem_filterMap.mp hm
    exact nfr (List.mem_filterMap.mpr ⟨e, List.mem_cons_of_mem _ he, q⟩)
  have aI : sI.heap.get? a = none := by
    cases e : sI.heap.get? a with
    | none => rfl
    | some o =>
      have z := nb a o e (by rw [show (X.tr (X.pn ++ pins) _).stack = X.env :: X.outer from hs]; exact nfr)
      rw [hB] at z; cases z
  have n0 : X.s_0.heap.get? a = none := by
    cases e : X.s_0.heap.get? a with
    | none => rfl
    | some o =>
      obtain ⟨o1, z⟩ := J.base.there a o e (by rw [hx]; exact fun z => nomatch z)
      rw [aI] at z; cases z
  have nP : ∀ p ∈ X.pn ++ pins, p.1 ≠ a := fun p hp z => by
    have := (J.pin p hp).1
    rw [z, aI] at this; cases this
  have S3 := J3.suite he3 hd3 na nL nF
  refine wpAny_handleBy_cons (codeAny_handlers_test ?_) (by intro q; cases q)
  have LT : PySem.W.Looks (model X.prog X.w) h3 (typeOf (.ref a)) cls := fun A Q E s k q => wpAny_typeOf_ref (k _ _ he3) (by rw [hz3.1]; exact q)
  have LM := PySem.W.exm_one (M := model X.prog X.w) (J3.kIn) LT hex
  have test : ∀ {Q : Value → Shared → Prop} {E : Value → Shared → Prop}, Q c { s' with heap := h3 } → wpAny (model X.prog X.w) (X.A.mark (some (.ref a))) (eval (.Name x np) X.env) Q E { s' with heap := h3 } := fun {Q E} q => by
    rcases hc with ⟨hg, hdb, hm | ⟨hm, hv, hnn⟩⟩
    · exact ld_glob (X := X.suite a ((a, oe3) :: (X.pn ++ pins))) S3 hg hm q hdb
    · exact ld_blt (X := X.suite a ((a, oe3) :: (X.pn ++ pins))) S3 hg hm hv q hnn hdb
  refine test (LM.here ?_)
  refine codeAny_handlers_suite_as (HandSPX.lands_againZ fl3 fun h4 fl4 up4 => ?_)
  have J4 : Inv X pins σ1 H1 { s' with heap := h4 } := J.landed nb fl4.1 ((up.trans up3).trans up4) os ag
  obtain ⟨oe4, vs4, he4, hz4, hd4⟩ := fl4.there
  refine store_ok (X := X.suite a ((a, oe4) :: (X.pn ++ pins))) (v := .ref a) (J4.suite he4 hd4 na nL nF) hN hi (.inl hln) rfl (fun s5 S5 => ?_) (.inr hln)
  refine wpAny_mono ((hsu a oe4 cls d (X.pn ++ pins) hz4 ⟨_, hd4⟩).run [] s5 _ H1 _ S5 (hyes a na)) (fun f s6 hsp => ?_) (fun _ _ z => False.elim z)
  cases f with
  | next =>
    obtain ⟨σ6, H6, S6, q6⟩ := hsp
    obtain ⟨g6, n6, _⟩ := S6.pin (a, oe4) (List.mem_append_left _ List.mem_cons_self)
    exact gone_ok (track (S6.unsuite ok) n0 n6 g6 hz4 ⟨_, hd4⟩ nL nP) hN hi hln fun s7 J7 => ⟨_, _, J7, q6 n6⟩
  | ret u => obtain ⟨_, _, _, _, _, q⟩ := hsp; exact q.elim
  | brk => obtain ⟨_, _, _, q⟩ := hsp; exact q.elim
  | cont => obtain ⟨_, _, _, q⟩ := hsp; exact q.elim
end
end Z
namespace Z
open PySem PySem.Spec PyProof.Rows L2 M
section
variable {X : Cx}
/-- isinstance(x, C) of a kept one -/
def rIsK (K : PySem.W.Frag) : List V → Hp → VK → Prop := fun xs H Q => ∃ (a D : Addr) (d : Option Addr) (c : V) (cv : Value) (b : Bool), xs = [.ref a, c] ∧ H a = some (ExK (.ref D) d a) ∧ (d = none ∨ ∃ dx fs, d = some dx ∧ H dx = some (.xd fs)) ∧ ExcC K D ∧ (∀ u, RelV c u → u = cv) ∧ PySem.W.kitOne K (.ref D) cv = some b ∧ Q (.bl b) H
theorem call_isK {K : PySem.W.Frag} (hK : X.K = K) : CallR X (.builtin "isinstance") (rIsK K) := by
  subst hK
  intro pins s σ H xs us Q I r h
  obtain ⟨a, D, d, c, cv, b, rfl, hx, hd, C, hcv, e, q⟩ := h
  obtain ⟨u1, u2, rfl, r1, r2⟩ := vals2 r
  cases r1
  cases hcv _ r2
  obtain ⟨⟨oe, g, hz, fs, hv⟩, _⟩ : ObjOk X.prog X.w H s.heap a (ExK (.ref D) d a) := I.hok a _ hx
  have J : ∃ od, PySem.W.InstAt s.heap a oe D od := by
    rcases hd with rfl | ⟨dx, fs', rfl, hdx⟩
    · refine ⟨none, ?_⟩
      cases oe
      obtain ⟨z1, z2⟩ := hz
      cases z1; cases z2; cases hv
      exact ⟨g, rfl, rfl, trivial⟩
    · obtain ⟨mA, hns, hr⟩ : ObjOk X.prog X.w H s.heap dx (.xd fs') := I.hok dx _ hdx
      obtain ⟨od, ho, hl⟩ := lookIn_ns hns
      exact ⟨some od, g, hz.1, by unfold PySem.W.notCls; rw [hv] <;> rfl, by rw [hz.2]; exact ho⟩
  obtain ⟨od, J⟩ := J
  obtain ⟨cdD, hcD, _⟩ := PySem.W.any_some C.hd
  exact PySem.W.kia_one (PySem.W.kitx_exc (by rw [hcD]; rfl) C.hg C.hk C.hs C.ha C.hn C.ht C.hm) I.kIn J e (fun z => nomatch z) fun tk => ⟨.bl b, H, I.tok tk, rfl, q⟩
/-- x.f of a kept one -/
def tXk (K : PySem.W.Frag) (n : Str) (te : TE) : TE := fun σ H Q => te σ H fun x H1 => ∃ (a C : Addr) (d : Option Addr), x = .ref a ∧ H1 a = some (ExK (.ref C) d a) ∧ XfC K C ∧ PySem.W.findIn K (.ref C) n = some none ∧ ∃ (dd : Addr) (fs : List (Str × V)) (v : V), d = some dd ∧ H1 dd = some (.xd fs) ∧ fs.lookup n = some v ∧ Q v H1
theorem pe_xk {e : Expr} {te : TE} {pos : Pos} {n : Str} (he : PE X e te) (hb : attributeBase e n X.env (eval e X.env) = eval e X.env := by rfl) : PE X (.Attribute e n pos) (tXk X.K n te) := by
  refine ⟨fun pins s σ H Q I h => ?_⟩
  refine attr_of hb (thn (he.run pins s σ H _ I h) fun u s1 hh => ?_)
  obtain ⟨x, H1, I1, rx, a, C, d, ex, hk, T, hno, dd, fs, v, ed, ea, l, q⟩ := hh
  subst ex
  obtain rfl : u = Value.ref a := rx
  subst ed
  obtain ⟨⟨oe, ha, hz, vs, hd⟩, _⟩ : ObjOk X.prog X.w H1 s1.heap a (ExK (.ref C) (some dd) a) := I1.hok a _ hk
  have hx : ObjOk X.prog X.w H1 s1.heap dd (.xd fs) := I1.hok dd _ ea
  obtain ⟨mA, hns, hr⟩ := hx
  obtain ⟨od, ho, hl⟩ := lookIn_ns hns
  obtain ⟨u, hu, ru⟩ := RelO.some_of (v := v) (o := mA n) (by rw [← l]; exact hr n)
  have J : PySem.W.InstAt s1.heap a oe C (some od) := ⟨ha, hz.1, by unfold PySem.W.notCls; rw [hd] <;> rfl, by rw [hz.2]; exact ho⟩
  exact HandSPX.exc_get I1.kIn J T.ga T.gg T.exC (PySem.W.findObj_own T.hdC hno rfl (by rw [hl, hu])) (handed_of ru) ⟨v, H1, I1.tok _, ru, q⟩
end
end Z
namespace M
open PySem PySem.Spec PyProof.Rows L2 Z
/-- try: bd / except C as e: x = e, all that bd raises is caught (i: e's slot, j: x's) -/
def mTryK (k : String → Bool) (i j : Nat) (bd : MS) : MS := fun N s h => bd { N with ex := fun s1 c fs h1 => k c = true ∧ i < s1.length ∧ ∃ r, N.nx ((s1.set j (some (.ref r (h1 r).length))).set i none) (h1.new r (.exn c fs)) } s h
/-- what a value is as an exception -/
def exnO (h : MH) (d : D) : Option (String × List (String × D)) := match d with
  | .ref r i => match h.at r i with | some (.exn c fs) => some (c, fs) | _ => none
  | _ => none
def mIsX (ce : String) (a : ME) : ME := fun s h X Q => a s h X fun d h1 => match exnO h1 d with | some (c, _) => Q (.bl (isSub c ce)) h1 | none => False
def mFldX (c' f : String) (a : ME) : ME := fun s h X Q => a s h X fun d h1 => match exnO h1 d with | some (c, fs) => c = c' ∧ (match fs.lookup f with | some v => Q v h1 | none => False) | none => False
section
variable {X : Cx} {G : Gb} {W : WX} {w : Wd} {h : MH}
theorem exn_ok {d : D} {v : V} {c : String} {fs : List (String × D)} (sh : SH G w h) (sv : SV G w v d) (e : exnO h d = some (c, fs)) : ∃ p C dx, v = .ref p ∧ w.H p = some (ExK (.ref C) dx p) ∧ G.xc c = some C ∧ XD G w dx fs := by
  unfold exnO at e
  cases sv with
  | @ref r i p q =>
    obtain ⟨o, ho, so⟩ := sh.there q
    simp only [ho] at e
    cases so with
    | exn a b x => cases e; exact ⟨p, _, _, rfl, a, b, x⟩
    | lst a s => cases e
    | ins a b c s => cases e
    | dct a s => cases e
    | dtt a s => cases e
    | dcf a s => cases e
  | _ => cases e
theorem s_trykeep {x n : Str} {cc : Value} {i j : Nat} {k : String → Bool} {body suite : List Stmt} {b₀ : Stmt} {np pos pos' : Pos} {mb : MS} (hca : G.cau = none) (hx : X.ex = []) (hs : X.stack = X.env :: X.outer) (hf : X.env.frame = some X.env.locals) (hN : X.N.Nodup) (hi : X.N[i]? = some n) (hln : X.env.kindOf n = some .local) (hc : Names X x cc) (hK : X.K = G.K)
    (hk : ∀ c C, G.xc c = some C → PySem.W.exmOne G.K (.ref C) cc = some (k c))
    (hb : ∀ (W : WX) (pn : List (Addr × Obj)) (xe : Value → Shared → Prop), Takes (X.tr pn xe) W → PassesOwn (model X.prog X.w) X.A X.env xe → PSs (X.tr pn xe) body (RS G W mb))
    (hsu : ∀ (a : Addr) (oe : Obj) (cls : Value) (d : Option Addr) (pn : List (Addr × Obj)), Zc cls d oe → (∃ vs, oe.data = .fields vs) → PSs (X.suite a ((a, oe) :: pn)) (b₀ :: suite) (tAsg (tVar i) (gName j))) :
    PS X (.Try body [.ExceptHandler (some (.Name x np)) (some n) (b₀ :: suite) pos'] [] [] pos) (RS G W (mTryK k i j mb)) :=
  psI (ps_try_keep (ts := fun _ => tAsg (tVar i) (gName j)) hx hs hf hN hi hln hc hb hsu) fun N σ H ⟨ρ, s, h, Mn, ss, sh, ld, m⟩ => by
    have fr : ∀ j, G.fr j = true := fun j => by unfold Gb.fr; rw [hca]
    refine ⟨ρ, s, h, { Mn with ex := fun s1 c fs h1 => k c = true ∧ i < s1.length ∧ ∃ r, Mn.nx ((s1.set j (some (.ref r (h1 r).length))).set i none) (h1.new r (.exn c fs)) }, ss, sh, ⟨ld.nx, ld.rt, ld.bk, ld.ct, fun w1 s1 σ1 e1 ss1 w2 h2 c C dx fs e2 sh2 hxc xd q => ?_⟩, m⟩
    obtain ⟨kc, hil, r, q⟩ := q
    refine ⟨by rw [hK, hk c C hxc, kc], fun a na => ⟨.ref a, by rw [List.getElem?_set_self (by rw [ss1.1]; exact hil)], fun na2 => ?_⟩⟩
    obtain ⟨le, sh3⟩ := Wd.make (u := ExK (.ref C) dx a) (o := .exn c fs) sh2 r na fun le => .exn upd_same hxc (XD.le xd le)
    have e12 := e1.trans e2
    refine ld.nx ⟨ext w2.ρ (some r) (h2 r).length a, L2.upd w2.H a (ExK (.ref C) dx a)⟩ _ _ _ (e12.trans le) sh3 ?_ q
    have z := (((ss1.le e2).le le).put j (some (.ref a)) (some (.ref r (h2 r).length)) (fun d' e => by cases e; exact ⟨_, rfl, .ref ext_at⟩) (fr j)).wipe i (fr i)
    have cm : ((σ1.set i (some (.ref a))).set j (some (.ref a))).set i none = (σ1.set j (some (.ref a))).set i none := by
      by_cases hij : i = j
      · subst hij; simp only [List.set_set]
      · rw [List.set_comm _ _ hij, List.set_set]
    show SS G _ (((σ1.set i (some (.ref a))).set j (some (.ref a))).set i none) _
    rw [cm]; exact z
theorem m_isx {a : Expr} {ma : ME} {p p2 pos : Pos} {x : Str} {ce : String} {v : V} {cv : Value} (hK : X.K = G.K) (hC : ∀ c C, G.xc c = some C → ExcC G.K C) (hk : ∀ c C, G.xc c = some C → PySem.W.kitOne G.K (.ref C) cv = some (isSub c ce))
    (hg : Gl X "isinstance") (hm : X.mg "isinstance" = none) (hv : bootBuiltins "isinstance" = some (.builtin "isinstance")) (ha : PE X a (RE G W ma)) (hb : PE X (.Name x p2) (tC v)) (hcv : ∀ u, RelV v u → u = cv)
    (hst : starEach [a, .Name x p2] X.env = (false, eval a X.env) :: starEach [.Name x p2] X.env := by rfl) (hpl : (backTo pos (starEach [.Name x p2] X.env)).any (·.1) = false := by rfl) :
    PE X (.Call (.Name "isinstance" p) [a, .Name x p2] [] pos) (RE G W (mIsX ce ma)) :=
  peI (pe_callB (call_isK (K := G.K) hK) hg hm hv (pa_cons (hs := hst) ha (pa_cons hb pa_nil)) (by decide) (by decide) hst hpl) fun σ H Q ⟨ρ, s, h, Y, MQ, ss, sh, lx, lq, m⟩ => ⟨ρ, s, h, Y, _, ss, sh, lx, fun w1 h1 d u e1 sh1 sv q => by
    split at q
    · rename_i c fs hx
      obtain ⟨p, C, dx, rfl, hp, hxc, xd⟩ := exn_ok sh1 sv hx
      refine ⟨p, C, dx, v, cv, isSub c ce, rfl, hp, ?_, hC _ _ hxc, hcv, hk _ _ hxc, lq _ _ _ _ e1 sh1 (.bl _) q⟩
      rcases xd with z | ⟨y, fs', rfl, hy, _, _⟩
      · exact .inl z.1
      · exact .inr ⟨y, fs', rfl, hy.1⟩
    · exact q.elim, m⟩
theorem m_fldx {a : Expr} {ma : ME} {pos : Pos} {c' f : String} {CF : Addr} (hK : X.K = G.K) (T : XfC G.K CF) (hno : PySem.W.findIn G.K (.ref CF) (Str.ofString f) = some none) (hx' : G.xc c' = some CF) (ha : PE X a (RE G W ma)) (hb : attributeBase a (Str.ofString f) X.env (eval a X.env) = eval a X.env := by rfl) :
    PE X (.Attribute a (Str.ofString f) pos) (RE G W (mFldX c' f ma)) :=
  peI (pe_xk ha hb) fun σ H Q ⟨ρ, s, h, Y, MQ, ss, sh, lx, lq, m⟩ => ⟨ρ, s, h, Y, _, ss, sh, lx, fun w1 h1 d u e1 sh1 sv q => by
    split at q
    · rename_i c fs hx
      obtain ⟨p, C, dx, rfl, hp, hxc, xd⟩ := exn_ok sh1 sv hx
      obtain ⟨rfl, q⟩ := q
      rw [hx'] at hxc; cases hxc
      split at q
      · rename_i dv hd
        rcases xd with ⟨_, rfl⟩ | ⟨y, fs', rfl, hy, _, sf⟩
        · cases hd
        · obtain ⟨v, hv, sv2⟩ := sf.lookup hd
          exact ⟨p, CF, _, rfl, hp, by rw [hK]; exact T, by rw [hK]; exact hno, y, fs', v, rfl, hy.1, hv, lq _ _ _ _ e1 sh1 sv2 q⟩
      · exact q.elim
    · exact q.elim, m⟩
end
/-! the walk -/
class KX2 where k : (String → List (String × D) → MH → Prop)
section
variable {s : MSt} {h : MH} {X : MX} {Q : MK} {K : K2} {d : D}
def isxm (ce : String) (d : D) (h : MH) [K : K2] : Prop := match exnO h d with | some (c, _) => K.k (.bl (isSub c ce)) h | none => False
def fldxm (c' f : String) (d : D) (h : MH) [K : K2] : Prop := match exnO h d with | some (c, fs) => c = c' ∧ (match fs.lookup f with | some v => K.k v h | none => False) | none => False
theorem e_isx {ce : String} {a : ME} : mIsX ce a s h X Q = (a s h X fun d h1 => @isxm ce d h1 ⟨Q⟩) := hide rfl
theorem e_fldx {c' f : String} {a : ME} : mFldX c' f a s h X Q = (a s h X fun d h1 => @fldxm c' f d h1 ⟨Q⟩) := hide rfl
theorem isx_of {ce c : String} {fs : List (String × D)} {r i : Nat} (e : (h r)[i]? = some (.exn c fs)) (q : K.k (.bl (isSub c ce)) h) : @isxm ce (.ref r i) h K := by
  unfold isxm exnO; dsimp only; rw [show h.at r i = _ from e]; exact q
theorem fldx_of {c f : String} {fs : List (String × D)} {v : D} {r i : Nat} (e : (h r)[i]? = some (.exn c fs)) (l : fs.lookup f = some v) (q : K.k v h) : @fldxm c f (.ref r i) h K := by
  unfold fldxm exnO; dsimp only; rw [show h.at r i = _ from e]; dsimp only; rw [l]; exact ⟨rfl, q⟩
end
def trkm (k : String → Bool) (i j : Nat) (nx : MSt → MH → Prop) (s1 : MSt) (c : String) (fs : List (String × D)) (h1 : MH) : Prop := k c = true ∧ i < s1.length ∧ ∃ r, nx ((s1.set j (some (.ref r (h1 r).length))).set i none) (h1.new r (.exn c fs))
theorem e_tryk {k : String → Bool} {i j : Nat} {x : MS} {nx bk ct : MSt → MH → Prop} {rt : MK} {ex : MSt → MX} {s : MSt} {h : MH} : mTryK k i j x ⟨nx, rt, bk, ct, ex⟩ s h = (x ⟨nx, rt, bk, ct, fun s1 c fs h1 => trkm k i j nx s1 c fs h1⟩ s h) := hide rfl
theorem trk_of {k : String → Bool} {i j : Nat} {nx : MSt → MH → Prop} {s1 : MSt} {c : String} {fs : List (String × D)} {h1 : MH} (r : Nat) (e : k c = true) (hi : i < s1.length) (q : nx ((s1.set j (some (.ref r (h1 r).length))).set i none) (h1.new r (.exn c fs))) : trkm k i j nx s1 c fs h1 := ⟨e, hi, r, q⟩
end M

set_option Elab.async false
set_option linter.all false
set_option maxRecDepth 100000
set_option maxHeartbeats 4000000
set_option checkBinderAnnotations false
local macro_rules | `(tactic| simp? only [$ls,*]) => `(tactic| simp only [↓M.e_var, ↓M.e_c, ↓M.e_op, ↓M.e_un, ↓M.e_nil, ↓M.e_cons, ↓M.e_cb, ↓M.e_fn, ↓M.e_mt, ↓M.e_new, ↓M.e_isB, ↓M.e_B, ↓M.e_and, ↓M.e_or, ↓M.e_not, ↓M.e_andV, ↓M.e_orV, ↓M.e_notV, ↓M.e_if, ↓M.e_chain, ↓M.e_next, ↓M.e_seq, ↓M.e_brk, ↓M.e_cont, ↓M.e_drop, ↓M.e_ret, ↓M.e_retN, ↓M.e_ifS, ↓M.e_set, ↓M.e_asg, ↓M.e_aug, ↓M.e_setix, ↓M.e_augL, ↓M.e_fld, ↓M.e_sfld, ↓M.e_sfldaug, ↓M.e_tup, ↓M.e_lst, ↓M.e_lm, ↓M.e_isk, ↓M.e_sl, ↓M.e_nopart, ↓M.e_for, ↓M.e_while, ↓M.e_lc, ↓M.e_yes, ↓M.e_raise, ↓M.e_try, ↓M.e_tryas, ↓M.e_xf, ↓M.e_xi, ↓M.e_fe, ↓M.e_NX, ↓M.e_part, ↓M.o_addI, ↓M.o_addLL, ↓M.o_addS, ↓M.o_addI', ↓M.o_sub, ↓M.o_mul, ↓M.o_repL, ↓M.o_div, ↓M.o_mod, ↓M.o_shr, ↓M.o_shl, ↓M.o_pow, ↓M.o_band, ↓M.o_bor, ↓M.o_bxor, ↓M.o_lt, ↓M.o_le, ↓M.o_gt, ↓M.o_ge, ↓M.o_eqI, ↓M.o_neI, ↓M.o_eqB, ↓M.o_neB, ↓M.o_eqS, ↓M.o_neS, ↓M.o_is, ↓M.o_isnot, ↓M.o_isB, ↓M.o_isnotB, ↓M.o_neg, ↓M.o_ixL, ↓M.o_ixR, ↓M.o_ixT, ↓M.n_non, ↓M.n_bl, ↓M.n_int, ↓M.n_str, ↓M.n_tup, ↓M.n_lst, ↓M.n_rol, ↓M.n_ref, ↓M.has_bool_non, ↓M.has_bool_bool, ↓M.has_bool_int, ↓M.has_bool_str, ↓M.has_bool_tuple, ↓M.has_bool_list, ↓M.has_bool_dict, ↓M.has_int_non, ↓M.has_int_bool, ↓M.has_int_int, ↓M.has_int_str, ↓M.has_int_tuple, ↓M.has_int_list, ↓M.has_int_dict, ↓M.has_str_non, ↓M.has_str_bool, ↓M.has_str_int, ↓M.has_str_str, ↓M.has_str_tuple, ↓M.has_str_list, ↓M.has_str_dict, ↓M.has_tuple_non, ↓M.has_tuple_bool, ↓M.has_tuple_int, ↓M.has_tuple_str, ↓M.has_tuple_tuple, ↓M.has_tuple_list, ↓M.has_tuple_dict, ↓M.has_list_non, ↓M.has_list_bool, ↓M.has_list_int, ↓M.has_list_str, ↓M.has_list_tuple, ↓M.has_list_list, ↓M.has_list_dict, ↓M.has_dict_non, ↓M.has_dict_bool, ↓M.has_dict_int, ↓M.has_dict_str, ↓M.has_dict_tuple, ↓M.has_dict_list, ↓M.has_dict_dict, ↓M.c_lenL, ↓M.c_lenR, ↓M.c_lenT, ↓M.c_lenS, ↓M.c_listL, ↓M.c_listR, ↓M.c_listT, ↓M.c_tupT, ↓M.c_int, ↓M.c_intB, ↓M.c_strI, ↓M.c_strS, ↓M.c_abs, ↓M.c_min, ↓M.c_max, ↓M.c_divmod, ↓M.c_sum, ↓M.c_all, ↓M.c_any, ↓M.sl_L, ↓M.sl_R, ↓M.sl_T, ↓M.i_miL, ↓M.im_L, ↓M.im_R, ↓M.i_miT, ↓M.itm_T, ↓M.i_miR2, ↓M.irm_I, ↓M.i_miR1, ↓M.ir1_I, ↓M.i_miE, ↓M.iem_L, ↓M.iem_R, ↓M.mite_t, ↓M.mite_f, ↓M.optm_some, ↓M.slotm_some, ↓M.cndm_t, M.mite_t, M.mite_f, M.optm_some, M.slotm_some, M.cndm_t, List.map_cons, List.map_nil, List.length_cons, List.length_nil, List.replicate_succ, List.replicate_zero, List.cons_append, List.nil_append, List.getElem?_cons_zero, List.getElem?_cons_succ, List.set_cons_zero, List.set_cons_succ, Nat.reduceSub, Nat.reduceAdd, Nat.reduceLeDiff, Nat.zero_add, Nat.add_one_sub_one, Nat.reduceEqDiff, Int.reduceLT, Int.reduceLE, Int.reduceNeg, decide_true, decide_false, Bool.not_true, Bool.not_false, M.ty_non, M.ty_bl, M.ty_int, M.ty_str, M.ty_tup, M.ty_lst, M.ty_rol, M.mWipe, M.mulOk_l, M.mulOk_r, reduceCtorEq, Bool.false_eq_true, M.seqI, M.itemsL, M.properL, M.liveL, String.reduceEq, String.reduceBEq, M.S_inj, M.lk_same, M.lk_ne, M.pd_nil, M.pd_same, M.pd_ne, true_and, and_true, M.divOk, Int.reducePow, Nat.reduceLT, Int.reduceToNat, Nat.reduceMul, List.flatten_cons, List.flatten_nil, M.isSub, M.catch_, Bool.or_false, Bool.false_or, Bool.true_or, Bool.or_true, List.append_nil, and_self, M.deq_LL, M.deq_LR, M.deq_RL, M.deq_TT, M.deq_II, M.deq_BB, M.deq_SS, M.deq_NN, M.deqs_nil, M.deqs_cons, M.deqs_nc, M.deqs_cn, Int.reduceEq, M.atI_0, M.atI_1, M.atI_2, M.atI_3, Bool.and_true, Bool.true_and, ↓M.e_raiseF, ↓M.e_xi2, ↓M.e_unb, ↓M.fldD_ref, ↓M.fldO_ins, ↓M.clsD_ref, ↓M.clsO_ins, ↓M.lstO_lst, ↓M.itemsL_ref, ↓M.seqI_ref, ↓M.isL_lst, ↓M.isL_rol, ↓M.isL_ref, ↓M.isLO_lst, ↓M.tyOf_ref, ↓M.tyO_lst, ↓M.c_lenO, ↓M.c_listO, ↓M.c_tupO, ↓M.c_tupL, ↓M.c_tupR, ↓M.o_ixO2, ↓M.getO, ↓M.setO, ↓M.insO_ins, ↓M.sfO, ↓M.appO, ↓M.clearO, ↓M.revO, ↓M.popO, ↓M.popAtO, ↓M.im_ref, ↓M.imO_lst, ↓M.iem_ref, ↓M.sl_O, ↓M.idxL, ↓M.idxO, ↓M.cntO, ↓M.in_L, ↓M.in_R, ↓M.in_T, ↓M.in_O, ↓M.nin_L, ↓M.nin_T, ↓M.nin_O, ↓M.flat_non, ↓M.flat_bl, ↓M.flat_int, ↓M.flat_str, ↓M.eqF_II, ↓M.eqF_SS, ↓M.eqF_BB, ↓M.eqF_NN, ↓M.eqF_NI, ↓M.eqF_IN, ↓M.put_ap, ↓M.upd_put', ↓M.new_put', ↓M.put_put', ↓M.set_at, ↓M.snoc_last, ↓M.at_at, ↓M.ne_at, ↓M.ne_at', ↓M.cut_take, ↓M.cut_drop, ↓M.cut_drop1, ↓M.cut_td, ↓M.cut_takeN, ↓M.cut_dropN, ↓M.cut_tdN, ↓M.cut_all, reduceIte, eq_self, Nat.add_eq_left, Nat.add_left_cancel_iff, List.length_set, Option.map_some, Option.map_none, List.length_append, List.length_map, List.length_take, List.length_drop, List.zip_cons_cons, List.zip_nil_left, List.reverse_cons, List.reverse_nil, ite_true, ite_false, $ls,*])
local macro_rules | `(tactic| simp_all? only [$ls,*]) => `(tactic| simp only [↓M.e_var, ↓M.e_c, ↓M.e_op, ↓M.e_un, ↓M.e_nil, ↓M.e_cons, ↓M.e_cb, ↓M.e_fn, ↓M.e_mt, ↓M.e_new, ↓M.e_isB, ↓M.e_B, ↓M.e_and, ↓M.e_or, ↓M.e_not, ↓M.e_andV, ↓M.e_orV, ↓M.e_notV, ↓M.e_if, ↓M.e_chain, ↓M.e_next, ↓M.e_seq, ↓M.e_brk, ↓M.e_cont, ↓M.e_drop, ↓M.e_ret, ↓M.e_retN, ↓M.e_ifS, ↓M.e_set, ↓M.e_asg, ↓M.e_aug, ↓M.e_setix, ↓M.e_augL, ↓M.e_fld, ↓M.e_sfld, ↓M.e_sfldaug, ↓M.e_tup, ↓M.e_lst, ↓M.e_lm, ↓M.e_isk, ↓M.e_sl, ↓M.e_nopart, ↓M.e_for, ↓M.e_while, ↓M.e_lc, ↓M.e_yes, ↓M.e_raise, ↓M.e_try, ↓M.e_tryas, ↓M.e_xf, ↓M.e_xi, ↓M.e_fe, ↓M.e_NX, ↓M.e_part, ↓M.o_addI, ↓M.o_addLL, ↓M.o_addS, ↓M.o_addI', ↓M.o_sub, ↓M.o_mul, ↓M.o_repL, ↓M.o_div, ↓M.o_mod, ↓M.o_shr, ↓M.o_shl, ↓M.o_pow, ↓M.o_band, ↓M.o_bor, ↓M.o_bxor, ↓M.o_lt, ↓M.o_le, ↓M.o_gt, ↓M.o_ge, ↓M.o_eqI, ↓M.o_neI, ↓M.o_eqB, ↓M.o_neB, ↓M.o_eqS, ↓M.o_neS, ↓M.o_is, ↓M.o_isnot, ↓M.o_isB, ↓M.o_isnotB, ↓M.o_neg, ↓M.o_ixL, ↓M.o_ixR, ↓M.o_ixT, ↓M.n_non, ↓M.n_bl, ↓M.n_int, ↓M.n_str, ↓M.n_tup, ↓M.n_lst, ↓M.n_rol, ↓M.n_ref, ↓M.has_bool_non, ↓M.has_bool_bool, ↓M.has_bool_int, ↓M.has_bool_str, ↓M.has_bool_tuple, ↓M.has_bool_list, ↓M.has_bool_dict, ↓M.has_int_non, ↓M.has_int_bool, ↓M.has_int_int, ↓M.has_int_str, ↓M.has_int_tuple, ↓M.has_int_list, ↓M.has_int_dict, ↓M.has_str_non, ↓M.has_str_bool, ↓M.has_str_int, ↓M.has_str_str, ↓M.has_str_tuple, ↓M.has_str_list, ↓M.has_str_dict, ↓M.has_tuple_non, ↓M.has_tuple_bool, ↓M.has_tuple_int, ↓M.has_tuple_str, ↓M.has_tuple_tuple, ↓M.has_tuple_list, ↓M.has_tuple_dict, ↓M.has_list_non, ↓M.has_list_bool, ↓M.has_list_int, ↓M.has_list_str, ↓M.has_list_tuple, ↓M.has_list_list, ↓M.has_list_dict, ↓M.has_dict_non, ↓M.has_dict_bool, ↓M.has_dict_int, ↓M.has_dict_str, ↓M.has_dict_tuple, ↓M.has_dict_list, ↓M.has_dict_dict, ↓M.c_lenL, ↓M.c_lenR, ↓M.c_lenT, ↓M.c_lenS, ↓M.c_listL, ↓M.c_listR, ↓M.c_listT, ↓M.c_tupT, ↓M.c_int, ↓M.c_intB, ↓M.c_strI, ↓M.c_strS, ↓M.c_abs, ↓M.c_min, ↓M.c_max, ↓M.c_divmod, ↓M.c_sum, ↓M.c_all, ↓M.c_any, ↓M.sl_L, ↓M.sl_R, ↓M.sl_T, ↓M.i_miL, ↓M.im_L, ↓M.im_R, ↓M.i_miT, ↓M.itm_T, ↓M.i_miR2, ↓M.irm_I, ↓M.i_miR1, ↓M.ir1_I, ↓M.i_miE, ↓M.iem_L, ↓M.iem_R, ↓M.mite_t, ↓M.mite_f, ↓M.optm_some, ↓M.slotm_some, ↓M.cndm_t, M.mite_t, M.mite_f, M.optm_some, M.slotm_some, M.cndm_t, List.map_cons, List.map_nil, List.length_cons, List.length_nil, List.replicate_succ, List.replicate_zero, List.cons_append, List.nil_append, List.getElem?_cons_zero, List.getElem?_cons_succ, List.set_cons_zero, List.set_cons_succ, Nat.reduceSub, Nat.reduceAdd, Nat.reduceLeDiff, Nat.zero_add, Nat.add_one_sub_one, Nat.reduceEqDiff, Int.reduceLT, Int.reduceLE, Int.reduceNeg, decide_true, decide_false, Bool.not_true, Bool.not_false, M.ty_non, M.ty_bl, M.ty_int, M.ty_str, M.ty_tup, M.ty_lst, M.ty_rol, M.mWipe, M.mulOk_l, M.mulOk_r, reduceCtorEq, Bool.false_eq_true, M.seqI, M.itemsL, M.properL, M.liveL, String.reduceEq, String.reduceBEq, M.S_inj, M.lk_same, M.lk_ne, M.pd_nil, M.pd_same, M.pd_ne, true_and, and_true, M.divOk, Int.reducePow, Nat.reduceLT, Int.reduceToNat, Nat.reduceMul, List.flatten_cons, List.flatten_nil, M.isSub, M.catch_, Bool.or_false, Bool.false_or, Bool.true_or, Bool.or_true, List.append_nil, and_self, M.deq_LL, M.deq_LR, M.deq_RL, M.deq_TT, M.deq_II, M.deq_BB, M.deq_SS, M.deq_NN, M.deqs_nil, M.deqs_cons, M.deqs_nc, M.deqs_cn, Int.reduceEq, M.atI_0, M.atI_1, M.atI_2, M.atI_3, Bool.and_true, Bool.true_and, $ls,*])
namespace MP
open PySem PySem.Spec PyProof.Rows L2 Z M
def mb_is_whole : MS :=
  (mRet (mAndV (mIsK .int (mVar 0)) (mNotV (mIsK .bool (mVar 0)))))
theorem mx_is_whole : ∃ m : MDef, m = mBody 1 mb_is_whole := ⟨_, rfl⟩
noncomputable def m_is_whole : MDef := mx_is_whole.choose
theorem mq_is_whole : m_is_whole = mBody 1 mb_is_whole := mx_is_whole.choose_spec
theorem e_m_is_whole {a0 : D} {h : MH} {X : MX} {Q : MK} : m_is_whole [a0] h X Q = (mRet (mAndV (mIsK .int (mVar 0)) (mNotV (mIsK .bool (mVar 0))))) ⟨fun _ h1 => Q .non h1, Q, fun _ _ => False, fun _ _ => False, fun _ => X⟩ [some a0] h := by rw [mq_is_whole]; rfl
def mb_is_word : MS :=
  (mRet (mAndV (mFn 1 m_is_whole (mCons (mVar 0) mNil)) (mChain opLe opLt (mC (.int 0)) (mVar 0) (mC (.int 281474976710656)))))
theorem mx_is_word : ∃ m : MDef, m = mBody 1 mb_is_word := ⟨_, rfl⟩
noncomputable def m_is_word : MDef := mx_is_word.choose
theorem mq_is_word : m_is_word = mBody 1 mb_is_word := mx_is_word.choose_spec
theorem e_m_is_word {a0 : D} {h : MH} {X : MX} {Q : MK} : m_is_word [a0] h X Q = (mRet (mAndV (mFn 1 m_is_whole (mCons (mVar 0) mNil)) (mChain opLe opLt (mC (.int 0)) (mVar 0) (mC (.int 281474976710656))))) ⟨fun _ h1 => Q .non h1, Q, fun _ _ => False, fun _ _ => False, fun _ => X⟩ [some a0] h := by rw [mq_is_word]; rfl
def mb_is_below : MS :=
  (mRet (mAndV (mFn 1 m_is_whole (mCons (mVar 0) mNil)) (mChain opLe opLt (mC (.int 0)) (mVar 0) (mVar 1))))
theorem mx_is_below : ∃ m : MDef, m = mBody 2 mb_is_below := ⟨_, rfl⟩
noncomputable def m_is_below : MDef := mx_is_below.choose
theorem mq_is_below : m_is_below = mBody 2 mb_is_below := mx_is_below.choose_spec
theorem e_m_is_below {a0 a1 : D} {h : MH} {X : MX} {Q : MK} : m_is_below [a0, a1] h X Q = (mRet (mAndV (mFn 1 m_is_whole (mCons (mVar 0) mNil)) (mChain opLe opLt (mC (.int 0)) (mVar 0) (mVar 1)))) ⟨fun _ h1 => Q .non h1, Q, fun _ _ => False, fun _ _ => False, fun _ => X⟩ [some a0, some a1] h := by rw [mq_is_below]; rfl
def mb_are_words : MS :=
  (mRet (mAndV (mIsK .list (mVar 0)) (mAndV (mOp opEq (mCB cLen (mCons (mVar 0) mNil)) (mC (.int 8))) (mCB cAll (mCons (mLc (miL (mVar 0)) (.nm 1) mYes (mFn 1 m_is_word (mCons (mVar 1) mNil)) [1]) mNil)))))
theorem mx_are_words : ∃ m : MDef, m = mBody 2 mb_are_words := ⟨_, rfl⟩
noncomputable def m_are_words : MDef := mx_are_words.choose
theorem mq_are_words : m_are_words = mBody 2 mb_are_words := mx_are_words.choose_spec
theorem e_m_are_words {a0 : D} {h : MH} {X : MX} {Q : MK} : m_are_words [a0] h X Q = (mRet (mAndV (mIsK .list (mVar 0)) (mAndV (mOp opEq (mCB cLen (mCons (mVar 0) mNil)) (mC (.int 8))) (mCB cAll (mCons (mLc (miL (mVar 0)) (.nm 1) mYes (mFn 1 m_is_word (mCons (mVar 1) mNil)) [1]) mNil))))) ⟨fun _ h1 => Q .non h1, Q, fun _ _ => False, fun _ _ => False, fun _ => X⟩ [some a0, none] h := by rw [mq_are_words]; rfl
def mb_is_image : MS :=
  (mSeq (mIfS (mOr (mNot (mB (mIsK .list (mVar 0)))) (mOr (mB (mOp opLt (mCB cLen (mCons (mVar 0) mNil)) (mC (.int 1)))) (mB (mOp opGt (mCB cLen (mCons (mVar 0) mNil)) (mC (.int 24)))))) (mRet (mC (.bl false))) mNext)
  (mRet (mCB cAll (mCons (mLc (miL (mVar 0)) (.nm 1) mYes (mOrV (mOp opIs (mVar 1) (mC .non)) (mFn 1 m_are_words (mCons (mVar 1) mNil))) [1]) mNil))))
theorem mx_is_image : ∃ m : MDef, m = mBody 2 mb_is_image := ⟨_, rfl⟩
noncomputable def m_is_image : MDef := mx_is_image.choose
theorem mq_is_image : m_is_image = mBody 2 mb_is_image := mx_is_image.choose_spec
theorem e_m_is_image {a0 : D} {h : MH} {X : MX} {Q : MK} : m_is_image [a0] h X Q = (mSeq (mIfS (mOr (mNot (mB (mIsK .list (mVar 0)))) (mOr (mB (mOp opLt (mCB cLen (mCons (mVar 0) mNil)) (mC (.int 1)))) (mB (mOp opGt (mCB cLen (mCons (mVar 0) mNil)) (mC (.int 24)))))) (mRet (mC (.bl false))) mNext)
  (mRet (mCB cAll (mCons (mLc (miL (mVar 0)) (.nm 1) mYes (mOrV (mOp opIs (mVar 1) (mC .non)) (mFn 1 m_are_words (mCons (mVar 1) mNil))) [1]) mNil)))) ⟨fun _ h1 => Q .non h1, Q, fun _ _ => False, fun _ _ => False, fun _ => X⟩ [some a0, none] h := by rw [mq_is_image]; rfl
/-! words, bounds -/
def Ty.whole : M.Ty → Bool | .int => true | _ => false
def wordD : D → Bool | .int i => decide (0 ≤ i) && decide (i < 281474976710656) | _ => false
def belowD (n : Int) : D → Bool | .int i => decide (0 ≤ i) && decide (i < n) | _ => false
theorem tyOf_int {h : MH} {x : D} (e : tyOf h x = some .int) : ∃ i, x = .int i := by
  cases x with
  | int i => exact ⟨_, rfl⟩
  | ref r i => simp only [tyOf] at e; generalize h.at r i = o at e; cases o with | none => cases e | some o => cases o <;> cases e
  | _ => cases e
section
variable {h : MH} {X : KX} {K : K2} {x : D} {n : Int}
local macro_rules | `(tactic| walk_at "go") => `(tactic| simp? only [↓e_m_is_whole, ↓e_m_is_word, ↓e_m_is_below, ↓e_m_are_words, ↓e_m_is_image])
local macro_rules | `(tactic| walk_at "en") => `(tactic| (unfold callm; walk_at "go"))
local macro_rules | `(tactic| walk_at "run") => `(tactic| repeat (first | walk_at "go" | walk_at "sp"))
local macro_rules | `(tactic| walk_at "rut") => `(tactic| repeat (first | walk_at "go" | walk_at "sp" | with_reducible refine M.mk_tree ?_))

local macro_rules | `(tactic| walk_at "as") => `(tactic| first | assumption | (simp only [M.put_ap, M.put_put', reduceIte, eq_self, Nat.reduceEqDiff, Nat.add_eq_left, Nat.add_left_cancel_iff, ite_true, ite_false]; assumption))
local macro_rules | `(tactic| walk_at "side") => `(tactic| first | assumption | omega | (simp; done) | decide | (simp; omega))
local macro_rules | `(tactic| walk_at "sp") => `(tactic| ((with_reducible refine M.optm_of (o := Pt.bind ?p ?d ?s) (a := ?v) ?e ?_); (case e => exact rfl)))
local macro_rules | `(tactic| walk_at "sp") => `(tactic| first | (with_reducible refine M.cndm_of (M.mulOk_of ?a ?b) ?_; (case a => omega); (case b => omega)) | (with_reducible refine M.cndm_of (M.mulOk_of2 ?a ?b) ?_; (case a => omega); (case b => omega)))
local macro_rules | `(tactic| walk_at "sp") => `(tactic| ((with_reducible refine M.eq_selfL' ?a ?_); (case a => first | rfl | (simp only [List.all_cons, List.all_nil, Bool.and_true, Bool.true_and, M.dat_non, M.dat_bl, M.dat_int, M.dat_str, M.dat_tup, M.dat_lst]; done) | (simp only [List.all_cons, List.all_nil, Bool.and_true, Bool.true_and, M.dat_non, M.dat_bl, M.dat_int, M.dat_str, M.dat_tup, M.dat_lst]; decide +kernel))))
local macro_rules | `(tactic| walk_at "sp") => `(tactic| ((with_reducible refine M.ne_selfL' ?a ?_); (case a => first | rfl | (simp only [List.all_cons, List.all_nil, Bool.and_true, Bool.true_and, M.dat_non, M.dat_bl, M.dat_int, M.dat_str, M.dat_tup, M.dat_lst]; done) | (simp only [List.all_cons, List.all_nil, Bool.and_true, Bool.true_and, M.dat_non, M.dat_bl, M.dat_int, M.dat_str, M.dat_tup, M.dat_lst]; decide +kernel))))
local macro_rules | `(tactic| walk_at "sp") => `(tactic| ((with_reducible refine M.eq_selfT' ?a ?_); (case a => first | rfl | (simp only [List.all_cons, List.all_nil, Bool.and_true, Bool.true_and, M.dat_non, M.dat_bl, M.dat_int, M.dat_str, M.dat_tup, M.dat_lst]; done) | (simp only [List.all_cons, List.all_nil, Bool.and_true, Bool.true_and, M.dat_non, M.dat_bl, M.dat_int, M.dat_str, M.dat_tup, M.dat_lst]; decide +kernel))))
local macro_rules | `(tactic| walk_at "sp") => `(tactic| ((with_reducible refine M.ne_selfT' ?a ?_); (case a => first | rfl | (simp only [List.all_cons, List.all_nil, Bool.and_true, Bool.true_and, M.dat_non, M.dat_bl, M.dat_int, M.dat_str, M.dat_tup, M.dat_lst]; done) | (simp only [List.all_cons, List.all_nil, Bool.and_true, Bool.true_and, M.dat_non, M.dat_bl, M.dat_int, M.dat_str, M.dat_tup, M.dat_lst]; decide +kernel))))
local macro_rules | `(tactic| walk_at "sp") => `(tactic| ((with_reducible refine M.eq_nilL' ?a ?_); (case a => first | rfl | (simp only [List.all_cons, List.all_nil, Bool.and_true, Bool.true_and, M.dat_non, M.dat_bl, M.dat_int, M.dat_str, M.dat_tup, M.dat_lst]; done) | (simp only [List.all_cons, List.all_nil, Bool.and_true, Bool.true_and, M.dat_non, M.dat_bl, M.dat_int, M.dat_str, M.dat_tup, M.dat_lst]; decide +kernel))))
local macro_rules | `(tactic| walk_at "sp") => `(tactic| ((with_reducible refine M.ne_nilL' ?a ?_); (case a => first | rfl | (simp only [List.all_cons, List.all_nil, Bool.and_true, Bool.true_and, M.dat_non, M.dat_bl, M.dat_int, M.dat_str, M.dat_tup, M.dat_lst]; done) | (simp only [List.all_cons, List.all_nil, Bool.and_true, Bool.true_and, M.dat_non, M.dat_bl, M.dat_int, M.dat_str, M.dat_tup, M.dat_lst]; decide +kernel))))
local macro_rules | `(tactic| walk_at "sp") => `(tactic| first | (with_reducible refine M.cndm_of ?a ?_; (case a => walk_at "side")) | (with_reducible refine M.mite_dt ?a ?_; (case a => omega)) | (with_reducible refine M.mite_df ?a ?_; (case a => omega)) | (with_reducible refine M.mite_nt ?a ?_; (case a => omega)) | (with_reducible refine M.mite_nf ?a ?_; (case a => omega)))
local macro_rules | `(tactic| walk_at "ms") => `(tactic| simp_all? only [↓e_m_is_whole, ↓e_m_is_word, ↓e_m_is_below, ↓e_m_are_words, ↓e_m_is_image])
local macro_rules | `(tactic| walk_at "mo") => `(tactic| (unfold callm; walk_at "ms"))
local macro_rules | `(tactic| walk_at "hp") => `(tactic| simp only [MH.at, MH.put, MH.new, MH.upd, reduceIte, Nat.reduceEqDiff])
theorem is_whole_eq : @callm m_is_whole [x] h X K = @optm _ (tyOf h x) ⟨fun t => K.k (.bl (Ty.whole t)) h⟩ := by
  walk_at "mo"
  cases hx : tyOf h x with
  | none => rfl
  | some t => cases t <;> walk_at "ms" <;> (try rw [hx]) <;> (try walk_at "ms") <;> rfl
local macro_rules | `(tactic| walk_at "go") => `(tactic| simp? only [↓is_whole_eq, ↓Ty.whole, ↓e_m_is_whole, ↓e_m_is_word, ↓e_m_is_below, ↓e_m_are_words, ↓e_m_is_image])
local macro_rules | `(tactic| walk_at "en") => `(tactic| (unfold callm; walk_at "go"))
local macro_rules | `(tactic| walk_at "run") => `(tactic| repeat (first | walk_at "go" | walk_at "sp"))
local macro_rules | `(tactic| walk_at "rut") => `(tactic| repeat (first | walk_at "go" | walk_at "sp" | with_reducible refine M.mk_tree ?_))

local macro_rules | `(tactic| walk_at "as") => `(tactic| first | assumption | (simp only [M.put_ap, M.put_put', reduceIte, eq_self, Nat.reduceEqDiff, Nat.add_eq_left, Nat.add_left_cancel_iff, ite_true, ite_false]; assumption))
local macro_rules | `(tactic| walk_at "side") => `(tactic| first | assumption | omega | (simp; done) | decide | (simp; omega))
local macro_rules | `(tactic| walk_at "sp") => `(tactic| ((with_reducible refine M.optm_of (o := Pt.bind ?p ?d ?s) (a := ?v) ?e ?_); (case e => exact rfl)))
local macro_rules | `(tactic| walk_at "sp") => `(tactic| first | (with_reducible refine M.cndm_of (M.mulOk_of ?a ?b) ?_; (case a => omega); (case b => omega)) | (with_reducible refine M.cndm_of (M.mulOk_of2 ?a ?b) ?_; (case a => omega); (case b => omega)))
local macro_rules | `(tactic| walk_at "sp") => `(tactic| ((with_reducible refine M.eq_selfL' ?a ?_); (case a => first | rfl | (simp only [List.all_cons, List.all_nil, Bool.and_true, Bool.true_and, M.dat_non, M.dat_bl, M.dat_int, M.dat_str, M.dat_tup, M.dat_lst]; done) | (simp only [List.all_cons, List.all_nil, Bool.and_true, Bool.true_and, M.dat_non, M.dat_bl, M.dat_int, M.dat_str, M.dat_tup, M.dat_lst]; decide +kernel))))
local macro_rules | `(tactic| walk_at "sp") => `(tactic| ((with_reducible refine M.ne_selfL' ?a ?_); (case a => first | rfl | (simp only [List.all_cons, List.all_nil, Bool.and_true, Bool.true_and, M.dat_non, M.dat_bl, M.dat_int, M.dat_str, M.dat_tup, M.dat_lst]; done) | (simp only [List.all_cons, List.all_nil, Bool.and_true, Bool.true_and, M.dat_non, M.dat_bl, M.dat_int, M.dat_str, M.dat_tup, M.dat_lst]; decide +kernel))))
local macro_rules | `(tactic| walk_at "sp") => `(tactic| ((with_reducible refine M.eq_selfT' ?a ?_); (case a => first | rfl | (simp only [List.all_cons, List.all_nil, Bool.and_true, Bool.true_and, M.dat_non, M.dat_bl, M.dat_int, M.dat_str, M.dat_tup, M.dat_lst]; done) | (simp only [List.all_cons, List.all_nil, Bool.and_true, Bool.true_and, M.dat_non, M.dat_bl, M.dat_int, M.dat_str, M.dat_tup, M.dat_lst]; decide +kernel))))
local macro_rules | `(tactic| walk_at "sp") => `(tactic| ((with_reducible refine M.ne_selfT' ?a ?_); (case a => first | rfl | (simp only [List.all_cons, List.all_nil, Bool.and_true, Bool.true_and, M.dat_non, M.dat_bl, M.dat_int, M.dat_str, M.dat_tup, M.dat_lst]; done) | (simp only [List.all_cons, List.all_nil, Bool.and_true, Bool.true_and, M.dat_non, M.dat_bl, M.dat_int, M.dat_str, M.dat_tup, M.dat_lst]; decide +kernel))))
local macro_rules | `(tactic| walk_at "sp") => `(tactic| ((with_reducible refine M.eq_nilL' ?a ?_); (case a => first | rfl | (simp only [List.all_cons, List.all_nil, Bool.and_true, Bool.true_and, M.dat_non, M.dat_bl, M.dat_int, M.dat_str, M.dat_tup, M.dat_lst]; done) | (simp only [List.all_cons, List.all_nil, Bool.and_true, Bool.true_and, M.dat_non, M.dat_bl, M.dat_int, M.dat_str, M.dat_tup, M.dat_lst]; decide +kernel))))
local macro_rules | `(tactic| walk_at "sp") => `(tactic| ((with_reducible refine M.ne_nilL' ?a ?_); (case a => first | rfl | (simp only [List.all_cons, List.all_nil, Bool.and_true, Bool.true_and, M.dat_non, M.dat_bl, M.dat_int, M.dat_str, M.dat_tup, M.dat_lst]; done) | (simp only [List.all_cons, List.all_nil, Bool.and_true, Bool.true_and, M.dat_non, M.dat_bl, M.dat_int, M.dat_str, M.dat_tup, M.dat_lst]; decide +kernel))))
local macro_rules | `(tactic| walk_at "sp") => `(tactic| first | (with_reducible refine M.cndm_of ?a ?_; (case a => walk_at "side")) | (with_reducible refine M.mite_dt ?a ?_; (case a => omega)) | (with_reducible refine M.mite_df ?a ?_; (case a => omega)) | (with_reducible refine M.mite_nt ?a ?_; (case a => omega)) | (with_reducible refine M.mite_nf ?a ?_; (case a => omega)))
local macro_rules | `(tactic| walk_at "ms") => `(tactic| simp_all? only [↓is_whole_eq, ↓Ty.whole, ↓e_m_is_whole, ↓e_m_is_word, ↓e_m_is_below, ↓e_m_are_words, ↓e_m_is_image])
local macro_rules | `(tactic| walk_at "mo") => `(tactic| (unfold callm; walk_at "ms"))
local macro_rules | `(tactic| walk_at "hp") => `(tactic| simp only [MH.at, MH.put, MH.new, MH.upd, reduceIte, Nat.reduceEqDiff])
theorem is_word_eq : @callm m_is_word [x] h X K = @optm _ (tyOf h x) ⟨fun _ => K.k (.bl (wordD x)) h⟩ := by
  walk_at "mo"
  cases hx : tyOf h x with
  | none => rfl
  | some t =>
    by_cases ht : t = .int
    · subst ht
      obtain ⟨i, rfl⟩ := tyOf_int hx
      walk_at "ms"
      unfold wordD
      by_cases h0 : 0 ≤ i
      · simp only [h0, decide_true, Bool.true_and, if_true]; walk_at "ms"
      · simp only [h0, decide_false, Bool.false_and]; rfl
    · have e : Ty.whole t = false := by cases t <;> first | rfl | exact (ht rfl).elim
      have e2 : wordD x = false := by cases x <;> first | rfl | (simp [tyOf] at hx; exact (ht hx.symm).elim)
      walk_at "ms"
      rw [e2]
theorem is_below_eq : @callm m_is_below [x, .int n] h X K = @optm _ (tyOf h x) ⟨fun _ => K.k (.bl (belowD n x)) h⟩ := by
  walk_at "mo"
  cases hx : tyOf h x with
  | none => rfl
  | some t =>
    by_cases ht : t = .int
    · subst ht
      obtain ⟨i, rfl⟩ := tyOf_int hx
      walk_at "ms"
      unfold belowD
      by_cases h0 : 0 ≤ i
      · simp only [h0, decide_true, Bool.true_and, if_true]; walk_at "ms"
      · simp only [h0, decide_false, Bool.false_and]; rfl
    · have e : Ty.whole t = false := by cases t <;> first | rfl | exact (ht rfl).elim
      have e2 : belowD n x = false := by cases x <;> first | rfl | (simp [tyOf] at hx; exact (ht hx.symm).elim)
      walk_at "ms"
      rw [e2]
theorem im_any {h : MH} {x : D} {l : List D} (e : itemsL h x = some l) : ∃ c : MH → Prop, c h ∧ ∀ K : KI, @im x h K = K.k l c h := by
  cases x with
  | lst l' => cases e; exact ⟨_, trivial, fun K => rfl⟩
  | rol l' => cases e; exact ⟨_, trivial, fun K => rfl⟩
  | ref r i =>
    have e' : h.at r i = some (.lst l) := by
      simp only [itemsL] at e; generalize h.at r i = o at e ⊢; cases o with | none => cases e | some o => cases o <;> cases e; rfl
    exact ⟨_, e', fun K => im_of e'⟩
  | _ => cases e
/-- the items of a list, by its type -/
def listD (h : MH) (x : D) : Option (List D) := itemsL h x
theorem listD_ty {h : MH} {x : D} {l : List D} (e : itemsL h x = some l) : tyOf h x = some .list := by
  cases x with
  | lst l => rfl
  | rol l => rfl
  | ref r i => simp only [itemsL] at e; simp only [tyOf]; generalize h.at r i = o at e ⊢; cases o with | none => cases e | some o => cases o <;> first | rfl | cases e
  | _ => cases e
theorem listD_no {h : MH} {x : D} {t : M.Ty} (ht : tyOf h x = some t) (e : itemsL h x = none) : Kd.has .list t = false := by
  cases x with
  | ref r i =>
    simp only [itemsL] at e; simp only [tyOf] at ht; generalize h.at r i = o at e ht; cases o with | none => cases ht | some o => cases o <;> first | (cases e; done) | (cases ht; rfl) | (cases ht; done)
  | non => cases ht; rfl
  | bl b => cases ht; rfl
  | int b => cases ht; rfl
  | str b => cases ht; rfl
  | tup b => cases ht; rfl
  | lst b => simp [itemsL] at e
  | rol b => simp [itemsL] at e
  | ty b => cases ht
  | cls b => cases ht
def wordsD (h : MH) (x : D) : Bool := match itemsL h x with | some l => decide (l.length = 8) && l.all wordD | none => false
local macro_rules | `(tactic| walk_at "go") => `(tactic| simp? only [↓is_whole_eq, ↓Ty.whole, ↓is_word_eq, ↓is_below_eq, ↓e_m_is_whole, ↓e_m_is_word, ↓e_m_is_below, ↓e_m_are_words, ↓e_m_is_image])
local macro_rules | `(tactic| walk_at "en") => `(tactic| (unfold callm; walk_at "go"))
local macro_rules | `(tactic| walk_at "run") => `(tactic| repeat (first | walk_at "go" | walk_at "sp"))
local macro_rules | `(tactic| walk_at "rut") => `(tactic| repeat (first | walk_at "go" | walk_at "sp" | with_reducible refine M.mk_tree ?_))

local macro_rules | `(tactic| walk_at "as") => `(tactic| first | assumption | (simp only [M.put_ap, M.put_put', reduceIte, eq_self, Nat.reduceEqDiff, Nat.add_eq_left, Nat.add_left_cancel_iff, ite_true, ite_false]; assumption))
local macro_rules | `(tactic| walk_at "side") => `(tactic| first | assumption | omega | (simp; done) | decide | (simp; omega))
local macro_rules | `(tactic| walk_at "sp") => `(tactic| ((with_reducible refine M.optm_of (o := Pt.bind ?p ?d ?s) (a := ?v) ?e ?_); (case e => exact rfl)))
local macro_rules | `(tactic| walk_at "sp") => `(tactic| first | (with_reducible refine M.cndm_of (M.mulOk_of ?a ?b) ?_; (case a => omega); (case b => omega)) | (with_reducible refine M.cndm_of (M.mulOk_of2 ?a ?b) ?_; (case a => omega); (case b => omega)))
local macro_rules | `(tactic| walk_at "sp") => `(tactic| ((with_reducible refine M.eq_selfL' ?a ?_); (case a => first | rfl | (simp only [List.all_cons, List.all_nil, Bool.and_true, Bool.true_and, M.dat_non, M.dat_bl, M.dat_int, M.dat_str, M.dat_tup, M.dat_lst]; done) | (simp only [List.all_cons, List.all_nil, Bool.and_true, Bool.true_and, M.dat_non, M.dat_bl, M.dat_int, M.dat_str, M.dat_tup, M.dat_lst]; decide +kernel))))
local macro_rules | `(tactic| walk_at "sp") => `(tactic| ((with_reducible refine M.ne_selfL' ?a ?_); (case a => first | rfl | (simp only [List.all_cons, List.all_nil, Bool.and_true, Bool.true_and, M.dat_non, M.dat_bl, M.dat_int, M.dat_str, M.dat_tup, M.dat_lst]; done) | (simp only [List.all_cons, List.all_nil, Bool.and_true, Bool.true_and, M.dat_non, M.dat_bl, M.dat_int, M.dat_str, M.dat_tup, M.dat_lst]; decide +kernel))))
local macro_rules | `(tactic| walk_at "sp") => `(tactic| ((with_reducible refine M.eq_selfT' ?a ?_); (case a => first | rfl | (simp only [List.all_cons, List.all_nil, Bool.and_true, Bool.true_and, M.dat_non, M.dat_bl, M.dat_int, M.dat_str, M.dat_tup, M.dat_lst]; done) | (simp only [List.all_cons, List.all_nil, Bool.and_true, Bool.true_and, M.dat_non, M.dat_bl, M.dat_int, M.dat_str, M.dat_tup, M.dat_lst]; decide +kernel))))
local macro_rules | `(tactic| walk_at "sp") => `(tactic| ((with_reducible refine M.ne_selfT' ?a ?_); (case a => first | rfl | (simp only [List.all_cons, List.all_nil, Bool.and_true, Bool.true_and, M.dat_non, M.dat_bl, M.dat_int, M.dat_str, M.dat_tup, M.dat_lst]; done) | (simp only [List.all_cons, List.all_nil, Bool.and_true, Bool.true_and, M.dat_non, M.dat_bl, M.dat_int, M.dat_str, M.dat_tup, M.dat_lst]; decide +kernel))))
local macro_rules | `(tactic| walk_at "sp") => `(tactic| ((with_reducible refine M.eq_nilL' ?a ?_); (case a => first | rfl | (simp only [List.all_cons, List.all_nil, Bool.and_true, Bool.true_and, M.dat_non, M.dat_bl, M.dat_int, M.dat_str, M.dat_tup, M.dat_lst]; done) | (simp only [List.all_cons, List.all_nil, Bool.and_true, Bool.true_and, M.dat_non, M.dat_bl, M.dat_int, M.dat_str, M.dat_tup, M.dat_lst]; decide +kernel))))
local macro_rules | `(tactic| walk_at "sp") => `(tactic| ((with_reducible refine M.ne_nilL' ?a ?_); (case a => first | rfl | (simp only [List.all_cons, List.all_nil, Bool.and_true, Bool.true_and, M.dat_non, M.dat_bl, M.dat_int, M.dat_str, M.dat_tup, M.dat_lst]; done) | (simp only [List.all_cons, List.all_nil, Bool.and_true, Bool.true_and, M.dat_non, M.dat_bl, M.dat_int, M.dat_str, M.dat_tup, M.dat_lst]; decide +kernel))))
local macro_rules | `(tactic| walk_at "sp") => `(tactic| first | (with_reducible refine M.cndm_of ?a ?_; (case a => walk_at "side")) | (with_reducible refine M.mite_dt ?a ?_; (case a => omega)) | (with_reducible refine M.mite_df ?a ?_; (case a => omega)) | (with_reducible refine M.mite_nt ?a ?_; (case a => omega)) | (with_reducible refine M.mite_nf ?a ?_; (case a => omega)))
local macro_rules | `(tactic| walk_at "ms") => `(tactic| simp_all? only [↓is_whole_eq, ↓Ty.whole, ↓is_word_eq, ↓is_below_eq, ↓e_m_is_whole, ↓e_m_is_word, ↓e_m_is_below, ↓e_m_are_words, ↓e_m_is_image])
local macro_rules | `(tactic| walk_at "mo") => `(tactic| (unfold callm; walk_at "ms"))
local macro_rules | `(tactic| walk_at "hp") => `(tactic| simp only [MH.at, MH.put, MH.new, MH.upd, reduceIte, Nat.reduceEqDiff])
theorem are_words_ok {t : M.Ty} (ht : tyOf h x = some t) (hx : ∀ l, itemsL h x = some l → ∀ d ∈ l, tyOf h d ≠ none) (q : K.k (.bl (wordsD h x)) h) : @callm m_are_words [x] h X K := by
  walk_at "mo"
  rw [ht]
  walk_at "ms"
  unfold wordsD at q
  cases hl : itemsL h x with
  | none => rw [hl] at q; rw [listD_no ht hl]; walk_at "ms"; exact q
  | some l =>
    have := listD_ty hl; rw [ht] at this; cases this
    rw [hl] at q
    dsimp only at q
    walk_at "ms"
    rw [c_len_of hl]
    walk_at "ms"
    by_cases h8 : l.length = 8
    · have h8' : (l.length : Int) = 8 := by omega
      simp only [h8', decide_true]
      simp only [h8, decide_true, Bool.true_and] at q
      walk_at "ms"
      obtain ⟨c, hc, e⟩ := im_any hl
      rw [e]
      dsimp only
      refine lcm_map (f := fun d => .bl (wordD d)) hc (by show 0 + l.length ≤ _; omega) (fun d hd Q k => ?_) ?_
      · walk_at "ms"
        cases ht : tyOf h d with
        | none => exact (hx l hl d hd ht).elim
        | some t => exact k
      · refine mk_tree ?_
        walk_at "ms"
        rw [boolsD_map]
        walk_at "ms"
        simpa [List.all_map] using q
    · have : ¬ ((l.length : Int) = 8) := by omega
      simp only [h8, decide_false, Bool.false_and] at q
      simp only [this, decide_false]; walk_at "ms"; exact q
/-- a list of pages; told by the items' lists -/
def pageD (h : MH) (x : D) : Bool := isN x || wordsD h x
def imageD (h : MH) (x : D) : Bool := match itemsL h x with | some l => decide (1 ≤ l.length) && decide (l.length ≤ 24) && l.all (pageD h) | none => false
theorem is_image_ok {t : M.Ty} (ht : tyOf h x = some t) (hx : ∀ l, itemsL h x = some l → ∀ d ∈ l, tyOf h d ≠ none ∧ ∀ k, itemsL h d = some k → ∀ e ∈ k, tyOf h e ≠ none) (q : K.k (.bl (imageD h x)) h) : @callm m_is_image [x] h X K := by
  walk_at "mo"
  rw [ht]
  walk_at "ms"
  unfold imageD at q
  cases hl : itemsL h x with
  | none => rw [hl] at q; rw [listD_no ht hl]; walk_at "ms"; exact q
  | some l =>
    have := listD_ty hl; rw [ht] at this; cases this
    rw [hl] at q
    dsimp only at q
    walk_at "ms"
    rw [c_len_of hl]
    walk_at "ms"
    refine mite_d (fun h1 => ?_) (fun h1 => ?_)
    · have : ¬ 1 ≤ l.length := by omega
      simp only [this, decide_false, Bool.false_and] at q
      walk_at "ms"; exact q
    walk_at "ms"
    rw [c_len_of hl]
    walk_at "ms"
    refine mite_d (fun h2 => ?_) (fun h2 => ?_)
    · have : ¬ l.length ≤ 24 := by omega
      simp only [this, decide_false, Bool.and_false, Bool.false_and] at q
      walk_at "ms"; exact q
    have e1 : 1 ≤ l.length := by omega
    have e2 : l.length ≤ 24 := by omega
    simp only [e1, e2, decide_true, Bool.true_and] at q
    walk_at "ms"
    obtain ⟨c, hc, e⟩ := im_any hl
    rw [e]
    dsimp only
    refine lcm_map (f := fun d => .bl (pageD h d)) hc (by show 0 + l.length ≤ _; omega) (fun d hd Q k => ?_) ?_
    · walk_at "ms"
      refine mite_of (fun hn => ?_) (fun hn => ?_)
      · unfold pageD at k; rw [hn] at k; exact k
      · obtain ⟨a1, a2⟩ := hx l hl d hd
        unfold pageD at k; rw [hn] at k
        cases hd' : tyOf h d with
        | none => exact (a1 hd').elim
        | some t =>
          walk_at "ms"
          exact are_words_ok hd' a2 k
    · refine mk_tree ?_
      walk_at "ms"
      rw [boolsD_map]
      walk_at "ms"
      simpa [List.all_map] using q
end
end MP

set_option Elab.async false
set_option linter.all false
set_option maxRecDepth 100000
set_option maxHeartbeats 4000000
set_option checkBinderAnnotations false
namespace MP
open PySem PySem.Spec PyProof.Rows L2 Z M
def mb_Memory_size : MS :=
  (mRet (mCB cLen (mCons (mFld "held" (mVar 0)) mNil)))
theorem mx_Memory_size : ∃ m : MDef, m = mBody 1 mb_Memory_size := ⟨_, rfl⟩
noncomputable def m_Memory_size : MDef := mx_Memory_size.choose
theorem mq_Memory_size : m_Memory_size = mBody 1 mb_Memory_size := mx_Memory_size.choose_spec
theorem e_m_Memory_size {a0 : D} {h : MH} {X : MX} {Q : MK} : m_Memory_size [a0] h X Q = (mRet (mCB cLen (mCons (mFld "held" (mVar 0)) mNil))) ⟨fun _ h1 => Q .non h1, Q, fun _ _ => False, fun _ _ => False, fun _ => X⟩ [some a0] h := by rw [mq_Memory_size]; rfl
def mb_Memory___init__ : MS :=
  (mSeq (mIfS (mNot (mB (mFn 1 m_is_image (mCons (mVar 1) mNil)))) (mRaise "NoImage") mNext)
  (mSFld "Memory" "held" (mVar 0) (mLc (miL (mVar 1)) (.nm 2) mYes (mIf (mB (mOp opIs (mVar 2) (mC .non))) (mC .non) (mCB cList (mCons (mVar 2) mNil))) [2])))
theorem mx_Memory___init__ : ∃ m : MDef, m = mBody 3 mb_Memory___init__ := ⟨_, rfl⟩
noncomputable def m_Memory___init__ : MDef := mx_Memory___init__.choose
theorem mq_Memory___init__ : m_Memory___init__ = mBody 3 mb_Memory___init__ := mx_Memory___init__.choose_spec
theorem e_m_Memory___init__ {a0 a1 : D} {h : MH} {X : MX} {Q : MK} : m_Memory___init__ [a0, a1] h X Q = (mSeq (mIfS (mNot (mB (mFn 1 m_is_image (mCons (mVar 1) mNil)))) (mRaise "NoImage") mNext)
  (mSFld "Memory" "held" (mVar 0) (mLc (miL (mVar 1)) (.nm 2) mYes (mIf (mB (mOp opIs (mVar 2) (mC .non))) (mC .non) (mCB cList (mCons (mVar 2) mNil))) [2]))) ⟨fun _ h1 => Q .non h1, Q, fun _ _ => False, fun _ _ => False, fun _ => X⟩ [some a0, some a1, none] h := by rw [mq_Memory___init__]; rfl
def mb_Memory_has : MS :=
  (mRet (mAndV (mFn 2 m_is_below (mCons (mVar 1) (mCons (mCB cLen (mCons (mFld "held" (mVar 0)) mNil)) mNil))) (mOp opIsNot (mOp opIx (mFld "held" (mVar 0)) (mVar 1)) (mC .non))))
theorem mx_Memory_has : ∃ m : MDef, m = mBody 2 mb_Memory_has := ⟨_, rfl⟩
noncomputable def m_Memory_has : MDef := mx_Memory_has.choose
theorem mq_Memory_has : m_Memory_has = mBody 2 mb_Memory_has := mx_Memory_has.choose_spec
theorem e_m_Memory_has {a0 a1 : D} {h : MH} {X : MX} {Q : MK} : m_Memory_has [a0, a1] h X Q = (mRet (mAndV (mFn 2 m_is_below (mCons (mVar 1) (mCons (mCB cLen (mCons (mFld "held" (mVar 0)) mNil)) mNil))) (mOp opIsNot (mOp opIx (mFld "held" (mVar 0)) (mVar 1)) (mC .non)))) ⟨fun _ h1 => Q .non h1, Q, fun _ _ => False, fun _ _ => False, fun _ => X⟩ [some a0, some a1] h := by rw [mq_Memory_has]; rfl
def mb_Memory_fetch : MS :=
  (mRet (mOp opIx (mOp opIx (mFld "held" (mVar 0)) (mVar 1)) (mVar 2)))
theorem mx_Memory_fetch : ∃ m : MDef, m = mBody 3 mb_Memory_fetch := ⟨_, rfl⟩
noncomputable def m_Memory_fetch : MDef := mx_Memory_fetch.choose
theorem mq_Memory_fetch : m_Memory_fetch = mBody 3 mb_Memory_fetch := mx_Memory_fetch.choose_spec
theorem e_m_Memory_fetch {a0 a1 a2 : D} {h : MH} {X : MX} {Q : MK} : m_Memory_fetch [a0, a1, a2] h X Q = (mRet (mOp opIx (mOp opIx (mFld "held" (mVar 0)) (mVar 1)) (mVar 2))) ⟨fun _ h1 => Q .non h1, Q, fun _ _ => False, fun _ _ => False, fun _ => X⟩ [some a0, some a1, some a2] h := by rw [mq_Memory_fetch]; rfl
def mb_Memory_deposit : MS :=
  (mSetIx (mOp opIx (mFld "held" (mVar 0)) (mVar 1)) (mVar 2) (mVar 3))
theorem mx_Memory_deposit : ∃ m : MDef, m = mBody 4 mb_Memory_deposit := ⟨_, rfl⟩
noncomputable def m_Memory_deposit : MDef := mx_Memory_deposit.choose
theorem mq_Memory_deposit : m_Memory_deposit = mBody 4 mb_Memory_deposit := mx_Memory_deposit.choose_spec
theorem e_m_Memory_deposit {a0 a1 a2 a3 : D} {h : MH} {X : MX} {Q : MK} : m_Memory_deposit [a0, a1, a2, a3] h X Q = (mSetIx (mOp opIx (mFld "held" (mVar 0)) (mVar 1)) (mVar 2) (mVar 3)) ⟨fun _ h1 => Q .non h1, Q, fun _ _ => False, fun _ _ => False, fun _ => X⟩ [some a0, some a1, some a2, some a3] h := by rw [mq_Memory_deposit]; rfl
def mb_Memory_look_for : MS :=
  (mSeq (mIfS (mNot (mB (mMt "Memory" 2 m_Memory_has (mVar 0) (mCons (mVar 1) mNil)))) (mRaise "NoPage") mNext)
  (mIfS (mNot (mB (mFn 2 m_is_below (mCons (mVar 2) (mCons (mC (.int 8)) mNil))))) (mRaise "NoPlace") mNext))
theorem mx_Memory_look_for : ∃ m : MDef, m = mBody 3 mb_Memory_look_for := ⟨_, rfl⟩
noncomputable def m_Memory_look_for : MDef := mx_Memory_look_for.choose
theorem mq_Memory_look_for : m_Memory_look_for = mBody 3 mb_Memory_look_for := mx_Memory_look_for.choose_spec
theorem e_m_Memory_look_for {a0 a1 a2 : D} {h : MH} {X : MX} {Q : MK} : m_Memory_look_for [a0, a1, a2] h X Q = (mSeq (mIfS (mNot (mB (mMt "Memory" 2 m_Memory_has (mVar 0) (mCons (mVar 1) mNil)))) (mRaise "NoPage") mNext)
  (mIfS (mNot (mB (mFn 2 m_is_below (mCons (mVar 2) (mCons (mC (.int 8)) mNil))))) (mRaise "NoPlace") mNext)) ⟨fun _ h1 => Q .non h1, Q, fun _ _ => False, fun _ _ => False, fun _ => X⟩ [some a0, some a1, some a2] h := by rw [mq_Memory_look_for]; rfl
def mb_Memory_read : MS :=
  (mSeq (mDrop (mMt "Memory" 3 m_Memory_look_for (mVar 0) (mCons (mVar 1) (mCons (mVar 2) mNil))))
  (mRet (mMt "Memory" 3 m_Memory_fetch (mVar 0) (mCons (mVar 1) (mCons (mVar 2) mNil)))))
theorem mx_Memory_read : ∃ m : MDef, m = mBody 3 mb_Memory_read := ⟨_, rfl⟩
noncomputable def m_Memory_read : MDef := mx_Memory_read.choose
theorem mq_Memory_read : m_Memory_read = mBody 3 mb_Memory_read := mx_Memory_read.choose_spec
theorem e_m_Memory_read {a0 a1 a2 : D} {h : MH} {X : MX} {Q : MK} : m_Memory_read [a0, a1, a2] h X Q = (mSeq (mDrop (mMt "Memory" 3 m_Memory_look_for (mVar 0) (mCons (mVar 1) (mCons (mVar 2) mNil))))
  (mRet (mMt "Memory" 3 m_Memory_fetch (mVar 0) (mCons (mVar 1) (mCons (mVar 2) mNil))))) ⟨fun _ h1 => Q .non h1, Q, fun _ _ => False, fun _ _ => False, fun _ => X⟩ [some a0, some a1, some a2] h := by rw [mq_Memory_read]; rfl
def mb_Memory_write : MS :=
  (mSeq (mDrop (mMt "Memory" 3 m_Memory_look_for (mVar 0) (mCons (mVar 1) (mCons (mVar 2) mNil))))
  (mSeq (mIfS (mNot (mB (mFn 1 m_is_word (mCons (mVar 3) mNil)))) (mRaise "NoWord") mNext)
  (mDrop (mMt "Memory" 4 m_Memory_deposit (mVar 0) (mCons (mVar 1) (mCons (mVar 2) (mCons (mVar 3) mNil)))))))
theorem mx_Memory_write : ∃ m : MDef, m = mBody 4 mb_Memory_write := ⟨_, rfl⟩
noncomputable def m_Memory_write : MDef := mx_Memory_write.choose
theorem mq_Memory_write : m_Memory_write = mBody 4 mb_Memory_write := mx_Memory_write.choose_spec
theorem e_m_Memory_write {a0 a1 a2 a3 : D} {h : MH} {X : MX} {Q : MK} : m_Memory_write [a0, a1, a2, a3] h X Q = (mSeq (mDrop (mMt "Memory" 3 m_Memory_look_for (mVar 0) (mCons (mVar 1) (mCons (mVar 2) mNil))))
  (mSeq (mIfS (mNot (mB (mFn 1 m_is_word (mCons (mVar 3) mNil)))) (mRaise "NoWord") mNext)
  (mDrop (mMt "Memory" 4 m_Memory_deposit (mVar 0) (mCons (mVar 1) (mCons (mVar 2) (mCons (mVar 3) mNil))))))) ⟨fun _ h1 => Q .non h1, Q, fun _ _ => False, fun _ _ => False, fun _ => X⟩ [some a0, some a1, some a2, some a3] h := by rw [mq_Memory_write]; rfl
def mb_Memory_give : MS :=
  (mSeq (mIfS (mNot (mB (mMt "Memory" 2 m_Memory_has (mVar 0) (mCons (mVar 1) mNil)))) (mRaise "NoPage") mNext)
  (mSetIx (mFld "held" (mVar 0)) (mVar 1) (mC .non)))
theorem mx_Memory_give : ∃ m : MDef, m = mBody 2 mb_Memory_give := ⟨_, rfl⟩
noncomputable def m_Memory_give : MDef := mx_Memory_give.choose
theorem mq_Memory_give : m_Memory_give = mBody 2 mb_Memory_give := mx_Memory_give.choose_spec
theorem e_m_Memory_give {a0 a1 : D} {h : MH} {X : MX} {Q : MK} : m_Memory_give [a0, a1] h X Q = (mSeq (mIfS (mNot (mB (mMt "Memory" 2 m_Memory_has (mVar 0) (mCons (mVar 1) mNil)))) (mRaise "NoPage") mNext)
  (mSetIx (mFld "held" (mVar 0)) (mVar 1) (mC .non))) ⟨fun _ h1 => Q .non h1, Q, fun _ _ => False, fun _ _ => False, fun _ => X⟩ [some a0, some a1] h := by rw [mq_Memory_give]; rfl
def mb_Memory_lay : MS :=
  (mSeq (mIfS (mNot (mB (mFn 2 m_is_below (mCons (mVar 1) (mCons (mCB cLen (mCons (mFld "held" (mVar 0)) mNil)) mNil))))) (mRaise "NoPage") mNext)
  (mSeq (mIfS (mNot (mB (mFn 1 m_are_words (mCons (mVar 2) mNil)))) (mRaise "NoWord") mNext)
  (mSetIx (mFld "held" (mVar 0)) (mVar 1) (mCB cList (mCons (mVar 2) mNil)))))
theorem mx_Memory_lay : ∃ m : MDef, m = mBody 3 mb_Memory_lay := ⟨_, rfl⟩
noncomputable def m_Memory_lay : MDef := mx_Memory_lay.choose
theorem mq_Memory_lay : m_Memory_lay = mBody 3 mb_Memory_lay := mx_Memory_lay.choose_spec
theorem e_m_Memory_lay {a0 a1 a2 : D} {h : MH} {X : MX} {Q : MK} : m_Memory_lay [a0, a1, a2] h X Q = (mSeq (mIfS (mNot (mB (mFn 2 m_is_below (mCons (mVar 1) (mCons (mCB cLen (mCons (mFld "held" (mVar 0)) mNil)) mNil))))) (mRaise "NoPage") mNext)
  (mSeq (mIfS (mNot (mB (mFn 1 m_are_words (mCons (mVar 2) mNil)))) (mRaise "NoWord") mNext)
  (mSetIx (mFld "held" (mVar 0)) (mVar 1) (mCB cList (mCons (mVar 2) mNil))))) ⟨fun _ h1 => Q .non h1, Q, fun _ _ => False, fun _ _ => False, fun _ => X⟩ [some a0, some a1, some a2] h := by rw [mq_Memory_lay]; rfl
def mb_Memory_told : MS :=
  (mRet (mLc (miL (mFld "held" (mVar 0))) (.nm 1) mYes (mIf (mB (mOp opIs (mVar 1) (mC .non))) (mC .non) (mCB cList (mCons (mVar 1) mNil))) [1]))
theorem mx_Memory_told : ∃ m : MDef, m = mBody 2 mb_Memory_told := ⟨_, rfl⟩
noncomputable def m_Memory_told : MDef := mx_Memory_told.choose
theorem mq_Memory_told : m_Memory_told = mBody 2 mb_Memory_told := mx_Memory_told.choose_spec
theorem e_m_Memory_told {a0 : D} {h : MH} {X : MX} {Q : MK} : m_Memory_told [a0] h X Q = (mRet (mLc (miL (mFld "held" (mVar 0))) (.nm 1) mYes (mIf (mB (mOp opIs (mVar 1) (mC .non))) (mC .non) (mCB cList (mCons (mVar 1) mNil))) [1])) ⟨fun _ h1 => Q .non h1, Q, fun _ _ => False, fun _ _ => False, fun _ => X⟩ [some a0, none] h := by rw [mq_Memory_told]; rfl
/-! lists of lists: pages -/
abbrev Pg := List (Option (List Int))
def oref (q : Nat) : Option Nat → D | some j => .ref q j | none => .non
def wsD (ws : List Int) : List D := ws.map .int
def pgD : Option (List Int) → D | some ws => .lst (wsD ws) | none => .non
structure NLx (q : Nat) (R : List O) (k : Nat) (as : List (Option Nat)) (ps : Pg) : Prop where
  top : R[k]? = some (.lst (as.map (oref q)))
  len : as.length = ps.length
  yes : ∀ (i : Nat) ws, ps[i]? = some (some ws) → ∃ j, as[i]? = some (some j) ∧ R[j]? = some (.lst (wsD ws))
  no : ∀ i : Nat, ps[i]? = some none → as[i]? = some none
  out : ∀ (i j : Nat), as[i]? = some (some j) → j ≠ k
  inj : ∀ (i i' j : Nat), as[i]? = some (some j) → as[i']? = some (some j) → i = i'
section
variable {q : Nat} {R : List O} {k : Nat} {as : List (Option Nat)} {ps : Pg}
theorem pg_cases {i : Nat} (h : i < ps.length) : ps[i]? = some none ∨ ∃ ws, ps[i]? = some (some ws) := by
  rw [List.getElem?_eq_getElem h]
  cases ps[i] with
  | none => exact .inl rfl
  | some ws => exact .inr ⟨ws, rfl⟩
theorem NLx.sub (n : NLx q R k as ps) {i j : Nat} (h : as[i]? = some (some j)) : ∃ ws, ps[i]? = some (some ws) ∧ R[j]? = some (.lst (wsD ws)) := by
  have hi : i < ps.length := by rw [← n.len]; exact (List.getElem?_eq_some_iff.mp h).1
  rcases pg_cases hi with e | ⟨ws, e⟩
  · have := n.no i e; rw [h] at this; cases this
  · obtain ⟨j', e1, e2⟩ := n.yes i ws e
    rw [h] at e1; cases e1
    exact ⟨ws, e, e2⟩
/-- other places change -/
theorem NLx.keep (n : NLx q R k as ps) {R' : List O} (h1 : R'[k]? = R[k]?) (h2 : ∀ i j : Nat, as[i]? = some (some j) → R'[j]? = R[j]?) : NLx q R' k as ps :=
  ⟨h1.trans n.top, n.len, fun i ws e => let ⟨j, a, b⟩ := n.yes i ws e; ⟨j, a, (h2 i j a).trans b⟩, n.no, n.out, n.inj⟩
theorem NLx.drop (n : NLx q R k as ps) {i : Nat} (hi : i < ps.length) : NLx q (R.set k (.lst ((as.set i none).map (oref q)))) k (as.set i none) (ps.set i none) := by
  have hk : k < R.length := (List.getElem?_eq_some_iff.mp n.top).1
  have hia : i < as.length := by rw [n.len]; exact hi
  have old : ∀ i' j, (as.set i none)[i']? = some (some j) → as[i']? = some (some j) ∧ i' ≠ i := fun i' j e => by
    by_cases hh : i' = i
    · subst hh; rw [List.getElem?_set_self hia] at e; cases e
    · rw [List.getElem?_set_ne (Ne.symm hh)] at e; exact ⟨e, hh⟩
  refine ⟨by rw [List.getElem?_set_self hk], by rw [List.length_set, List.length_set]; exact n.len, fun i' ws e => ?_, fun i' e => ?_, fun i' j e => n.out _ _ (old _ _ e).1, fun i1 i2 j e1 e2 => n.inj _ _ _ (old _ _ e1).1 (old _ _ e2).1⟩
  · by_cases hh : i' = i
    · subst hh; rw [List.getElem?_set_self hi] at e; cases e
    · rw [List.getElem?_set_ne (Ne.symm hh)] at e
      obtain ⟨j, a, b⟩ := n.yes i' ws e
      exact ⟨j, by rw [List.getElem?_set_ne (Ne.symm hh)]; exact a, by rw [List.getElem?_set_ne (Ne.symm (n.out _ _ a))]; exact b⟩
  · by_cases hh : i' = i
    · subst hh; rw [List.getElem?_set_self hia]
    · rw [List.getElem?_set_ne (Ne.symm hh)] at e ⊢; exact n.no i' e
theorem NLx.nil (h : R[k]? = some (.lst [])) : NLx q R k [] [] := ⟨h, rfl, fun i ws e => by simp at e, fun i e => by simp at e, fun i j e => by simp at e, fun i i' j e => by simp at e⟩
/-- the lists alone, before the list of them is made -/
structure Part (R : List O) (as : List (Option Nat)) (ps : Pg) : Prop where
  len : as.length = ps.length
  yes : ∀ (i : Nat) ws, ps[i]? = some (some ws) → ∃ j, as[i]? = some (some j) ∧ R[j]? = some (.lst (wsD ws))
  no : ∀ i : Nat, ps[i]? = some none → as[i]? = some none
  inj : ∀ (i i' j : Nat), as[i]? = some (some j) → as[i']? = some (some j) → i = i'
theorem Part.nil {R : List O} : Part R [] [] := ⟨rfl, fun i ws e => by simp at e, fun i e => by simp at e, fun i i' j e => by simp at e⟩
theorem Part.sub {R : List O} {as : List (Option Nat)} {ps : Pg} (n : Part R as ps) {i j : Nat} (h : as[i]? = some (some j)) : ∃ ws, ps[i]? = some (some ws) ∧ R[j]? = some (.lst (wsD ws)) := by
  have hi : i < ps.length := by rw [← n.len]; exact (List.getElem?_eq_some_iff.mp h).1
  rcases pg_cases hi with e | ⟨ws, e⟩
  · have := n.no i e; rw [h] at this; cases this
  · obtain ⟨j', e1, e2⟩ := n.yes i ws e
    rw [h] at e1; cases e1
    exact ⟨ws, e, e2⟩
theorem Part.lt {R : List O} {as : List (Option Nat)} {ps : Pg} (n : Part R as ps) {i j : Nat} (h : as[i]? = some (some j)) : j < R.length := by
  obtain ⟨ws, _, e⟩ := n.sub h; exact (List.getElem?_eq_some_iff.mp e).1
theorem Part.keep {R R' : List O} {as : List (Option Nat)} {ps : Pg} (n : Part R as ps) (h2 : ∀ i j : Nat, as[i]? = some (some j) → R'[j]? = R[j]?) : Part R' as ps :=
  ⟨n.len, fun i ws e => let ⟨j, a, b⟩ := n.yes i ws e; ⟨j, a, (h2 i j a).trans b⟩, n.no, n.inj⟩
theorem snoc_at {α : Type} {l : List α} {x z : α} {i : Nat} (e : (l ++ [x])[i]? = some z) : l[i]? = some z ∨ (i = l.length ∧ z = x) := by
  by_cases hi : i < l.length
  · rw [List.getElem?_append_left hi] at e; exact .inl e
  · rw [List.getElem?_append_right (by omega)] at e
    have : i - l.length = 0 := by
      by_cases h0 : i - l.length = 0
      · exact h0
      · rw [List.getElem?_eq_none (by simp; omega)] at e; cases e
    rw [this] at e; simp at e; exact .inr ⟨by omega, e.symm⟩
theorem Part.none {R : List O} {as : List (Option Nat)} {ps : Pg} (n : Part R as ps) : Part R (as ++ [none]) (ps ++ [none]) := by
  refine ⟨by simp [n.len], fun i ws e => ?_, fun i e => ?_, fun i i' j e e' => ?_⟩
  · rcases snoc_at e with e | ⟨_, e⟩
    · obtain ⟨j, a, b⟩ := n.yes i ws e
      exact ⟨j, by rw [List.getElem?_append_left (List.getElem?_eq_some_iff.mp a).1]; exact a, b⟩
    · cases e
  · rcases snoc_at e with e | ⟨e, _⟩
    · have := n.no i e
      rw [List.getElem?_append_left (List.getElem?_eq_some_iff.mp this).1]; exact this
    · rw [e, ← n.len]; simp
  · rcases snoc_at e with e | ⟨_, e⟩
    · rcases snoc_at e' with e' | ⟨_, e'⟩
      · exact n.inj _ _ _ e e'
      · cases e'
    · cases e
theorem Part.one {R : List O} {as : List (Option Nat)} {ps : Pg} {ws : List Int} (n : Part R as ps) : Part (R ++ [.lst (wsD ws)]) (as ++ [some R.length]) (ps ++ [some ws]) := by
  have old : ∀ j, j < R.length → (R ++ [O.lst (wsD ws)])[j]? = R[j]? := fun j h => List.getElem?_append_left h
  refine ⟨by simp [n.len], fun i us e => ?_, fun i e => ?_, fun i i' j e e' => ?_⟩
  · rcases snoc_at e with e | ⟨e1, e⟩
    · obtain ⟨j, a, b⟩ := n.yes i us e
      exact ⟨j, by rw [List.getElem?_append_left (List.getElem?_eq_some_iff.mp a).1]; exact a, by rw [old _ (n.lt a)]; exact b⟩
    · cases e
      exact ⟨R.length, by rw [e1, ← n.len]; simp, by simp⟩
  · rcases snoc_at e with e | ⟨_, e⟩
    · have := n.no i e
      rw [List.getElem?_append_left (List.getElem?_eq_some_iff.mp this).1]; exact this
    · cases e
  · rcases snoc_at e with e | ⟨e1, e⟩
    · rcases snoc_at e' with e' | ⟨_, e'⟩
      · exact n.inj _ _ _ e e'
      · cases e'; exact absurd (n.lt e) (by omega)
    · cases e
      rcases snoc_at e' with e' | ⟨e2, e'⟩
      · exact absurd (n.lt e') (by omega)
      · omega
theorem Part.all {q : Nat} {R : List O} {as : List (Option Nat)} {ps : Pg} (n : Part R as ps) : NLx q (R ++ [.lst (as.map (oref q))]) R.length as ps :=
  ⟨by simp, n.len, fun i ws e => let ⟨j, a, b⟩ := n.yes i ws e; ⟨j, a, by rw [List.getElem?_append_left (n.lt a)]; exact b⟩, n.no, fun i j e => by have := n.lt e; omega, n.inj⟩
/-- pages as a value, whatever stands in the region q -/
structure PgsV (q : Nat) (h : MH) (x : D) (ps : Pg) : Prop where
  ex : ∃ l : List D, (∀ R, itemsL (h.put q R) x = some l) ∧ l.length = ps.length ∧ (∀ (i : Nat) ws, ps[i]? = some (some ws) → ∃ d, l[i]? = some d ∧ isN d = false ∧ ∀ R, itemsL (h.put q R) d = some (wsD ws)) ∧ ∀ i : Nat, ps[i]? = some none → l[i]? = some .non
end
local macro_rules | `(tactic| walk_at "go") => `(tactic| simp? only [↓MP.is_whole_eq, ↓MP.Ty.whole, ↓MP.is_word_eq, ↓MP.is_below_eq, ↓e_m_Memory_size, ↓e_m_Memory___init__, ↓e_m_Memory_has, ↓e_m_Memory_fetch, ↓e_m_Memory_deposit, ↓e_m_Memory_look_for, ↓e_m_Memory_read, ↓e_m_Memory_write, ↓e_m_Memory_give, ↓e_m_Memory_lay, ↓e_m_Memory_told])
local macro_rules | `(tactic| walk_at "en") => `(tactic| (unfold callm; walk_at "go"))
local macro_rules | `(tactic| walk_at "run") => `(tactic| repeat (first | walk_at "go" | walk_at "sp"))
local macro_rules | `(tactic| walk_at "rut") => `(tactic| repeat (first | walk_at "go" | walk_at "sp" | with_reducible refine M.mk_tree ?_))

local macro_rules | `(tactic| walk_at "as") => `(tactic| first | assumption | (simp only [M.put_ap, M.put_put', reduceIte, eq_self, Nat.reduceEqDiff, Nat.add_eq_left, Nat.add_left_cancel_iff, ite_true, ite_false]; assumption))
local macro_rules | `(tactic| walk_at "side") => `(tactic| first | assumption | omega | (simp; done) | decide | (simp; omega))
local macro_rules | `(tactic| walk_at "sp") => `(tactic| ((with_reducible refine M.optm_of (o := Pt.bind ?p ?d ?s) (a := ?v) ?e ?_); (case e => exact rfl)))
local macro_rules | `(tactic| walk_at "sp") => `(tactic| first | (with_reducible refine M.cndm_of (M.mulOk_of ?a ?b) ?_; (case a => omega); (case b => omega)) | (with_reducible refine M.cndm_of (M.mulOk_of2 ?a ?b) ?_; (case a => omega); (case b => omega)))
local macro_rules | `(tactic| walk_at "sp") => `(tactic| ((with_reducible refine M.eq_selfL' ?a ?_); (case a => first | rfl | (simp only [List.all_cons, List.all_nil, Bool.and_true, Bool.true_and, M.dat_non, M.dat_bl, M.dat_int, M.dat_str, M.dat_tup, M.dat_lst]; done) | (simp only [List.all_cons, List.all_nil, Bool.and_true, Bool.true_and, M.dat_non, M.dat_bl, M.dat_int, M.dat_str, M.dat_tup, M.dat_lst]; decide +kernel))))
local macro_rules | `(tactic| walk_at "sp") => `(tactic| ((with_reducible refine M.ne_selfL' ?a ?_); (case a => first | rfl | (simp only [List.all_cons, List.all_nil, Bool.and_true, Bool.true_and, M.dat_non, M.dat_bl, M.dat_int, M.dat_str, M.dat_tup, M.dat_lst]; done) | (simp only [List.all_cons, List.all_nil, Bool.and_true, Bool.true_and, M.dat_non, M.dat_bl, M.dat_int, M.dat_str, M.dat_tup, M.dat_lst]; decide +kernel))))
local macro_rules | `(tactic| walk_at "sp") => `(tactic| ((with_reducible refine M.eq_selfT' ?a ?_); (case a => first | rfl | (simp only [List.all_cons, List.all_nil, Bool.and_true, Bool.true_and, M.dat_non, M.dat_bl, M.dat_int, M.dat_str, M.dat_tup, M.dat_lst]; done) | (simp only [List.all_cons, List.all_nil, Bool.and_true, Bool.true_and, M.dat_non, M.dat_bl, M.dat_int, M.dat_str, M.dat_tup, M.dat_lst]; decide +kernel))))
local macro_rules | `(tactic| walk_at "sp") => `(tactic| ((with_reducible refine M.ne_selfT' ?a ?_); (case a => first | rfl | (simp only [List.all_cons, List.all_nil, Bool.and_true, Bool.true_and, M.dat_non, M.dat_bl, M.dat_int, M.dat_str, M.dat_tup, M.dat_lst]; done) | (simp only [List.all_cons, List.all_nil, Bool.and_true, Bool.true_and, M.dat_non, M.dat_bl, M.dat_int, M.dat_str, M.dat_tup, M.dat_lst]; decide +kernel))))
local macro_rules | `(tactic| walk_at "sp") => `(tactic| ((with_reducible refine M.eq_nilL' ?a ?_); (case a => first | rfl | (simp only [List.all_cons, List.all_nil, Bool.and_true, Bool.true_and, M.dat_non, M.dat_bl, M.dat_int, M.dat_str, M.dat_tup, M.dat_lst]; done) | (simp only [List.all_cons, List.all_nil, Bool.and_true, Bool.true_and, M.dat_non, M.dat_bl, M.dat_int, M.dat_str, M.dat_tup, M.dat_lst]; decide +kernel))))
local macro_rules | `(tactic| walk_at "sp") => `(tactic| ((with_reducible refine M.ne_nilL' ?a ?_); (case a => first | rfl | (simp only [List.all_cons, List.all_nil, Bool.and_true, Bool.true_and, M.dat_non, M.dat_bl, M.dat_int, M.dat_str, M.dat_tup, M.dat_lst]; done) | (simp only [List.all_cons, List.all_nil, Bool.and_true, Bool.true_and, M.dat_non, M.dat_bl, M.dat_int, M.dat_str, M.dat_tup, M.dat_lst]; decide +kernel))))
local macro_rules | `(tactic| walk_at "sp") => `(tactic| first | (with_reducible refine M.cndm_of ?a ?_; (case a => walk_at "side")) | (with_reducible refine M.mite_dt ?a ?_; (case a => omega)) | (with_reducible refine M.mite_df ?a ?_; (case a => omega)) | (with_reducible refine M.mite_nt ?a ?_; (case a => omega)) | (with_reducible refine M.mite_nf ?a ?_; (case a => omega)))
local macro_rules | `(tactic| walk_at "ms") => `(tactic| simp_all? only [↓MP.is_whole_eq, ↓MP.Ty.whole, ↓MP.is_word_eq, ↓MP.is_below_eq, ↓e_m_Memory_size, ↓e_m_Memory___init__, ↓e_m_Memory_has, ↓e_m_Memory_fetch, ↓e_m_Memory_deposit, ↓e_m_Memory_look_for, ↓e_m_Memory_read, ↓e_m_Memory_write, ↓e_m_Memory_give, ↓e_m_Memory_lay, ↓e_m_Memory_told])
local macro_rules | `(tactic| walk_at "mo") => `(tactic| (unfold callm; walk_at "ms"))
local macro_rules | `(tactic| walk_at "hp") => `(tactic| simp only [MH.at, MH.put, MH.new, MH.upd, reduceIte, Nat.reduceEqDiff])
/-! a memory in a region of its own -/
structure IsMem (q : Nat) (R : List O) (ps : Pg) : Prop where
  ex : ∃ k as, R[0]? = some (.ins "Memory" [("held", .ref q k)]) ∧ NLx q R k as ps
def pgIs : Option (Option (List Int)) → Bool | some (some _) => true | _ => false
def hasN (ps : Pg) (i : Int) : Bool := if 0 ≤ i then pgIs ps[i.toNat]? else false
def hasD (ps : Pg) : D → Bool | .int i => hasN ps i | _ => false
section
variable {q : Nat} {h : MH} {ps : Pg} {X : KX} {K : K2} {x y v : D}
structure PgOk (ps : Pg) : Prop where
  lo : 1 ≤ ps.length
  hi : ps.length ≤ 24
  ws : ∀ (i : Nat) ws, ps[i]? = some (some ws) → ws.length = 8 ∧ ∀ w ∈ ws, 0 ≤ w ∧ w < 281474976710656
theorem PgOk.set {ps : Pg} (k : PgOk ps) {i : Nat} {y : Option (List Int)} (hy : ∀ ws, y = some ws → ws.length = 8 ∧ ∀ w ∈ ws, 0 ≤ w ∧ w < 281474976710656) : PgOk (ps.set i y) := by
  refine ⟨by rw [List.length_set]; exact k.lo, by rw [List.length_set]; exact k.hi, fun j ws e => ?_⟩
  by_cases hj : j = i
  · subst hj
    have hl : j < ps.length := by have := (List.getElem?_eq_some_iff.mp e).1; simpa using this
    rw [List.getElem?_set_self hl] at e
    exact hy ws (Option.some.inj e)
  · rw [List.getElem?_set_ne (Ne.symm hj)] at e; exact k.ws j ws e
theorem wordD_int {w : Int} (h : 0 ≤ w ∧ w < 281474976710656) : wordD (.int w) = true := by unfold wordD; simp [h]
/-- told as a tree -/
def frz (h : MH) (d : D) : D := match itemsL h d with | some l => .lst l | none => .non
theorem wordsD_of {ws : List Int} (hl : itemsL h x = some (wsD ws)) (h8 : ws.length = 8) (hw : ∀ w ∈ ws, 0 ≤ w ∧ w < 281474976710656) : wordsD h x = true := by
  unfold wordsD; rw [hl]
  simp only [Bool.and_eq_true, decide_eq_true_eq]
  refine ⟨by simpa [wsD] using h8, ?_⟩
  rw [List.all_eq_true]
  intro d hd
  obtain ⟨w, hw', rfl⟩ := List.mem_map.mp hd
  exact wordD_int (hw w hw')
theorem ty_wsD {ws : List Int} {d : D} (hd : d ∈ wsD ws) : tyOf h d ≠ none := by
  obtain ⟨w, _, rfl⟩ := List.mem_map.mp hd
  intro e; cases e
/-- a memory is made of good pages -/
theorem mem_new {h0 : MH} (ok : PgOk ps) (hq : h0 q = []) (p : PgsV q h0 x ps) (k : ∀ R, IsMem q R ps → K.k (.ref q 0) (h0.put q R)) : @newm "Memory" m_Memory___init__ [x] h0 X K := by
  obtain ⟨l, pl, plen, pyes, pno⟩ := p.ex
  refine newm_of q ?_
  have cases_l : ∀ (i : Nat) d, l[i]? = some d → (d = .non ∧ ps[i]? = some none) ∨ ∃ ws, ps[i]? = some (some ws) ∧ isN d = false ∧ ∀ R, itemsL (h0.put q R) d = some (wsD ws) := fun i d e => by
    have hi : i < ps.length := by rw [← plen]; exact (List.getElem?_eq_some_iff.mp e).1
    rcases pg_cases hi with a | ⟨ws, a⟩
    · have := pno i a; rw [e] at this; cases this; exact .inl ⟨rfl, a⟩
    · obtain ⟨d', b, c⟩ := pyes i ws a; rw [e] at b; cases b; exact .inr ⟨ws, a, c⟩
  rw [hq, new_def, hq]
  show @callm m_Memory___init__ [.ref q 0, x] (h0.put q [.ins "Memory" []]) X ⟨fun d h2 => d = .non ∧ K.k (.ref q 0) h2⟩
  have hty : ∀ R, tyOf (h0.put q R) x = some .list := fun R => listD_ty (pl R)
  walk_at "mo"
  refine is_image_ok (hty _) (fun l' e d hd => ?_) ?_
  · rw [pl] at e; cases e
    obtain ⟨i, hi⟩ := List.getElem?_of_mem hd
    rcases cases_l i d hi with ⟨rfl, _⟩ | ⟨ws, _, _, e⟩
    · exact ⟨fun z => (by cases z), fun k e => (by cases e)⟩
    · refine ⟨fun z => (by rw [listD_ty (e _)] at z; cases z), fun k e' d' hd' => ?_⟩
      rw [e] at e'; cases e'
      exact ty_wsD hd'
  have him : imageD (h0.put q [.ins "Memory" []]) x = true := by
    unfold imageD; rw [pl]
    simp only [Bool.and_eq_true, decide_eq_true_eq]
    refine ⟨⟨by rw [plen]; exact ok.lo, by rw [plen]; exact ok.hi⟩, ?_⟩
    rw [List.all_eq_true]
    intro d hd
    obtain ⟨i, hi⟩ := List.getElem?_of_mem hd
    rcases cases_l i d hi with ⟨rfl, _⟩ | ⟨ws, a, _, e⟩
    · rfl
    · unfold pageD
      rw [wordsD_of (e _) (ok.ws i ws a).1 (ok.ws i ws a).2]; simp
  rw [him]
  walk_at "ms"
  obtain ⟨c, hc, e⟩ := im_any (pl [.ins "Memory" []])
  have hcc : ∀ R, (liveL (h0.put q R) x).map (·.1) = some l := fun R => by
    have := pl R
    cases x with
    | lst l' => cases this; rfl
    | rol l' => cases this; rfl
    | ref r i => simp only [itemsL] at this; simp only [liveL]; generalize (h0.put q R).at r i = o at this ⊢; cases o with | none => cases this | some o => cases o <;> cases this; rfl
    | _ => cases this
  have : ∃ c : MH → Prop, (∀ R, c (h0.put q R)) ∧ ∀ KK : KI, @im x (h0.put q [.ins "Memory" []]) KK = KK.k l c (h0.put q [.ins "Memory" []]) := by
    cases x with
    | lst l' => have := pl []; cases this; exact ⟨_, fun R => trivial, fun K => rfl⟩
    | rol l' => have := pl []; cases this; exact ⟨_, fun R => trivial, fun K => rfl⟩
    | ref r i =>
      have e' : ∀ R, (h0.put q R).at r i = some (.lst l) := fun R => by
        have := pl R
        simp only [itemsL] at this; generalize (h0.put q R).at r i = o at this ⊢; cases o with | none => cases this | some o => cases o <;> cases this; rfl
      exact ⟨_, e', fun K => im_of (e' _)⟩
    | _ => have := pl []; cases this
  obtain ⟨c, hc, e⟩ := this
  rw [e]
  dsimp only
  refine lcm_inv (fun n acc h' => ∃ as R, h' = h0.put q R ∧ R[0]? = some (.ins "Memory" []) ∧ acc = as.map (oref q) ∧ as.length = n ∧ Part R as (ps.take n)) (fun n acc h' ⟨as, R, e, _⟩ => by rw [e]; exact hc R) (fun n acc h' ⟨as, R, _, _, e, e2, _⟩ => by rw [e, List.length_map, e2]; exact Nat.le_refl _) (by rw [plen]; have := ok.hi; omega) (fun n acc h' d hd ⟨as, R, e1, e2, e3, e4, pt⟩ Q k => ?_) (fun acc h' ⟨as, R, e1, e2, e3, e4, pt⟩ => ?_) ⟨[], [.ins "Memory" []], rfl, rfl, rfl, rfl, by rw [List.take_zero]; exact Part.nil⟩
  · subst e1
    have tk : ∀ y, ps[n]? = some y → ps.take (n + 1) = ps.take n ++ [y] := fun y hy => by rw [List.take_succ, hy]; rfl
    rcases cases_l n d hd with ⟨rfl, a⟩ | ⟨ws, a, nn, e⟩
    · walk_at "ms"
      refine k _ _ ⟨as ++ [none], R, rfl, e2, by rw [e3, List.map_append]; rfl, by simp [e4], ?_⟩
      rw [tk _ a]; exact pt.none
    · walk_at "ms"
      rw [nn]
      walk_at "ms"
      rw [c_list_of (e _)]
      refine mk_new q ?_
      rw [MH.put_same, new_put]
      refine k _ _ ⟨as ++ [some R.length], R ++ [.lst (wsD ws)], rfl, ?_, by rw [e3, List.map_append]; rfl, by simp [e4], ?_⟩
      · rw [List.getElem?_append_left (List.getElem?_eq_some_iff.mp e2).1]; exact e2
      · rw [tk _ a]; exact pt.one
  · subst e1
    subst e3
    have hts : ps.take l.length = ps := by rw [plen]; exact List.take_length
    rw [hts] at pt
    refine mk_new q ?_
    rw [MH.put_same, new_put]
    walk_at "ms"
    have h0n : (h0.put q (R ++ [.lst (as.map (oref q))])).at q 0 = some (.ins "Memory" []) := by
      rw [at_put_same, List.getElem?_append_left (List.getElem?_eq_some_iff.mp e2).1]; exact e2
    rw [sf_of h0n]
    walk_at "ms"
    rw [upd_put]
    have hl0 : 0 < R.length := (List.getElem?_eq_some_iff.mp e2).1
    refine k _ ⟨R.length, as, by rw [List.getElem?_set_self (by simp)], ?_⟩
    refine pt.all.keep ?_ fun i j e => ?_
    · rw [List.getElem?_set_ne (by omega)]
    · have hj : j ≠ 0 := fun z => by subst z; obtain ⟨ws, _, b⟩ := pt.sub e; rw [e2] at b; cases b
      rw [List.getElem?_set_ne (Ne.symm hj)]
end
end MP

set_option Elab.async false
set_option linter.all false
set_option maxRecDepth 100000
set_option maxHeartbeats 4000000
set_option checkBinderAnnotations false
namespace MP
open PySem PySem.Spec PyProof.Rows L2 Z M
def mb_has : MS :=
  (mRet (mOp opEq (mOp opBand (mVar 0) (mVar 1)) (mVar 1)))
theorem mx_has : ∃ m : MDef, m = mBody 2 mb_has := ⟨_, rfl⟩
noncomputable def m_has : MDef := mx_has.choose
theorem mq_has : m_has = mBody 2 mb_has := mx_has.choose_spec
theorem e_m_has {a0 a1 : D} {h : MH} {X : MX} {Q : MK} : m_has [a0, a1] h X Q = (mRet (mOp opEq (mOp opBand (mVar 0) (mVar 1)) (mVar 1))) ⟨fun _ h1 => Q .non h1, Q, fun _ _ => False, fun _ _ => False, fun _ => X⟩ [some a0, some a1] h := by rw [mq_has]; rfl
def mb_put : MS :=
  (mRet (mOp opBor (mVar 0) (mVar 1)))
theorem mx_put : ∃ m : MDef, m = mBody 2 mb_put := ⟨_, rfl⟩
noncomputable def m_put : MDef := mx_put.choose
theorem mq_put : m_put = mBody 2 mb_put := mx_put.choose_spec
theorem e_m_put {a0 a1 : D} {h : MH} {X : MX} {Q : MK} : m_put [a0, a1] h X Q = (mRet (mOp opBor (mVar 0) (mVar 1))) ⟨fun _ h1 => Q .non h1, Q, fun _ _ => False, fun _ _ => False, fun _ => X⟩ [some a0, some a1] h := by rw [mq_put]; rfl
def mb_taken : MS :=
  (mRet (mOp opSub (mVar 0) (mOp opBand (mVar 0) (mVar 1))))
theorem mx_taken : ∃ m : MDef, m = mBody 2 mb_taken := ⟨_, rfl⟩
noncomputable def m_taken : MDef := mx_taken.choose
theorem mq_taken : m_taken = mBody 2 mb_taken := mx_taken.choose_spec
theorem e_m_taken {a0 a1 : D} {h : MH} {X : MX} {Q : MK} : m_taken [a0, a1] h X Q = (mRet (mOp opSub (mVar 0) (mOp opBand (mVar 0) (mVar 1)))) ⟨fun _ h1 => Q .non h1, Q, fun _ _ => False, fun _ _ => False, fun _ => X⟩ [some a0, some a1] h := by rw [mq_taken]; rfl
def mb_page_of : MS :=
  (mRet (mOp opShr (mVar 0) (mC (.int 8))))
theorem mx_page_of : ∃ m : MDef, m = mBody 1 mb_page_of := ⟨_, rfl⟩
noncomputable def m_page_of : MDef := mx_page_of.choose
theorem mq_page_of : m_page_of = mBody 1 mb_page_of := mx_page_of.choose_spec
theorem e_m_page_of {a0 : D} {h : MH} {X : MX} {Q : MK} : m_page_of [a0] h X Q = (mRet (mOp opShr (mVar 0) (mC (.int 8)))) ⟨fun _ h1 => Q .non h1, Q, fun _ _ => False, fun _ _ => False, fun _ => X⟩ [some a0] h := by rw [mq_page_of]; rfl
def mb_marks_of : MS :=
  (mRet (mOp opBand (mVar 0) (mC (.int 255))))
theorem mx_marks_of : ∃ m : MDef, m = mBody 1 mb_marks_of := ⟨_, rfl⟩
noncomputable def m_marks_of : MDef := mx_marks_of.choose
theorem mq_marks_of : m_marks_of = mBody 1 mb_marks_of := mx_marks_of.choose_spec
theorem e_m_marks_of {a0 : D} {h : MH} {X : MX} {Q : MK} : m_marks_of [a0] h X Q = (mRet (mOp opBand (mVar 0) (mC (.int 255)))) ⟨fun _ h1 => Q .non h1, Q, fun _ _ => False, fun _ _ => False, fun _ => X⟩ [some a0] h := by rw [mq_marks_of]; rfl
def mb_row_of : MS :=
  (mSeq (mIfS (mOr (mNot (mB (mFn 1 m_is_whole (mCons (mVar 0) mNil)))) (mOr (mB (mOp opLt (mVar 0) (mC (.int 0)))) (mB (mOp opGe (mVar 0) (mC (.int 1099511627776)))))) (mRaise "NoRow") mNext)
  (mSeq (mIfS (mOr (mNot (mB (mFn 1 m_is_whole (mCons (mVar 1) mNil)))) (mOr (mB (mOp opLt (mVar 1) (mC (.int 0)))) (mB (mOp opGt (mVar 1) (mC (.int 255)))))) (mRaise "NoRow") mNext)
  (mRet (mOp opBor (mOp opShl (mVar 0) (mC (.int 8))) (mVar 1)))))
theorem mx_row_of : ∃ m : MDef, m = mBody 2 mb_row_of := ⟨_, rfl⟩
noncomputable def m_row_of : MDef := mx_row_of.choose
theorem mq_row_of : m_row_of = mBody 2 mb_row_of := mx_row_of.choose_spec
theorem e_m_row_of {a0 a1 : D} {h : MH} {X : MX} {Q : MK} : m_row_of [a0, a1] h X Q = (mSeq (mIfS (mOr (mNot (mB (mFn 1 m_is_whole (mCons (mVar 0) mNil)))) (mOr (mB (mOp opLt (mVar 0) (mC (.int 0)))) (mB (mOp opGe (mVar 0) (mC (.int 1099511627776)))))) (mRaise "NoRow") mNext)
  (mSeq (mIfS (mOr (mNot (mB (mFn 1 m_is_whole (mCons (mVar 1) mNil)))) (mOr (mB (mOp opLt (mVar 1) (mC (.int 0)))) (mB (mOp opGt (mVar 1) (mC (.int 255)))))) (mRaise "NoRow") mNext)
  (mRet (mOp opBor (mOp opShl (mVar 0) (mC (.int 8))) (mVar 1))))) ⟨fun _ h1 => Q .non h1, Q, fun _ _ => False, fun _ _ => False, fun _ => X⟩ [some a0, some a1] h := by rw [mq_row_of]; rfl
local macro_rules | `(tactic| walk_at "go") => `(tactic| simp? only [↓MP.is_whole_eq, ↓MP.Ty.whole, ↓e_m_has, ↓e_m_put, ↓e_m_taken, ↓e_m_page_of, ↓e_m_marks_of, ↓e_m_row_of])
local macro_rules | `(tactic| walk_at "en") => `(tactic| (unfold callm; walk_at "go"))
local macro_rules | `(tactic| walk_at "run") => `(tactic| repeat (first | walk_at "go" | walk_at "sp"))
local macro_rules | `(tactic| walk_at "rut") => `(tactic| repeat (first | walk_at "go" | walk_at "sp" | with_reducible refine M.mk_tree ?_))

local macro_rules | `(tactic| walk_at "as") => `(tactic| first | assumption | (simp only [M.put_ap, M.put_put', reduceIte, eq_self, Nat.reduceEqDiff, Nat.add_eq_left, Nat.add_left_cancel_iff, ite_true, ite_false]; assumption))
local macro_rules | `(tactic| walk_at "side") => `(tactic| first | assumption | omega | (simp; done) | decide | (simp; omega))
local macro_rules | `(tactic| walk_at "sp") => `(tactic| ((with_reducible refine M.optm_of (o := Pt.bind ?p ?d ?s) (a := ?v) ?e ?_); (case e => exact rfl)))
local macro_rules | `(tactic| walk_at "sp") => `(tactic| first | (with_reducible refine M.cndm_of (M.mulOk_of ?a ?b) ?_; (case a => omega); (case b => omega)) | (with_reducible refine M.cndm_of (M.mulOk_of2 ?a ?b) ?_; (case a => omega); (case b => omega)))
local macro_rules | `(tactic| walk_at "sp") => `(tactic| ((with_reducible refine M.eq_selfL' ?a ?_); (case a => first | rfl | (simp only [List.all_cons, List.all_nil, Bool.and_true, Bool.true_and, M.dat_non, M.dat_bl, M.dat_int, M.dat_str, M.dat_tup, M.dat_lst]; done) | (simp only [List.all_cons, List.all_nil, Bool.and_true, Bool.true_and, M.dat_non, M.dat_bl, M.dat_int, M.dat_str, M.dat_tup, M.dat_lst]; decide +kernel))))
local macro_rules | `(tactic| walk_at "sp") => `(tactic| ((with_reducible refine M.ne_selfL' ?a ?_); (case a => first | rfl | (simp only [List.all_cons, List.all_nil, Bool.and_true, Bool.true_and, M.dat_non, M.dat_bl, M.dat_int, M.dat_str, M.dat_tup, M.dat_lst]; done) | (simp only [List.all_cons, List.all_nil, Bool.and_true, Bool.true_and, M.dat_non, M.dat_bl, M.dat_int, M.dat_str, M.dat_tup, M.dat_lst]; decide +kernel))))
local macro_rules | `(tactic| walk_at "sp") => `(tactic| ((with_reducible refine M.eq_selfT' ?a ?_); (case a => first | rfl | (simp only [List.all_cons, List.all_nil, Bool.and_true, Bool.true_and, M.dat_non, M.dat_bl, M.dat_int, M.dat_str, M.dat_tup, M.dat_lst]; done) | (simp only [List.all_cons, List.all_nil, Bool.and_true, Bool.true_and, M.dat_non, M.dat_bl, M.dat_int, M.dat_str, M.dat_tup, M.dat_lst]; decide +kernel))))
local macro_rules | `(tactic| walk_at "sp") => `(tactic| ((with_reducible refine M.ne_selfT' ?a ?_); (case a => first | rfl | (simp only [List.all_cons, List.all_nil, Bool.and_true, Bool.true_and, M.dat_non, M.dat_bl, M.dat_int, M.dat_str, M.dat_tup, M.dat_lst]; done) | (simp only [List.all_cons, List.all_nil, Bool.and_true, Bool.true_and, M.dat_non, M.dat_bl, M.dat_int, M.dat_str, M.dat_tup, M.dat_lst]; decide +kernel))))
local macro_rules | `(tactic| walk_at "sp") => `(tactic| ((with_reducible refine M.eq_nilL' ?a ?_); (case a => first | rfl | (simp only [List.all_cons, List.all_nil, Bool.and_true, Bool.true_and, M.dat_non, M.dat_bl, M.dat_int, M.dat_str, M.dat_tup, M.dat_lst]; done) | (simp only [List.all_cons, List.all_nil, Bool.and_true, Bool.true_and, M.dat_non, M.dat_bl, M.dat_int, M.dat_str, M.dat_tup, M.dat_lst]; decide +kernel))))
local macro_rules | `(tactic| walk_at "sp") => `(tactic| ((with_reducible refine M.ne_nilL' ?a ?_); (case a => first | rfl | (simp only [List.all_cons, List.all_nil, Bool.and_true, Bool.true_and, M.dat_non, M.dat_bl, M.dat_int, M.dat_str, M.dat_tup, M.dat_lst]; done) | (simp only [List.all_cons, List.all_nil, Bool.and_true, Bool.true_and, M.dat_non, M.dat_bl, M.dat_int, M.dat_str, M.dat_tup, M.dat_lst]; decide +kernel))))
local macro_rules | `(tactic| walk_at "sp") => `(tactic| first | (with_reducible refine M.cndm_of ?a ?_; (case a => walk_at "side")) | (with_reducible refine M.mite_dt ?a ?_; (case a => omega)) | (with_reducible refine M.mite_df ?a ?_; (case a => omega)) | (with_reducible refine M.mite_nt ?a ?_; (case a => omega)) | (with_reducible refine M.mite_nf ?a ?_; (case a => omega)))
local macro_rules | `(tactic| walk_at "ms") => `(tactic| simp_all? only [↓MP.is_whole_eq, ↓MP.Ty.whole, ↓e_m_has, ↓e_m_put, ↓e_m_taken, ↓e_m_page_of, ↓e_m_marks_of, ↓e_m_row_of])
local macro_rules | `(tactic| walk_at "mo") => `(tactic| (unfold callm; walk_at "ms"))
local macro_rules | `(tactic| walk_at "hp") => `(tactic| simp only [MH.at, MH.put, MH.new, MH.upd, reduceIte, Nat.reduceEqDiff])
/-! bits of words that are not below 0 -/
section
variable {x y : Int}
end
section
variable {h : MH} {X : KX} {K : K2} {x m : Int}
theorem has_eq : @callm m_has [.int x, .int m] h X K = K.k (.bl (decide (Builtin.bitAnd x m = m))) h := by
  walk_at "en"
theorem put_eq : @callm m_put [.int x, .int m] h X K = K.k (.int (Builtin.bitOr x m)) h := by
  walk_at "en"
theorem page_of_eq : @callm m_page_of [.int x] h X K = K.k (.int (x / 256)) h := by
  walk_at "en"
end
end MP

set_option Elab.async false
set_option linter.all false
set_option maxRecDepth 100000
set_option maxHeartbeats 4000000
set_option checkBinderAnnotations false
namespace MP
open PySem PySem.Spec PyProof.Rows L2 Z M
local macro_rules | `(tactic| walk_at "go") => `(tactic| simp? only [↓MP.is_whole_eq, ↓MP.Ty.whole])
local macro_rules | `(tactic| walk_at "en") => `(tactic| (unfold callm; walk_at "go"))
local macro_rules | `(tactic| walk_at "run") => `(tactic| repeat (first | walk_at "go" | walk_at "sp"))
local macro_rules | `(tactic| walk_at "rut") => `(tactic| repeat (first | walk_at "go" | walk_at "sp" | with_reducible refine M.mk_tree ?_))

local macro_rules | `(tactic| walk_at "as") => `(tactic| first | assumption | (simp only [M.put_ap, M.put_put', reduceIte, eq_self, Nat.reduceEqDiff, Nat.add_eq_left, Nat.add_left_cancel_iff, ite_true, ite_false]; assumption))
local macro_rules | `(tactic| walk_at "side") => `(tactic| first | assumption | omega | (simp; done) | decide | (simp; omega))
local macro_rules | `(tactic| walk_at "sp") => `(tactic| ((with_reducible refine M.optm_of (o := Pt.bind ?p ?d ?s) (a := ?v) ?e ?_); (case e => exact rfl)))
local macro_rules | `(tactic| walk_at "sp") => `(tactic| first | (with_reducible refine M.cndm_of (M.mulOk_of ?a ?b) ?_; (case a => omega); (case b => omega)) | (with_reducible refine M.cndm_of (M.mulOk_of2 ?a ?b) ?_; (case a => omega); (case b => omega)))
local macro_rules | `(tactic| walk_at "sp") => `(tactic| ((with_reducible refine M.eq_selfL' ?a ?_); (case a => first | rfl | (simp only [List.all_cons, List.all_nil, Bool.and_true, Bool.true_and, M.dat_non, M.dat_bl, M.dat_int, M.dat_str, M.dat_tup, M.dat_lst]; done) | (simp only [List.all_cons, List.all_nil, Bool.and_true, Bool.true_and, M.dat_non, M.dat_bl, M.dat_int, M.dat_str, M.dat_tup, M.dat_lst]; decide +kernel))))
local macro_rules | `(tactic| walk_at "sp") => `(tactic| ((with_reducible refine M.ne_selfL' ?a ?_); (case a => first | rfl | (simp only [List.all_cons, List.all_nil, Bool.and_true, Bool.true_and, M.dat_non, M.dat_bl, M.dat_int, M.dat_str, M.dat_tup, M.dat_lst]; done) | (simp only [List.all_cons, List.all_nil, Bool.and_true, Bool.true_and, M.dat_non, M.dat_bl, M.dat_int, M.dat_str, M.dat_tup, M.dat_lst]; decide +kernel))))
local macro_rules | `(tactic| walk_at "sp") => `(tactic| ((with_reducible refine M.eq_selfT' ?a ?_); (case a => first | rfl | (simp only [List.all_cons, List.all_nil, Bool.and_true, Bool.true_and, M.dat_non, M.dat_bl, M.dat_int, M.dat_str, M.dat_tup, M.dat_lst]; done) | (simp only [List.all_cons, List.all_nil, Bool.and_true, Bool.true_and, M.dat_non, M.dat_bl, M.dat_int, M.dat_str, M.dat_tup, M.dat_lst]; decide +kernel))))
local macro_rules | `(tactic| walk_at "sp") => `(tactic| ((with_reducible refine M.ne_selfT' ?a ?_); (case a => first | rfl | (simp only [List.all_cons, List.all_nil, Bool.and_true, Bool.true_and, M.dat_non, M.dat_bl, M.dat_int, M.dat_str, M.dat_tup, M.dat_lst]; done) | (simp only [List.all_cons, List.all_nil, Bool.and_true, Bool.true_and, M.dat_non, M.dat_bl, M.dat_int, M.dat_str, M.dat_tup, M.dat_lst]; decide +kernel))))
local macro_rules | `(tactic| walk_at "sp") => `(tactic| ((with_reducible refine M.eq_nilL' ?a ?_); (case a => first | rfl | (simp only [List.all_cons, List.all_nil, Bool.and_true, Bool.true_and, M.dat_non, M.dat_bl, M.dat_int, M.dat_str, M.dat_tup, M.dat_lst]; done) | (simp only [List.all_cons, List.all_nil, Bool.and_true, Bool.true_and, M.dat_non, M.dat_bl, M.dat_int, M.dat_str, M.dat_tup, M.dat_lst]; decide +kernel))))
local macro_rules | `(tactic| walk_at "sp") => `(tactic| ((with_reducible refine M.ne_nilL' ?a ?_); (case a => first | rfl | (simp only [List.all_cons, List.all_nil, Bool.and_true, Bool.true_and, M.dat_non, M.dat_bl, M.dat_int, M.dat_str, M.dat_tup, M.dat_lst]; done) | (simp only [List.all_cons, List.all_nil, Bool.and_true, Bool.true_and, M.dat_non, M.dat_bl, M.dat_int, M.dat_str, M.dat_tup, M.dat_lst]; decide +kernel))))
local macro_rules | `(tactic| walk_at "sp") => `(tactic| first | (with_reducible refine M.cndm_of ?a ?_; (case a => walk_at "side")) | (with_reducible refine M.mite_dt ?a ?_; (case a => omega)) | (with_reducible refine M.mite_df ?a ?_; (case a => omega)) | (with_reducible refine M.mite_nt ?a ?_; (case a => omega)) | (with_reducible refine M.mite_nf ?a ?_; (case a => omega)))
local macro_rules | `(tactic| walk_at "ms") => `(tactic| simp_all? only [↓MP.is_whole_eq, ↓MP.Ty.whole])
local macro_rules | `(tactic| walk_at "mo") => `(tactic| (unfold callm; walk_at "ms"))
local macro_rules | `(tactic| walk_at "hp") => `(tactic| simp only [MH.at, MH.put, MH.new, MH.upd, reduceIte, Nat.reduceEqDiff])
/-! a memory asked with whole numbers -/
def Sm (q n : Nat) (h h' : MH) : Prop := ∀ k, k < q ∨ q + n ≤ k → h' k = h k
theorem Sm.trans {q n : Nat} {a b c : MH} (x : Sm q n a b) (y : Sm q n b c) : Sm q n a c := fun k hk => (y k hk).trans (x k hk)
theorem Sm.put {q n j : Nat} {h : MH} {R : List O} (hj : q ≤ j ∧ j < q + n) : Sm q n h (h.put j R) := fun k hk => MH.put_ne (by omega)
theorem Sm.sub {q n q' n' : Nat} {h h' : MH} (x : Sm q n h h') (h1 : q' ≤ q) (h2 : q + n ≤ q' + n') : Sm q' n' h h' := fun k hk => x k (by omega)
def wd (ps : Pg) (p c : Int) : Int := match ps[p.toNat]? with | some (some ws) => ws.getD c.toNat 0 | _ => 0
def setW (ps : Pg) (p c w : Int) : Pg := match ps[p.toNat]? with | some (some ws) => ps.set p.toNat (some (ws.set c.toNat w)) | _ => ps
def IsM (q : Nat) (h : MH) (ps : Pg) : Prop := IsMem q (h q) ps ∧ PgOk ps
section
variable {q : Nat} {h : MH} {ps : Pg} {X : KX} {K : K2} {p c w : Int}
theorem IsM.cls (m : IsM q h ps) : clsO (h q)[0]? = some "Memory" := by obtain ⟨k, as, a, _⟩ := m.1.ex; rw [a]; rfl
theorem IsM.of {h' : MH} (m : IsM q h ps) (e : h' q = h q) : IsM q h' ps := by unfold IsM; rw [e]; exact m
end
end MP

set_option Elab.async false
set_option linter.all false
set_option maxRecDepth 100000
set_option maxHeartbeats 4000000
set_option checkBinderAnnotations false
namespace MP
open PySem PySem.Spec PyProof.Rows L2 Z M
local macro_rules | `(tactic| walk_at "go") => `(tactic| simp? only [↓MP.is_whole_eq, ↓MP.Ty.whole])
local macro_rules | `(tactic| walk_at "en") => `(tactic| (unfold callm; walk_at "go"))
local macro_rules | `(tactic| walk_at "run") => `(tactic| repeat (first | walk_at "go" | walk_at "sp"))
local macro_rules | `(tactic| walk_at "rut") => `(tactic| repeat (first | walk_at "go" | walk_at "sp" | with_reducible refine M.mk_tree ?_))

local macro_rules | `(tactic| walk_at "as") => `(tactic| first | assumption | (simp only [M.put_ap, M.put_put', reduceIte, eq_self, Nat.reduceEqDiff, Nat.add_eq_left, Nat.add_left_cancel_iff, ite_true, ite_false]; assumption))
local macro_rules | `(tactic| walk_at "side") => `(tactic| first | assumption | omega | (simp; done) | decide | (simp; omega))
local macro_rules | `(tactic| walk_at "sp") => `(tactic| ((with_reducible refine M.optm_of (o := Pt.bind ?p ?d ?s) (a := ?v) ?e ?_); (case e => exact rfl)))
local macro_rules | `(tactic| walk_at "sp") => `(tactic| first | (with_reducible refine M.cndm_of (M.mulOk_of ?a ?b) ?_; (case a => omega); (case b => omega)) | (with_reducible refine M.cndm_of (M.mulOk_of2 ?a ?b) ?_; (case a => omega); (case b => omega)))
local macro_rules | `(tactic| walk_at "sp") => `(tactic| ((with_reducible refine M.eq_selfL' ?a ?_); (case a => first | rfl | (simp only [List.all_cons, List.all_nil, Bool.and_true, Bool.true_and, M.dat_non, M.dat_bl, M.dat_int, M.dat_str, M.dat_tup, M.dat_lst]; done) | (simp only [List.all_cons, List.all_nil, Bool.and_true, Bool.true_and, M.dat_non, M.dat_bl, M.dat_int, M.dat_str, M.dat_tup, M.dat_lst]; decide +kernel))))
local macro_rules | `(tactic| walk_at "sp") => `(tactic| ((with_reducible refine M.ne_selfL' ?a ?_); (case a => first | rfl | (simp only [List.all_cons, List.all_nil, Bool.and_true, Bool.true_and, M.dat_non, M.dat_bl, M.dat_int, M.dat_str, M.dat_tup, M.dat_lst]; done) | (simp only [List.all_cons, List.all_nil, Bool.and_true, Bool.true_and, M.dat_non, M.dat_bl, M.dat_int, M.dat_str, M.dat_tup, M.dat_lst]; decide +kernel))))
local macro_rules | `(tactic| walk_at "sp") => `(tactic| ((with_reducible refine M.eq_selfT' ?a ?_); (case a => first | rfl | (simp only [List.all_cons, List.all_nil, Bool.and_true, Bool.true_and, M.dat_non, M.dat_bl, M.dat_int, M.dat_str, M.dat_tup, M.dat_lst]; done) | (simp only [List.all_cons, List.all_nil, Bool.and_true, Bool.true_and, M.dat_non, M.dat_bl, M.dat_int, M.dat_str, M.dat_tup, M.dat_lst]; decide +kernel))))
local macro_rules | `(tactic| walk_at "sp") => `(tactic| ((with_reducible refine M.ne_selfT' ?a ?_); (case a => first | rfl | (simp only [List.all_cons, List.all_nil, Bool.and_true, Bool.true_and, M.dat_non, M.dat_bl, M.dat_int, M.dat_str, M.dat_tup, M.dat_lst]; done) | (simp only [List.all_cons, List.all_nil, Bool.and_true, Bool.true_and, M.dat_non, M.dat_bl, M.dat_int, M.dat_str, M.dat_tup, M.dat_lst]; decide +kernel))))
local macro_rules | `(tactic| walk_at "sp") => `(tactic| ((with_reducible refine M.eq_nilL' ?a ?_); (case a => first | rfl | (simp only [List.all_cons, List.all_nil, Bool.and_true, Bool.true_and, M.dat_non, M.dat_bl, M.dat_int, M.dat_str, M.dat_tup, M.dat_lst]; done) | (simp only [List.all_cons, List.all_nil, Bool.and_true, Bool.true_and, M.dat_non, M.dat_bl, M.dat_int, M.dat_str, M.dat_tup, M.dat_lst]; decide +kernel))))
local macro_rules | `(tactic| walk_at "sp") => `(tactic| ((with_reducible refine M.ne_nilL' ?a ?_); (case a => first | rfl | (simp only [List.all_cons, List.all_nil, Bool.and_true, Bool.true_and, M.dat_non, M.dat_bl, M.dat_int, M.dat_str, M.dat_tup, M.dat_lst]; done) | (simp only [List.all_cons, List.all_nil, Bool.and_true, Bool.true_and, M.dat_non, M.dat_bl, M.dat_int, M.dat_str, M.dat_tup, M.dat_lst]; decide +kernel))))
local macro_rules | `(tactic| walk_at "sp") => `(tactic| first | (with_reducible refine M.cndm_of ?a ?_; (case a => walk_at "side")) | (with_reducible refine M.mite_dt ?a ?_; (case a => omega)) | (with_reducible refine M.mite_df ?a ?_; (case a => omega)) | (with_reducible refine M.mite_nt ?a ?_; (case a => omega)) | (with_reducible refine M.mite_nf ?a ?_; (case a => omega)))
local macro_rules | `(tactic| walk_at "ms") => `(tactic| simp_all? only [↓MP.is_whole_eq, ↓MP.Ty.whole])
local macro_rules | `(tactic| walk_at "mo") => `(tactic| (unfold callm; walk_at "ms"))
local macro_rules | `(tactic| walk_at "hp") => `(tactic| simp only [MH.at, MH.put, MH.new, MH.upd, reduceIte, Nat.reduceEqDiff])
/-! a law's own list of lists of words, each changed in its place -/
structure OwnAt (q : Nat) (R : List O) (k : Nat) (as : List (Option Nat)) (ps : Pg) (p : Int) (j : Nat) (ws : List Int) : Prop where
  top : atI (as.map (oref q)) p = some (.ref q j)
  ref : as[p.toNat]? = some (some j)
  sub : R[j]? = some (.lst (wsD ws))
  pg : ps[p.toNat]? = some (some ws)
  len : ws.length = 8
  get : ∀ c : Int, 0 ≤ c → c < 8 → atI (wsD ws) c = some (.int (wd ps p c))
  ix : ∀ c : Int, 0 ≤ c → c < 8 → ixN (wsD ws).length c = some c.toNat
  put : ∀ c w : Int, 0 ≤ c → c < 8 → NLx q (R.set j (.lst ((wsD ws).set c.toNat (.int w)))) k as (setW ps p c w)
section
variable {h : MH} {K : K2} {ps : Pg} {q k : Nat} {as : List (Option Nat)}
end
/-! whole numbers in lists, asked at drawn places -/
def NN (d : D) : Prop := ∃ i : Int, 0 ≤ i ∧ d = .int i
/-- the numbers of the pages that are there -/
def thL (ps : Pg) : List Nat := (List.range ps.length).filter fun n => hasN ps (0 + (n : Int))
end MP

set_option Elab.async false
set_option linter.all false
set_option maxRecDepth 100000
set_option maxHeartbeats 4000000
set_option checkBinderAnnotations false
namespace MP
open PySem PySem.Spec PyProof.Rows L2 Z M
def mb_look_at : MS :=
  (mIfS (mOr (mNot (mB (mFn 1 m_is_whole (mCons (mVar 0) mNil)))) (mOr (mB (mOp opLt (mVar 0) (mC (.int 0)))) (mB (mOp opGt (mVar 0) (mC (.int 511)))))) (mRaise "NoPlace") mNext)
theorem mx_look_at : ∃ m : MDef, m = mBody 1 mb_look_at := ⟨_, rfl⟩
noncomputable def m_look_at : MDef := mx_look_at.choose
theorem mq_look_at : m_look_at = mBody 1 mb_look_at := mx_look_at.choose_spec
theorem e_m_look_at {a0 : D} {h : MH} {X : MX} {Q : MK} : m_look_at [a0] h X Q = (mIfS (mOr (mNot (mB (mFn 1 m_is_whole (mCons (mVar 0) mNil)))) (mOr (mB (mOp opLt (mVar 0) (mC (.int 0)))) (mB (mOp opGt (mVar 0) (mC (.int 511)))))) (mRaise "NoPlace") mNext) ⟨fun _ h1 => Q .non h1, Q, fun _ _ => False, fun _ _ => False, fun _ => X⟩ [some a0] h := by rw [mq_look_at]; rfl
def mb_parts_of : MS :=
  (mSeq (mDrop (mFn 1 m_look_at (mCons (mVar 0) mNil)))
  (mSeq (mAsg (.tp [(.nm 1), (.nm 2)]) (mCB cDivmod (mCons (mVar 0) (mCons (mC (.int 8)) mNil))))
  (mSeq (mAsg (.tp [(.nm 3), (.nm 4)]) (mCB cDivmod (mCons (mVar 1) (mCons (mC (.int 8)) mNil))))
  (mRet (mTup (mCons (mVar 3) (mCons (mVar 4) (mCons (mVar 2) mNil))))))))
theorem mx_parts_of : ∃ m : MDef, m = mBody 5 mb_parts_of := ⟨_, rfl⟩
noncomputable def m_parts_of : MDef := mx_parts_of.choose
theorem mq_parts_of : m_parts_of = mBody 5 mb_parts_of := mx_parts_of.choose_spec
theorem e_m_parts_of {a0 : D} {h : MH} {X : MX} {Q : MK} : m_parts_of [a0] h X Q = (mSeq (mDrop (mFn 1 m_look_at (mCons (mVar 0) mNil)))
  (mSeq (mAsg (.tp [(.nm 1), (.nm 2)]) (mCB cDivmod (mCons (mVar 0) (mCons (mC (.int 8)) mNil))))
  (mSeq (mAsg (.tp [(.nm 3), (.nm 4)]) (mCB cDivmod (mCons (mVar 1) (mCons (mC (.int 8)) mNil))))
  (mRet (mTup (mCons (mVar 3) (mCons (mVar 4) (mCons (mVar 2) mNil)))))))) ⟨fun _ h1 => Q .non h1, Q, fun _ _ => False, fun _ _ => False, fun _ => X⟩ [some a0, none, none, none, none] h := by rw [mq_parts_of]; rfl
def mb_rights_of : MS :=
  (mSeq (mSet 2 (mOp opBand (mOp opBand (mVar 0) (mVar 1)) (mC (.int 2))))
  (mSeq (mSet 2 (mOp opBor (mVar 2) (mOp opBand (mOp opBor (mVar 0) (mVar 1)) (mC (.int 4)))))
  (mRet (mOp opBor (mVar 2) (mOp opBand (mVar 1) (mC (.int 16)))))))
theorem mx_rights_of : ∃ m : MDef, m = mBody 3 mb_rights_of := ⟨_, rfl⟩
noncomputable def m_rights_of : MDef := mx_rights_of.choose
theorem mq_rights_of : m_rights_of = mBody 3 mb_rights_of := mx_rights_of.choose_spec
theorem e_m_rights_of {a0 a1 : D} {h : MH} {X : MX} {Q : MK} : m_rights_of [a0, a1] h X Q = (mSeq (mSet 2 (mOp opBand (mOp opBand (mVar 0) (mVar 1)) (mC (.int 2))))
  (mSeq (mSet 2 (mOp opBor (mVar 2) (mOp opBand (mOp opBor (mVar 0) (mVar 1)) (mC (.int 4)))))
  (mRet (mOp opBor (mVar 2) (mOp opBand (mVar 1) (mC (.int 16))))))) ⟨fun _ h1 => Q .non h1, Q, fun _ _ => False, fun _ _ => False, fun _ => X⟩ [some a0, some a1, none] h := by rw [mq_rights_of]; rfl
def mb_look_by__Memory : MS :=
  (mSeq (mSet 6 (mFn 1 m_page_of (mCons (mVar 1) mNil)))
  (mSeq (mIfS (mNot (mB (mFn 2 m_has (mCons (mVar 1) (mCons (mC (.int 1)) mNil))))) (mRaiseF "Fault" ["kind", "place", "level"] (mCons (mC (.str (Str.ofString "absent"))) (mCons (mVar 2) (mCons (mVar 3) mNil)))) mNext)
  (mSeq (mIfS (mNot (mB (mMt "Memory" 2 m_Memory_has (mVar 0) (mCons (mVar 6) mNil)))) (mRaiseF "Fault" ["kind", "place", "level"] (mCons (mC (.str (Str.ofString "beyond"))) (mCons (mVar 2) (mCons (mVar 3) mNil)))) mNext)
  (mSeq (mIfS (mAnd (mB (mFn 2 m_has (mCons (mVar 1) (mCons (mC (.int 4)) mNil)))) (mNot (mB (mVar 5)))) (mRaiseF "Fault" ["kind", "place", "level"] (mCons (mC (.str (Str.ofString "kernel"))) (mCons (mVar 2) (mCons (mVar 3) mNil)))) mNext)
  (mSeq (mIfS (mAnd (mB (mVar 4)) (mNot (mB (mFn 2 m_has (mCons (mVar 1) (mCons (mC (.int 2)) mNil)))))) (mRaiseF "Fault" ["kind", "place", "level"] (mCons (mC (.str (Str.ofString "fixed"))) (mCons (mVar 2) (mCons (mVar 3) mNil)))) mNext)
  (mRet (mVar 6)))))))
theorem mx_look_by__Memory : ∃ m : MDef, m = mBody 7 mb_look_by__Memory := ⟨_, rfl⟩
noncomputable def m_look_by__Memory : MDef := mx_look_by__Memory.choose
theorem mq_look_by__Memory : m_look_by__Memory = mBody 7 mb_look_by__Memory := mx_look_by__Memory.choose_spec
theorem e_m_look_by__Memory {a0 a1 a2 a3 a4 a5 : D} {h : MH} {X : MX} {Q : MK} : m_look_by__Memory [a0, a1, a2, a3, a4, a5] h X Q = (mSeq (mSet 6 (mFn 1 m_page_of (mCons (mVar 1) mNil)))
  (mSeq (mIfS (mNot (mB (mFn 2 m_has (mCons (mVar 1) (mCons (mC (.int 1)) mNil))))) (mRaiseF "Fault" ["kind", "place", "level"] (mCons (mC (.str (Str.ofString "absent"))) (mCons (mVar 2) (mCons (mVar 3) mNil)))) mNext)
  (mSeq (mIfS (mNot (mB (mMt "Memory" 2 m_Memory_has (mVar 0) (mCons (mVar 6) mNil)))) (mRaiseF "Fault" ["kind", "place", "level"] (mCons (mC (.str (Str.ofString "beyond"))) (mCons (mVar 2) (mCons (mVar 3) mNil)))) mNext)
  (mSeq (mIfS (mAnd (mB (mFn 2 m_has (mCons (mVar 1) (mCons (mC (.int 4)) mNil)))) (mNot (mB (mVar 5)))) (mRaiseF "Fault" ["kind", "place", "level"] (mCons (mC (.str (Str.ofString "kernel"))) (mCons (mVar 2) (mCons (mVar 3) mNil)))) mNext)
  (mSeq (mIfS (mAnd (mB (mVar 4)) (mNot (mB (mFn 2 m_has (mCons (mVar 1) (mCons (mC (.int 2)) mNil)))))) (mRaiseF "Fault" ["kind", "place", "level"] (mCons (mC (.str (Str.ofString "fixed"))) (mCons (mVar 2) (mCons (mVar 3) mNil)))) mNext)
  (mRet (mVar 6))))))) ⟨fun _ h1 => Q .non h1, Q, fun _ _ => False, fun _ _ => False, fun _ => X⟩ [some a0, some a1, some a2, some a3, some a4, some a5, none] h := by rw [mq_look_by__Memory]; rfl
def mb_look__Memory : MS :=
  (mSeq (mIfS (mB (mOp opGt (mVar 2) (mC (.int 511)))) (mRaiseF "Fault" ["kind", "place", "level"] (mCons (mC (.str (Str.ofString "far"))) (mCons (mVar 2) (mCons (mC (.int 0)) mNil)))) mNext)
  (mSeq (mIfS (mNot (mB (mMt "Memory" 2 m_Memory_has (mVar 0) (mCons (mVar 1) mNil)))) (mRaiseF "Fault" ["kind", "place", "level"] (mCons (mC (.str (Str.ofString "beyond"))) (mCons (mVar 2) (mCons (mC (.int 0)) mNil)))) mNext)
  (mSeq (mAsg (.tp [(.nm 5), (.nm 6), (.nm 7)]) (mFn 1 m_parts_of (mCons (mVar 2) mNil)))
  (mSeq (mSet 8 (mMt "Memory" 3 m_Memory_read (mVar 0) (mCons (mVar 1) (mCons (mVar 5) mNil))))
  (mSeq (mSet 9 (mFn 6 m_look_by__Memory (mCons (mVar 0) (mCons (mVar 8) (mCons (mVar 2) (mCons (mC (.int 1)) (mCons (mVar 3) (mCons (mVar 4) mNil))))))))
  (mSeq (mSet 10 (mMt "Memory" 3 m_Memory_read (mVar 0) (mCons (mVar 9) (mCons (mVar 6) mNil))))
  (mSeq (mSet 11 (mFn 6 m_look_by__Memory (mCons (mVar 0) (mCons (mVar 10) (mCons (mVar 2) (mCons (mC (.int 2)) (mCons (mVar 3) (mCons (mVar 4) mNil))))))))
  (mRet (mTup (mCons (mTup (mCons (mVar 1) (mCons (mVar 5) mNil))) (mCons (mTup (mCons (mVar 9) (mCons (mVar 6) mNil))) (mCons (mVar 11) (mCons (mFn 2 m_rights_of (mCons (mVar 8) (mCons (mVar 10) mNil))) mNil)))))))))))))
theorem mx_look__Memory : ∃ m : MDef, m = mBody 12 mb_look__Memory := ⟨_, rfl⟩
noncomputable def m_look__Memory : MDef := mx_look__Memory.choose
theorem mq_look__Memory : m_look__Memory = mBody 12 mb_look__Memory := mx_look__Memory.choose_spec
theorem e_m_look__Memory {a0 a1 a2 a3 a4 : D} {h : MH} {X : MX} {Q : MK} : m_look__Memory [a0, a1, a2, a3, a4] h X Q = (mSeq (mIfS (mB (mOp opGt (mVar 2) (mC (.int 511)))) (mRaiseF "Fault" ["kind", "place", "level"] (mCons (mC (.str (Str.ofString "far"))) (mCons (mVar 2) (mCons (mC (.int 0)) mNil)))) mNext)
  (mSeq (mIfS (mNot (mB (mMt "Memory" 2 m_Memory_has (mVar 0) (mCons (mVar 1) mNil)))) (mRaiseF "Fault" ["kind", "place", "level"] (mCons (mC (.str (Str.ofString "beyond"))) (mCons (mVar 2) (mCons (mC (.int 0)) mNil)))) mNext)
  (mSeq (mAsg (.tp [(.nm 5), (.nm 6), (.nm 7)]) (mFn 1 m_parts_of (mCons (mVar 2) mNil)))
  (mSeq (mSet 8 (mMt "Memory" 3 m_Memory_read (mVar 0) (mCons (mVar 1) (mCons (mVar 5) mNil))))
  (mSeq (mSet 9 (mFn 6 m_look_by__Memory (mCons (mVar 0) (mCons (mVar 8) (mCons (mVar 2) (mCons (mC (.int 1)) (mCons (mVar 3) (mCons (mVar 4) mNil))))))))
  (mSeq (mSet 10 (mMt "Memory" 3 m_Memory_read (mVar 0) (mCons (mVar 9) (mCons (mVar 6) mNil))))
  (mSeq (mSet 11 (mFn 6 m_look_by__Memory (mCons (mVar 0) (mCons (mVar 10) (mCons (mVar 2) (mCons (mC (.int 2)) (mCons (mVar 3) (mCons (mVar 4) mNil))))))))
  (mRet (mTup (mCons (mTup (mCons (mVar 1) (mCons (mVar 5) mNil))) (mCons (mTup (mCons (mVar 9) (mCons (mVar 6) mNil))) (mCons (mVar 11) (mCons (mFn 2 m_rights_of (mCons (mVar 8) (mCons (mVar 10) mNil))) mNil))))))))))))) ⟨fun _ h1 => Q .non h1, Q, fun _ _ => False, fun _ _ => False, fun _ => X⟩ [some a0, some a1, some a2, some a3, some a4, none, none, none, none, none, none, none] h := by rw [mq_look__Memory]; rfl
def mb_stamp__Memory : MS :=
  (mSeq (mSet 3 (mMt "Memory" 3 m_Memory_read (mVar 0) (mCons (mOp opIx (mVar 1) (mC (.int 0))) (mCons (mOp opIx (mVar 1) (mC (.int 1))) mNil))))
  (mIfS (mNot (mB (mFn 2 m_has (mCons (mVar 3) (mCons (mVar 2) mNil))))) (mDrop (mMt "Memory" 4 m_Memory_write (mVar 0) (mCons (mOp opIx (mVar 1) (mC (.int 0))) (mCons (mOp opIx (mVar 1) (mC (.int 1))) (mCons (mFn 2 m_put (mCons (mVar 3) (mCons (mVar 2) mNil))) mNil))))) mNext))
theorem mx_stamp__Memory : ∃ m : MDef, m = mBody 4 mb_stamp__Memory := ⟨_, rfl⟩
noncomputable def m_stamp__Memory : MDef := mx_stamp__Memory.choose
theorem mq_stamp__Memory : m_stamp__Memory = mBody 4 mb_stamp__Memory := mx_stamp__Memory.choose_spec
theorem e_m_stamp__Memory {a0 a1 a2 : D} {h : MH} {X : MX} {Q : MK} : m_stamp__Memory [a0, a1, a2] h X Q = (mSeq (mSet 3 (mMt "Memory" 3 m_Memory_read (mVar 0) (mCons (mOp opIx (mVar 1) (mC (.int 0))) (mCons (mOp opIx (mVar 1) (mC (.int 1))) mNil))))
  (mIfS (mNot (mB (mFn 2 m_has (mCons (mVar 3) (mCons (mVar 2) mNil))))) (mDrop (mMt "Memory" 4 m_Memory_write (mVar 0) (mCons (mOp opIx (mVar 1) (mC (.int 0))) (mCons (mOp opIx (mVar 1) (mC (.int 1))) (mCons (mFn 2 m_put (mCons (mVar 3) (mCons (mVar 2) mNil))) mNil))))) mNext)) ⟨fun _ h1 => Q .non h1, Q, fun _ _ => False, fun _ _ => False, fun _ => X⟩ [some a0, some a1, some a2, none] h := by rw [mq_stamp__Memory]; rfl
def mb_mark__Memory : MS :=
  (mSeq (mDrop (mFn 3 m_stamp__Memory (mCons (mVar 0) (mCons (mOp opIx (mVar 1) (mC (.int 0))) (mCons (mC (.int 8)) mNil)))))
  (mSeq (mIfS (mNot (mB (mVar 2))) (mSeq (mDrop (mFn 3 m_stamp__Memory (mCons (mVar 0) (mCons (mOp opIx (mVar 1) (mC (.int 1))) (mCons (mC (.int 8)) mNil)))))
  (mRet (mOp opIx (mVar 1) (mC (.int 3))))) mNext)
  (mSeq (mDrop (mFn 3 m_stamp__Memory (mCons (mVar 0) (mCons (mOp opIx (mVar 1) (mC (.int 1))) (mCons (mOp opBor (mC (.int 8)) (mC (.int 16))) mNil)))))
  (mRet (mOp opBor (mOp opIx (mVar 1) (mC (.int 3))) (mC (.int 16)))))))
theorem mx_mark__Memory : ∃ m : MDef, m = mBody 3 mb_mark__Memory := ⟨_, rfl⟩
noncomputable def m_mark__Memory : MDef := mx_mark__Memory.choose
theorem mq_mark__Memory : m_mark__Memory = mBody 3 mb_mark__Memory := mx_mark__Memory.choose_spec
theorem e_m_mark__Memory {a0 a1 a2 : D} {h : MH} {X : MX} {Q : MK} : m_mark__Memory [a0, a1, a2] h X Q = (mSeq (mDrop (mFn 3 m_stamp__Memory (mCons (mVar 0) (mCons (mOp opIx (mVar 1) (mC (.int 0))) (mCons (mC (.int 8)) mNil)))))
  (mSeq (mIfS (mNot (mB (mVar 2))) (mSeq (mDrop (mFn 3 m_stamp__Memory (mCons (mVar 0) (mCons (mOp opIx (mVar 1) (mC (.int 1))) (mCons (mC (.int 8)) mNil)))))
  (mRet (mOp opIx (mVar 1) (mC (.int 3))))) mNext)
  (mSeq (mDrop (mFn 3 m_stamp__Memory (mCons (mVar 0) (mCons (mOp opIx (mVar 1) (mC (.int 1))) (mCons (mOp opBor (mC (.int 8)) (mC (.int 16))) mNil)))))
  (mRet (mOp opBor (mOp opIx (mVar 1) (mC (.int 3))) (mC (.int 16))))))) ⟨fun _ h1 => Q .non h1, Q, fun _ _ => False, fun _ _ => False, fun _ => X⟩ [some a0, some a1, some a2] h := by rw [mq_mark__Memory]; rfl
local macro_rules | `(tactic| walk_at "go") => `(tactic| simp? only [↓MP.is_whole_eq, ↓MP.Ty.whole, ↓MP.has_eq, ↓MP.put_eq, ↓MP.page_of_eq, ↓e_m_look_at, ↓e_m_parts_of, ↓e_m_rights_of, ↓e_m_look_by__Memory, ↓e_m_look__Memory, ↓e_m_stamp__Memory, ↓e_m_mark__Memory])
local macro_rules | `(tactic| walk_at "en") => `(tactic| (unfold callm; walk_at "go"))
local macro_rules | `(tactic| walk_at "run") => `(tactic| repeat (first | walk_at "go" | walk_at "sp"))
local macro_rules | `(tactic| walk_at "rut") => `(tactic| repeat (first | walk_at "go" | walk_at "sp" | with_reducible refine M.mk_tree ?_))

local macro_rules | `(tactic| walk_at "as") => `(tactic| first | assumption | (simp only [M.put_ap, M.put_put', reduceIte, eq_self, Nat.reduceEqDiff, Nat.add_eq_left, Nat.add_left_cancel_iff, ite_true, ite_false]; assumption))
local macro_rules | `(tactic| walk_at "side") => `(tactic| first | assumption | omega | (simp; done) | decide | (simp; omega))
local macro_rules | `(tactic| walk_at "sp") => `(tactic| ((with_reducible refine M.optm_of (o := Pt.bind ?p ?d ?s) (a := ?v) ?e ?_); (case e => exact rfl)))
local macro_rules | `(tactic| walk_at "sp") => `(tactic| first | (with_reducible refine M.cndm_of (M.mulOk_of ?a ?b) ?_; (case a => omega); (case b => omega)) | (with_reducible refine M.cndm_of (M.mulOk_of2 ?a ?b) ?_; (case a => omega); (case b => omega)))
local macro_rules | `(tactic| walk_at "sp") => `(tactic| ((with_reducible refine M.eq_selfL' ?a ?_); (case a => first | rfl | (simp only [List.all_cons, List.all_nil, Bool.and_true, Bool.true_and, M.dat_non, M.dat_bl, M.dat_int, M.dat_str, M.dat_tup, M.dat_lst]; done) | (simp only [List.all_cons, List.all_nil, Bool.and_true, Bool.true_and, M.dat_non, M.dat_bl, M.dat_int, M.dat_str, M.dat_tup, M.dat_lst]; decide +kernel))))
local macro_rules | `(tactic| walk_at "sp") => `(tactic| ((with_reducible refine M.ne_selfL' ?a ?_); (case a => first | rfl | (simp only [List.all_cons, List.all_nil, Bool.and_true, Bool.true_and, M.dat_non, M.dat_bl, M.dat_int, M.dat_str, M.dat_tup, M.dat_lst]; done) | (simp only [List.all_cons, List.all_nil, Bool.and_true, Bool.true_and, M.dat_non, M.dat_bl, M.dat_int, M.dat_str, M.dat_tup, M.dat_lst]; decide +kernel))))
local macro_rules | `(tactic| walk_at "sp") => `(tactic| ((with_reducible refine M.eq_selfT' ?a ?_); (case a => first | rfl | (simp only [List.all_cons, List.all_nil, Bool.and_true, Bool.true_and, M.dat_non, M.dat_bl, M.dat_int, M.dat_str, M.dat_tup, M.dat_lst]; done) | (simp only [List.all_cons, List.all_nil, Bool.and_true, Bool.true_and, M.dat_non, M.dat_bl, M.dat_int, M.dat_str, M.dat_tup, M.dat_lst]; decide +kernel))))
local macro_rules | `(tactic| walk_at "sp") => `(tactic| ((with_reducible refine M.ne_selfT' ?a ?_); (case a => first | rfl | (simp only [List.all_cons, List.all_nil, Bool.and_true, Bool.true_and, M.dat_non, M.dat_bl, M.dat_int, M.dat_str, M.dat_tup, M.dat_lst]; done) | (simp only [List.all_cons, List.all_nil, Bool.and_true, Bool.true_and, M.dat_non, M.dat_bl, M.dat_int, M.dat_str, M.dat_tup, M.dat_lst]; decide +kernel))))
local macro_rules | `(tactic| walk_at "sp") => `(tactic| ((with_reducible refine M.eq_nilL' ?a ?_); (case a => first | rfl | (simp only [List.all_cons, List.all_nil, Bool.and_true, Bool.true_and, M.dat_non, M.dat_bl, M.dat_int, M.dat_str, M.dat_tup, M.dat_lst]; done) | (simp only [List.all_cons, List.all_nil, Bool.and_true, Bool.true_and, M.dat_non, M.dat_bl, M.dat_int, M.dat_str, M.dat_tup, M.dat_lst]; decide +kernel))))
local macro_rules | `(tactic| walk_at "sp") => `(tactic| ((with_reducible refine M.ne_nilL' ?a ?_); (case a => first | rfl | (simp only [List.all_cons, List.all_nil, Bool.and_true, Bool.true_and, M.dat_non, M.dat_bl, M.dat_int, M.dat_str, M.dat_tup, M.dat_lst]; done) | (simp only [List.all_cons, List.all_nil, Bool.and_true, Bool.true_and, M.dat_non, M.dat_bl, M.dat_int, M.dat_str, M.dat_tup, M.dat_lst]; decide +kernel))))
local macro_rules | `(tactic| walk_at "sp") => `(tactic| first | (with_reducible refine M.cndm_of ?a ?_; (case a => walk_at "side")) | (with_reducible refine M.mite_dt ?a ?_; (case a => omega)) | (with_reducible refine M.mite_df ?a ?_; (case a => omega)) | (with_reducible refine M.mite_nt ?a ?_; (case a => omega)) | (with_reducible refine M.mite_nf ?a ?_; (case a => omega)))
local macro_rules | `(tactic| walk_at "ms") => `(tactic| simp_all? only [↓MP.is_whole_eq, ↓MP.Ty.whole, ↓MP.has_eq, ↓MP.put_eq, ↓MP.page_of_eq, ↓e_m_look_at, ↓e_m_parts_of, ↓e_m_rights_of, ↓e_m_look_by__Memory, ↓e_m_look__Memory, ↓e_m_stamp__Memory, ↓e_m_mark__Memory])
local macro_rules | `(tactic| walk_at "mo") => `(tactic| (unfold callm; walk_at "ms"))
local macro_rules | `(tactic| walk_at "hp") => `(tactic| simp only [MH.at, MH.put, MH.new, MH.upd, reduceIte, Nat.reduceEqDiff])
/-! the walk, told plainly -/
def lackN (ps : Pg) (row : Int) (w kn : Bool) : Option String :=
  if row % 2 = 0 then some "absent" else if hasN ps (row / 256) = false then some "beyond" else if row / 4 % 2 = 1 ∧ kn = false then some "kernel" else if w = true ∧ row / 2 % 2 = 0 then some "fixed" else none
def rightsN (a b : Int) : Int := 2 * ((a / 2 % 2) * (b / 2 % 2)) + 4 * (a / 4 % 2 + b / 4 % 2 - (a / 4 % 2) * (b / 4 % 2)) + 16 * (b / 16 % 2)
inductive LookR where
  | fault (k : String) (l : Int)
  | trail (r o t i p g : Int)
def lookN (ps : Pg) (root place : Int) (w kn : Bool) : LookR :=
  if 511 < place then .fault "far" 0 else if hasN ps root = false then .fault "beyond" 0 else
  match lackN ps (wd ps root (place / 64)) w kn with
  | some k => .fault k 1
  | none => match lackN ps (wd ps (wd ps root (place / 64) / 256) (place / 8 % 8)) w kn with
    | some k => .fault k 2
    | none => .trail root (place / 64) (wd ps root (place / 64) / 256) (place / 8 % 8) (wd ps (wd ps root (place / 64) / 256) (place / 8 % 8) / 256) (rightsN (wd ps root (place / 64)) (wd ps (wd ps root (place / 64) / 256) (place / 8 % 8)))
def faultF (k : String) (place l : Int) : List (String × D) := [("level", .int l), ("place", .int place), ("kind", .str (Str.ofString k))]
def trailD (r o t i p g : Int) : D := .tup [.tup [.int r, .int o], .tup [.int t, .int i], .int p, .int g]
def lookK (X : KX) (K : K2) (h : MH) (place : Int) : LookR → Prop
  | .fault k l => X.x "Fault" (faultF k place l) h
  | .trail r o t i p g => K.k (trailD r o t i p g) h
/-- the marks -/
def or8 (w : Int) : Int := w + 8 - 8 * (w / 8 % 2)
def or24 (w : Int) : Int := w + 24 - 8 * (w / 8 % 2) - 16 * (w / 16 % 2)
def orM (b : Bool) (w : Int) : Int := if b = true then or24 w else or8 w
def markN (ps : Pg) (r o t i : Int) (w : Bool) : Pg :=
  let p1 := setW ps r o (or8 (wd ps r o))
  setW p1 t i (orM w (wd p1 t i))
def behind (g : Int) (w : Bool) : Int := if w = true then g + 16 - 16 * (g / 16 % 2) else g
section
variable {h : MH} {X : KX} {K : K2} {a b place : Int}
end
local macro_rules | `(tactic| walk_at "sp") => `(tactic| (with_reducible refine M.cndm_of (IsM.cls (ps := ?ps) ?a) ?_; (case a => assumption)))
section
variable {q : Nat} {h : MH} {ps : Pg} {X : KX} {K : K2} {row place level r o t i p g : Int} {w kn : Bool}
end
/-! the walk again behind the marks -/
def SameRow (a b : Int) : Prop := a / 256 = b / 256 ∧ a % 2 = b % 2 ∧ a / 2 % 2 = b / 2 % 2 ∧ a / 4 % 2 = b / 4 % 2
theorem SameRow.trans {a b c : Int} (x : SameRow a b) (y : SameRow b c) : SameRow a c := by unfold SameRow at *; omega
end MP

set_option Elab.async false
set_option linter.all false
set_option maxRecDepth 100000
set_option maxHeartbeats 4000000
set_option checkBinderAnnotations false
namespace MP
open PySem PySem.Spec PyProof.Rows L2 Z M
def mb_Shelf___init__ : MS :=
  (mSeq (mIfS (mOr (mNot (mB (mFn 1 m_is_whole (mCons (mVar 1) mNil)))) (mOr (mB (mOp opLt (mVar 1) (mC (.int 1)))) (mB (mOp opGt (mVar 1) (mC (.int 12)))))) (mRaise "NoShelf") mNext)
  (mSeq (mSFld "Shelf" "most" (mVar 0) (mVar 1))
  (mSFld "Shelf" "line" (mVar 0) (mLst mNil))))
theorem mx_Shelf___init__ : ∃ m : MDef, m = mBody 2 mb_Shelf___init__ := ⟨_, rfl⟩
noncomputable def m_Shelf___init__ : MDef := mx_Shelf___init__.choose
theorem mq_Shelf___init__ : m_Shelf___init__ = mBody 2 mb_Shelf___init__ := mx_Shelf___init__.choose_spec
theorem e_m_Shelf___init__ {a0 a1 : D} {h : MH} {X : MX} {Q : MK} : m_Shelf___init__ [a0, a1] h X Q = (mSeq (mIfS (mOr (mNot (mB (mFn 1 m_is_whole (mCons (mVar 1) mNil)))) (mOr (mB (mOp opLt (mVar 1) (mC (.int 1)))) (mB (mOp opGt (mVar 1) (mC (.int 12)))))) (mRaise "NoShelf") mNext)
  (mSeq (mSFld "Shelf" "most" (mVar 0) (mVar 1))
  (mSFld "Shelf" "line" (mVar 0) (mLst mNil)))) ⟨fun _ h1 => Q .non h1, Q, fun _ _ => False, fun _ _ => False, fun _ => X⟩ [some a0, some a1] h := by rw [mq_Shelf___init__]; rfl
def ml_Shelf_seat_1 : MS :=
  (mIfS (mB (mOp opEq (mOp opIx (mVar 3) (mC (.int 0))) (mVar 1))) (mRet (mVar 2)) mNext)
theorem e_ml_Shelf_seat_1 {nx : MSt → MH → Prop} {rt : MK} {bk ct : MSt → MH → Prop} {ex : MSt → MX} {s : MSt} {h : MH} : ml_Shelf_seat_1 ⟨nx, rt, bk, ct, ex⟩ s h = (mIfS (mB (mOp opEq (mOp opIx (mVar 3) (mC (.int 0))) (mVar 1))) (mRet (mVar 2)) mNext) ⟨nx, rt, bk, ct, ex⟩ s h := rfl
def mb_Shelf_seat : MS :=
  (mSeq (mFor (miE (mFld "line" (mVar 0))) (.tp [(.nm 2), (.nm 3)])
  ml_Shelf_seat_1)
  (mRet (mCB cLen (mCons (mFld "line" (mVar 0)) mNil))))
theorem mx_Shelf_seat : ∃ m : MDef, m = mBody 4 mb_Shelf_seat := ⟨_, rfl⟩
noncomputable def m_Shelf_seat : MDef := mx_Shelf_seat.choose
theorem mq_Shelf_seat : m_Shelf_seat = mBody 4 mb_Shelf_seat := mx_Shelf_seat.choose_spec
theorem e_m_Shelf_seat {a0 a1 : D} {h : MH} {X : MX} {Q : MK} : m_Shelf_seat [a0, a1] h X Q = (mSeq (mFor (miE (mFld "line" (mVar 0))) (.tp [(.nm 2), (.nm 3)])
  ml_Shelf_seat_1)
  (mRet (mCB cLen (mCons (mFld "line" (mVar 0)) mNil)))) ⟨fun _ h1 => Q .non h1, Q, fun _ _ => False, fun _ _ => False, fun _ => X⟩ [some a0, some a1, none, none] h := by rw [mq_Shelf_seat]; rfl
def mb_Shelf_seek : MS :=
  (mSeq (mSet 2 (mMt "Shelf" 2 m_Shelf_seat (mVar 0) (mCons (mVar 1) mNil)))
  (mSeq (mIfS (mB (mOp opEq (mVar 2) (mCB cLen (mCons (mFld "line" (mVar 0)) mNil)))) (mRet (mC .non)) mNext)
  (mRet (mTup (mCons (mOp opIx (mOp opIx (mFld "line" (mVar 0)) (mVar 2)) (mC (.int 1))) (mCons (mOp opIx (mOp opIx (mFld "line" (mVar 0)) (mVar 2)) (mC (.int 2))) mNil))))))
theorem mx_Shelf_seek : ∃ m : MDef, m = mBody 3 mb_Shelf_seek := ⟨_, rfl⟩
noncomputable def m_Shelf_seek : MDef := mx_Shelf_seek.choose
theorem mq_Shelf_seek : m_Shelf_seek = mBody 3 mb_Shelf_seek := mx_Shelf_seek.choose_spec
theorem e_m_Shelf_seek {a0 a1 : D} {h : MH} {X : MX} {Q : MK} : m_Shelf_seek [a0, a1] h X Q = (mSeq (mSet 2 (mMt "Shelf" 2 m_Shelf_seat (mVar 0) (mCons (mVar 1) mNil)))
  (mSeq (mIfS (mB (mOp opEq (mVar 2) (mCB cLen (mCons (mFld "line" (mVar 0)) mNil)))) (mRet (mC .non)) mNext)
  (mRet (mTup (mCons (mOp opIx (mOp opIx (mFld "line" (mVar 0)) (mVar 2)) (mC (.int 1))) (mCons (mOp opIx (mOp opIx (mFld "line" (mVar 0)) (mVar 2)) (mC (.int 2))) mNil)))))) ⟨fun _ h1 => Q .non h1, Q, fun _ _ => False, fun _ _ => False, fun _ => X⟩ [some a0, some a1, none] h := by rw [mq_Shelf_seek]; rfl
def mb_Shelf_keep : MS :=
  (mSeq (mSet 4 (mMt "Shelf" 2 m_Shelf_seat (mVar 0) (mCons (mVar 1) mNil)))
  (mSeq (mIfS (mB (mOp opLt (mVar 4) (mCB cLen (mCons (mFld "line" (mVar 0)) mNil)))) (mSeq (mSetIx (mFld "line" (mVar 0)) (mVar 4) (mTup (mCons (mVar 1) (mCons (mVar 2) (mCons (mVar 3) mNil)))))
  (mRet (mC .non))) mNext)
  (mSeq (mDrop (mLM lAppend (mFld "line" (mVar 0)) (mCons (mTup (mCons (mVar 1) (mCons (mVar 2) (mCons (mVar 3) mNil)))) mNil)))
  (mSeq (mIfS (mB (mOp opLe (mCB cLen (mCons (mFld "line" (mVar 0)) mNil)) (mFld "most" (mVar 0)))) (mRet (mC .non)) mNext)
  (mRet (mOp opIx (mLM lPop (mFld "line" (mVar 0)) (mCons (mC (.int 0)) mNil)) (mC (.int 0))))))))
theorem mx_Shelf_keep : ∃ m : MDef, m = mBody 5 mb_Shelf_keep := ⟨_, rfl⟩
noncomputable def m_Shelf_keep : MDef := mx_Shelf_keep.choose
theorem mq_Shelf_keep : m_Shelf_keep = mBody 5 mb_Shelf_keep := mx_Shelf_keep.choose_spec
theorem e_m_Shelf_keep {a0 a1 a2 a3 : D} {h : MH} {X : MX} {Q : MK} : m_Shelf_keep [a0, a1, a2, a3] h X Q = (mSeq (mSet 4 (mMt "Shelf" 2 m_Shelf_seat (mVar 0) (mCons (mVar 1) mNil)))
  (mSeq (mIfS (mB (mOp opLt (mVar 4) (mCB cLen (mCons (mFld "line" (mVar 0)) mNil)))) (mSeq (mSetIx (mFld "line" (mVar 0)) (mVar 4) (mTup (mCons (mVar 1) (mCons (mVar 2) (mCons (mVar 3) mNil)))))
  (mRet (mC .non))) mNext)
  (mSeq (mDrop (mLM lAppend (mFld "line" (mVar 0)) (mCons (mTup (mCons (mVar 1) (mCons (mVar 2) (mCons (mVar 3) mNil)))) mNil)))
  (mSeq (mIfS (mB (mOp opLe (mCB cLen (mCons (mFld "line" (mVar 0)) mNil)) (mFld "most" (mVar 0)))) (mRet (mC .non)) mNext)
  (mRet (mOp opIx (mLM lPop (mFld "line" (mVar 0)) (mCons (mC (.int 0)) mNil)) (mC (.int 0)))))))) ⟨fun _ h1 => Q .non h1, Q, fun _ _ => False, fun _ _ => False, fun _ => X⟩ [some a0, some a1, some a2, some a3, none] h := by rw [mq_Shelf_keep]; rfl
def mb_Shelf_drop : MS :=
  (mSeq (mSet 2 (mMt "Shelf" 2 m_Shelf_seat (mVar 0) (mCons (mVar 1) mNil)))
  (mSeq (mIfS (mB (mOp opEq (mVar 2) (mCB cLen (mCons (mFld "line" (mVar 0)) mNil)))) (mRet (mC (.bl false))) mNext)
  (mSeq (mDrop (mLM lPop (mFld "line" (mVar 0)) (mCons (mVar 2) mNil)))
  (mRet (mC (.bl true))))))
theorem mx_Shelf_drop : ∃ m : MDef, m = mBody 3 mb_Shelf_drop := ⟨_, rfl⟩
noncomputable def m_Shelf_drop : MDef := mx_Shelf_drop.choose
theorem mq_Shelf_drop : m_Shelf_drop = mBody 3 mb_Shelf_drop := mx_Shelf_drop.choose_spec
theorem e_m_Shelf_drop {a0 a1 : D} {h : MH} {X : MX} {Q : MK} : m_Shelf_drop [a0, a1] h X Q = (mSeq (mSet 2 (mMt "Shelf" 2 m_Shelf_seat (mVar 0) (mCons (mVar 1) mNil)))
  (mSeq (mIfS (mB (mOp opEq (mVar 2) (mCB cLen (mCons (mFld "line" (mVar 0)) mNil)))) (mRet (mC (.bl false))) mNext)
  (mSeq (mDrop (mLM lPop (mFld "line" (mVar 0)) (mCons (mVar 2) mNil)))
  (mRet (mC (.bl true)))))) ⟨fun _ h1 => Q .non h1, Q, fun _ _ => False, fun _ _ => False, fun _ => X⟩ [some a0, some a1, none] h := by rw [mq_Shelf_drop]; rfl
def mb_Shelf_empty : MS :=
  (mSFld "Shelf" "line" (mVar 0) (mLst mNil))
theorem mx_Shelf_empty : ∃ m : MDef, m = mBody 1 mb_Shelf_empty := ⟨_, rfl⟩
noncomputable def m_Shelf_empty : MDef := mx_Shelf_empty.choose
theorem mq_Shelf_empty : m_Shelf_empty = mBody 1 mb_Shelf_empty := mx_Shelf_empty.choose_spec
theorem e_m_Shelf_empty {a0 : D} {h : MH} {X : MX} {Q : MK} : m_Shelf_empty [a0] h X Q = (mSFld "Shelf" "line" (mVar 0) (mLst mNil)) ⟨fun _ h1 => Q .non h1, Q, fun _ _ => False, fun _ _ => False, fun _ => X⟩ [some a0] h := by rw [mq_Shelf_empty]; rfl
def mb_Shelf_told : MS :=
  (mRet (mCB cList (mCons (mFld "line" (mVar 0)) mNil)))
theorem mx_Shelf_told : ∃ m : MDef, m = mBody 1 mb_Shelf_told := ⟨_, rfl⟩
noncomputable def m_Shelf_told : MDef := mx_Shelf_told.choose
theorem mq_Shelf_told : m_Shelf_told = mBody 1 mb_Shelf_told := mx_Shelf_told.choose_spec
theorem e_m_Shelf_told {a0 : D} {h : MH} {X : MX} {Q : MK} : m_Shelf_told [a0] h X Q = (mRet (mCB cList (mCons (mFld "line" (mVar 0)) mNil))) ⟨fun _ h1 => Q .non h1, Q, fun _ _ => False, fun _ _ => False, fun _ => X⟩ [some a0] h := by rw [mq_Shelf_told]; rfl
local macro_rules | `(tactic| walk_at "go") => `(tactic| simp? only [↓MP.is_whole_eq, ↓MP.Ty.whole, ↓e_m_Shelf___init__, ↓e_m_Shelf_seat, ↓e_m_Shelf_seek, ↓e_m_Shelf_keep, ↓e_m_Shelf_drop, ↓e_m_Shelf_empty, ↓e_m_Shelf_told, ↓e_ml_Shelf_seat_1, Option.isSome_some, Option.isSome_none])
local macro_rules | `(tactic| walk_at "en") => `(tactic| (unfold callm; walk_at "go"))
local macro_rules | `(tactic| walk_at "run") => `(tactic| repeat (first | walk_at "go" | walk_at "sp"))
local macro_rules | `(tactic| walk_at "rut") => `(tactic| repeat (first | walk_at "go" | walk_at "sp" | with_reducible refine M.mk_tree ?_))

local macro_rules | `(tactic| walk_at "as") => `(tactic| first | assumption | (simp only [M.put_ap, M.put_put', reduceIte, eq_self, Nat.reduceEqDiff, Nat.add_eq_left, Nat.add_left_cancel_iff, ite_true, ite_false]; assumption))
local macro_rules | `(tactic| walk_at "side") => `(tactic| first | assumption | omega | (simp; done) | decide | (simp; omega))
local macro_rules | `(tactic| walk_at "sp") => `(tactic| ((with_reducible refine M.optm_of (o := Pt.bind ?p ?d ?s) (a := ?v) ?e ?_); (case e => exact rfl)))
local macro_rules | `(tactic| walk_at "sp") => `(tactic| first | (with_reducible refine M.cndm_of (M.mulOk_of ?a ?b) ?_; (case a => omega); (case b => omega)) | (with_reducible refine M.cndm_of (M.mulOk_of2 ?a ?b) ?_; (case a => omega); (case b => omega)))
local macro_rules | `(tactic| walk_at "sp") => `(tactic| ((with_reducible refine M.eq_selfL' ?a ?_); (case a => first | rfl | (simp only [List.all_cons, List.all_nil, Bool.and_true, Bool.true_and, M.dat_non, M.dat_bl, M.dat_int, M.dat_str, M.dat_tup, M.dat_lst]; done) | (simp only [List.all_cons, List.all_nil, Bool.and_true, Bool.true_and, M.dat_non, M.dat_bl, M.dat_int, M.dat_str, M.dat_tup, M.dat_lst]; decide +kernel))))
local macro_rules | `(tactic| walk_at "sp") => `(tactic| ((with_reducible refine M.ne_selfL' ?a ?_); (case a => first | rfl | (simp only [List.all_cons, List.all_nil, Bool.and_true, Bool.true_and, M.dat_non, M.dat_bl, M.dat_int, M.dat_str, M.dat_tup, M.dat_lst]; done) | (simp only [List.all_cons, List.all_nil, Bool.and_true, Bool.true_and, M.dat_non, M.dat_bl, M.dat_int, M.dat_str, M.dat_tup, M.dat_lst]; decide +kernel))))
local macro_rules | `(tactic| walk_at "sp") => `(tactic| ((with_reducible refine M.eq_selfT' ?a ?_); (case a => first | rfl | (simp only [List.all_cons, List.all_nil, Bool.and_true, Bool.true_and, M.dat_non, M.dat_bl, M.dat_int, M.dat_str, M.dat_tup, M.dat_lst]; done) | (simp only [List.all_cons, List.all_nil, Bool.and_true, Bool.true_and, M.dat_non, M.dat_bl, M.dat_int, M.dat_str, M.dat_tup, M.dat_lst]; decide +kernel))))
local macro_rules | `(tactic| walk_at "sp") => `(tactic| ((with_reducible refine M.ne_selfT' ?a ?_); (case a => first | rfl | (simp only [List.all_cons, List.all_nil, Bool.and_true, Bool.true_and, M.dat_non, M.dat_bl, M.dat_int, M.dat_str, M.dat_tup, M.dat_lst]; done) | (simp only [List.all_cons, List.all_nil, Bool.and_true, Bool.true_and, M.dat_non, M.dat_bl, M.dat_int, M.dat_str, M.dat_tup, M.dat_lst]; decide +kernel))))
local macro_rules | `(tactic| walk_at "sp") => `(tactic| ((with_reducible refine M.eq_nilL' ?a ?_); (case a => first | rfl | (simp only [List.all_cons, List.all_nil, Bool.and_true, Bool.true_and, M.dat_non, M.dat_bl, M.dat_int, M.dat_str, M.dat_tup, M.dat_lst]; done) | (simp only [List.all_cons, List.all_nil, Bool.and_true, Bool.true_and, M.dat_non, M.dat_bl, M.dat_int, M.dat_str, M.dat_tup, M.dat_lst]; decide +kernel))))
local macro_rules | `(tactic| walk_at "sp") => `(tactic| ((with_reducible refine M.ne_nilL' ?a ?_); (case a => first | rfl | (simp only [List.all_cons, List.all_nil, Bool.and_true, Bool.true_and, M.dat_non, M.dat_bl, M.dat_int, M.dat_str, M.dat_tup, M.dat_lst]; done) | (simp only [List.all_cons, List.all_nil, Bool.and_true, Bool.true_and, M.dat_non, M.dat_bl, M.dat_int, M.dat_str, M.dat_tup, M.dat_lst]; decide +kernel))))
local macro_rules | `(tactic| walk_at "sp") => `(tactic| first | (with_reducible refine M.cndm_of ?a ?_; (case a => walk_at "side")) | (with_reducible refine M.mite_dt ?a ?_; (case a => omega)) | (with_reducible refine M.mite_df ?a ?_; (case a => omega)) | (with_reducible refine M.mite_nt ?a ?_; (case a => omega)) | (with_reducible refine M.mite_nf ?a ?_; (case a => omega)))
local macro_rules | `(tactic| walk_at "ms") => `(tactic| simp_all? only [↓MP.is_whole_eq, ↓MP.Ty.whole, ↓e_m_Shelf___init__, ↓e_m_Shelf_seat, ↓e_m_Shelf_seek, ↓e_m_Shelf_keep, ↓e_m_Shelf_drop, ↓e_m_Shelf_empty, ↓e_m_Shelf_told, ↓e_ml_Shelf_seat_1, Option.isSome_some, Option.isSome_none])
local macro_rules | `(tactic| walk_at "mo") => `(tactic| (unfold callm; walk_at "ms"))
local macro_rules | `(tactic| walk_at "hp") => `(tactic| simp only [MH.at, MH.put, MH.new, MH.upd, reduceIte, Nat.reduceEqDiff])
/-! the shelf -/
abbrev Row := Int × Int × Int
def rowD (r : Row) : D := .tup [.int r.1, .int r.2.1, .int r.2.2]
def seatN (n : Int) : List Row → Nat
  | [] => 0
  | r :: rs => if r.1 = n then 0 else seatN n rs + 1
structure IsShelf (q : Nat) (R : List O) (m : Int) (rs : List Row) : Prop where
  ex : ∃ k, R[0]? = some (.ins "Shelf" [("most", .int m), ("line", .ref q k)]) ∧ R[k]? = some (.lst (rs.map rowD))
def seekD (n : Int) (rs : List Row) : D := match rs[seatN n rs]? with | some r => .tup [.int r.2.1, .int r.2.2] | none => .non
def keepR (m : Int) (u : Row) (rs : List Row) : List Row := if seatN u.1 rs < rs.length then rs.set (seatN u.1 rs) u else if (rs.length : Int) + 1 ≤ m then rs ++ [u] else (rs ++ [u]).tail
def keepD (m : Int) (u : Row) (rs : List Row) : D := if seatN u.1 rs < rs.length then .non else if (rs.length : Int) + 1 ≤ m then .non else match (rs ++ [u])[0]? with | some v => .int v.1 | none => .non
section
variable {q : Nat} {h : MH} {m : Int} {rs : List Row} {X : KX} {K : K2} {n p r : Int}
theorem shelf_new (hq : h q = []) (h1 : 1 ≤ m) (h2 : m ≤ 12) (q1 : ∀ R, IsShelf q R m [] → K.k (.ref q 0) (h.put q R)) : @newm "Shelf" m_Shelf___init__ [.int m] h X K := by
  refine newm_of q ?_
  rw [hq, new_def, hq]
  show @callm m_Shelf___init__ [.ref q 0, .int m] (h.put q [.ins "Shelf" []]) X ⟨fun d h2 => d = .non ∧ K.k (.ref q 0) h2⟩
  walk_at "mo"
  refine mite_d (fun e => absurd e (by omega)) (fun e => ?_)
  walk_at "ms"
  refine mite_d (fun e => absurd e (by omega)) (fun e => ?_)
  walk_at "ms"
  have a1 : (h.put q [.ins "Shelf" []]).at q 0 = some (.ins "Shelf" []) := by rw [at_put_same]; rfl
  rw [sf_of a1]
  walk_at "ms"
  rw [upd_put]
  refine mk_new q ?_
  rw [MH.put_same, new_put]
  walk_at "ms"
  have a2 : (h.put q [.ins "Shelf" [("most", .int m)], .lst []]).at q 0 = some (.ins "Shelf" [("most", .int m)]) := by rw [at_put_same]; rfl
  rw [sf_of a2]
  walk_at "ms"
  rw [upd_put]
  exact q1 _ ⟨1, rfl, rfl⟩
end
end MP

set_option Elab.async false
set_option linter.all false
set_option maxRecDepth 100000
set_option maxHeartbeats 4000000
set_option checkBinderAnnotations false
namespace MP
open PySem PySem.Spec PyProof.Rows L2 Z M
def mb_Plain_root : MS :=
  (mRet (mFld "base" (mVar 0)))
theorem mx_Plain_root : ∃ m : MDef, m = mBody 1 mb_Plain_root := ⟨_, rfl⟩
noncomputable def m_Plain_root : MDef := mx_Plain_root.choose
theorem mq_Plain_root : m_Plain_root = mBody 1 mb_Plain_root := mx_Plain_root.choose_spec
theorem e_m_Plain_root {a0 : D} {h : MH} {X : MX} {Q : MK} : m_Plain_root [a0] h X Q = (mRet (mFld "base" (mVar 0))) ⟨fun _ h1 => Q .non h1, Q, fun _ _ => False, fun _ _ => False, fun _ => X⟩ [some a0] h := by rw [mq_Plain_root]; rfl
def mb_Plain_left_all : MS :=
  mNext
theorem mx_Plain_left_all : ∃ m : MDef, m = mBody 1 mb_Plain_left_all := ⟨_, rfl⟩
noncomputable def m_Plain_left_all : MDef := mx_Plain_left_all.choose
theorem mq_Plain_left_all : m_Plain_left_all = mBody 1 mb_Plain_left_all := mx_Plain_left_all.choose_spec
theorem e_m_Plain_left_all {a0 : D} {h : MH} {X : MX} {Q : MK} : m_Plain_left_all [a0] h X Q = mNext ⟨fun _ h1 => Q .non h1, Q, fun _ _ => False, fun _ _ => False, fun _ => X⟩ [some a0] h := by rw [mq_Plain_left_all]; rfl
def mb_Plain_left : MS :=
  mNext
theorem mx_Plain_left : ∃ m : MDef, m = mBody 2 mb_Plain_left := ⟨_, rfl⟩
noncomputable def m_Plain_left : MDef := mx_Plain_left.choose
theorem mq_Plain_left : m_Plain_left = mBody 2 mb_Plain_left := mx_Plain_left.choose_spec
theorem e_m_Plain_left {a0 a1 : D} {h : MH} {X : MX} {Q : MK} : m_Plain_left [a0, a1] h X Q = mNext ⟨fun _ h1 => Q .non h1, Q, fun _ _ => False, fun _ _ => False, fun _ => X⟩ [some a0, some a1] h := by rw [mq_Plain_left]; rfl
def mb_Plain_size : MS :=
  (mRet (mMt "Memory" 1 m_Memory_size (mFld "memory" (mVar 0)) mNil))
theorem mx_Plain_size : ∃ m : MDef, m = mBody 1 mb_Plain_size := ⟨_, rfl⟩
noncomputable def m_Plain_size : MDef := mx_Plain_size.choose
theorem mq_Plain_size : m_Plain_size = mBody 1 mb_Plain_size := mx_Plain_size.choose_spec
theorem e_m_Plain_size {a0 : D} {h : MH} {X : MX} {Q : MK} : m_Plain_size [a0] h X Q = (mRet (mMt "Memory" 1 m_Memory_size (mFld "memory" (mVar 0)) mNil)) ⟨fun _ h1 => Q .non h1, Q, fun _ _ => False, fun _ _ => False, fun _ => X⟩ [some a0] h := by rw [mq_Plain_size]; rfl
def mb_Plain_fetch : MS :=
  (mRet (mMt "Memory" 3 m_Memory_fetch (mFld "memory" (mVar 0)) (mCons (mVar 1) (mCons (mVar 2) mNil))))
theorem mx_Plain_fetch : ∃ m : MDef, m = mBody 3 mb_Plain_fetch := ⟨_, rfl⟩
noncomputable def m_Plain_fetch : MDef := mx_Plain_fetch.choose
theorem mq_Plain_fetch : m_Plain_fetch = mBody 3 mb_Plain_fetch := mx_Plain_fetch.choose_spec
theorem e_m_Plain_fetch {a0 a1 a2 : D} {h : MH} {X : MX} {Q : MK} : m_Plain_fetch [a0, a1, a2] h X Q = (mRet (mMt "Memory" 3 m_Memory_fetch (mFld "memory" (mVar 0)) (mCons (mVar 1) (mCons (mVar 2) mNil)))) ⟨fun _ h1 => Q .non h1, Q, fun _ _ => False, fun _ _ => False, fun _ => X⟩ [some a0, some a1, some a2] h := by rw [mq_Plain_fetch]; rfl
def mb_Plain_shelf : MS :=
  (mRet (mMt "Shelf" 1 m_Shelf_told (mFld "held" (mVar 0)) mNil))
theorem mx_Plain_shelf : ∃ m : MDef, m = mBody 1 mb_Plain_shelf := ⟨_, rfl⟩
noncomputable def m_Plain_shelf : MDef := mx_Plain_shelf.choose
theorem mq_Plain_shelf : m_Plain_shelf = mBody 1 mb_Plain_shelf := mx_Plain_shelf.choose_spec
theorem e_m_Plain_shelf {a0 : D} {h : MH} {X : MX} {Q : MK} : m_Plain_shelf [a0] h X Q = (mRet (mMt "Shelf" 1 m_Shelf_told (mFld "held" (mVar 0)) mNil)) ⟨fun _ h1 => Q .non h1, Q, fun _ _ => False, fun _ _ => False, fun _ => X⟩ [some a0] h := by rw [mq_Plain_shelf]; rfl
def mb_Plain_turn_root : MS :=
  (mSeq (mSFld "Plain" "base" (mVar 0) (mVar 1))
  (mSeq (mDrop (mMt "Shelf" 1 m_Shelf_empty (mFld "held" (mVar 0)) mNil))
  (mDrop (mMt "Plain" 1 m_Plain_left_all (mVar 0) mNil))))
theorem mx_Plain_turn_root : ∃ m : MDef, m = mBody 2 mb_Plain_turn_root := ⟨_, rfl⟩
noncomputable def m_Plain_turn_root : MDef := mx_Plain_turn_root.choose
theorem mq_Plain_turn_root : m_Plain_turn_root = mBody 2 mb_Plain_turn_root := mx_Plain_turn_root.choose_spec
theorem e_m_Plain_turn_root {a0 a1 : D} {h : MH} {X : MX} {Q : MK} : m_Plain_turn_root [a0, a1] h X Q = (mSeq (mSFld "Plain" "base" (mVar 0) (mVar 1))
  (mSeq (mDrop (mMt "Shelf" 1 m_Shelf_empty (mFld "held" (mVar 0)) mNil))
  (mDrop (mMt "Plain" 1 m_Plain_left_all (mVar 0) mNil)))) ⟨fun _ h1 => Q .non h1, Q, fun _ _ => False, fun _ _ => False, fun _ => X⟩ [some a0, some a1] h := by rw [mq_Plain_turn_root]; rfl
def mb_Plain_deposit : MS :=
  (mDrop (mMt "Memory" 4 m_Memory_deposit (mFld "memory" (mVar 0)) (mCons (mVar 1) (mCons (mVar 2) (mCons (mVar 3) mNil)))))
theorem mx_Plain_deposit : ∃ m : MDef, m = mBody 4 mb_Plain_deposit := ⟨_, rfl⟩
noncomputable def m_Plain_deposit : MDef := mx_Plain_deposit.choose
theorem mq_Plain_deposit : m_Plain_deposit = mBody 4 mb_Plain_deposit := mx_Plain_deposit.choose_spec
theorem e_m_Plain_deposit {a0 a1 a2 a3 : D} {h : MH} {X : MX} {Q : MK} : m_Plain_deposit [a0, a1, a2, a3] h X Q = (mDrop (mMt "Memory" 4 m_Memory_deposit (mFld "memory" (mVar 0)) (mCons (mVar 1) (mCons (mVar 2) (mCons (mVar 3) mNil))))) ⟨fun _ h1 => Q .non h1, Q, fun _ _ => False, fun _ _ => False, fun _ => X⟩ [some a0, some a1, some a2, some a3] h := by rw [mq_Plain_deposit]; rfl
def mb_lets : MS :=
  (mSeq (mIfS (mAnd (mB (mFn 2 m_has (mCons (mVar 0) (mCons (mC (.int 4)) mNil)))) (mNot (mB (mVar 2)))) (mRet (mC (.bl false))) mNext)
  (mRet (mOrV (mNotV (mVar 1)) (mFn 2 m_has (mCons (mVar 0) (mCons (mOp opBor (mC (.int 2)) (mC (.int 16))) mNil))))))
theorem mx_lets : ∃ m : MDef, m = mBody 3 mb_lets := ⟨_, rfl⟩
noncomputable def m_lets : MDef := mx_lets.choose
theorem mq_lets : m_lets = mBody 3 mb_lets := mx_lets.choose_spec
theorem e_m_lets {a0 a1 a2 : D} {h : MH} {X : MX} {Q : MK} : m_lets [a0, a1, a2] h X Q = (mSeq (mIfS (mAnd (mB (mFn 2 m_has (mCons (mVar 0) (mCons (mC (.int 4)) mNil)))) (mNot (mB (mVar 2)))) (mRet (mC (.bl false))) mNext)
  (mRet (mOrV (mNotV (mVar 1)) (mFn 2 m_has (mCons (mVar 0) (mCons (mOp opBor (mC (.int 2)) (mC (.int 16))) mNil)))))) ⟨fun _ h1 => Q .non h1, Q, fun _ _ => False, fun _ _ => False, fun _ => X⟩ [some a0, some a1, some a2] h := by rw [mq_lets]; rfl
def mb_Plain_has : MS :=
  (mRet (mMt "Memory" 2 m_Memory_has (mFld "memory" (mVar 0)) (mCons (mVar 1) mNil)))
theorem mx_Plain_has : ∃ m : MDef, m = mBody 2 mb_Plain_has := ⟨_, rfl⟩
noncomputable def m_Plain_has : MDef := mx_Plain_has.choose
theorem mq_Plain_has : m_Plain_has = mBody 2 mb_Plain_has := mx_Plain_has.choose_spec
theorem e_m_Plain_has {a0 a1 : D} {h : MH} {X : MX} {Q : MK} : m_Plain_has [a0, a1] h X Q = (mRet (mMt "Memory" 2 m_Memory_has (mFld "memory" (mVar 0)) (mCons (mVar 1) mNil))) ⟨fun _ h1 => Q .non h1, Q, fun _ _ => False, fun _ _ => False, fun _ => X⟩ [some a0, some a1] h := by rw [mq_Plain_has]; rfl
def mb_Plain_Ways___init__ : MS :=
  (mSeq (mSFld "Plain" "held" (mVar 0) (mNew "Shelf" 2 m_Shelf___init__ (mCons (mVar 1) mNil)))
  (mSFld "Plain" "base" (mVar 0) (mC (.int 0))))
theorem mx_Plain_Ways___init__ : ∃ m : MDef, m = mBody 2 mb_Plain_Ways___init__ := ⟨_, rfl⟩
noncomputable def m_Plain_Ways___init__ : MDef := mx_Plain_Ways___init__.choose
theorem mq_Plain_Ways___init__ : m_Plain_Ways___init__ = mBody 2 mb_Plain_Ways___init__ := mx_Plain_Ways___init__.choose_spec
theorem e_m_Plain_Ways___init__ {a0 a1 : D} {h : MH} {X : MX} {Q : MK} : m_Plain_Ways___init__ [a0, a1] h X Q = (mSeq (mSFld "Plain" "held" (mVar 0) (mNew "Shelf" 2 m_Shelf___init__ (mCons (mVar 1) mNil)))
  (mSFld "Plain" "base" (mVar 0) (mC (.int 0)))) ⟨fun _ h1 => Q .non h1, Q, fun _ _ => False, fun _ _ => False, fun _ => X⟩ [some a0, some a1] h := by rw [mq_Plain_Ways___init__]; rfl
def mb_Plain_look_for : MS :=
  (mSeq (mIfS (mNot (mB (mMt "Plain" 2 m_Plain_has (mVar 0) (mCons (mVar 1) mNil)))) (mRaise "NoPage") mNext)
  (mIfS (mNot (mB (mFn 2 m_is_below (mCons (mVar 2) (mCons (mC (.int 8)) mNil))))) (mRaise "NoPlace") mNext))
theorem mx_Plain_look_for : ∃ m : MDef, m = mBody 3 mb_Plain_look_for := ⟨_, rfl⟩
noncomputable def m_Plain_look_for : MDef := mx_Plain_look_for.choose
theorem mq_Plain_look_for : m_Plain_look_for = mBody 3 mb_Plain_look_for := mx_Plain_look_for.choose_spec
theorem e_m_Plain_look_for {a0 a1 a2 : D} {h : MH} {X : MX} {Q : MK} : m_Plain_look_for [a0, a1, a2] h X Q = (mSeq (mIfS (mNot (mB (mMt "Plain" 2 m_Plain_has (mVar 0) (mCons (mVar 1) mNil)))) (mRaise "NoPage") mNext)
  (mIfS (mNot (mB (mFn 2 m_is_below (mCons (mVar 2) (mCons (mC (.int 8)) mNil))))) (mRaise "NoPlace") mNext)) ⟨fun _ h1 => Q .non h1, Q, fun _ _ => False, fun _ _ => False, fun _ => X⟩ [some a0, some a1, some a2] h := by rw [mq_Plain_look_for]; rfl
def mb_Plain_on_shelf : MS :=
  (mSeq (mIfS (mB (mOp opGe (mVar 1) (mC (.int 512)))) (mRet (mC .non)) mNext)
  (mSeq (mSet 4 (mMt "Shelf" 2 m_Shelf_seek (mFld "held" (mVar 0)) (mCons (mOp opDiv (mVar 1) (mC (.int 8))) mNil)))
  (mSeq (mIfS (mOr (mB (mOp opIs (mVar 4) (mC .non))) (mOr (mNot (mB (mMt "Plain" 2 m_Plain_has (mVar 0) (mCons (mOp opIx (mVar 4) (mC (.int 0))) mNil)))) (mNot (mB (mFn 3 m_lets (mCons (mOp opIx (mVar 4) (mC (.int 1))) (mCons (mVar 2) (mCons (mVar 3) mNil)))))))) (mRet (mC .non)) mNext)
  (mRet (mOp opIx (mVar 4) (mC (.int 0)))))))
theorem mx_Plain_on_shelf : ∃ m : MDef, m = mBody 5 mb_Plain_on_shelf := ⟨_, rfl⟩
noncomputable def m_Plain_on_shelf : MDef := mx_Plain_on_shelf.choose
theorem mq_Plain_on_shelf : m_Plain_on_shelf = mBody 5 mb_Plain_on_shelf := mx_Plain_on_shelf.choose_spec
theorem e_m_Plain_on_shelf {a0 a1 a2 a3 : D} {h : MH} {X : MX} {Q : MK} : m_Plain_on_shelf [a0, a1, a2, a3] h X Q = (mSeq (mIfS (mB (mOp opGe (mVar 1) (mC (.int 512)))) (mRet (mC .non)) mNext)
  (mSeq (mSet 4 (mMt "Shelf" 2 m_Shelf_seek (mFld "held" (mVar 0)) (mCons (mOp opDiv (mVar 1) (mC (.int 8))) mNil)))
  (mSeq (mIfS (mOr (mB (mOp opIs (mVar 4) (mC .non))) (mOr (mNot (mB (mMt "Plain" 2 m_Plain_has (mVar 0) (mCons (mOp opIx (mVar 4) (mC (.int 0))) mNil)))) (mNot (mB (mFn 3 m_lets (mCons (mOp opIx (mVar 4) (mC (.int 1))) (mCons (mVar 2) (mCons (mVar 3) mNil)))))))) (mRet (mC .non)) mNext)
  (mRet (mOp opIx (mVar 4) (mC (.int 0))))))) ⟨fun _ h1 => Q .non h1, Q, fun _ _ => False, fun _ _ => False, fun _ => X⟩ [some a0, some a1, some a2, some a3, none] h := by rw [mq_Plain_on_shelf]; rfl
def mb_look_by__Plain : MS :=
  (mSeq (mSet 6 (mFn 1 m_page_of (mCons (mVar 1) mNil)))
  (mSeq (mIfS (mNot (mB (mFn 2 m_has (mCons (mVar 1) (mCons (mC (.int 1)) mNil))))) (mRaiseF "Fault" ["kind", "place", "level"] (mCons (mC (.str (Str.ofString "absent"))) (mCons (mVar 2) (mCons (mVar 3) mNil)))) mNext)
  (mSeq (mIfS (mNot (mB (mMt "Plain" 2 m_Plain_has (mVar 0) (mCons (mVar 6) mNil)))) (mRaiseF "Fault" ["kind", "place", "level"] (mCons (mC (.str (Str.ofString "beyond"))) (mCons (mVar 2) (mCons (mVar 3) mNil)))) mNext)
  (mSeq (mIfS (mAnd (mB (mFn 2 m_has (mCons (mVar 1) (mCons (mC (.int 4)) mNil)))) (mNot (mB (mVar 5)))) (mRaiseF "Fault" ["kind", "place", "level"] (mCons (mC (.str (Str.ofString "kernel"))) (mCons (mVar 2) (mCons (mVar 3) mNil)))) mNext)
  (mSeq (mIfS (mAnd (mB (mVar 4)) (mNot (mB (mFn 2 m_has (mCons (mVar 1) (mCons (mC (.int 2)) mNil)))))) (mRaiseF "Fault" ["kind", "place", "level"] (mCons (mC (.str (Str.ofString "fixed"))) (mCons (mVar 2) (mCons (mVar 3) mNil)))) mNext)
  (mRet (mVar 6)))))))
theorem mx_look_by__Plain : ∃ m : MDef, m = mBody 7 mb_look_by__Plain := ⟨_, rfl⟩
noncomputable def m_look_by__Plain : MDef := mx_look_by__Plain.choose
theorem mq_look_by__Plain : m_look_by__Plain = mBody 7 mb_look_by__Plain := mx_look_by__Plain.choose_spec
theorem e_m_look_by__Plain {a0 a1 a2 a3 a4 a5 : D} {h : MH} {X : MX} {Q : MK} : m_look_by__Plain [a0, a1, a2, a3, a4, a5] h X Q = (mSeq (mSet 6 (mFn 1 m_page_of (mCons (mVar 1) mNil)))
  (mSeq (mIfS (mNot (mB (mFn 2 m_has (mCons (mVar 1) (mCons (mC (.int 1)) mNil))))) (mRaiseF "Fault" ["kind", "place", "level"] (mCons (mC (.str (Str.ofString "absent"))) (mCons (mVar 2) (mCons (mVar 3) mNil)))) mNext)
  (mSeq (mIfS (mNot (mB (mMt "Plain" 2 m_Plain_has (mVar 0) (mCons (mVar 6) mNil)))) (mRaiseF "Fault" ["kind", "place", "level"] (mCons (mC (.str (Str.ofString "beyond"))) (mCons (mVar 2) (mCons (mVar 3) mNil)))) mNext)
  (mSeq (mIfS (mAnd (mB (mFn 2 m_has (mCons (mVar 1) (mCons (mC (.int 4)) mNil)))) (mNot (mB (mVar 5)))) (mRaiseF "Fault" ["kind", "place", "level"] (mCons (mC (.str (Str.ofString "kernel"))) (mCons (mVar 2) (mCons (mVar 3) mNil)))) mNext)
  (mSeq (mIfS (mAnd (mB (mVar 4)) (mNot (mB (mFn 2 m_has (mCons (mVar 1) (mCons (mC (.int 2)) mNil)))))) (mRaiseF "Fault" ["kind", "place", "level"] (mCons (mC (.str (Str.ofString "fixed"))) (mCons (mVar 2) (mCons (mVar 3) mNil)))) mNext)
  (mRet (mVar 6))))))) ⟨fun _ h1 => Q .non h1, Q, fun _ _ => False, fun _ _ => False, fun _ => X⟩ [some a0, some a1, some a2, some a3, some a4, some a5, none] h := by rw [mq_look_by__Plain]; rfl
def mb_Plain_read : MS :=
  (mSeq (mDrop (mMt "Plain" 3 m_Plain_look_for (mVar 0) (mCons (mVar 1) (mCons (mVar 2) mNil))))
  (mRet (mMt "Plain" 3 m_Plain_fetch (mVar 0) (mCons (mVar 1) (mCons (mVar 2) mNil)))))
theorem mx_Plain_read : ∃ m : MDef, m = mBody 3 mb_Plain_read := ⟨_, rfl⟩
noncomputable def m_Plain_read : MDef := mx_Plain_read.choose
theorem mq_Plain_read : m_Plain_read = mBody 3 mb_Plain_read := mx_Plain_read.choose_spec
theorem e_m_Plain_read {a0 a1 a2 : D} {h : MH} {X : MX} {Q : MK} : m_Plain_read [a0, a1, a2] h X Q = (mSeq (mDrop (mMt "Plain" 3 m_Plain_look_for (mVar 0) (mCons (mVar 1) (mCons (mVar 2) mNil))))
  (mRet (mMt "Plain" 3 m_Plain_fetch (mVar 0) (mCons (mVar 1) (mCons (mVar 2) mNil))))) ⟨fun _ h1 => Q .non h1, Q, fun _ _ => False, fun _ _ => False, fun _ => X⟩ [some a0, some a1, some a2] h := by rw [mq_Plain_read]; rfl
def mb_Plain_write : MS :=
  (mSeq (mDrop (mMt "Plain" 3 m_Plain_look_for (mVar 0) (mCons (mVar 1) (mCons (mVar 2) mNil))))
  (mSeq (mIfS (mNot (mB (mFn 1 m_is_word (mCons (mVar 3) mNil)))) (mRaise "NoWord") mNext)
  (mDrop (mMt "Plain" 4 m_Plain_deposit (mVar 0) (mCons (mVar 1) (mCons (mVar 2) (mCons (mVar 3) mNil)))))))
theorem mx_Plain_write : ∃ m : MDef, m = mBody 4 mb_Plain_write := ⟨_, rfl⟩
noncomputable def m_Plain_write : MDef := mx_Plain_write.choose
theorem mq_Plain_write : m_Plain_write = mBody 4 mb_Plain_write := mx_Plain_write.choose_spec
theorem e_m_Plain_write {a0 a1 a2 a3 : D} {h : MH} {X : MX} {Q : MK} : m_Plain_write [a0, a1, a2, a3] h X Q = (mSeq (mDrop (mMt "Plain" 3 m_Plain_look_for (mVar 0) (mCons (mVar 1) (mCons (mVar 2) mNil))))
  (mSeq (mIfS (mNot (mB (mFn 1 m_is_word (mCons (mVar 3) mNil)))) (mRaise "NoWord") mNext)
  (mDrop (mMt "Plain" 4 m_Plain_deposit (mVar 0) (mCons (mVar 1) (mCons (mVar 2) (mCons (mVar 3) mNil))))))) ⟨fun _ h1 => Q .non h1, Q, fun _ _ => False, fun _ _ => False, fun _ => X⟩ [some a0, some a1, some a2, some a3] h := by rw [mq_Plain_write]; rfl
def mb_Plain___init__ : MS :=
  (mSeq (mSFld "Plain" "memory" (mVar 0) (mNew "Memory" 2 m_Memory___init__ (mCons (mVar 1) mNil)))
  (mSeq (mDrop (mUnb 2 m_Plain_Ways___init__ (mCons (mVar 0) (mCons (mVar 2) mNil))))
  (mSeq (mSFld "Plain" "replies" (mVar 0) (mCB cList (mCons (mVar 3) mNil)))
  (mSFld "Plain" "heard" (mVar 0) (mC (.int 0))))))
theorem mx_Plain___init__ : ∃ m : MDef, m = mBody 4 mb_Plain___init__ := ⟨_, rfl⟩
noncomputable def m_Plain___init__ : MDef := mx_Plain___init__.choose
theorem mq_Plain___init__ : m_Plain___init__ = mBody 4 mb_Plain___init__ := mx_Plain___init__.choose_spec
theorem e_m_Plain___init__ {a0 a1 a2 a3 : D} {h : MH} {X : MX} {Q : MK} : m_Plain___init__ [a0, a1, a2, a3] h X Q = (mSeq (mSFld "Plain" "memory" (mVar 0) (mNew "Memory" 2 m_Memory___init__ (mCons (mVar 1) mNil)))
  (mSeq (mDrop (mUnb 2 m_Plain_Ways___init__ (mCons (mVar 0) (mCons (mVar 2) mNil))))
  (mSeq (mSFld "Plain" "replies" (mVar 0) (mCB cList (mCons (mVar 3) mNil)))
  (mSFld "Plain" "heard" (mVar 0) (mC (.int 0)))))) ⟨fun _ h1 => Q .non h1, Q, fun _ _ => False, fun _ _ => False, fun _ => X⟩ [some a0, some a1, some a2, some a3] h := by rw [mq_Plain___init__]; rfl
def mb_Plain_words_of : MS :=
  (mSeq (mIfS (mNot (mB (mMt "Plain" 2 m_Plain_has (mVar 0) (mCons (mVar 1) mNil)))) (mRet (mC .non)) mNext)
  (mRet (mLc (miR1 (mC (.int 8))) (.nm 2) mYes (mMt "Plain" 3 m_Plain_read (mVar 0) (mCons (mVar 1) (mCons (mVar 2) mNil))) [2])))
theorem mx_Plain_words_of : ∃ m : MDef, m = mBody 3 mb_Plain_words_of := ⟨_, rfl⟩
noncomputable def m_Plain_words_of : MDef := mx_Plain_words_of.choose
theorem mq_Plain_words_of : m_Plain_words_of = mBody 3 mb_Plain_words_of := mx_Plain_words_of.choose_spec
theorem e_m_Plain_words_of {a0 a1 : D} {h : MH} {X : MX} {Q : MK} : m_Plain_words_of [a0, a1] h X Q = (mSeq (mIfS (mNot (mB (mMt "Plain" 2 m_Plain_has (mVar 0) (mCons (mVar 1) mNil)))) (mRet (mC .non)) mNext)
  (mRet (mLc (miR1 (mC (.int 8))) (.nm 2) mYes (mMt "Plain" 3 m_Plain_read (mVar 0) (mCons (mVar 1) (mCons (mVar 2) mNil))) [2]))) ⟨fun _ h1 => Q .non h1, Q, fun _ _ => False, fun _ _ => False, fun _ => X⟩ [some a0, some a1, none] h := by rw [mq_Plain_words_of]; rfl
def mb_look__Plain : MS :=
  (mSeq (mIfS (mB (mOp opGt (mVar 2) (mC (.int 511)))) (mRaiseF "Fault" ["kind", "place", "level"] (mCons (mC (.str (Str.ofString "far"))) (mCons (mVar 2) (mCons (mC (.int 0)) mNil)))) mNext)
  (mSeq (mIfS (mNot (mB (mMt "Plain" 2 m_Plain_has (mVar 0) (mCons (mVar 1) mNil)))) (mRaiseF "Fault" ["kind", "place", "level"] (mCons (mC (.str (Str.ofString "beyond"))) (mCons (mVar 2) (mCons (mC (.int 0)) mNil)))) mNext)
  (mSeq (mAsg (.tp [(.nm 5), (.nm 6), (.nm 7)]) (mFn 1 m_parts_of (mCons (mVar 2) mNil)))
  (mSeq (mSet 8 (mMt "Plain" 3 m_Plain_read (mVar 0) (mCons (mVar 1) (mCons (mVar 5) mNil))))
  (mSeq (mSet 9 (mFn 6 m_look_by__Plain (mCons (mVar 0) (mCons (mVar 8) (mCons (mVar 2) (mCons (mC (.int 1)) (mCons (mVar 3) (mCons (mVar 4) mNil))))))))
  (mSeq (mSet 10 (mMt "Plain" 3 m_Plain_read (mVar 0) (mCons (mVar 9) (mCons (mVar 6) mNil))))
  (mSeq (mSet 11 (mFn 6 m_look_by__Plain (mCons (mVar 0) (mCons (mVar 10) (mCons (mVar 2) (mCons (mC (.int 2)) (mCons (mVar 3) (mCons (mVar 4) mNil))))))))
  (mRet (mTup (mCons (mTup (mCons (mVar 1) (mCons (mVar 5) mNil))) (mCons (mTup (mCons (mVar 9) (mCons (mVar 6) mNil))) (mCons (mVar 11) (mCons (mFn 2 m_rights_of (mCons (mVar 8) (mCons (mVar 10) mNil))) mNil)))))))))))))
theorem mx_look__Plain : ∃ m : MDef, m = mBody 12 mb_look__Plain := ⟨_, rfl⟩
noncomputable def m_look__Plain : MDef := mx_look__Plain.choose
theorem mq_look__Plain : m_look__Plain = mBody 12 mb_look__Plain := mx_look__Plain.choose_spec
theorem e_m_look__Plain {a0 a1 a2 a3 a4 : D} {h : MH} {X : MX} {Q : MK} : m_look__Plain [a0, a1, a2, a3, a4] h X Q = (mSeq (mIfS (mB (mOp opGt (mVar 2) (mC (.int 511)))) (mRaiseF "Fault" ["kind", "place", "level"] (mCons (mC (.str (Str.ofString "far"))) (mCons (mVar 2) (mCons (mC (.int 0)) mNil)))) mNext)
  (mSeq (mIfS (mNot (mB (mMt "Plain" 2 m_Plain_has (mVar 0) (mCons (mVar 1) mNil)))) (mRaiseF "Fault" ["kind", "place", "level"] (mCons (mC (.str (Str.ofString "beyond"))) (mCons (mVar 2) (mCons (mC (.int 0)) mNil)))) mNext)
  (mSeq (mAsg (.tp [(.nm 5), (.nm 6), (.nm 7)]) (mFn 1 m_parts_of (mCons (mVar 2) mNil)))
  (mSeq (mSet 8 (mMt "Plain" 3 m_Plain_read (mVar 0) (mCons (mVar 1) (mCons (mVar 5) mNil))))
  (mSeq (mSet 9 (mFn 6 m_look_by__Plain (mCons (mVar 0) (mCons (mVar 8) (mCons (mVar 2) (mCons (mC (.int 1)) (mCons (mVar 3) (mCons (mVar 4) mNil))))))))
  (mSeq (mSet 10 (mMt "Plain" 3 m_Plain_read (mVar 0) (mCons (mVar 9) (mCons (mVar 6) mNil))))
  (mSeq (mSet 11 (mFn 6 m_look_by__Plain (mCons (mVar 0) (mCons (mVar 10) (mCons (mVar 2) (mCons (mC (.int 2)) (mCons (mVar 3) (mCons (mVar 4) mNil))))))))
  (mRet (mTup (mCons (mTup (mCons (mVar 1) (mCons (mVar 5) mNil))) (mCons (mTup (mCons (mVar 9) (mCons (mVar 6) mNil))) (mCons (mVar 11) (mCons (mFn 2 m_rights_of (mCons (mVar 8) (mCons (mVar 10) mNil))) mNil))))))))))))) ⟨fun _ h1 => Q .non h1, Q, fun _ _ => False, fun _ _ => False, fun _ => X⟩ [some a0, some a1, some a2, some a3, some a4, none, none, none, none, none, none, none] h := by rw [mq_look__Plain]; rfl
def mb_stamp__Plain : MS :=
  (mSeq (mSet 3 (mMt "Plain" 3 m_Plain_read (mVar 0) (mCons (mOp opIx (mVar 1) (mC (.int 0))) (mCons (mOp opIx (mVar 1) (mC (.int 1))) mNil))))
  (mIfS (mNot (mB (mFn 2 m_has (mCons (mVar 3) (mCons (mVar 2) mNil))))) (mDrop (mMt "Plain" 4 m_Plain_write (mVar 0) (mCons (mOp opIx (mVar 1) (mC (.int 0))) (mCons (mOp opIx (mVar 1) (mC (.int 1))) (mCons (mFn 2 m_put (mCons (mVar 3) (mCons (mVar 2) mNil))) mNil))))) mNext))
theorem mx_stamp__Plain : ∃ m : MDef, m = mBody 4 mb_stamp__Plain := ⟨_, rfl⟩
noncomputable def m_stamp__Plain : MDef := mx_stamp__Plain.choose
theorem mq_stamp__Plain : m_stamp__Plain = mBody 4 mb_stamp__Plain := mx_stamp__Plain.choose_spec
theorem e_m_stamp__Plain {a0 a1 a2 : D} {h : MH} {X : MX} {Q : MK} : m_stamp__Plain [a0, a1, a2] h X Q = (mSeq (mSet 3 (mMt "Plain" 3 m_Plain_read (mVar 0) (mCons (mOp opIx (mVar 1) (mC (.int 0))) (mCons (mOp opIx (mVar 1) (mC (.int 1))) mNil))))
  (mIfS (mNot (mB (mFn 2 m_has (mCons (mVar 3) (mCons (mVar 2) mNil))))) (mDrop (mMt "Plain" 4 m_Plain_write (mVar 0) (mCons (mOp opIx (mVar 1) (mC (.int 0))) (mCons (mOp opIx (mVar 1) (mC (.int 1))) (mCons (mFn 2 m_put (mCons (mVar 3) (mCons (mVar 2) mNil))) mNil))))) mNext)) ⟨fun _ h1 => Q .non h1, Q, fun _ _ => False, fun _ _ => False, fun _ => X⟩ [some a0, some a1, some a2, none] h := by rw [mq_stamp__Plain]; rfl
def mb_Plain_pages : MS :=
  (mRet (mLc (miR1 (mMt "Plain" 1 m_Plain_size (mVar 0) mNil)) (.nm 1) mYes (mMt "Plain" 2 m_Plain_words_of (mVar 0) (mCons (mVar 1) mNil)) [1]))
theorem mx_Plain_pages : ∃ m : MDef, m = mBody 2 mb_Plain_pages := ⟨_, rfl⟩
noncomputable def m_Plain_pages : MDef := mx_Plain_pages.choose
theorem mq_Plain_pages : m_Plain_pages = mBody 2 mb_Plain_pages := mx_Plain_pages.choose_spec
theorem e_m_Plain_pages {a0 : D} {h : MH} {X : MX} {Q : MK} : m_Plain_pages [a0] h X Q = (mRet (mLc (miR1 (mMt "Plain" 1 m_Plain_size (mVar 0) mNil)) (.nm 1) mYes (mMt "Plain" 2 m_Plain_words_of (mVar 0) (mCons (mVar 1) mNil)) [1])) ⟨fun _ h1 => Q .non h1, Q, fun _ _ => False, fun _ _ => False, fun _ => X⟩ [some a0, none] h := by rw [mq_Plain_pages]; rfl
def mb_mark__Plain : MS :=
  (mSeq (mDrop (mFn 3 m_stamp__Plain (mCons (mVar 0) (mCons (mOp opIx (mVar 1) (mC (.int 0))) (mCons (mC (.int 8)) mNil)))))
  (mSeq (mIfS (mNot (mB (mVar 2))) (mSeq (mDrop (mFn 3 m_stamp__Plain (mCons (mVar 0) (mCons (mOp opIx (mVar 1) (mC (.int 1))) (mCons (mC (.int 8)) mNil)))))
  (mRet (mOp opIx (mVar 1) (mC (.int 3))))) mNext)
  (mSeq (mDrop (mFn 3 m_stamp__Plain (mCons (mVar 0) (mCons (mOp opIx (mVar 1) (mC (.int 1))) (mCons (mOp opBor (mC (.int 8)) (mC (.int 16))) mNil)))))
  (mRet (mOp opBor (mOp opIx (mVar 1) (mC (.int 3))) (mC (.int 16)))))))
theorem mx_mark__Plain : ∃ m : MDef, m = mBody 3 mb_mark__Plain := ⟨_, rfl⟩
noncomputable def m_mark__Plain : MDef := mx_mark__Plain.choose
theorem mq_mark__Plain : m_mark__Plain = mBody 3 mb_mark__Plain := mx_mark__Plain.choose_spec
theorem e_m_mark__Plain {a0 a1 a2 : D} {h : MH} {X : MX} {Q : MK} : m_mark__Plain [a0, a1, a2] h X Q = (mSeq (mDrop (mFn 3 m_stamp__Plain (mCons (mVar 0) (mCons (mOp opIx (mVar 1) (mC (.int 0))) (mCons (mC (.int 8)) mNil)))))
  (mSeq (mIfS (mNot (mB (mVar 2))) (mSeq (mDrop (mFn 3 m_stamp__Plain (mCons (mVar 0) (mCons (mOp opIx (mVar 1) (mC (.int 1))) (mCons (mC (.int 8)) mNil)))))
  (mRet (mOp opIx (mVar 1) (mC (.int 3))))) mNext)
  (mSeq (mDrop (mFn 3 m_stamp__Plain (mCons (mVar 0) (mCons (mOp opIx (mVar 1) (mC (.int 1))) (mCons (mOp opBor (mC (.int 8)) (mC (.int 16))) mNil)))))
  (mRet (mOp opBor (mOp opIx (mVar 1) (mC (.int 3))) (mC (.int 16))))))) ⟨fun _ h1 => Q .non h1, Q, fun _ _ => False, fun _ _ => False, fun _ => X⟩ [some a0, some a1, some a2] h := by rw [mq_mark__Plain]; rfl
def mb_Plain_reach : MS :=
  (mSeq (mSet 4 (mMt "Plain" 4 m_Plain_on_shelf (mVar 0) (mCons (mVar 1) (mCons (mVar 2) (mCons (mVar 3) mNil)))))
  (mSeq (mIfS (mB (mOp opIsNot (mVar 4) (mC .non))) (mRet (mVar 4)) mNext)
  (mSeq (mSet 5 (mFn 5 m_look__Plain (mCons (mVar 0) (mCons (mFld "base" (mVar 0)) (mCons (mVar 1) (mCons (mVar 2) (mCons (mVar 3) mNil)))))))
  (mSeq (mSet 6 (mFn 3 m_mark__Plain (mCons (mVar 0) (mCons (mVar 5) (mCons (mVar 2) mNil)))))
  (mSeq (mSet 7 (mMt "Shelf" 4 m_Shelf_keep (mFld "held" (mVar 0)) (mCons (mOp opDiv (mVar 1) (mC (.int 8))) (mCons (mOp opIx (mVar 5) (mC (.int 2))) (mCons (mVar 6) mNil)))))
  (mSeq (mIfS (mB (mOp opIsNot (mVar 7) (mC .non))) (mDrop (mMt "Plain" 2 m_Plain_left (mVar 0) (mCons (mVar 7) mNil))) mNext)
  (mRet (mOp opIx (mVar 5) (mC (.int 2))))))))))
theorem mx_Plain_reach : ∃ m : MDef, m = mBody 8 mb_Plain_reach := ⟨_, rfl⟩
noncomputable def m_Plain_reach : MDef := mx_Plain_reach.choose
theorem mq_Plain_reach : m_Plain_reach = mBody 8 mb_Plain_reach := mx_Plain_reach.choose_spec
theorem e_m_Plain_reach {a0 a1 a2 a3 : D} {h : MH} {X : MX} {Q : MK} : m_Plain_reach [a0, a1, a2, a3] h X Q = (mSeq (mSet 4 (mMt "Plain" 4 m_Plain_on_shelf (mVar 0) (mCons (mVar 1) (mCons (mVar 2) (mCons (mVar 3) mNil)))))
  (mSeq (mIfS (mB (mOp opIsNot (mVar 4) (mC .non))) (mRet (mVar 4)) mNext)
  (mSeq (mSet 5 (mFn 5 m_look__Plain (mCons (mVar 0) (mCons (mFld "base" (mVar 0)) (mCons (mVar 1) (mCons (mVar 2) (mCons (mVar 3) mNil)))))))
  (mSeq (mSet 6 (mFn 3 m_mark__Plain (mCons (mVar 0) (mCons (mVar 5) (mCons (mVar 2) mNil)))))
  (mSeq (mSet 7 (mMt "Shelf" 4 m_Shelf_keep (mFld "held" (mVar 0)) (mCons (mOp opDiv (mVar 1) (mC (.int 8))) (mCons (mOp opIx (mVar 5) (mC (.int 2))) (mCons (mVar 6) mNil)))))
  (mSeq (mIfS (mB (mOp opIsNot (mVar 7) (mC .non))) (mDrop (mMt "Plain" 2 m_Plain_left (mVar 0) (mCons (mVar 7) mNil))) mNext)
  (mRet (mOp opIx (mVar 5) (mC (.int 2)))))))))) ⟨fun _ h1 => Q .non h1, Q, fun _ _ => False, fun _ _ => False, fun _ => X⟩ [some a0, some a1, some a2, some a3, none, none, none, none] h := by rw [mq_Plain_reach]; rfl
def mb_Plain_load : MS :=
  (mRet (mMt "Plain" 3 m_Plain_read (mVar 0) (mCons (mMt "Plain" 4 m_Plain_reach (mVar 0) (mCons (mVar 1) (mCons (mC (.bl false)) (mCons (mVar 2) mNil)))) (mCons (mOp opMod (mVar 1) (mC (.int 8))) mNil))))
theorem mx_Plain_load : ∃ m : MDef, m = mBody 3 mb_Plain_load := ⟨_, rfl⟩
noncomputable def m_Plain_load : MDef := mx_Plain_load.choose
theorem mq_Plain_load : m_Plain_load = mBody 3 mb_Plain_load := mx_Plain_load.choose_spec
theorem e_m_Plain_load {a0 a1 a2 : D} {h : MH} {X : MX} {Q : MK} : m_Plain_load [a0, a1, a2] h X Q = (mRet (mMt "Plain" 3 m_Plain_read (mVar 0) (mCons (mMt "Plain" 4 m_Plain_reach (mVar 0) (mCons (mVar 1) (mCons (mC (.bl false)) (mCons (mVar 2) mNil)))) (mCons (mOp opMod (mVar 1) (mC (.int 8))) mNil)))) ⟨fun _ h1 => Q .non h1, Q, fun _ _ => False, fun _ _ => False, fun _ => X⟩ [some a0, some a1, some a2] h := by rw [mq_Plain_load]; rfl
def mb_Plain_save : MS :=
  (mDrop (mMt "Plain" 4 m_Plain_write (mVar 0) (mCons (mMt "Plain" 4 m_Plain_reach (mVar 0) (mCons (mVar 1) (mCons (mC (.bl true)) (mCons (mVar 3) mNil)))) (mCons (mOp opMod (mVar 1) (mC (.int 8))) (mCons (mVar 2) mNil)))))
theorem mx_Plain_save : ∃ m : MDef, m = mBody 4 mb_Plain_save := ⟨_, rfl⟩
noncomputable def m_Plain_save : MDef := mx_Plain_save.choose
theorem mq_Plain_save : m_Plain_save = mBody 4 mb_Plain_save := mx_Plain_save.choose_spec
theorem e_m_Plain_save {a0 a1 a2 a3 : D} {h : MH} {X : MX} {Q : MK} : m_Plain_save [a0, a1, a2, a3] h X Q = (mDrop (mMt "Plain" 4 m_Plain_write (mVar 0) (mCons (mMt "Plain" 4 m_Plain_reach (mVar 0) (mCons (mVar 1) (mCons (mC (.bl true)) (mCons (mVar 3) mNil)))) (mCons (mOp opMod (mVar 1) (mC (.int 8))) (mCons (mVar 2) mNil))))) ⟨fun _ h1 => Q .non h1, Q, fun _ _ => False, fun _ _ => False, fun _ => X⟩ [some a0, some a1, some a2, some a3] h := by rw [mq_Plain_save]; rfl
def mb_Plain_granted : MS :=
  (mSeq (mIfS (mB (mOp opEq (mFld "heard" (mVar 0)) (mCB cLen (mCons (mFld "replies" (mVar 0)) mNil)))) (mRet (mC (.bl false))) mNext)
  (mSeq (mSFld "Plain" "heard" (mVar 0) (mOp opAdd (mFld "heard" (mVar 0)) (mC (.int 1))))
  (mRet (mOp opIx (mFld "replies" (mVar 0)) (mOp opSub (mFld "heard" (mVar 0)) (mC (.int 1)))))))
theorem mx_Plain_granted : ∃ m : MDef, m = mBody 1 mb_Plain_granted := ⟨_, rfl⟩
noncomputable def m_Plain_granted : MDef := mx_Plain_granted.choose
theorem mq_Plain_granted : m_Plain_granted = mBody 1 mb_Plain_granted := mx_Plain_granted.choose_spec
theorem e_m_Plain_granted {a0 : D} {h : MH} {X : MX} {Q : MK} : m_Plain_granted [a0] h X Q = (mSeq (mIfS (mB (mOp opEq (mFld "heard" (mVar 0)) (mCB cLen (mCons (mFld "replies" (mVar 0)) mNil)))) (mRet (mC (.bl false))) mNext)
  (mSeq (mSFld "Plain" "heard" (mVar 0) (mOp opAdd (mFld "heard" (mVar 0)) (mC (.int 1))))
  (mRet (mOp opIx (mFld "replies" (mVar 0)) (mOp opSub (mFld "heard" (mVar 0)) (mC (.int 1))))))) ⟨fun _ h1 => Q .non h1, Q, fun _ _ => False, fun _ _ => False, fun _ => X⟩ [some a0] h := by rw [mq_Plain_granted]; rfl
def mb_Plain_drop : MS :=
  (mIfS (mAnd (mB (mOp opLt (mVar 1) (mC (.int 512)))) (mB (mMt "Shelf" 2 m_Shelf_drop (mFld "held" (mVar 0)) (mCons (mOp opDiv (mVar 1) (mC (.int 8))) mNil)))) (mDrop (mMt "Plain" 2 m_Plain_left (mVar 0) (mCons (mOp opDiv (mVar 1) (mC (.int 8))) mNil))) mNext)
theorem mx_Plain_drop : ∃ m : MDef, m = mBody 2 mb_Plain_drop := ⟨_, rfl⟩
noncomputable def m_Plain_drop : MDef := mx_Plain_drop.choose
theorem mq_Plain_drop : m_Plain_drop = mBody 2 mb_Plain_drop := mx_Plain_drop.choose_spec
theorem e_m_Plain_drop {a0 a1 : D} {h : MH} {X : MX} {Q : MK} : m_Plain_drop [a0, a1] h X Q = (mIfS (mAnd (mB (mOp opLt (mVar 1) (mC (.int 512)))) (mB (mMt "Shelf" 2 m_Shelf_drop (mFld "held" (mVar 0)) (mCons (mOp opDiv (mVar 1) (mC (.int 8))) mNil)))) (mDrop (mMt "Plain" 2 m_Plain_left (mVar 0) (mCons (mOp opDiv (mVar 1) (mC (.int 8))) mNil))) mNext) ⟨fun _ h1 => Q .non h1, Q, fun _ _ => False, fun _ _ => False, fun _ => X⟩ [some a0, some a1] h := by rw [mq_Plain_drop]; rfl
def mb_Plain_yield_up : MS :=
  (mDrop (mMt "Memory" 2 m_Memory_give (mFld "memory" (mVar 0)) (mCons (mVar 1) mNil)))
theorem mx_Plain_yield_up : ∃ m : MDef, m = mBody 2 mb_Plain_yield_up := ⟨_, rfl⟩
noncomputable def m_Plain_yield_up : MDef := mx_Plain_yield_up.choose
theorem mq_Plain_yield_up : m_Plain_yield_up = mBody 2 mb_Plain_yield_up := mx_Plain_yield_up.choose_spec
theorem e_m_Plain_yield_up {a0 a1 : D} {h : MH} {X : MX} {Q : MK} : m_Plain_yield_up [a0, a1] h X Q = (mDrop (mMt "Memory" 2 m_Memory_give (mFld "memory" (mVar 0)) (mCons (mVar 1) mNil))) ⟨fun _ h1 => Q .non h1, Q, fun _ _ => False, fun _ _ => False, fun _ => X⟩ [some a0, some a1] h := by rw [mq_Plain_yield_up]; rfl
def mb_Plain_bring : MS :=
  (mDrop (mMt "Memory" 3 m_Memory_lay (mFld "memory" (mVar 0)) (mCons (mVar 1) (mCons (mOp opMul (mLst (mCons (mC (.int 0)) mNil)) (mC (.int 8))) mNil))))
theorem mx_Plain_bring : ∃ m : MDef, m = mBody 2 mb_Plain_bring := ⟨_, rfl⟩
noncomputable def m_Plain_bring : MDef := mx_Plain_bring.choose
theorem mq_Plain_bring : m_Plain_bring = mBody 2 mb_Plain_bring := mx_Plain_bring.choose_spec
theorem e_m_Plain_bring {a0 a1 : D} {h : MH} {X : MX} {Q : MK} : m_Plain_bring [a0, a1] h X Q = (mDrop (mMt "Memory" 3 m_Memory_lay (mFld "memory" (mVar 0)) (mCons (mVar 1) (mCons (mOp opMul (mLst (mCons (mC (.int 0)) mNil)) (mC (.int 8))) mNil)))) ⟨fun _ h1 => Q .non h1, Q, fun _ _ => False, fun _ _ => False, fun _ => X⟩ [some a0, some a1] h := by rw [mq_Plain_bring]; rfl
def mb_Plain_give : MS :=
  (mSeq (mIfS (mNot (mB (mMt "Plain" 2 m_Plain_has (mVar 0) (mCons (mVar 1) mNil)))) (mRet (mC (.bl false))) mNext)
  (mSeq (mDrop (mMt "Plain" 2 m_Plain_yield_up (mVar 0) (mCons (mVar 1) mNil)))
  (mRet (mC (.bl true)))))
theorem mx_Plain_give : ∃ m : MDef, m = mBody 2 mb_Plain_give := ⟨_, rfl⟩
noncomputable def m_Plain_give : MDef := mx_Plain_give.choose
theorem mq_Plain_give : m_Plain_give = mBody 2 mb_Plain_give := mx_Plain_give.choose_spec
theorem e_m_Plain_give {a0 a1 : D} {h : MH} {X : MX} {Q : MK} : m_Plain_give [a0, a1] h X Q = (mSeq (mIfS (mNot (mB (mMt "Plain" 2 m_Plain_has (mVar 0) (mCons (mVar 1) mNil)))) (mRet (mC (.bl false))) mNext)
  (mSeq (mDrop (mMt "Plain" 2 m_Plain_yield_up (mVar 0) (mCons (mVar 1) mNil)))
  (mRet (mC (.bl true))))) ⟨fun _ h1 => Q .non h1, Q, fun _ _ => False, fun _ _ => False, fun _ => X⟩ [some a0, some a1] h := by rw [mq_Plain_give]; rfl
def mb_Plain_want : MS :=
  (mSeq (mIfS (mOr (mB (mOp opGe (mVar 1) (mMt "Plain" 1 m_Plain_size (mVar 0) mNil))) (mOr (mB (mMt "Plain" 2 m_Plain_has (mVar 0) (mCons (mVar 1) mNil))) (mNot (mB (mMt "Plain" 1 m_Plain_granted (mVar 0) mNil))))) (mRet (mC (.bl false))) mNext)
  (mSeq (mDrop (mMt "Plain" 2 m_Plain_bring (mVar 0) (mCons (mVar 1) mNil)))
  (mRet (mC (.bl true)))))
theorem mx_Plain_want : ∃ m : MDef, m = mBody 2 mb_Plain_want := ⟨_, rfl⟩
noncomputable def m_Plain_want : MDef := mx_Plain_want.choose
theorem mq_Plain_want : m_Plain_want = mBody 2 mb_Plain_want := mx_Plain_want.choose_spec
theorem e_m_Plain_want {a0 a1 : D} {h : MH} {X : MX} {Q : MK} : m_Plain_want [a0, a1] h X Q = (mSeq (mIfS (mOr (mB (mOp opGe (mVar 1) (mMt "Plain" 1 m_Plain_size (mVar 0) mNil))) (mOr (mB (mMt "Plain" 2 m_Plain_has (mVar 0) (mCons (mVar 1) mNil))) (mNot (mB (mMt "Plain" 1 m_Plain_granted (mVar 0) mNil))))) (mRet (mC (.bl false))) mNext)
  (mSeq (mDrop (mMt "Plain" 2 m_Plain_bring (mVar 0) (mCons (mVar 1) mNil)))
  (mRet (mC (.bl true))))) ⟨fun _ h1 => Q .non h1, Q, fun _ _ => False, fun _ _ => False, fun _ => X⟩ [some a0, some a1] h := by rw [mq_Plain_want]; rfl
def mb_Plain_page_at : MS :=
  (mSeq (mSet 2 (mOp opDiv (mVar 1) (mC (.int 8))))
  (mSeq (mIfS (mNot (mB (mMt "Plain" 2 m_Plain_has (mVar 0) (mCons (mVar 2) mNil)))) (mRaiseF "Fault" ["kind", "place", "level"] (mCons (mC (.str (Str.ofString "beyond"))) (mCons (mVar 1) (mCons (mC (.int 0)) mNil)))) mNext)
  (mRet (mVar 2))))
theorem mx_Plain_page_at : ∃ m : MDef, m = mBody 3 mb_Plain_page_at := ⟨_, rfl⟩
noncomputable def m_Plain_page_at : MDef := mx_Plain_page_at.choose
theorem mq_Plain_page_at : m_Plain_page_at = mBody 3 mb_Plain_page_at := mx_Plain_page_at.choose_spec
theorem e_m_Plain_page_at {a0 a1 : D} {h : MH} {X : MX} {Q : MK} : m_Plain_page_at [a0, a1] h X Q = (mSeq (mSet 2 (mOp opDiv (mVar 1) (mC (.int 8))))
  (mSeq (mIfS (mNot (mB (mMt "Plain" 2 m_Plain_has (mVar 0) (mCons (mVar 2) mNil)))) (mRaiseF "Fault" ["kind", "place", "level"] (mCons (mC (.str (Str.ofString "beyond"))) (mCons (mVar 1) (mCons (mC (.int 0)) mNil)))) mNext)
  (mRet (mVar 2)))) ⟨fun _ h1 => Q .non h1, Q, fun _ _ => False, fun _ _ => False, fun _ => X⟩ [some a0, some a1, none] h := by rw [mq_Plain_page_at]; rfl
def mb_Plain_peek : MS :=
  (mRet (mMt "Plain" 3 m_Plain_read (mVar 0) (mCons (mMt "Plain" 2 m_Plain_page_at (mVar 0) (mCons (mVar 1) mNil)) (mCons (mOp opMod (mVar 1) (mC (.int 8))) mNil))))
theorem mx_Plain_peek : ∃ m : MDef, m = mBody 2 mb_Plain_peek := ⟨_, rfl⟩
noncomputable def m_Plain_peek : MDef := mx_Plain_peek.choose
theorem mq_Plain_peek : m_Plain_peek = mBody 2 mb_Plain_peek := mx_Plain_peek.choose_spec
theorem e_m_Plain_peek {a0 a1 : D} {h : MH} {X : MX} {Q : MK} : m_Plain_peek [a0, a1] h X Q = (mRet (mMt "Plain" 3 m_Plain_read (mVar 0) (mCons (mMt "Plain" 2 m_Plain_page_at (mVar 0) (mCons (mVar 1) mNil)) (mCons (mOp opMod (mVar 1) (mC (.int 8))) mNil)))) ⟨fun _ h1 => Q .non h1, Q, fun _ _ => False, fun _ _ => False, fun _ => X⟩ [some a0, some a1] h := by rw [mq_Plain_peek]; rfl
def mb_Plain_poke : MS :=
  (mDrop (mMt "Plain" 4 m_Plain_write (mVar 0) (mCons (mMt "Plain" 2 m_Plain_page_at (mVar 0) (mCons (mVar 1) mNil)) (mCons (mOp opMod (mVar 1) (mC (.int 8))) (mCons (mVar 2) mNil)))))
theorem mx_Plain_poke : ∃ m : MDef, m = mBody 3 mb_Plain_poke := ⟨_, rfl⟩
noncomputable def m_Plain_poke : MDef := mx_Plain_poke.choose
theorem mq_Plain_poke : m_Plain_poke = mBody 3 mb_Plain_poke := mx_Plain_poke.choose_spec
theorem e_m_Plain_poke {a0 a1 a2 : D} {h : MH} {X : MX} {Q : MK} : m_Plain_poke [a0, a1, a2] h X Q = (mDrop (mMt "Plain" 4 m_Plain_write (mVar 0) (mCons (mMt "Plain" 2 m_Plain_page_at (mVar 0) (mCons (mVar 1) mNil)) (mCons (mOp opMod (mVar 1) (mC (.int 8))) (mCons (mVar 2) mNil))))) ⟨fun _ h1 => Q .non h1, Q, fun _ _ => False, fun _ _ => False, fun _ => X⟩ [some a0, some a1, some a2] h := by rw [mq_Plain_poke]; rfl
local macro_rules | `(tactic| walk_at "go") => `(tactic| simp? only [↓MP.is_whole_eq, ↓MP.Ty.whole, ↓MP.is_word_eq, ↓MP.is_below_eq, ↓MP.has_eq, ↓MP.put_eq, ↓MP.page_of_eq, ↓e_m_Plain_root, ↓e_m_Plain_left_all, ↓e_m_Plain_left, ↓e_m_Plain_size, ↓e_m_Plain_fetch, ↓e_m_Plain_shelf, ↓e_m_Plain_turn_root, ↓e_m_Plain_deposit, ↓e_m_lets, ↓e_m_Plain_has, ↓e_m_Plain_Ways___init__, ↓e_m_Plain_look_for, ↓e_m_Plain_on_shelf, ↓e_m_look_by__Plain, ↓e_m_Plain_read, ↓e_m_Plain_write, ↓e_m_Plain___init__, ↓e_m_Plain_words_of, ↓e_m_look__Plain, ↓e_m_stamp__Plain, ↓e_m_Plain_pages, ↓e_m_mark__Plain, ↓e_m_Plain_reach, ↓e_m_Plain_load, ↓e_m_Plain_save, ↓e_m_Plain_granted, ↓e_m_Plain_drop, ↓e_m_Plain_yield_up, ↓e_m_Plain_bring, ↓e_m_Plain_give, ↓e_m_Plain_want, ↓e_m_Plain_page_at, ↓e_m_Plain_peek, ↓e_m_Plain_poke, Option.isSome_some, Option.isSome_none])
local macro_rules | `(tactic| walk_at "en") => `(tactic| (unfold callm; walk_at "go"))
local macro_rules | `(tactic| walk_at "run") => `(tactic| repeat (first | walk_at "go" | walk_at "sp"))
local macro_rules | `(tactic| walk_at "rut") => `(tactic| repeat (first | walk_at "go" | walk_at "sp" | with_reducible refine M.mk_tree ?_))

local macro_rules | `(tactic| walk_at "as") => `(tactic| first | assumption | (simp only [M.put_ap, M.put_put', reduceIte, eq_self, Nat.reduceEqDiff, Nat.add_eq_left, Nat.add_left_cancel_iff, ite_true, ite_false]; assumption))
local macro_rules | `(tactic| walk_at "side") => `(tactic| first | assumption | omega | (simp; done) | decide | (simp; omega))
local macro_rules | `(tactic| walk_at "sp") => `(tactic| ((with_reducible refine M.optm_of (o := Pt.bind ?p ?d ?s) (a := ?v) ?e ?_); (case e => exact rfl)))
local macro_rules | `(tactic| walk_at "sp") => `(tactic| first | (with_reducible refine M.cndm_of (M.mulOk_of ?a ?b) ?_; (case a => omega); (case b => omega)) | (with_reducible refine M.cndm_of (M.mulOk_of2 ?a ?b) ?_; (case a => omega); (case b => omega)))
local macro_rules | `(tactic| walk_at "sp") => `(tactic| ((with_reducible refine M.eq_selfL' ?a ?_); (case a => first | rfl | (simp only [List.all_cons, List.all_nil, Bool.and_true, Bool.true_and, M.dat_non, M.dat_bl, M.dat_int, M.dat_str, M.dat_tup, M.dat_lst]; done) | (simp only [List.all_cons, List.all_nil, Bool.and_true, Bool.true_and, M.dat_non, M.dat_bl, M.dat_int, M.dat_str, M.dat_tup, M.dat_lst]; decide +kernel))))
local macro_rules | `(tactic| walk_at "sp") => `(tactic| ((with_reducible refine M.ne_selfL' ?a ?_); (case a => first | rfl | (simp only [List.all_cons, List.all_nil, Bool.and_true, Bool.true_and, M.dat_non, M.dat_bl, M.dat_int, M.dat_str, M.dat_tup, M.dat_lst]; done) | (simp only [List.all_cons, List.all_nil, Bool.and_true, Bool.true_and, M.dat_non, M.dat_bl, M.dat_int, M.dat_str, M.dat_tup, M.dat_lst]; decide +kernel))))
local macro_rules | `(tactic| walk_at "sp") => `(tactic| ((with_reducible refine M.eq_selfT' ?a ?_); (case a => first | rfl | (simp only [List.all_cons, List.all_nil, Bool.and_true, Bool.true_and, M.dat_non, M.dat_bl, M.dat_int, M.dat_str, M.dat_tup, M.dat_lst]; done) | (simp only [List.all_cons, List.all_nil, Bool.and_true, Bool.true_and, M.dat_non, M.dat_bl, M.dat_int, M.dat_str, M.dat_tup, M.dat_lst]; decide +kernel))))
local macro_rules | `(tactic| walk_at "sp") => `(tactic| ((with_reducible refine M.ne_selfT' ?a ?_); (case a => first | rfl | (simp only [List.all_cons, List.all_nil, Bool.and_true, Bool.true_and, M.dat_non, M.dat_bl, M.dat_int, M.dat_str, M.dat_tup, M.dat_lst]; done) | (simp only [List.all_cons, List.all_nil, Bool.and_true, Bool.true_and, M.dat_non, M.dat_bl, M.dat_int, M.dat_str, M.dat_tup, M.dat_lst]; decide +kernel))))
local macro_rules | `(tactic| walk_at "sp") => `(tactic| ((with_reducible refine M.eq_nilL' ?a ?_); (case a => first | rfl | (simp only [List.all_cons, List.all_nil, Bool.and_true, Bool.true_and, M.dat_non, M.dat_bl, M.dat_int, M.dat_str, M.dat_tup, M.dat_lst]; done) | (simp only [List.all_cons, List.all_nil, Bool.and_true, Bool.true_and, M.dat_non, M.dat_bl, M.dat_int, M.dat_str, M.dat_tup, M.dat_lst]; decide +kernel))))
local macro_rules | `(tactic| walk_at "sp") => `(tactic| ((with_reducible refine M.ne_nilL' ?a ?_); (case a => first | rfl | (simp only [List.all_cons, List.all_nil, Bool.and_true, Bool.true_and, M.dat_non, M.dat_bl, M.dat_int, M.dat_str, M.dat_tup, M.dat_lst]; done) | (simp only [List.all_cons, List.all_nil, Bool.and_true, Bool.true_and, M.dat_non, M.dat_bl, M.dat_int, M.dat_str, M.dat_tup, M.dat_lst]; decide +kernel))))
local macro_rules | `(tactic| walk_at "sp") => `(tactic| first | (with_reducible refine M.cndm_of ?a ?_; (case a => walk_at "side")) | (with_reducible refine M.mite_dt ?a ?_; (case a => omega)) | (with_reducible refine M.mite_df ?a ?_; (case a => omega)) | (with_reducible refine M.mite_nt ?a ?_; (case a => omega)) | (with_reducible refine M.mite_nf ?a ?_; (case a => omega)))
local macro_rules | `(tactic| walk_at "ms") => `(tactic| simp_all? only [↓MP.is_whole_eq, ↓MP.Ty.whole, ↓MP.is_word_eq, ↓MP.is_below_eq, ↓MP.has_eq, ↓MP.put_eq, ↓MP.page_of_eq, ↓e_m_Plain_root, ↓e_m_Plain_left_all, ↓e_m_Plain_left, ↓e_m_Plain_size, ↓e_m_Plain_fetch, ↓e_m_Plain_shelf, ↓e_m_Plain_turn_root, ↓e_m_Plain_deposit, ↓e_m_lets, ↓e_m_Plain_has, ↓e_m_Plain_Ways___init__, ↓e_m_Plain_look_for, ↓e_m_Plain_on_shelf, ↓e_m_look_by__Plain, ↓e_m_Plain_read, ↓e_m_Plain_write, ↓e_m_Plain___init__, ↓e_m_Plain_words_of, ↓e_m_look__Plain, ↓e_m_stamp__Plain, ↓e_m_Plain_pages, ↓e_m_mark__Plain, ↓e_m_Plain_reach, ↓e_m_Plain_load, ↓e_m_Plain_save, ↓e_m_Plain_granted, ↓e_m_Plain_drop, ↓e_m_Plain_yield_up, ↓e_m_Plain_bring, ↓e_m_Plain_give, ↓e_m_Plain_want, ↓e_m_Plain_page_at, ↓e_m_Plain_peek, ↓e_m_Plain_poke, Option.isSome_some, Option.isSome_none])
local macro_rules | `(tactic| walk_at "mo") => `(tactic| (unfold callm; walk_at "ms"))
local macro_rules | `(tactic| walk_at "hp") => `(tactic| simp only [MH.at, MH.put, MH.new, MH.upd, reduceIte, Nat.reduceEqDiff])
/-! a way with a memory of its own: object, memory, shelf stand in three regions behind one another -/
def PlAt (q : Nat) (h : MH) : Prop := ∃ fs, (h q)[0]? = some (.ins "Plain" (("memory", .ref (q + 1) 0) :: fs))
structure IsPM (q : Nat) (h : MH) (ps : Pg) : Prop where
  pm : PlAt q h ∧ IsMem (q + 1) (h (q + 1)) ps
  ok : PgOk ps
section
variable {q : Nat} {h : MH} {ps : Pg} {X : KX} {K : K2} {x y v : D} {t u z : M.Ty} {p c w : Int}
theorem IsPM.cls (m : IsPM q h ps) : clsO (h q)[0]? = some "Plain" := by obtain ⟨fs, a⟩ := m.pm.1; rw [a]; rfl
theorem IsPM.mcls (m : IsPM q h ps) : clsO (h (q + 1))[0]? = some "Memory" := by obtain ⟨k, as, a, _⟩ := m.pm.2.ex; rw [a]; rfl
theorem IsPM.mem (m : IsPM q h ps) : IsM (q + 1) h ps := ⟨m.pm.2, m.ok⟩
theorem IsPM.of {h' : MH} (m : IsPM q h ps) (e1 : h' q = h q) (e2 : h' (q + 1) = h (q + 1)) : IsPM q h' ps := ⟨⟨by unfold PlAt; rw [e1]; exact m.pm.1, by rw [e2]; exact m.pm.2⟩, m.ok⟩
local macro_rules | `(tactic| walk_at "sp") => `(tactic| (with_reducible refine M.cndm_of (IsPM.cls (ps := ?ps) ?a) ?_; (case a => assumption)))
local macro_rules | `(tactic| walk_at "sp") => `(tactic| (with_reducible refine M.cndm_of (IsPM.mcls (ps := ?ps) ?a) ?_; (case a => assumption)))
end
section
variable {q : Nat} {h : MH} {ps : Pg} {X : KX} {K : K2} {row place level r o t i p g : Int} {w kn : Bool}
local macro_rules | `(tactic| walk_at "sp") => `(tactic| (with_reducible refine M.cndm_of (IsPM.cls (ps := ?ps) ?a) ?_; (case a => assumption)))
end
end MP

set_option Elab.async false
set_option linter.all false
set_option maxRecDepth 100000
set_option maxHeartbeats 4000000
set_option checkBinderAnnotations false
namespace MP
open PySem PySem.Spec PyProof.Rows L2 Z M
local macro_rules | `(tactic| walk_at "go") => `(tactic| simp? only [↓MP.is_whole_eq, ↓MP.Ty.whole, ↓MP.is_word_eq, ↓MP.is_below_eq, ↓MP.has_eq, ↓MP.put_eq, ↓MP.page_of_eq, ↓MP.e_m_lets, ↓MP.e_m_Plain_root, ↓MP.e_m_Plain_left_all, ↓MP.e_m_Plain_left, ↓MP.e_m_Plain_shelf, ↓MP.e_m_Plain_turn_root, ↓MP.e_m_Plain_Ways___init__, ↓MP.e_m_Plain_on_shelf, ↓MP.e_m_Plain___init__, ↓MP.e_m_Plain_words_of, ↓MP.e_m_Plain_pages, ↓MP.e_m_Plain_reach, ↓MP.e_m_Plain_load, ↓MP.e_m_Plain_save, ↓MP.e_m_Plain_granted, ↓MP.e_m_Plain_drop, ↓MP.e_m_Plain_yield_up, ↓MP.e_m_Plain_bring, ↓MP.e_m_Plain_give, ↓MP.e_m_Plain_want, ↓MP.e_m_Plain_page_at, ↓MP.e_m_Plain_peek, ↓MP.e_m_Plain_poke, Option.isSome_some, Option.isSome_none])
local macro_rules | `(tactic| walk_at "en") => `(tactic| (unfold callm; walk_at "go"))
local macro_rules | `(tactic| walk_at "run") => `(tactic| repeat (first | walk_at "go" | walk_at "sp"))
local macro_rules | `(tactic| walk_at "rut") => `(tactic| repeat (first | walk_at "go" | walk_at "sp" | with_reducible refine M.mk_tree ?_))

local macro_rules | `(tactic| walk_at "as") => `(tactic| first | assumption | (simp only [M.put_ap, M.put_put', reduceIte, eq_self, Nat.reduceEqDiff, Nat.add_eq_left, Nat.add_left_cancel_iff, ite_true, ite_false]; assumption))
local macro_rules | `(tactic| walk_at "side") => `(tactic| first | assumption | omega | (simp; done) | decide | (simp; omega))
local macro_rules | `(tactic| walk_at "sp") => `(tactic| ((with_reducible refine M.optm_of (o := Pt.bind ?p ?d ?s) (a := ?v) ?e ?_); (case e => exact rfl)))
local macro_rules | `(tactic| walk_at "sp") => `(tactic| first | (with_reducible refine M.cndm_of (M.mulOk_of ?a ?b) ?_; (case a => omega); (case b => omega)) | (with_reducible refine M.cndm_of (M.mulOk_of2 ?a ?b) ?_; (case a => omega); (case b => omega)))
local macro_rules | `(tactic| walk_at "sp") => `(tactic| ((with_reducible refine M.eq_selfL' ?a ?_); (case a => first | rfl | (simp only [List.all_cons, List.all_nil, Bool.and_true, Bool.true_and, M.dat_non, M.dat_bl, M.dat_int, M.dat_str, M.dat_tup, M.dat_lst]; done) | (simp only [List.all_cons, List.all_nil, Bool.and_true, Bool.true_and, M.dat_non, M.dat_bl, M.dat_int, M.dat_str, M.dat_tup, M.dat_lst]; decide +kernel))))
local macro_rules | `(tactic| walk_at "sp") => `(tactic| ((with_reducible refine M.ne_selfL' ?a ?_); (case a => first | rfl | (simp only [List.all_cons, List.all_nil, Bool.and_true, Bool.true_and, M.dat_non, M.dat_bl, M.dat_int, M.dat_str, M.dat_tup, M.dat_lst]; done) | (simp only [List.all_cons, List.all_nil, Bool.and_true, Bool.true_and, M.dat_non, M.dat_bl, M.dat_int, M.dat_str, M.dat_tup, M.dat_lst]; decide +kernel))))
local macro_rules | `(tactic| walk_at "sp") => `(tactic| ((with_reducible refine M.eq_selfT' ?a ?_); (case a => first | rfl | (simp only [List.all_cons, List.all_nil, Bool.and_true, Bool.true_and, M.dat_non, M.dat_bl, M.dat_int, M.dat_str, M.dat_tup, M.dat_lst]; done) | (simp only [List.all_cons, List.all_nil, Bool.and_true, Bool.true_and, M.dat_non, M.dat_bl, M.dat_int, M.dat_str, M.dat_tup, M.dat_lst]; decide +kernel))))
local macro_rules | `(tactic| walk_at "sp") => `(tactic| ((with_reducible refine M.ne_selfT' ?a ?_); (case a => first | rfl | (simp only [List.all_cons, List.all_nil, Bool.and_true, Bool.true_and, M.dat_non, M.dat_bl, M.dat_int, M.dat_str, M.dat_tup, M.dat_lst]; done) | (simp only [List.all_cons, List.all_nil, Bool.and_true, Bool.true_and, M.dat_non, M.dat_bl, M.dat_int, M.dat_str, M.dat_tup, M.dat_lst]; decide +kernel))))
local macro_rules | `(tactic| walk_at "sp") => `(tactic| ((with_reducible refine M.eq_nilL' ?a ?_); (case a => first | rfl | (simp only [List.all_cons, List.all_nil, Bool.and_true, Bool.true_and, M.dat_non, M.dat_bl, M.dat_int, M.dat_str, M.dat_tup, M.dat_lst]; done) | (simp only [List.all_cons, List.all_nil, Bool.and_true, Bool.true_and, M.dat_non, M.dat_bl, M.dat_int, M.dat_str, M.dat_tup, M.dat_lst]; decide +kernel))))
local macro_rules | `(tactic| walk_at "sp") => `(tactic| ((with_reducible refine M.ne_nilL' ?a ?_); (case a => first | rfl | (simp only [List.all_cons, List.all_nil, Bool.and_true, Bool.true_and, M.dat_non, M.dat_bl, M.dat_int, M.dat_str, M.dat_tup, M.dat_lst]; done) | (simp only [List.all_cons, List.all_nil, Bool.and_true, Bool.true_and, M.dat_non, M.dat_bl, M.dat_int, M.dat_str, M.dat_tup, M.dat_lst]; decide +kernel))))
local macro_rules | `(tactic| walk_at "sp") => `(tactic| first | (with_reducible refine M.cndm_of ?a ?_; (case a => walk_at "side")) | (with_reducible refine M.mite_dt ?a ?_; (case a => omega)) | (with_reducible refine M.mite_df ?a ?_; (case a => omega)) | (with_reducible refine M.mite_nt ?a ?_; (case a => omega)) | (with_reducible refine M.mite_nf ?a ?_; (case a => omega)))
local macro_rules | `(tactic| walk_at "ms") => `(tactic| simp_all? only [↓MP.is_whole_eq, ↓MP.Ty.whole, ↓MP.is_word_eq, ↓MP.is_below_eq, ↓MP.has_eq, ↓MP.put_eq, ↓MP.page_of_eq, ↓MP.e_m_lets, ↓MP.e_m_Plain_root, ↓MP.e_m_Plain_left_all, ↓MP.e_m_Plain_left, ↓MP.e_m_Plain_shelf, ↓MP.e_m_Plain_turn_root, ↓MP.e_m_Plain_Ways___init__, ↓MP.e_m_Plain_on_shelf, ↓MP.e_m_Plain___init__, ↓MP.e_m_Plain_words_of, ↓MP.e_m_Plain_pages, ↓MP.e_m_Plain_reach, ↓MP.e_m_Plain_load, ↓MP.e_m_Plain_save, ↓MP.e_m_Plain_granted, ↓MP.e_m_Plain_drop, ↓MP.e_m_Plain_yield_up, ↓MP.e_m_Plain_bring, ↓MP.e_m_Plain_give, ↓MP.e_m_Plain_want, ↓MP.e_m_Plain_page_at, ↓MP.e_m_Plain_peek, ↓MP.e_m_Plain_poke, Option.isSome_some, Option.isSome_none])
local macro_rules | `(tactic| walk_at "mo") => `(tactic| (unfold callm; walk_at "ms"))
local macro_rules | `(tactic| walk_at "hp") => `(tactic| simp only [MH.at, MH.put, MH.new, MH.upd, reduceIte, Nat.reduceEqDiff])
/-! a way with a memory of its own, whole -/
structure IsPl (q : Nat) (h : MH) (ps : Pg) (m : Int) (rs : List Row) (b : Int) (ws : List D) (n : Nat) : Prop where
  o : (h q)[0]? = some (.ins "Plain" [("memory", .ref (q + 1) 0), ("held", .ref (q + 2) 0), ("base", .int b), ("replies", .lst ws), ("heard", .int n)])
  mem : IsM (q + 1) h ps
  sh : IsShelf (q + 2) (h (q + 2)) m rs
  len : (rs.length : Int) ≤ m
  m12 : 1 ≤ m ∧ m ≤ 12
  nn : ∀ r ∈ rs, 0 ≤ r.2.2
  hd : n ≤ ws.length
def letsN (g : Int) (w kn : Bool) : Bool := if g / 4 % 2 = 1 ∧ kn = false then false else (!w || decide (g / 2 % 2 = 1 ∧ g / 16 % 2 = 1))
def onN (ps : Pg) (rs : List Row) (place : Int) (w kn : Bool) : Option Int :=
  if 512 ≤ place then none else match rs[seatN (place / 8) rs]? with
  | none => none
  | some r => if hasN ps r.2.1 && letsN r.2.2 w kn then some r.2.1 else none
inductive ReachR where
  | fault (k : String) (l : Int)
  | page (p : Int) (ps : Pg) (rs : List Row)
def reachN (ps : Pg) (b m : Int) (rs : List Row) (place : Int) (w kn : Bool) : ReachR :=
  match onN ps rs place w kn with
  | some p => .page p ps rs
  | none => match lookN ps b place w kn with
    | .fault k l => .fault k l
    | .trail r o t i p g => .page p (markN ps r o t i w) (keepR m (place / 8, p, behind g w) rs)
section
variable {q : Nat} {h : MH} {ps : Pg} {m b : Int} {rs : List Row} {ws : List D} {n : Nat} {X : KX} {K : K2} {x y v : D} {t u z : M.Ty} {p c w place g : Int} {wr kn : Bool}
theorem IsPl.pm (P : IsPl q h ps m rs b ws n) : IsPM q h ps := ⟨⟨⟨_, P.o⟩, P.mem.1⟩, P.mem.2⟩
theorem IsPl.cls (P : IsPl q h ps m rs b ws n) : clsO (h q)[0]? = some "Plain" := by rw [P.o]; rfl
theorem IsPl.scls (P : IsPl q h ps m rs b ws n) : clsO (h (q + 2))[0]? = some "Shelf" := by obtain ⟨k, a, _⟩ := P.sh.ex; rw [a]; rfl
theorem IsPl.mcls (P : IsPl q h ps m rs b ws n) : clsO (h (q + 1))[0]? = some "Memory" := P.pm.mcls
theorem IsPl.of {h' : MH} (P : IsPl q h ps m rs b ws n) (e : ∀ k, q ≤ k → k < q + 3 → h' k = h k) : IsPl q h' ps m rs b ws n :=
  ⟨by rw [e q (by omega) (by omega)]; exact P.o, P.mem.of (e _ (by omega) (by omega)), by rw [e (q + 2) (by omega) (by omega)]; exact P.sh, P.len, P.m12, P.nn, P.hd⟩
local macro_rules | `(tactic| walk_at "sp") => `(tactic| (with_reducible refine M.cndm_of (IsPl.cls (ps := ?ps) (m := ?m) (rs := ?rs) (b := ?b) (ws := ?ws) (n := ?n) ?a) ?_; (case a => assumption)))
local macro_rules | `(tactic| walk_at "sp") => `(tactic| (with_reducible refine M.cndm_of (IsPl.scls (ps := ?ps) (m := ?m) (rs := ?rs) (b := ?b) (ws := ?ws) (n := ?n) ?a) ?_; (case a => assumption)))
local macro_rules | `(tactic| walk_at "sp") => `(tactic| (with_reducible refine M.cndm_of (IsPl.mcls (ps := ?ps) (m := ?m) (rs := ?rs) (b := ?b) (ws := ?ws) (n := ?n) ?a) ?_; (case a => assumption)))
theorem pl_newg {h0 : MH} (ok : PgOk ps) (e0 : h0 q = []) (e1 : h0 (q + 1) = []) (e2 : h0 (q + 2) = []) (pg : ∀ R, PgsV (q + 1) (h0.put q R) x ps) (hm : 1 ≤ m ∧ m ≤ 12) (hy : ∀ h' : MH, (∀ j, j < q ∨ q + 3 ≤ j → h' j = h0 j) → itemsL h' y = some ws) (k : ∀ h', IsPl q h' ps m [] 0 ws 0 → (∀ j, j < q ∨ q + 3 ≤ j → h' j = h0 j) → K.k (.ref q 0) h') : @newm "Plain" m_Plain___init__ [x, .int m, y] h0 X K := by
  refine newm_of q ?_
  rw [e0, new_def, e0]
  show @callm m_Plain___init__ [.ref q 0, x, .int m, y] (h0.put q [.ins "Plain" []]) X ⟨fun d h2 => d = .non ∧ K.k (.ref q 0) h2⟩
  walk_at "en"
  refine mem_new (q := q + 1) (ps := ps) ok (by rw [MH.put_ne (by omega)]; exact e1) (pg _) fun R1 im => ?_
  have F0 : At (((h0.put q [.ins "Plain" []]).put (q + 1) R1) q) 0 (.ins "Plain" []) := ⟨by rw [MH.put_ne (by omega), MH.put_same]; rfl⟩
  walk_at "run"
  unfold callm
  walk_at "run"
  rw [if_neg (show ¬ q = q + 1 by omega)]
  generalize hH : (((h0.put q [O.ins "Plain" []]).put (q + 1) R1).put q ([O.ins "Plain" []].set 0 (O.ins "Plain" [("memory", D.ref (q + 1) 0)]))) = H
  have a0 : H q = [O.ins "Plain" [("memory", D.ref (q + 1) 0)]] := by subst hH; rw [MH.put_same]; rfl
  have a1 : H (q + 1) = R1 := by subst hH; rw [MH.put_ne (by omega), MH.put_same]
  have a2 : H (q + 2) = [] := by subst hH; rw [MH.put_ne (by omega), MH.put_ne (by omega), MH.put_ne (by omega)]; exact e2
  have a3 : ∀ j, j < q ∨ q + 3 ≤ j → H j = h0 j := fun j hj => by subst hH; rw [MH.put_ne (by omega), MH.put_ne (by omega), MH.put_ne (by omega)]
  clear hH F0
  refine shelf_new (q := q + 2) a2 hm.1 hm.2 fun R2 sh => ?_
  generalize hH : H.put (q + 2) R2 = H'
  have b0 : H' q = [O.ins "Plain" [("memory", D.ref (q + 1) 0)]] := by subst hH; rw [MH.put_ne (by omega)]; exact a0
  have b1 : H' (q + 1) = R1 := by subst hH; rw [MH.put_ne (by omega)]; exact a1
  have b2 : H' (q + 2) = R2 := by subst hH; rw [MH.put_same]
  have b3 : ∀ j, j < q ∨ q + 3 ≤ j → H' j = h0 j := fun j hj => by subst hH; rw [MH.put_ne (by omega)]; exact a3 j hj
  clear hH a0 a1 a2 a3
  have F1 : At (H' q) 0 (O.ins "Plain" [("memory", D.ref (q + 1) 0)]) := ⟨by rw [b0]; rfl⟩
  walk_at "run"
  rw [c_list_of (hy _ fun j hj => by first | (rw [MH.put_ne (by omega)]; exact b3 j hj) | (rw [MH.put_ne (by omega), MH.put_ne (by omega)]; exact b3 j hj))]
  refine mk_tree ?_
  walk_at "run"
  refine k _ ⟨by rw [MH.put_same, b0]; rfl, ⟨by rw [MH.put_ne (by omega), b1]; exact im, ok⟩, by rw [MH.put_ne (by omega), b2]; exact sh, by simp; omega, hm, fun r hr => (by cases hr), Nat.zero_le _⟩ fun j hj => by rw [MH.put_ne (by omega)]; exact b3 j hj
end
end MP

set_option Elab.async false
set_option linter.all false
set_option maxRecDepth 100000
set_option maxHeartbeats 4000000
set_option checkBinderAnnotations false
namespace MP
open PySem PySem.Spec PyProof.Rows L2 Z M
def mb_is_register : MS :=
  (mRet (mAndV (mFn 1 m_is_whole (mCons (mVar 0) mNil)) (mChain opLe opLt (mC (.int 0)) (mVar 0) (mC (.int 4)))))
theorem mx_is_register : ∃ m : MDef, m = mBody 1 mb_is_register := ⟨_, rfl⟩
noncomputable def m_is_register : MDef := mx_is_register.choose
theorem mq_is_register : m_is_register = mBody 1 mb_is_register := mx_is_register.choose_spec
theorem e_m_is_register {a0 : D} {h : MH} {X : MX} {Q : MK} : m_is_register [a0] h X Q = (mRet (mAndV (mFn 1 m_is_whole (mCons (mVar 0) mNil)) (mChain opLe opLt (mC (.int 0)) (mVar 0) (mC (.int 4))))) ⟨fun _ h1 => Q .non h1, Q, fun _ _ => False, fun _ _ => False, fun _ => X⟩ [some a0] h := by rw [mq_is_register]; rfl
def mb_is_at : MS :=
  (mRet (mAndV (mFn 1 m_is_whole (mCons (mVar 0) mNil)) (mChain opLe opLe (mC (.int 0)) (mVar 0) (mC (.int 60)))))
theorem mx_is_at : ∃ m : MDef, m = mBody 1 mb_is_at := ⟨_, rfl⟩
noncomputable def m_is_at : MDef := mx_is_at.choose
theorem mq_is_at : m_is_at = mBody 1 mb_is_at := mx_is_at.choose_spec
theorem e_m_is_at {a0 : D} {h : MH} {X : MX} {Q : MK} : m_is_at [a0] h X Q = (mRet (mAndV (mFn 1 m_is_whole (mCons (mVar 0) mNil)) (mChain opLe opLe (mC (.int 0)) (mVar 0) (mC (.int 60))))) ⟨fun _ h1 => Q .non h1, Q, fun _ _ => False, fun _ _ => False, fun _ => X⟩ [some a0] h := by rw [mq_is_at]; rfl
def mb_form_of : MS :=
  (mSeq (mIfS (mB (mOp opIn (mVar 0) (mTup (mCons (mC (.str (Str.ofString "add"))) (mCons (mC (.str (Str.ofString "both"))) (mCons (mC (.str (Str.ofString "odd"))) (mCons (mC (.str (Str.ofString "load"))) (mCons (mC (.str (Str.ofString "save"))) (mCons (mC (.str (Str.ofString "peek"))) (mCons (mC (.str (Str.ofString "poke"))) (mCons (mC (.str (Str.ofString "why"))) mNil))))))))))) (mRet (mC (.str (Str.ofString "rr")))) mNext)
  (mSeq (mIfS (mB (mOp opIn (mVar 0) (mTup (mCons (mC (.str (Str.ofString "tell"))) (mCons (mC (.str (Str.ofString "root"))) (mCons (mC (.str (Str.ofString "drop"))) (mCons (mC (.str (Str.ofString "give"))) (mCons (mC (.str (Str.ofString "want"))) mNil)))))))) (mRet (mC (.str (Str.ofString "r")))) mNext)
  (mSeq (mIfS (mB (mOp opIn (mVar 0) (mTup (mCons (mC (.str (Str.ofString "call"))) (mCons (mC (.str (Str.ofString "halt"))) (mCons (mC (.str (Str.ofString "back"))) (mCons (mC (.str (Str.ofString "past"))) mNil))))))) (mRet (mC (.str (Str.ofString "")))) mNext)
  (mSeq (mIfS (mB (mOp opIn (mVar 0) (mTup (mCons (mC (.str (Str.ofString "jump"))) (mCons (mC (.str (Str.ofString "user"))) mNil))))) (mRet (mC (.str (Str.ofString "a")))) mNext)
  (mSeq (mIfS (mB (mOp opEq (mVar 0) (mC (.str (Str.ofString "set"))))) (mRet (mC (.str (Str.ofString "rw")))) mNext)
  (mSeq (mIfS (mB (mOp opEq (mVar 0) (mC (.str (Str.ofString "nought"))))) (mRet (mC (.str (Str.ofString "ra")))) mNext)
  (mRet (mC .non))))))))
theorem mx_form_of : ∃ m : MDef, m = mBody 1 mb_form_of := ⟨_, rfl⟩
noncomputable def m_form_of : MDef := mx_form_of.choose
theorem mq_form_of : m_form_of = mBody 1 mb_form_of := mx_form_of.choose_spec
theorem e_m_form_of {a0 : D} {h : MH} {X : MX} {Q : MK} : m_form_of [a0] h X Q = (mSeq (mIfS (mB (mOp opIn (mVar 0) (mTup (mCons (mC (.str (Str.ofString "add"))) (mCons (mC (.str (Str.ofString "both"))) (mCons (mC (.str (Str.ofString "odd"))) (mCons (mC (.str (Str.ofString "load"))) (mCons (mC (.str (Str.ofString "save"))) (mCons (mC (.str (Str.ofString "peek"))) (mCons (mC (.str (Str.ofString "poke"))) (mCons (mC (.str (Str.ofString "why"))) mNil))))))))))) (mRet (mC (.str (Str.ofString "rr")))) mNext)
  (mSeq (mIfS (mB (mOp opIn (mVar 0) (mTup (mCons (mC (.str (Str.ofString "tell"))) (mCons (mC (.str (Str.ofString "root"))) (mCons (mC (.str (Str.ofString "drop"))) (mCons (mC (.str (Str.ofString "give"))) (mCons (mC (.str (Str.ofString "want"))) mNil)))))))) (mRet (mC (.str (Str.ofString "r")))) mNext)
  (mSeq (mIfS (mB (mOp opIn (mVar 0) (mTup (mCons (mC (.str (Str.ofString "call"))) (mCons (mC (.str (Str.ofString "halt"))) (mCons (mC (.str (Str.ofString "back"))) (mCons (mC (.str (Str.ofString "past"))) mNil))))))) (mRet (mC (.str (Str.ofString "")))) mNext)
  (mSeq (mIfS (mB (mOp opIn (mVar 0) (mTup (mCons (mC (.str (Str.ofString "jump"))) (mCons (mC (.str (Str.ofString "user"))) mNil))))) (mRet (mC (.str (Str.ofString "a")))) mNext)
  (mSeq (mIfS (mB (mOp opEq (mVar 0) (mC (.str (Str.ofString "set"))))) (mRet (mC (.str (Str.ofString "rw")))) mNext)
  (mSeq (mIfS (mB (mOp opEq (mVar 0) (mC (.str (Str.ofString "nought"))))) (mRet (mC (.str (Str.ofString "ra")))) mNext)
  (mRet (mC .non)))))))) ⟨fun _ h1 => Q .non h1, Q, fun _ _ => False, fun _ _ => False, fun _ => X⟩ [some a0] h := by rw [mq_form_of]; rfl
def mb_is_part : MS :=
  (mSeq (mIfS (mB (mOp opEq (mVar 1) (mC (.str (Str.ofString "r"))))) (mRet (mFn 1 m_is_register (mCons (mVar 0) mNil))) mNext)
  (mSeq (mIfS (mB (mOp opEq (mVar 1) (mC (.str (Str.ofString "w"))))) (mRet (mFn 1 m_is_word (mCons (mVar 0) mNil))) mNext)
  (mRet (mFn 1 m_is_at (mCons (mVar 0) mNil)))))
theorem mx_is_part : ∃ m : MDef, m = mBody 2 mb_is_part := ⟨_, rfl⟩
noncomputable def m_is_part : MDef := mx_is_part.choose
theorem mq_is_part : m_is_part = mBody 2 mb_is_part := mx_is_part.choose_spec
theorem e_m_is_part {a0 a1 : D} {h : MH} {X : MX} {Q : MK} : m_is_part [a0, a1] h X Q = (mSeq (mIfS (mB (mOp opEq (mVar 1) (mC (.str (Str.ofString "r"))))) (mRet (mFn 1 m_is_register (mCons (mVar 0) mNil))) mNext)
  (mSeq (mIfS (mB (mOp opEq (mVar 1) (mC (.str (Str.ofString "w"))))) (mRet (mFn 1 m_is_word (mCons (mVar 0) mNil))) mNext)
  (mRet (mFn 1 m_is_at (mCons (mVar 0) mNil))))) ⟨fun _ h1 => Q .non h1, Q, fun _ _ => False, fun _ _ => False, fun _ => X⟩ [some a0, some a1] h := by rw [mq_is_part]; rfl
def ml_is_order_1 : MS :=
  (mIfS (mNot (mB (mFn 2 m_is_part (mCons (mVar 2) (mCons (mVar 3) mNil))))) (mRet (mC (.bl false))) mNext)
theorem e_ml_is_order_1 {nx : MSt → MH → Prop} {rt : MK} {bk ct : MSt → MH → Prop} {ex : MSt → MX} {s : MSt} {h : MH} : ml_is_order_1 ⟨nx, rt, bk, ct, ex⟩ s h = (mIfS (mNot (mB (mFn 2 m_is_part (mCons (mVar 2) (mCons (mVar 3) mNil))))) (mRet (mC (.bl false))) mNext) ⟨nx, rt, bk, ct, ex⟩ s h := rfl
def mb_is_order : MS :=
  (mSeq (mIfS (mOr (mNot (mB (mIsK .tuple (mVar 0)))) (mOr (mB (mOp opEq (mCB cLen (mCons (mVar 0) mNil)) (mC (.int 0)))) (mNot (mB (mIsK .str (mOp opIx (mVar 0) (mC (.int 0)))))))) (mRet (mC (.bl false))) mNext)
  (mSeq (mSet 1 (mFn 1 m_form_of (mCons (mOp opIx (mVar 0) (mC (.int 0))) mNil)))
  (mSeq (mIfS (mOr (mB (mOp opIs (mVar 1) (mC .non))) (mB (mOp opNe (mCB cLen (mCons (mVar 1) mNil)) (mOp opSub (mCB cLen (mCons (mVar 0) mNil)) (mC (.int 1)))))) (mRet (mC (.bl false))) mNext)
  (mSeq (mFor (miZS (mSl (mVar 0) (mPart (mC (.int 1))) mNoPart) (mVar 1)) (.tp [(.nm 2), (.nm 3)])
  ml_is_order_1)
  (mRet (mC (.bl true)))))))
theorem mx_is_order : ∃ m : MDef, m = mBody 4 mb_is_order := ⟨_, rfl⟩
noncomputable def m_is_order : MDef := mx_is_order.choose
theorem mq_is_order : m_is_order = mBody 4 mb_is_order := mx_is_order.choose_spec
theorem e_m_is_order {a0 : D} {h : MH} {X : MX} {Q : MK} : m_is_order [a0] h X Q = (mSeq (mIfS (mOr (mNot (mB (mIsK .tuple (mVar 0)))) (mOr (mB (mOp opEq (mCB cLen (mCons (mVar 0) mNil)) (mC (.int 0)))) (mNot (mB (mIsK .str (mOp opIx (mVar 0) (mC (.int 0)))))))) (mRet (mC (.bl false))) mNext)
  (mSeq (mSet 1 (mFn 1 m_form_of (mCons (mOp opIx (mVar 0) (mC (.int 0))) mNil)))
  (mSeq (mIfS (mOr (mB (mOp opIs (mVar 1) (mC .non))) (mB (mOp opNe (mCB cLen (mCons (mVar 1) mNil)) (mOp opSub (mCB cLen (mCons (mVar 0) mNil)) (mC (.int 1)))))) (mRet (mC (.bl false))) mNext)
  (mSeq (mFor (miZS (mSl (mVar 0) (mPart (mC (.int 1))) mNoPart) (mVar 1)) (.tp [(.nm 2), (.nm 3)])
  ml_is_order_1)
  (mRet (mC (.bl true))))))) ⟨fun _ h1 => Q .non h1, Q, fun _ _ => False, fun _ _ => False, fun _ => X⟩ [some a0, none, none, none] h := by rw [mq_is_order]; rfl
def ml_checked_1 : MS :=
  (mIfS (mNot (mB (mFn 1 m_is_order (mCons (mVar 3) mNil)))) (mRaiseF "NoProgram" ["place"] (mCons (mVar 2) mNil)) mNext)
theorem e_ml_checked_1 {nx : MSt → MH → Prop} {rt : MK} {bk ct : MSt → MH → Prop} {ex : MSt → MX} {s : MSt} {h : MH} : ml_checked_1 ⟨nx, rt, bk, ct, ex⟩ s h = (mIfS (mNot (mB (mFn 1 m_is_order (mCons (mVar 3) mNil)))) (mRaiseF "NoProgram" ["place"] (mCons (mVar 2) mNil)) mNext) ⟨nx, rt, bk, ct, ex⟩ s h := rfl
def mb_checked : MS :=
  (mSeq (mIfS (mOr (mNot (mB (mIsK .list (mVar 0)))) (mNot (mB (mChain opLe opLe (mC (.int 1)) (mCB cLen (mCons (mVar 0) mNil)) (mC (.int 60)))))) (mRaiseF "NoProgram" ["place"] (mCons (mC .non) mNil)) mNext)
  (mSeq (mFor (miE (mVar 0)) (.tp [(.nm 2), (.nm 3)])
  ml_checked_1)
  (mIfS (mNot (mB (mFn 1 m_is_at (mCons (mVar 1) mNil)))) (mRaiseF "NoProgram" ["place"] (mCons (mC .non) mNil)) mNext)))
theorem mx_checked : ∃ m : MDef, m = mBody 4 mb_checked := ⟨_, rfl⟩
noncomputable def m_checked : MDef := mx_checked.choose
theorem mq_checked : m_checked = mBody 4 mb_checked := mx_checked.choose_spec
theorem e_m_checked {a0 a1 : D} {h : MH} {X : MX} {Q : MK} : m_checked [a0, a1] h X Q = (mSeq (mIfS (mOr (mNot (mB (mIsK .list (mVar 0)))) (mNot (mB (mChain opLe opLe (mC (.int 1)) (mCB cLen (mCons (mVar 0) mNil)) (mC (.int 60)))))) (mRaiseF "NoProgram" ["place"] (mCons (mC .non) mNil)) mNext)
  (mSeq (mFor (miE (mVar 0)) (.tp [(.nm 2), (.nm 3)])
  ml_checked_1)
  (mIfS (mNot (mB (mFn 1 m_is_at (mCons (mVar 1) mNil)))) (mRaiseF "NoProgram" ["place"] (mCons (mC .non) mNil)) mNext))) ⟨fun _ h1 => Q .non h1, Q, fun _ _ => False, fun _ _ => False, fun _ => X⟩ [some a0, some a1, none, none] h := by rw [mq_checked]; rfl
def mb_is_inner : MS :=
  (mRet (mOp opIn (mVar 0) (mTup (mCons (mC (.str (Str.ofString "peek"))) (mCons (mC (.str (Str.ofString "poke"))) (mCons (mC (.str (Str.ofString "root"))) (mCons (mC (.str (Str.ofString "drop"))) (mCons (mC (.str (Str.ofString "give"))) (mCons (mC (.str (Str.ofString "want"))) (mCons (mC (.str (Str.ofString "why"))) (mCons (mC (.str (Str.ofString "back"))) (mCons (mC (.str (Str.ofString "past"))) (mCons (mC (.str (Str.ofString "user"))) mNil)))))))))))))
theorem mx_is_inner : ∃ m : MDef, m = mBody 1 mb_is_inner := ⟨_, rfl⟩
noncomputable def m_is_inner : MDef := mx_is_inner.choose
theorem mq_is_inner : m_is_inner = mBody 1 mb_is_inner := mx_is_inner.choose_spec
theorem e_m_is_inner {a0 : D} {h : MH} {X : MX} {Q : MK} : m_is_inner [a0] h X Q = (mRet (mOp opIn (mVar 0) (mTup (mCons (mC (.str (Str.ofString "peek"))) (mCons (mC (.str (Str.ofString "poke"))) (mCons (mC (.str (Str.ofString "root"))) (mCons (mC (.str (Str.ofString "drop"))) (mCons (mC (.str (Str.ofString "give"))) (mCons (mC (.str (Str.ofString "want"))) (mCons (mC (.str (Str.ofString "why"))) (mCons (mC (.str (Str.ofString "back"))) (mCons (mC (.str (Str.ofString "past"))) (mCons (mC (.str (Str.ofString "user"))) mNil))))))))))))) ⟨fun _ h1 => Q .non h1, Q, fun _ _ => False, fun _ _ => False, fun _ => X⟩ [some a0] h := by rw [mq_is_inner]; rfl
def mb_kind_number : MS :=
  (mSeq (mSet 1 (mC (.int 1)))
  (mSeq (mForR (mC (.tup [.str (Str.ofString "far"), .str (Str.ofString "absent"), .str (Str.ofString "beyond"), .str (Str.ofString "kernel"), .str (Str.ofString "fixed"), .str (Str.ofString "deed"), .str (Str.ofString "call")])) (.nm 2)
  (mSeq (mIfS (mB (mOp opEq (mVar 2) (mVar 0))) (mRet (mVar 1)) mNext)
  (mSet 1 (mOp opAdd (mVar 1) (mC (.int 1))))))
  (mRet (mC (.int 0)))))
theorem mx_kind_number : ∃ m : MDef, m = mBody 3 mb_kind_number := ⟨_, rfl⟩
noncomputable def m_kind_number : MDef := mx_kind_number.choose
theorem mq_kind_number : m_kind_number = mBody 3 mb_kind_number := mx_kind_number.choose_spec
theorem e_m_kind_number {a0 : D} {h : MH} {X : MX} {Q : MK} : m_kind_number [a0] h X Q = (mSeq (mSet 1 (mC (.int 1)))
  (mSeq (mForR (mC (.tup [.str (Str.ofString "far"), .str (Str.ofString "absent"), .str (Str.ofString "beyond"), .str (Str.ofString "kernel"), .str (Str.ofString "fixed"), .str (Str.ofString "deed"), .str (Str.ofString "call")])) (.nm 2)
  (mSeq (mIfS (mB (mOp opEq (mVar 2) (mVar 0))) (mRet (mVar 1)) mNext)
  (mSet 1 (mOp opAdd (mVar 1) (mC (.int 1))))))
  (mRet (mC (.int 0))))) ⟨fun _ h1 => Q .non h1, Q, fun _ _ => False, fun _ _ => False, fun _ => X⟩ [some a0, none, none] h := by rw [mq_kind_number]; rfl
local macro_rules | `(tactic| walk_at "go") => `(tactic| simp? only [↓MP.is_whole_eq, ↓MP.Ty.whole, ↓MP.is_word_eq, ↓e_m_is_register, ↓e_m_is_at, ↓e_m_form_of, ↓e_m_is_part, ↓e_m_is_order, ↓e_m_checked, ↓e_m_is_inner, ↓e_m_kind_number, ↓e_ml_is_order_1, ↓e_ml_checked_1, Option.isSome_some, Option.isSome_none, ↓M.e_disp, ↓M.e_setdx, ↓M.setdm_i, ↓M.setdm_s, ↓M.e_dix_ri, ↓M.e_dix_rs, ↓M.e_din_ri, ↓M.e_din_rs, ↓M.e_dnin_ri, ↓M.e_dnin_rs, ↓M.zipT_cons, ↓M.zipT_nil, ↓M.kval_nil, ↓M.kval_cons, ↓M.kput_nil, ↓M.kput_cons, ↓M.kmap_nil, ↓M.kmap_cons, ↓M.dctO_dct, ↓M.i_miZS, ↓M.i_miES, ↓M.zsm_TS, ↓M.esm_S, ↓M.e_up, ↓M.upm_S, ↓M.e_split, ↓M.splm_S, ↓M.e_join, ↓M.joim_L, ↓M.joim_R, ↓M.joim_T, ↓M.joim_O, ↓M.strsD_map, ↓M.addT_TT, ↓M.o_ixS, ↓M.sl_S, ↓M.e_newD, ↓M.e_forR, ↓M.forRm_T, ↓M.gomR_cons, ↓M.e_isc, ↓M.e_dct, ↓M.hasS_nil, ↓M.hasS_cons, ↓M.cntFO, ↓M.cntFL, Sum.inl.injEq, Sum.inr.injEq])
local macro_rules | `(tactic| walk_at "en") => `(tactic| (unfold callm; walk_at "go"))
local macro_rules | `(tactic| walk_at "run") => `(tactic| repeat (first | walk_at "go" | walk_at "sp"))
local macro_rules | `(tactic| walk_at "rut") => `(tactic| repeat (first | walk_at "go" | walk_at "sp" | with_reducible refine M.mk_tree ?_))

local macro_rules | `(tactic| walk_at "as") => `(tactic| first | assumption | (simp only [M.put_ap, M.put_put', reduceIte, eq_self, Nat.reduceEqDiff, Nat.add_eq_left, Nat.add_left_cancel_iff, ite_true, ite_false]; assumption))
local macro_rules | `(tactic| walk_at "side") => `(tactic| first | assumption | omega | (simp; done) | decide | (simp; omega))
local macro_rules | `(tactic| walk_at "sp") => `(tactic| ((with_reducible refine M.optm_of (o := Pt.bind ?p ?d ?s) (a := ?v) ?e ?_); (case e => exact rfl)))
local macro_rules | `(tactic| walk_at "sp") => `(tactic| first | (with_reducible refine M.cndm_of (M.mulOk_of ?a ?b) ?_; (case a => omega); (case b => omega)) | (with_reducible refine M.cndm_of (M.mulOk_of2 ?a ?b) ?_; (case a => omega); (case b => omega)))
local macro_rules | `(tactic| walk_at "sp") => `(tactic| ((with_reducible refine M.eq_selfL' ?a ?_); (case a => first | rfl | (simp only [List.all_cons, List.all_nil, Bool.and_true, Bool.true_and, M.dat_non, M.dat_bl, M.dat_int, M.dat_str, M.dat_tup, M.dat_lst]; done) | (simp only [List.all_cons, List.all_nil, Bool.and_true, Bool.true_and, M.dat_non, M.dat_bl, M.dat_int, M.dat_str, M.dat_tup, M.dat_lst]; decide +kernel))))
local macro_rules | `(tactic| walk_at "sp") => `(tactic| ((with_reducible refine M.ne_selfL' ?a ?_); (case a => first | rfl | (simp only [List.all_cons, List.all_nil, Bool.and_true, Bool.true_and, M.dat_non, M.dat_bl, M.dat_int, M.dat_str, M.dat_tup, M.dat_lst]; done) | (simp only [List.all_cons, List.all_nil, Bool.and_true, Bool.true_and, M.dat_non, M.dat_bl, M.dat_int, M.dat_str, M.dat_tup, M.dat_lst]; decide +kernel))))
local macro_rules | `(tactic| walk_at "sp") => `(tactic| ((with_reducible refine M.eq_selfT' ?a ?_); (case a => first | rfl | (simp only [List.all_cons, List.all_nil, Bool.and_true, Bool.true_and, M.dat_non, M.dat_bl, M.dat_int, M.dat_str, M.dat_tup, M.dat_lst]; done) | (simp only [List.all_cons, List.all_nil, Bool.and_true, Bool.true_and, M.dat_non, M.dat_bl, M.dat_int, M.dat_str, M.dat_tup, M.dat_lst]; decide +kernel))))
local macro_rules | `(tactic| walk_at "sp") => `(tactic| ((with_reducible refine M.ne_selfT' ?a ?_); (case a => first | rfl | (simp only [List.all_cons, List.all_nil, Bool.and_true, Bool.true_and, M.dat_non, M.dat_bl, M.dat_int, M.dat_str, M.dat_tup, M.dat_lst]; done) | (simp only [List.all_cons, List.all_nil, Bool.and_true, Bool.true_and, M.dat_non, M.dat_bl, M.dat_int, M.dat_str, M.dat_tup, M.dat_lst]; decide +kernel))))
local macro_rules | `(tactic| walk_at "sp") => `(tactic| ((with_reducible refine M.eq_nilL' ?a ?_); (case a => first | rfl | (simp only [List.all_cons, List.all_nil, Bool.and_true, Bool.true_and, M.dat_non, M.dat_bl, M.dat_int, M.dat_str, M.dat_tup, M.dat_lst]; done) | (simp only [List.all_cons, List.all_nil, Bool.and_true, Bool.true_and, M.dat_non, M.dat_bl, M.dat_int, M.dat_str, M.dat_tup, M.dat_lst]; decide +kernel))))
local macro_rules | `(tactic| walk_at "sp") => `(tactic| ((with_reducible refine M.ne_nilL' ?a ?_); (case a => first | rfl | (simp only [List.all_cons, List.all_nil, Bool.and_true, Bool.true_and, M.dat_non, M.dat_bl, M.dat_int, M.dat_str, M.dat_tup, M.dat_lst]; done) | (simp only [List.all_cons, List.all_nil, Bool.and_true, Bool.true_and, M.dat_non, M.dat_bl, M.dat_int, M.dat_str, M.dat_tup, M.dat_lst]; decide +kernel))))
local macro_rules | `(tactic| walk_at "sp") => `(tactic| first | (with_reducible refine M.cndm_of ?a ?_; (case a => walk_at "side")) | (with_reducible refine M.mite_dt ?a ?_; (case a => omega)) | (with_reducible refine M.mite_df ?a ?_; (case a => omega)) | (with_reducible refine M.mite_nt ?a ?_; (case a => omega)) | (with_reducible refine M.mite_nf ?a ?_; (case a => omega)))
local macro_rules | `(tactic| walk_at "ms") => `(tactic| simp_all? only [↓MP.is_whole_eq, ↓MP.Ty.whole, ↓MP.is_word_eq, ↓e_m_is_register, ↓e_m_is_at, ↓e_m_form_of, ↓e_m_is_part, ↓e_m_is_order, ↓e_m_checked, ↓e_m_is_inner, ↓e_m_kind_number, ↓e_ml_is_order_1, ↓e_ml_checked_1, Option.isSome_some, Option.isSome_none])
local macro_rules | `(tactic| walk_at "mo") => `(tactic| (unfold callm; walk_at "ms"))
local macro_rules | `(tactic| walk_at "hp") => `(tactic| simp only [MH.at, MH.put, MH.new, MH.upd, reduceIte, Nat.reduceEqDiff])
section
variable {h : MH} {X : KX} {K : K2} {x y v : D}
def txtIn (w : Str) (l : List String) : Bool := l.any fun a => decide (w = Str.ofString a)
def formD (w : Str) : D := if txtIn w ["add", "both", "odd", "load", "save", "peek", "poke", "why"] = true then .str (Str.ofString "rr") else if txtIn w ["tell", "root", "drop", "give", "want"] = true then .str (Str.ofString "r") else if txtIn w ["call", "halt", "back", "past"] = true then .str (Str.ofString "") else if txtIn w ["jump", "user"] = true then .str (Str.ofString "a") else if decide (w = Str.ofString "set") = true then .str (Str.ofString "rw") else if decide (w = Str.ofString "nought") = true then .str (Str.ofString "ra") else .non
def regD : D → Bool | .int i => decide (0 ≤ i ∧ i < 4) | _ => false
def atD : D → Bool | .int i => decide (0 ≤ i ∧ i ≤ 60) | _ => false
def partD (s : Str) (x : D) : Bool := if s = Str.ofString "r" then regD x else if s = Str.ofString "w" then wordD x else atD x
theorem txt_any {w : Str} {l : List String} : (l.map fun a => D.str (Str.ofString a)).any (fun e => eqF e (.str w)) = txtIn w l := by
  unfold txtIn
  rw [List.any_map]
  congr; funext a
  show decide (Str.ofString a = w) = decide (w = Str.ofString a)
  simp only [eq_comm]
theorem txt_flat {l : List String} : (l.map fun a => D.str (Str.ofString a)).all flatD = true := by
  rw [List.all_map]; exact List.all_eq_true.mpr fun x _ => rfl
theorem in_txt {w : Str} (l : List String) {ds : List D} (e : ds = l.map fun a => D.str (Str.ofString a)) (q : K.k (.bl (txtIn w l)) h) : @opm opIn (.str w) (.tup ds) h K := by
  subst e
  rw [in_T]
  refine cndm_of ⟨rfl, txt_flat⟩ ?_
  rw [txt_any]; exact q
theorem form_of_ok {w : Str} (q : K.k (formD w) h) : @callm m_form_of [.str w] h X K := by
  unfold formD at q
  unfold callm
  walk_at "ms"
  refine in_txt ["add", "both", "odd", "load", "save", "peek", "poke", "why"] rfl ?_
  walk_at "ms"
  refine mite_of (fun e => ?_) (fun e => ?_)
  · rw [e, if_pos rfl] at q
    walk_at "ms"
    exact q
  rw [e, if_neg (by simp)] at q
  walk_at "ms"
  refine in_txt ["tell", "root", "drop", "give", "want"] rfl ?_
  walk_at "ms"
  refine mite_of (fun e => ?_) (fun e => ?_)
  · rw [e, if_pos rfl] at q
    walk_at "ms"
    exact q
  rw [e, if_neg (by simp)] at q
  walk_at "ms"
  refine in_txt ["call", "halt", "back", "past"] rfl ?_
  walk_at "ms"
  refine mite_of (fun e => ?_) (fun e => ?_)
  · rw [e, if_pos rfl] at q
    walk_at "ms"
    exact q
  rw [e, if_neg (by simp)] at q
  walk_at "ms"
  refine in_txt ["jump", "user"] rfl ?_
  walk_at "ms"
  refine mite_of (fun e => ?_) (fun e => ?_)
  · rw [e, if_pos rfl] at q
    walk_at "ms"
    exact q
  rw [e, if_neg (by simp)] at q
  walk_at "ms"
  refine mite_of (fun e => ?_) (fun e => ?_)
  · rw [e, if_pos rfl] at q
    walk_at "ms"
    exact q
  rw [e, if_neg (by simp)] at q
  walk_at "ms"
  refine mite_of (fun e => ?_) (fun e => ?_)
  · rw [e, if_pos rfl] at q
    walk_at "ms"
    exact q
  rw [e, if_neg (by simp)] at q
  walk_at "ms"
  exact q
theorem reg_ok {t : M.Ty} (ht : tyOf h x = some t) (q : K.k (.bl (regD x)) h) : @callm m_is_register [x] h X K := by
  unfold callm
  walk_at "ms"
  rw [ht]
  by_cases hi : t = .int
  · subst hi
    obtain ⟨i, rfl⟩ := tyOf_int ht
    walk_at "ms"
    unfold regD at q
    dsimp only at q
    refine mite_d (fun a => ?_) (fun a => ?_)
    · walk_at "ms"
      rw [show decide (0 ≤ i ∧ i < 4) = _ from decide_eq_decide.mpr (and_iff_right a)] at q
      exact q
    · rw [show decide (0 ≤ i ∧ i < 4) = false from decide_eq_false (fun z => a z.1)] at q
      walk_at "ms"
      exact q
  · rw [show regD x = false from by cases x <;> first | rfl | (simp [tyOf] at ht; exact (hi ht.symm).elim)] at q
    cases t <;> first | (exact (hi rfl).elim) | (walk_at "ms"; exact q)
theorem at_ok {t : M.Ty} (ht : tyOf h x = some t) (q : K.k (.bl (atD x)) h) : @callm m_is_at [x] h X K := by
  unfold callm
  walk_at "ms"
  rw [ht]
  by_cases hi : t = .int
  · subst hi
    obtain ⟨i, rfl⟩ := tyOf_int ht
    walk_at "ms"
    unfold atD at q
    dsimp only at q
    refine mite_d (fun a => ?_) (fun a => ?_)
    · walk_at "ms"
      rw [show decide (0 ≤ i ∧ i ≤ 60) = _ from decide_eq_decide.mpr (and_iff_right a)] at q
      exact q
    · rw [show decide (0 ≤ i ∧ i ≤ 60) = false from decide_eq_false (fun z => a z.1)] at q
      walk_at "ms"
      exact q
  · rw [show atD x = false from by cases x <;> first | rfl | (simp [tyOf] at ht; exact (hi ht.symm).elim)] at q
    cases t <;> first | (exact (hi rfl).elim) | (walk_at "ms"; exact q)
theorem part_ok {t : M.Ty} {z : Str} (ht : tyOf h x = some t) (q : K.k (.bl (partD z x)) h) : @callm m_is_part [x, .str z] h X K := by
  unfold partD at q
  walk_at "mo"
  refine mite_d (fun a => ?_) (fun a => ?_)
  · rw [if_pos a] at q
    walk_at "ms"
    exact reg_ok ht q
  rw [if_neg a] at q
  walk_at "ms"
  refine mite_d (fun a => ?_) (fun a => ?_)
  · rw [if_pos a] at q
    walk_at "ms"
    rw [ht]
    walk_at "ms"
    exact q
  rw [if_neg a] at q
  walk_at "ms"
  exact at_ok ht q
def chrs (z : Str) : List Str := z.cps.toList.map fun c => ⟨#[c]⟩
theorem chrsD_eq {z : Str} : chrsD z = (chrs z).map D.str := by unfold chrsD chrs; rw [List.map_map]; rfl
def fitD (f : D) (ps : List D) : Bool := match f with
  | .str z => decide (z.length = ps.length) && (ps.zip (chrs z)).all fun p => partD p.2 p.1
  | _ => false
def orderD : D → Bool
  | .tup (.str w :: ps) => fitD (formD w) ps
  | _ => false
theorem formD_is (w : Str) : formD w = .non ∨ ∃ z, formD w = .str z ∧ z.length ≤ 2 := by
  unfold formD
  repeat (split; exact .inr ⟨_, rfl, by decide⟩)
  exact .inl rfl
theorem tyOf_tup {h : MH} {x : D} (e : tyOf h x = some .tuple) : ∃ i, x = .tup i := by
  cases x with
  | tup i => exact ⟨_, rfl⟩
  | ref r i => simp only [tyOf] at e; generalize h.at r i = o at e; cases o with | none => cases e | some o => cases o <;> cases e
  | _ => cases e
theorem tyOf_str {h : MH} {x : D} (e : tyOf h x = some .str) : ∃ i, x = .str i := by
  cases x with
  | str i => exact ⟨_, rfl⟩
  | ref r i => simp only [tyOf] at e; generalize h.at r i = o at e; cases o with | none => cases e | some o => cases o <;> cases e
  | _ => cases e
theorem order_ok {t : M.Ty} (ht : tyOf h x = some t) (hx : ∀ l, x = .tup l → ∀ d ∈ l, tyOf h d ≠ none) (q : K.k (.bl (orderD x)) h) : @callm m_is_order [x] h X K := by
  walk_at "mo"
  rw [ht]
  by_cases h1 : t = .tuple
  · subst h1
    obtain ⟨l, rfl⟩ := tyOf_tup ht
    cases l with
    | nil => walk_at "run"; exact q
    | cons a ps =>
      have ha := hx _ rfl a List.mem_cons_self
      obtain ⟨ta, hta⟩ := Option.ne_none_iff_exists'.mp ha
      walk_at "run"
      refine mite_d (fun z => absurd z (by omega)) (fun _ => ?_)
      walk_at "run"
      rw [hta]
      by_cases h2 : ta = .str
      · subst h2
        obtain ⟨w, rfl⟩ := tyOf_str hta
        walk_at "run"
        refine form_of_ok ?_
        rcases formD_is w with e | ⟨z, e, hz⟩
        · rw [e]
          replace q : K.k (.bl (fitD (formD w) ps)) h := q
          rw [e] at q
          walk_at "run"
          exact q
        · rw [e]
          replace q : K.k (.bl (fitD (formD w) ps)) h := q
          rw [e] at q
          walk_at "run"
          refine mite_dn (fun hl => ?_) (fun hl => ?_)
          · have : fitD (.str z) ps = false := by unfold fitD; dsimp only; rw [show decide (z.length = ps.length) = false from decide_eq_false (by omega)]; rfl
            rw [this] at q
            walk_at "run"
            exact q
          · have hl : z.length = ps.length := by omega
            walk_at "run"
            unfold zipD
            rw [show List.drop 1 (D.str w :: ps) = ps from rfl, chrsD_eq]
            have at2 : ∀ (i : Nat) a, (ps.zip ((chrs z).map D.str))[i]? = some a → ∃ c, a.2 = .str c ∧ (ps.zip (chrs z))[i]? = some (a.1, c) := fun i a ha => by
              obtain ⟨h1, h2⟩ := List.getElem?_zip_eq_some.mp ha
              rw [List.getElem?_map] at h2
              cases hc : (chrs z)[i]? with
              | none => rw [hc] at h2; cases h2
              | some c => rw [hc] at h2; exact ⟨c, (Option.some.inj h2).symm, List.getElem?_zip_eq_some.mpr ⟨h1, hc⟩⟩
            have ll : (ps.zip ((chrs z).map D.str)).length = (ps.zip (chrs z)).length := by simp
            have ef : fitD (.str z) ps = (ps.zip (chrs z)).all fun p => partD p.2 p.1 := by unfold fitD; dsimp only; rw [decide_eq_true hl, Bool.true_and]
            refine gomT (fun i s h' => h' = h ∧ (∀ j p, j < i → (ps.zip (chrs z))[j]? = some p → partD p.2 p.1 = true) ∧ ∃ u v, s = [some (.tup (.str w :: ps)), some (.str z), u, v]) (fun _ _ _ _ => trivial) (fun i s h' a hai ⟨e1, al, u, v, e2⟩ => ?_) (fun s h' ⟨e1, al, u, v, e2⟩ => ?_) ⟨rfl, fun j p hj => absurd hj (Nat.not_lt_zero _), _, _, rfl⟩
            · subst e1 e2
              refine ⟨_, rfl, fun nx' ct' g4 g5 => ?_⟩
              obtain ⟨c, ec, hc⟩ := at2 i a hai
              obtain ⟨a1, a2⟩ := a
              dsimp only at ec hc ⊢
              subst ec
              have ha1 : a1 ∈ ps := List.mem_of_getElem? (List.getElem?_zip_eq_some.mp hc).1
              obtain ⟨t1, ht1⟩ := Option.ne_none_iff_exists'.mp (hx _ rfl a1 (List.mem_cons_of_mem _ ha1))
              walk_at "run"
              refine part_ok ht1 ?_
              cases hp : partD c a1 with
              | false =>
                walk_at "run"
                rw [ef, List.all_eq_false.mpr ⟨_, List.mem_of_getElem? hc, by dsimp only; rw [hp]; simp⟩] at q
                exact q
              | true =>
                walk_at "run"
                refine g4 _ _ ⟨rfl, fun j p hj hp2 => ?_, _, _, rfl⟩
                by_cases h3 : j = i
                · subst h3; rw [hc] at hp2; cases hp2; exact hp
                · exact al j p (by omega) hp2
            · subst e1 e2
              walk_at "run"
              rw [ef, List.all_eq_true.mpr fun p hp => by
                obtain ⟨j, hj⟩ := List.getElem?_of_mem hp
                exact al j p (by rw [ll]; exact (List.getElem?_eq_some_iff.mp hj).1) hj] at q
              exact q
      · have e : orderD (.tup (a :: ps)) = false := by cases a <;> first | rfl | exact (h2 (Option.some.inj hta.symm)).elim
        rw [e] at q
        cases ta <;> first | (exact (h2 rfl).elim) | (walk_at "run"; exact q)
  · have e : orderD x = false := by cases x <;> first | rfl | exact (h1 (Option.some.inj ht.symm)).elim
    rw [e] at q
    cases t <;> first | (exact (h1 rfl).elim) | (walk_at "ms"; exact q)
theorem iem_any {h : MH} {x : D} {l : List D} (e : itemsL h x = some l) : ∃ c : MH → Prop, c h ∧ ∀ K : KI, @iem x h K = K.k (enumD l) c h := by
  cases x with
  | lst l' => cases e; exact ⟨_, trivial, fun K => rfl⟩
  | rol l' => cases e; exact ⟨_, trivial, fun K => rfl⟩
  | ref r i =>
    have e' : h.at r i = some (.lst l) := by
      simp only [itemsL] at e; generalize h.at r i = o at e ⊢; cases o with | none => cases e | some o => cases o <;> cases e; rfl
    exact ⟨_, e', fun K => iem_of e'⟩
  | _ => cases e
def KnowT (h : MH) (d : D) : Prop := tyOf h d ≠ none ∧ ∀ k, d = .tup k → ∀ e ∈ k, tyOf h e ≠ none
theorem KnowT.order {d : D} (k : KnowT h d) (q : K.k (.bl (orderD d)) h) : @callm m_is_order [d] h X K := by
  obtain ⟨t, ht⟩ := Option.ne_none_iff_exists'.mp k.1
  exact order_ok ht k.2 q
theorem seqI_of {h : MH} {x : D} {l : List D} (e : itemsL h x = some l) : seqI h x = some l := by
  cases x with
  | tup l' => cases e
  | _ => exact e
theorem c_lenI {x : D} {l : List D} (e : itemsL h x = some l) : @cbm cLen [x] h K = K.k (.int l.length) h := by
  have e2 := seqI_of e
  unfold cbm cLen
  cases x with
  | str z => cases e
  | _ => dsimp only; rw [e2]
theorem checked_ok {t u : M.Ty} (ht : tyOf h x = some t) (hu : tyOf h y = some u) (hx : ∀ l, itemsL h x = some l → ∀ d ∈ l, KnowT h d)
    (good : ∀ l, itemsL h x = some l → 1 ≤ l.length → l.length ≤ 60 → (∀ d ∈ l, orderD d = true) → atD y = true → K.k .non h)
    (odd : (∀ l, itemsL h x = some l → 1 ≤ l.length → l.length ≤ 60 → atD y = false ∧ ∀ d ∈ l, orderD d = true) → X.x "NoProgram" [("place", .non)] h)
    (bad : ∀ l i d, itemsL h x = some l → 1 ≤ l.length → l.length ≤ 60 → l[i]? = some d → orderD d = false → (∀ j d', j < i → l[j]? = some d' → orderD d' = true) → X.x "NoProgram" [("place", .int (i : Nat))] h) : @callm m_checked [x, y] h X K := by
  walk_at "mo"
  rw [ht]
  cases hi : itemsL h x with
  | none =>
    have o := odd fun l e => by rw [hi] at e; cases e
    have n1 := listD_no ht hi
    walk_at "ms"
    rw [n1]
    walk_at "run"
    exact o
  | some l =>
    cases (listD_ty hi).symm.trans ht
    walk_at "ms"
    rw [c_lenI hi]
    walk_at "ms"
    refine mite_d (fun h1 => ?_) (fun h1 => ?_)
    · walk_at "ms"
      by_cases h2 : (l.length : Int) ≤ 60
      · rw [decide_eq_true h2]
        walk_at "ms"
        obtain ⟨c, hc, ec⟩ := iem_any hi
        rw [ec]
        refine gom_inv (fun i s h' => h' = h ∧ (∀ j d, j < i → l[j]? = some d → orderD d = true) ∧ ∃ u v, s = [some x, some y, u, v]) (fun _ _ _ ⟨e, _⟩ => by rw [e]; exact hc) (fun i s h' d hd ⟨e1, al, u, v, e2⟩ => ?_) (fun s h' ⟨e1, al, u, v, e2⟩ => ?_) ⟨rfl, fun j d hj => absurd hj (Nat.not_lt_zero _), _, _, rfl⟩
        · subst e1 e2
          obtain ⟨z, hz, rfl⟩ := enumD_at hd
          refine ⟨_, rfl, fun nx' ct' g4 g5 => ?_⟩
          have kz := hx _ hi z (List.mem_of_getElem? hz)
          walk_at "ms"
          refine kz.order ?_
          cases ho : orderD z with
          | false =>
            walk_at "ms"
            walk_at "run"
            exact bad l i z hi (by omega) (by omega) hz ho al
          | true =>
            walk_at "ms"
            refine g4 _ _ ⟨rfl, fun j d' hj hd' => ?_, _, _, rfl⟩
            by_cases h3 : j = i
            · subst h3; rw [hz] at hd'; cases hd'; exact ho
            · exact al j d' (by omega) hd'
        · subst e1 e2
          rw [enumD_len] at al
          have al2 : ∀ d ∈ l, orderD d = true := fun d hd => by
            obtain ⟨j, hj⟩ := List.getElem?_of_mem hd
            exact al j d (List.getElem?_eq_some_iff.mp hj).1 hj
          walk_at "ms"
          refine at_ok hu ?_
          cases ha : atD y with
          | false =>
            walk_at "ms"
            walk_at "run"
            exact odd fun l' e _ _ => by rw [hi] at e; cases e; exact ⟨ha, al2⟩
          | true =>
            walk_at "ms"
            exact good l hi (by omega) (by omega) al2 ha
      · rw [decide_eq_false h2]
        walk_at "ms"
        walk_at "run"
        exact odd fun l' e _ a => by rw [hi] at e; cases e; omega
    · walk_at "ms"
      walk_at "run"
      exact odd fun l' e a _ => by rw [hi] at e; cases e; omega
def kindL : List String := ["far", "absent", "beyond", "kernel", "fixed", "deed", "call"]
def kindN (w : Str) : Nat := if w = Str.ofString "far" then 1 else if w = Str.ofString "absent" then 2 else if w = Str.ofString "beyond" then 3 else if w = Str.ofString "kernel" then 4 else if w = Str.ofString "fixed" then 5 else if w = Str.ofString "deed" then 6 else if w = Str.ofString "call" then 7 else 0
end
end MP

set_option Elab.async false
set_option linter.all false
set_option maxRecDepth 100000
set_option maxHeartbeats 4000000
set_option checkBinderAnnotations false
namespace MP
open PySem PySem.Spec PyProof.Rows L2 Z M
def mb_plus : MS :=
  (mRet (mOp opMod (mOp opAdd (mVar 0) (mVar 1)) (mC (.int 281474976710656))))
theorem mx_plus : ∃ m : MDef, m = mBody 2 mb_plus := ⟨_, rfl⟩
noncomputable def m_plus : MDef := mx_plus.choose
theorem mq_plus : m_plus = mBody 2 mb_plus := mx_plus.choose_spec
theorem e_m_plus {a0 a1 : D} {h : MH} {X : MX} {Q : MK} : m_plus [a0, a1] h X Q = (mRet (mOp opMod (mOp opAdd (mVar 0) (mVar 1)) (mC (.int 281474976710656)))) ⟨fun _ h1 => Q .non h1, Q, fun _ _ => False, fun _ _ => False, fun _ => X⟩ [some a0, some a1] h := by rw [mq_plus]; rfl
def mb_both : MS :=
  (mRet (mOp opBand (mVar 0) (mVar 1)))
theorem mx_both : ∃ m : MDef, m = mBody 2 mb_both := ⟨_, rfl⟩
noncomputable def m_both : MDef := mx_both.choose
theorem mq_both : m_both = mBody 2 mb_both := mx_both.choose_spec
theorem e_m_both {a0 a1 : D} {h : MH} {X : MX} {Q : MK} : m_both [a0, a1] h X Q = (mRet (mOp opBand (mVar 0) (mVar 1))) ⟨fun _ h1 => Q .non h1, Q, fun _ _ => False, fun _ _ => False, fun _ => X⟩ [some a0, some a1] h := by rw [mq_both]; rfl
def mb_odd : MS :=
  (mRet (mOp opBxor (mVar 0) (mVar 1)))
theorem mx_odd : ∃ m : MDef, m = mBody 2 mb_odd := ⟨_, rfl⟩
noncomputable def m_odd : MDef := mx_odd.choose
theorem mq_odd : m_odd = mBody 2 mb_odd := mx_odd.choose_spec
theorem e_m_odd {a0 a1 : D} {h : MH} {X : MX} {Q : MK} : m_odd [a0, a1] h X Q = (mRet (mOp opBxor (mVar 0) (mVar 1))) ⟨fun _ h1 => Q .non h1, Q, fun _ _ => False, fun _ _ => False, fun _ => X⟩ [some a0, some a1] h := by rw [mq_odd]; rfl
def mb_Machine___init__ : MS :=
  (mSeq (mDrop (mFn 2 m_checked (mCons (mVar 2) (mCons (mVar 3) mNil))))
  (mSeq (mSFld "Machine" "ways" (mVar 0) (mVar 1))
  (mSeq (mSFld "Machine" "orders" (mVar 0) (mCB cList (mCons (mVar 2) mNil)))
  (mSeq (mSFld "Machine" "door" (mVar 0) (mVar 3))
  (mSeq (mSFld "Machine" "cells" (mVar 0) (mLst (mCons (mC (.int 0)) (mCons (mC (.int 0)) (mCons (mC (.int 0)) (mCons (mC (.int 0)) mNil))))))
  (mSeq (mSFld "Machine" "counter" (mVar 0) (mC (.int 0)))
  (mSeq (mSFld "Machine" "ruling" (mVar 0) (mC (.bl true)))
  (mSeq (mSFld "Machine" "fallen" (mVar 0) (mTup (mCons (mC (.int 0)) (mCons (mC (.int 0)) (mCons (mC (.int 0)) (mCons (mC (.bl true)) mNil))))))
  (mSeq (mSFld "Machine" "stopped" (mVar 0) (mC (.bl false)))
  (mSeq (mSFld "Machine" "notes" (mVar 0) (mLst mNil))
  (mSeq (mIfS (mB (mOp opIsNot (mVar 4) (mC .non))) (mSeq (mSFld "Machine" "cells" (mVar 0) (mCB cList (mCons (mOp opIx (mVar 4) (mC (.int 0))) mNil)))
  (mSeq (mSFld "Machine" "counter" (mVar 0) (mOp opIx (mVar 4) (mC (.int 1))))
  (mSeq (mSFld "Machine" "ruling" (mVar 0) (mOp opIx (mVar 4) (mC (.int 2))))
  (mSeq (mSFld "Machine" "fallen" (mVar 0) (mOp opIx (mVar 4) (mC (.int 3))))
  (mSFld "Machine" "stopped" (mVar 0) (mOp opIx (mVar 4) (mC (.int 4)))))))) mNext)
  (mIfS (mB (mOp opIsNot (mVar 5) (mC .non))) (mSFld "Machine" "notes" (mVar 0) (mCB cList (mCons (mVar 5) mNil))) mNext))))))))))))
theorem mx_Machine___init__ : ∃ m : MDef, m = mBody 6 mb_Machine___init__ := ⟨_, rfl⟩
noncomputable def m_Machine___init__ : MDef := mx_Machine___init__.choose
theorem mq_Machine___init__ : m_Machine___init__ = mBody 6 mb_Machine___init__ := mx_Machine___init__.choose_spec
theorem e_m_Machine___init__ {a0 a1 a2 a3 a4 a5 : D} {h : MH} {X : MX} {Q : MK} : m_Machine___init__ [a0, a1, a2, a3, a4, a5] h X Q = (mSeq (mDrop (mFn 2 m_checked (mCons (mVar 2) (mCons (mVar 3) mNil))))
  (mSeq (mSFld "Machine" "ways" (mVar 0) (mVar 1))
  (mSeq (mSFld "Machine" "orders" (mVar 0) (mCB cList (mCons (mVar 2) mNil)))
  (mSeq (mSFld "Machine" "door" (mVar 0) (mVar 3))
  (mSeq (mSFld "Machine" "cells" (mVar 0) (mLst (mCons (mC (.int 0)) (mCons (mC (.int 0)) (mCons (mC (.int 0)) (mCons (mC (.int 0)) mNil))))))
  (mSeq (mSFld "Machine" "counter" (mVar 0) (mC (.int 0)))
  (mSeq (mSFld "Machine" "ruling" (mVar 0) (mC (.bl true)))
  (mSeq (mSFld "Machine" "fallen" (mVar 0) (mTup (mCons (mC (.int 0)) (mCons (mC (.int 0)) (mCons (mC (.int 0)) (mCons (mC (.bl true)) mNil))))))
  (mSeq (mSFld "Machine" "stopped" (mVar 0) (mC (.bl false)))
  (mSeq (mSFld "Machine" "notes" (mVar 0) (mLst mNil))
  (mSeq (mIfS (mB (mOp opIsNot (mVar 4) (mC .non))) (mSeq (mSFld "Machine" "cells" (mVar 0) (mCB cList (mCons (mOp opIx (mVar 4) (mC (.int 0))) mNil)))
  (mSeq (mSFld "Machine" "counter" (mVar 0) (mOp opIx (mVar 4) (mC (.int 1))))
  (mSeq (mSFld "Machine" "ruling" (mVar 0) (mOp opIx (mVar 4) (mC (.int 2))))
  (mSeq (mSFld "Machine" "fallen" (mVar 0) (mOp opIx (mVar 4) (mC (.int 3))))
  (mSFld "Machine" "stopped" (mVar 0) (mOp opIx (mVar 4) (mC (.int 4)))))))) mNext)
  (mIfS (mB (mOp opIsNot (mVar 5) (mC .non))) (mSFld "Machine" "notes" (mVar 0) (mCB cList (mCons (mVar 5) mNil))) mNext)))))))))))) ⟨fun _ h1 => Q .non h1, Q, fun _ _ => False, fun _ _ => False, fun _ => X⟩ [some a0, some a1, some a2, some a3, some a4, some a5] h := by rw [mq_Machine___init__]; rfl
def mb_Machine_fall : MS :=
  (mSeq (mDrop (mLM lAppend (mFld "notes" (mVar 0)) (mCons (mTup (mCons (mC (.str (Str.ofString "fault"))) (mCons (mVar 1) (mCons (mVar 2) (mCons (mVar 3) (mCons (mFld "counter" (mVar 0)) mNil)))))) mNil)))
  (mSeq (mSFld "Machine" "fallen" (mVar 0) (mTup (mCons (mFn 1 m_kind_number (mCons (mVar 1) mNil)) (mCons (mVar 2) (mCons (mFld "counter" (mVar 0)) (mCons (mFld "ruling" (mVar 0)) mNil))))))
  (mSeq (mSFld "Machine" "ruling" (mVar 0) (mC (.bl true)))
  (mSFld "Machine" "counter" (mVar 0) (mFld "door" (mVar 0))))))
theorem mx_Machine_fall : ∃ m : MDef, m = mBody 4 mb_Machine_fall := ⟨_, rfl⟩
noncomputable def m_Machine_fall : MDef := mx_Machine_fall.choose
theorem mq_Machine_fall : m_Machine_fall = mBody 4 mb_Machine_fall := mx_Machine_fall.choose_spec
theorem e_m_Machine_fall {a0 a1 a2 a3 : D} {h : MH} {X : MX} {Q : MK} : m_Machine_fall [a0, a1, a2, a3] h X Q = (mSeq (mDrop (mLM lAppend (mFld "notes" (mVar 0)) (mCons (mTup (mCons (mC (.str (Str.ofString "fault"))) (mCons (mVar 1) (mCons (mVar 2) (mCons (mVar 3) (mCons (mFld "counter" (mVar 0)) mNil)))))) mNil)))
  (mSeq (mSFld "Machine" "fallen" (mVar 0) (mTup (mCons (mFn 1 m_kind_number (mCons (mVar 1) mNil)) (mCons (mVar 2) (mCons (mFld "counter" (mVar 0)) (mCons (mFld "ruling" (mVar 0)) mNil))))))
  (mSeq (mSFld "Machine" "ruling" (mVar 0) (mC (.bl true)))
  (mSFld "Machine" "counter" (mVar 0) (mFld "door" (mVar 0)))))) ⟨fun _ h1 => Q .non h1, Q, fun _ _ => False, fun _ _ => False, fun _ => X⟩ [some a0, some a1, some a2, some a3] h := by rw [mq_Machine_fall]; rfl
def mb_Machine_go : MS :=
  (mSeq (mSet 2 (mOp opIx (mVar 1) (mC (.int 0))))
  (mSeq (mIfS (mB (mOp opEq (mVar 2) (mC (.str (Str.ofString "call"))))) (mRaiseF "Fault" ["kind", "place", "level"] (mCons (mC (.str (Str.ofString "call"))) (mCons (mC (.int 0)) (mCons (mC (.int 0)) mNil)))) mNext)
  (mIfS (mB (mOp opEq (mVar 2) (mC (.str (Str.ofString "halt"))))) (mSFld "Machine" "stopped" (mVar 0) (mC (.bl true))) (mIfS (mB (mOp opEq (mVar 2) (mC (.str (Str.ofString "jump"))))) (mSFld "Machine" "counter" (mVar 0) (mOp opIx (mVar 1) (mC (.int 1)))) (mIfS (mB (mOp opEq (mVar 2) (mC (.str (Str.ofString "user"))))) (mSeq (mSFld "Machine" "ruling" (mVar 0) (mC (.bl false)))
  (mSFld "Machine" "counter" (mVar 0) (mOp opIx (mVar 1) (mC (.int 1))))) (mIfS (mB (mOp opEq (mVar 2) (mC (.str (Str.ofString "nought"))))) (mSeq (mSFld "Machine" "counter" (mVar 0) (mOp opAdd (mFld "counter" (mVar 0)) (mC (.int 1))))
  (mIfS (mB (mOp opEq (mOp opIx (mFld "cells" (mVar 0)) (mOp opIx (mVar 1) (mC (.int 1)))) (mC (.int 0)))) (mSFld "Machine" "counter" (mVar 0) (mOp opIx (mVar 1) (mC (.int 2)))) mNext)) (mSeq (mSFld "Machine" "counter" (mVar 0) (mOp opIx (mFld "fallen" (mVar 0)) (mC (.int 2))))
  (mSeq (mIfS (mB (mOp opEq (mVar 2) (mC (.str (Str.ofString "past"))))) (mSFld "Machine" "counter" (mVar 0) (mOp opAdd (mOp opIx (mFld "fallen" (mVar 0)) (mC (.int 2))) (mC (.int 1)))) mNext)
  (mSFld "Machine" "ruling" (mVar 0) (mOp opIx (mFld "fallen" (mVar 0)) (mC (.int 3))))))))))))
theorem mx_Machine_go : ∃ m : MDef, m = mBody 3 mb_Machine_go := ⟨_, rfl⟩
noncomputable def m_Machine_go : MDef := mx_Machine_go.choose
theorem mq_Machine_go : m_Machine_go = mBody 3 mb_Machine_go := mx_Machine_go.choose_spec
theorem e_m_Machine_go {a0 a1 : D} {h : MH} {X : MX} {Q : MK} : m_Machine_go [a0, a1] h X Q = (mSeq (mSet 2 (mOp opIx (mVar 1) (mC (.int 0))))
  (mSeq (mIfS (mB (mOp opEq (mVar 2) (mC (.str (Str.ofString "call"))))) (mRaiseF "Fault" ["kind", "place", "level"] (mCons (mC (.str (Str.ofString "call"))) (mCons (mC (.int 0)) (mCons (mC (.int 0)) mNil)))) mNext)
  (mIfS (mB (mOp opEq (mVar 2) (mC (.str (Str.ofString "halt"))))) (mSFld "Machine" "stopped" (mVar 0) (mC (.bl true))) (mIfS (mB (mOp opEq (mVar 2) (mC (.str (Str.ofString "jump"))))) (mSFld "Machine" "counter" (mVar 0) (mOp opIx (mVar 1) (mC (.int 1)))) (mIfS (mB (mOp opEq (mVar 2) (mC (.str (Str.ofString "user"))))) (mSeq (mSFld "Machine" "ruling" (mVar 0) (mC (.bl false)))
  (mSFld "Machine" "counter" (mVar 0) (mOp opIx (mVar 1) (mC (.int 1))))) (mIfS (mB (mOp opEq (mVar 2) (mC (.str (Str.ofString "nought"))))) (mSeq (mSFld "Machine" "counter" (mVar 0) (mOp opAdd (mFld "counter" (mVar 0)) (mC (.int 1))))
  (mIfS (mB (mOp opEq (mOp opIx (mFld "cells" (mVar 0)) (mOp opIx (mVar 1) (mC (.int 1)))) (mC (.int 0)))) (mSFld "Machine" "counter" (mVar 0) (mOp opIx (mVar 1) (mC (.int 2)))) mNext)) (mSeq (mSFld "Machine" "counter" (mVar 0) (mOp opIx (mFld "fallen" (mVar 0)) (mC (.int 2))))
  (mSeq (mIfS (mB (mOp opEq (mVar 2) (mC (.str (Str.ofString "past"))))) (mSFld "Machine" "counter" (mVar 0) (mOp opAdd (mOp opIx (mFld "fallen" (mVar 0)) (mC (.int 2))) (mC (.int 1)))) mNext)
  (mSFld "Machine" "ruling" (mVar 0) (mOp opIx (mFld "fallen" (mVar 0)) (mC (.int 3)))))))))))) ⟨fun _ h1 => Q .non h1, Q, fun _ _ => False, fun _ _ => False, fun _ => X⟩ [some a0, some a1, none] h := by rw [mq_Machine_go]; rfl
def mb_Machine_reckon : MS :=
  (mSeq (mSet 2 (mOp opIx (mVar 1) (mC (.int 0))))
  (mSeq (mSet 3 (mOp opIx (mVar 1) (mC (.int 1))))
  (mIfS (mB (mOp opEq (mVar 2) (mC (.str (Str.ofString "set"))))) (mSetIx (mFld "cells" (mVar 0)) (mVar 3) (mOp opIx (mVar 1) (mC (.int 2)))) (mIfS (mB (mOp opEq (mVar 2) (mC (.str (Str.ofString "tell"))))) (mDrop (mLM lAppend (mFld "notes" (mVar 0)) (mCons (mTup (mCons (mC (.str (Str.ofString "told"))) (mCons (mOp opIx (mFld "cells" (mVar 0)) (mVar 3)) mNil))) mNil))) (mIfS (mB (mOp opEq (mVar 2) (mC (.str (Str.ofString "add"))))) (mSetIx (mFld "cells" (mVar 0)) (mVar 3) (mFn 2 m_plus (mCons (mOp opIx (mFld "cells" (mVar 0)) (mVar 3)) (mCons (mOp opIx (mFld "cells" (mVar 0)) (mOp opIx (mVar 1) (mC (.int 2)))) mNil)))) (mIfS (mB (mOp opEq (mVar 2) (mC (.str (Str.ofString "both"))))) (mSetIx (mFld "cells" (mVar 0)) (mVar 3) (mFn 2 m_both (mCons (mOp opIx (mFld "cells" (mVar 0)) (mVar 3)) (mCons (mOp opIx (mFld "cells" (mVar 0)) (mOp opIx (mVar 1) (mC (.int 2)))) mNil)))) (mIfS (mB (mOp opEq (mVar 2) (mC (.str (Str.ofString "odd"))))) (mSetIx (mFld "cells" (mVar 0)) (mVar 3) (mFn 2 m_odd (mCons (mOp opIx (mFld "cells" (mVar 0)) (mVar 3)) (mCons (mOp opIx (mFld "cells" (mVar 0)) (mOp opIx (mVar 1) (mC (.int 2)))) mNil)))) (mSeq (mSetIx (mFld "cells" (mVar 0)) (mVar 3) (mOp opIx (mFld "fallen" (mVar 0)) (mC (.int 0))))
  (mSetIx (mFld "cells" (mVar 0)) (mOp opIx (mVar 1) (mC (.int 2))) (mOp opIx (mFld "fallen" (mVar 0)) (mC (.int 1))))))))))))
theorem mx_Machine_reckon : ∃ m : MDef, m = mBody 4 mb_Machine_reckon := ⟨_, rfl⟩
noncomputable def m_Machine_reckon : MDef := mx_Machine_reckon.choose
theorem mq_Machine_reckon : m_Machine_reckon = mBody 4 mb_Machine_reckon := mx_Machine_reckon.choose_spec
theorem e_m_Machine_reckon {a0 a1 : D} {h : MH} {X : MX} {Q : MK} : m_Machine_reckon [a0, a1] h X Q = (mSeq (mSet 2 (mOp opIx (mVar 1) (mC (.int 0))))
  (mSeq (mSet 3 (mOp opIx (mVar 1) (mC (.int 1))))
  (mIfS (mB (mOp opEq (mVar 2) (mC (.str (Str.ofString "set"))))) (mSetIx (mFld "cells" (mVar 0)) (mVar 3) (mOp opIx (mVar 1) (mC (.int 2)))) (mIfS (mB (mOp opEq (mVar 2) (mC (.str (Str.ofString "tell"))))) (mDrop (mLM lAppend (mFld "notes" (mVar 0)) (mCons (mTup (mCons (mC (.str (Str.ofString "told"))) (mCons (mOp opIx (mFld "cells" (mVar 0)) (mVar 3)) mNil))) mNil))) (mIfS (mB (mOp opEq (mVar 2) (mC (.str (Str.ofString "add"))))) (mSetIx (mFld "cells" (mVar 0)) (mVar 3) (mFn 2 m_plus (mCons (mOp opIx (mFld "cells" (mVar 0)) (mVar 3)) (mCons (mOp opIx (mFld "cells" (mVar 0)) (mOp opIx (mVar 1) (mC (.int 2)))) mNil)))) (mIfS (mB (mOp opEq (mVar 2) (mC (.str (Str.ofString "both"))))) (mSetIx (mFld "cells" (mVar 0)) (mVar 3) (mFn 2 m_both (mCons (mOp opIx (mFld "cells" (mVar 0)) (mVar 3)) (mCons (mOp opIx (mFld "cells" (mVar 0)) (mOp opIx (mVar 1) (mC (.int 2)))) mNil)))) (mIfS (mB (mOp opEq (mVar 2) (mC (.str (Str.ofString "odd"))))) (mSetIx (mFld "cells" (mVar 0)) (mVar 3) (mFn 2 m_odd (mCons (mOp opIx (mFld "cells" (mVar 0)) (mVar 3)) (mCons (mOp opIx (mFld "cells" (mVar 0)) (mOp opIx (mVar 1) (mC (.int 2)))) mNil)))) (mSeq (mSetIx (mFld "cells" (mVar 0)) (mVar 3) (mOp opIx (mFld "fallen" (mVar 0)) (mC (.int 0))))
  (mSetIx (mFld "cells" (mVar 0)) (mOp opIx (mVar 1) (mC (.int 2))) (mOp opIx (mFld "fallen" (mVar 0)) (mC (.int 1)))))))))))) ⟨fun _ h1 => Q .non h1, Q, fun _ _ => False, fun _ _ => False, fun _ => X⟩ [some a0, some a1, none, none] h := by rw [mq_Machine_reckon]; rfl
def mb_Machine_carry_word : MS :=
  (mSeq (mSet 2 (mOp opIx (mVar 1) (mC (.int 1))))
  (mSeq (mSet 3 (mOp opIx (mFld "cells" (mVar 0)) (mOp opIx (mVar 1) (mC (.int 2)))))
  (mIfS (mB (mOp opEq (mOp opIx (mVar 1) (mC (.int 0))) (mC (.str (Str.ofString "load"))))) (mSetIx (mFld "cells" (mVar 0)) (mVar 2) (mMt "Plain" 3 m_Plain_load (mFld "ways" (mVar 0)) (mCons (mVar 3) (mCons (mFld "ruling" (mVar 0)) mNil)))) (mIfS (mB (mOp opEq (mOp opIx (mVar 1) (mC (.int 0))) (mC (.str (Str.ofString "save"))))) (mDrop (mMt "Plain" 4 m_Plain_save (mFld "ways" (mVar 0)) (mCons (mVar 3) (mCons (mOp opIx (mFld "cells" (mVar 0)) (mVar 2)) (mCons (mFld "ruling" (mVar 0)) mNil))))) (mIfS (mB (mOp opEq (mOp opIx (mVar 1) (mC (.int 0))) (mC (.str (Str.ofString "peek"))))) (mSetIx (mFld "cells" (mVar 0)) (mVar 2) (mMt "Plain" 2 m_Plain_peek (mFld "ways" (mVar 0)) (mCons (mVar 3) mNil))) (mDrop (mMt "Plain" 3 m_Plain_poke (mFld "ways" (mVar 0)) (mCons (mVar 3) (mCons (mOp opIx (mFld "cells" (mVar 0)) (mVar 2)) mNil)))))))))
theorem mx_Machine_carry_word : ∃ m : MDef, m = mBody 4 mb_Machine_carry_word := ⟨_, rfl⟩
noncomputable def m_Machine_carry_word : MDef := mx_Machine_carry_word.choose
theorem mq_Machine_carry_word : m_Machine_carry_word = mBody 4 mb_Machine_carry_word := mx_Machine_carry_word.choose_spec
theorem e_m_Machine_carry_word {a0 a1 : D} {h : MH} {X : MX} {Q : MK} : m_Machine_carry_word [a0, a1] h X Q = (mSeq (mSet 2 (mOp opIx (mVar 1) (mC (.int 1))))
  (mSeq (mSet 3 (mOp opIx (mFld "cells" (mVar 0)) (mOp opIx (mVar 1) (mC (.int 2)))))
  (mIfS (mB (mOp opEq (mOp opIx (mVar 1) (mC (.int 0))) (mC (.str (Str.ofString "load"))))) (mSetIx (mFld "cells" (mVar 0)) (mVar 2) (mMt "Plain" 3 m_Plain_load (mFld "ways" (mVar 0)) (mCons (mVar 3) (mCons (mFld "ruling" (mVar 0)) mNil)))) (mIfS (mB (mOp opEq (mOp opIx (mVar 1) (mC (.int 0))) (mC (.str (Str.ofString "save"))))) (mDrop (mMt "Plain" 4 m_Plain_save (mFld "ways" (mVar 0)) (mCons (mVar 3) (mCons (mOp opIx (mFld "cells" (mVar 0)) (mVar 2)) (mCons (mFld "ruling" (mVar 0)) mNil))))) (mIfS (mB (mOp opEq (mOp opIx (mVar 1) (mC (.int 0))) (mC (.str (Str.ofString "peek"))))) (mSetIx (mFld "cells" (mVar 0)) (mVar 2) (mMt "Plain" 2 m_Plain_peek (mFld "ways" (mVar 0)) (mCons (mVar 3) mNil))) (mDrop (mMt "Plain" 3 m_Plain_poke (mFld "ways" (mVar 0)) (mCons (mVar 3) (mCons (mOp opIx (mFld "cells" (mVar 0)) (mVar 2)) mNil))))))))) ⟨fun _ h1 => Q .non h1, Q, fun _ _ => False, fun _ _ => False, fun _ => X⟩ [some a0, some a1, none, none] h := by rw [mq_Machine_carry_word]; rfl
def mb_Machine_tell_way : MS :=
  (mSeq (mSet 2 (mOp opIx (mVar 1) (mC (.int 1))))
  (mIfS (mB (mOp opEq (mOp opIx (mVar 1) (mC (.int 0))) (mC (.str (Str.ofString "root"))))) (mDrop (mMt "Plain" 2 m_Plain_turn_root (mFld "ways" (mVar 0)) (mCons (mOp opIx (mFld "cells" (mVar 0)) (mVar 2)) mNil))) (mIfS (mB (mOp opEq (mOp opIx (mVar 1) (mC (.int 0))) (mC (.str (Str.ofString "drop"))))) (mDrop (mMt "Plain" 2 m_Plain_drop (mFld "ways" (mVar 0)) (mCons (mOp opIx (mFld "cells" (mVar 0)) (mVar 2)) mNil))) (mIfS (mB (mOp opEq (mOp opIx (mVar 1) (mC (.int 0))) (mC (.str (Str.ofString "give"))))) (mSetIx (mFld "cells" (mVar 0)) (mVar 2) (mCB cInt (mCons (mMt "Plain" 2 m_Plain_give (mFld "ways" (mVar 0)) (mCons (mOp opIx (mFld "cells" (mVar 0)) (mVar 2)) mNil)) mNil))) (mSetIx (mFld "cells" (mVar 0)) (mVar 2) (mCB cInt (mCons (mMt "Plain" 2 m_Plain_want (mFld "ways" (mVar 0)) (mCons (mOp opIx (mFld "cells" (mVar 0)) (mVar 2)) mNil)) mNil)))))))
theorem mx_Machine_tell_way : ∃ m : MDef, m = mBody 3 mb_Machine_tell_way := ⟨_, rfl⟩
noncomputable def m_Machine_tell_way : MDef := mx_Machine_tell_way.choose
theorem mq_Machine_tell_way : m_Machine_tell_way = mBody 3 mb_Machine_tell_way := mx_Machine_tell_way.choose_spec
theorem e_m_Machine_tell_way {a0 a1 : D} {h : MH} {X : MX} {Q : MK} : m_Machine_tell_way [a0, a1] h X Q = (mSeq (mSet 2 (mOp opIx (mVar 1) (mC (.int 1))))
  (mIfS (mB (mOp opEq (mOp opIx (mVar 1) (mC (.int 0))) (mC (.str (Str.ofString "root"))))) (mDrop (mMt "Plain" 2 m_Plain_turn_root (mFld "ways" (mVar 0)) (mCons (mOp opIx (mFld "cells" (mVar 0)) (mVar 2)) mNil))) (mIfS (mB (mOp opEq (mOp opIx (mVar 1) (mC (.int 0))) (mC (.str (Str.ofString "drop"))))) (mDrop (mMt "Plain" 2 m_Plain_drop (mFld "ways" (mVar 0)) (mCons (mOp opIx (mFld "cells" (mVar 0)) (mVar 2)) mNil))) (mIfS (mB (mOp opEq (mOp opIx (mVar 1) (mC (.int 0))) (mC (.str (Str.ofString "give"))))) (mSetIx (mFld "cells" (mVar 0)) (mVar 2) (mCB cInt (mCons (mMt "Plain" 2 m_Plain_give (mFld "ways" (mVar 0)) (mCons (mOp opIx (mFld "cells" (mVar 0)) (mVar 2)) mNil)) mNil))) (mSetIx (mFld "cells" (mVar 0)) (mVar 2) (mCB cInt (mCons (mMt "Plain" 2 m_Plain_want (mFld "ways" (mVar 0)) (mCons (mOp opIx (mFld "cells" (mVar 0)) (mVar 2)) mNil)) mNil))))))) ⟨fun _ h1 => Q .non h1, Q, fun _ _ => False, fun _ _ => False, fun _ => X⟩ [some a0, some a1, none] h := by rw [mq_Machine_tell_way]; rfl
def mb_Machine_do : MS :=
  (mSeq (mSet 2 (mOp opIx (mVar 1) (mC (.int 0))))
  (mSeq (mIfS (mAnd (mB (mFn 1 m_is_inner (mCons (mVar 2) mNil))) (mNot (mB (mFld "ruling" (mVar 0))))) (mRaiseF "Fault" ["kind", "place", "level"] (mCons (mC (.str (Str.ofString "deed"))) (mCons (mC (.int 0)) (mCons (mC (.int 0)) mNil)))) mNext)
  (mSeq (mIfS (mB (mOp opIn (mVar 2) (mTup (mCons (mC (.str (Str.ofString "jump"))) (mCons (mC (.str (Str.ofString "nought"))) (mCons (mC (.str (Str.ofString "user"))) (mCons (mC (.str (Str.ofString "back"))) (mCons (mC (.str (Str.ofString "past"))) (mCons (mC (.str (Str.ofString "halt"))) (mCons (mC (.str (Str.ofString "call"))) mNil)))))))))) (mSeq (mDrop (mMt "Machine" 2 m_Machine_go (mVar 0) (mCons (mVar 1) mNil)))
  mRetN) mNext)
  (mSeq (mIfS (mB (mOp opIn (mVar 2) (mTup (mCons (mC (.str (Str.ofString "set"))) (mCons (mC (.str (Str.ofString "add"))) (mCons (mC (.str (Str.ofString "both"))) (mCons (mC (.str (Str.ofString "odd"))) (mCons (mC (.str (Str.ofString "tell"))) (mCons (mC (.str (Str.ofString "why"))) mNil))))))))) (mDrop (mMt "Machine" 2 m_Machine_reckon (mVar 0) (mCons (mVar 1) mNil))) (mIfS (mB (mOp opIn (mVar 2) (mTup (mCons (mC (.str (Str.ofString "load"))) (mCons (mC (.str (Str.ofString "save"))) (mCons (mC (.str (Str.ofString "peek"))) (mCons (mC (.str (Str.ofString "poke"))) mNil))))))) (mDrop (mMt "Machine" 2 m_Machine_carry_word (mVar 0) (mCons (mVar 1) mNil))) (mDrop (mMt "Machine" 2 m_Machine_tell_way (mVar 0) (mCons (mVar 1) mNil)))))
  (mSFld "Machine" "counter" (mVar 0) (mOp opAdd (mFld "counter" (mVar 0)) (mC (.int 1))))))))
theorem mx_Machine_do : ∃ m : MDef, m = mBody 3 mb_Machine_do := ⟨_, rfl⟩
noncomputable def m_Machine_do : MDef := mx_Machine_do.choose
theorem mq_Machine_do : m_Machine_do = mBody 3 mb_Machine_do := mx_Machine_do.choose_spec
theorem e_m_Machine_do {a0 a1 : D} {h : MH} {X : MX} {Q : MK} : m_Machine_do [a0, a1] h X Q = (mSeq (mSet 2 (mOp opIx (mVar 1) (mC (.int 0))))
  (mSeq (mIfS (mAnd (mB (mFn 1 m_is_inner (mCons (mVar 2) mNil))) (mNot (mB (mFld "ruling" (mVar 0))))) (mRaiseF "Fault" ["kind", "place", "level"] (mCons (mC (.str (Str.ofString "deed"))) (mCons (mC (.int 0)) (mCons (mC (.int 0)) mNil)))) mNext)
  (mSeq (mIfS (mB (mOp opIn (mVar 2) (mTup (mCons (mC (.str (Str.ofString "jump"))) (mCons (mC (.str (Str.ofString "nought"))) (mCons (mC (.str (Str.ofString "user"))) (mCons (mC (.str (Str.ofString "back"))) (mCons (mC (.str (Str.ofString "past"))) (mCons (mC (.str (Str.ofString "halt"))) (mCons (mC (.str (Str.ofString "call"))) mNil)))))))))) (mSeq (mDrop (mMt "Machine" 2 m_Machine_go (mVar 0) (mCons (mVar 1) mNil)))
  mRetN) mNext)
  (mSeq (mIfS (mB (mOp opIn (mVar 2) (mTup (mCons (mC (.str (Str.ofString "set"))) (mCons (mC (.str (Str.ofString "add"))) (mCons (mC (.str (Str.ofString "both"))) (mCons (mC (.str (Str.ofString "odd"))) (mCons (mC (.str (Str.ofString "tell"))) (mCons (mC (.str (Str.ofString "why"))) mNil))))))))) (mDrop (mMt "Machine" 2 m_Machine_reckon (mVar 0) (mCons (mVar 1) mNil))) (mIfS (mB (mOp opIn (mVar 2) (mTup (mCons (mC (.str (Str.ofString "load"))) (mCons (mC (.str (Str.ofString "save"))) (mCons (mC (.str (Str.ofString "peek"))) (mCons (mC (.str (Str.ofString "poke"))) mNil))))))) (mDrop (mMt "Machine" 2 m_Machine_carry_word (mVar 0) (mCons (mVar 1) mNil))) (mDrop (mMt "Machine" 2 m_Machine_tell_way (mVar 0) (mCons (mVar 1) mNil)))))
  (mSFld "Machine" "counter" (mVar 0) (mOp opAdd (mFld "counter" (mVar 0)) (mC (.int 1)))))))) ⟨fun _ h1 => Q .non h1, Q, fun _ _ => False, fun _ _ => False, fun _ => X⟩ [some a0, some a1, none] h := by rw [mq_Machine_do]; rfl
def mb_Machine_step : MS :=
  (mSeq (mSet 1 (mOp opIx (mFld "orders" (mVar 0)) (mFld "counter" (mVar 0))))
  (mSeq (mTryAs (catch_ "Fault") 2 (mDrop (mMt "Machine" 2 m_Machine_do (mVar 0) (mCons (mVar 1) mNil)))
  (fun c fs => (mDrop (mMt "Machine" 4 m_Machine_fall (mVar 0) (mCons (mXf c fs "Fault" "kind") (mCons (mXf c fs "Fault" "place") (mCons (mXf c fs "Fault" "level") mNil)))))))
  (mIfS (mB (mOp opGe (mFld "counter" (mVar 0)) (mCB cLen (mCons (mFld "orders" (mVar 0)) mNil)))) (mSFld "Machine" "stopped" (mVar 0) (mC (.bl true))) mNext)))
theorem mx_Machine_step : ∃ m : MDef, m = mBody 3 mb_Machine_step := ⟨_, rfl⟩
noncomputable def m_Machine_step : MDef := mx_Machine_step.choose
theorem mq_Machine_step : m_Machine_step = mBody 3 mb_Machine_step := mx_Machine_step.choose_spec
theorem e_m_Machine_step {a0 : D} {h : MH} {X : MX} {Q : MK} : m_Machine_step [a0] h X Q = (mSeq (mSet 1 (mOp opIx (mFld "orders" (mVar 0)) (mFld "counter" (mVar 0))))
  (mSeq (mTryAs (catch_ "Fault") 2 (mDrop (mMt "Machine" 2 m_Machine_do (mVar 0) (mCons (mVar 1) mNil)))
  (fun c fs => (mDrop (mMt "Machine" 4 m_Machine_fall (mVar 0) (mCons (mXf c fs "Fault" "kind") (mCons (mXf c fs "Fault" "place") (mCons (mXf c fs "Fault" "level") mNil)))))))
  (mIfS (mB (mOp opGe (mFld "counter" (mVar 0)) (mCB cLen (mCons (mFld "orders" (mVar 0)) mNil)))) (mSFld "Machine" "stopped" (mVar 0) (mC (.bl true))) mNext))) ⟨fun _ h1 => Q .non h1, Q, fun _ _ => False, fun _ _ => False, fun _ => X⟩ [some a0, none, none] h := by rw [mq_Machine_step]; rfl
def ml_Machine_turn_1 : MS :=
  (mSeq (mDrop (mMt "Machine" 1 m_Machine_step (mVar 0) mNil))
  (mSet 2 (mOp opAdd (mVar 2) (mC (.int 1)))))
theorem e_ml_Machine_turn_1 {nx : MSt → MH → Prop} {rt : MK} {bk ct : MSt → MH → Prop} {ex : MSt → MX} {s : MSt} {h : MH} : ml_Machine_turn_1 ⟨nx, rt, bk, ct, ex⟩ s h = (mSeq (mDrop (mMt "Machine" 1 m_Machine_step (mVar 0) mNil))
  (mSet 2 (mOp opAdd (mVar 2) (mC (.int 1))))) ⟨nx, rt, bk, ct, ex⟩ s h := rfl
def mb_Machine_turn : MS :=
  (mSeq (mIfS (mOr (mNot (mB (mFn 1 m_is_whole (mCons (mVar 1) mNil)))) (mNot (mB (mChain opLe opLe (mC (.int 0)) (mVar 1) (mC (.int 500)))))) (mRaise "NoBound") mNext)
  (mSeq (mSet 2 (mC (.int 0)))
  (mSeq (mWhile (mAnd (mB (mOp opLt (mVar 2) (mVar 1))) (mNot (mB (mFld "stopped" (mVar 0))))) ml_Machine_turn_1)
  (mRet (mVar 2)))))
theorem mx_Machine_turn : ∃ m : MDef, m = mBody 3 mb_Machine_turn := ⟨_, rfl⟩
noncomputable def m_Machine_turn : MDef := mx_Machine_turn.choose
theorem mq_Machine_turn : m_Machine_turn = mBody 3 mb_Machine_turn := mx_Machine_turn.choose_spec
theorem e_m_Machine_turn {a0 a1 : D} {h : MH} {X : MX} {Q : MK} : m_Machine_turn [a0, a1] h X Q = (mSeq (mIfS (mOr (mNot (mB (mFn 1 m_is_whole (mCons (mVar 1) mNil)))) (mNot (mB (mChain opLe opLe (mC (.int 0)) (mVar 1) (mC (.int 500)))))) (mRaise "NoBound") mNext)
  (mSeq (mSet 2 (mC (.int 0)))
  (mSeq (mWhile (mAnd (mB (mOp opLt (mVar 2) (mVar 1))) (mNot (mB (mFld "stopped" (mVar 0))))) ml_Machine_turn_1)
  (mRet (mVar 2))))) ⟨fun _ h1 => Q .non h1, Q, fun _ _ => False, fun _ _ => False, fun _ => X⟩ [some a0, some a1, none] h := by rw [mq_Machine_turn]; rfl
def mb_Machine_core : MS :=
  (mRet (mTup (mCons (mCB cList (mCons (mFld "cells" (mVar 0)) mNil)) (mCons (mFld "counter" (mVar 0)) (mCons (mFld "ruling" (mVar 0)) (mCons (mFld "fallen" (mVar 0)) (mCons (mFld "stopped" (mVar 0)) mNil)))))))
theorem mx_Machine_core : ∃ m : MDef, m = mBody 1 mb_Machine_core := ⟨_, rfl⟩
noncomputable def m_Machine_core : MDef := mx_Machine_core.choose
theorem mq_Machine_core : m_Machine_core = mBody 1 mb_Machine_core := mx_Machine_core.choose_spec
theorem e_m_Machine_core {a0 : D} {h : MH} {X : MX} {Q : MK} : m_Machine_core [a0] h X Q = (mRet (mTup (mCons (mCB cList (mCons (mFld "cells" (mVar 0)) mNil)) (mCons (mFld "counter" (mVar 0)) (mCons (mFld "ruling" (mVar 0)) (mCons (mFld "fallen" (mVar 0)) (mCons (mFld "stopped" (mVar 0)) mNil))))))) ⟨fun _ h1 => Q .non h1, Q, fun _ _ => False, fun _ _ => False, fun _ => X⟩ [some a0] h := by rw [mq_Machine_core]; rfl
def mb_Machine_events : MS :=
  (mRet (mCB cList (mCons (mFld "notes" (mVar 0)) mNil)))
theorem mx_Machine_events : ∃ m : MDef, m = mBody 1 mb_Machine_events := ⟨_, rfl⟩
noncomputable def m_Machine_events : MDef := mx_Machine_events.choose
theorem mq_Machine_events : m_Machine_events = mBody 1 mb_Machine_events := mx_Machine_events.choose_spec
theorem e_m_Machine_events {a0 : D} {h : MH} {X : MX} {Q : MK} : m_Machine_events [a0] h X Q = (mRet (mCB cList (mCons (mFld "notes" (mVar 0)) mNil))) ⟨fun _ h1 => Q .non h1, Q, fun _ _ => False, fun _ _ => False, fun _ => X⟩ [some a0] h := by rw [mq_Machine_events]; rfl
def mb_Machine_told : MS :=
  (mRet (mTup (mCons (mMt "Machine" 1 m_Machine_core (mVar 0) mNil) (mCons (mMt "Plain" 1 m_Plain_root (mFld "ways" (mVar 0)) mNil) (mCons (mMt "Plain" 1 m_Plain_shelf (mFld "ways" (mVar 0)) mNil) (mCons (mMt "Plain" 1 m_Plain_pages (mFld "ways" (mVar 0)) mNil) mNil))))))
theorem mx_Machine_told : ∃ m : MDef, m = mBody 1 mb_Machine_told := ⟨_, rfl⟩
noncomputable def m_Machine_told : MDef := mx_Machine_told.choose
theorem mq_Machine_told : m_Machine_told = mBody 1 mb_Machine_told := mx_Machine_told.choose_spec
theorem e_m_Machine_told {a0 : D} {h : MH} {X : MX} {Q : MK} : m_Machine_told [a0] h X Q = (mRet (mTup (mCons (mMt "Machine" 1 m_Machine_core (mVar 0) mNil) (mCons (mMt "Plain" 1 m_Plain_root (mFld "ways" (mVar 0)) mNil) (mCons (mMt "Plain" 1 m_Plain_shelf (mFld "ways" (mVar 0)) mNil) (mCons (mMt "Plain" 1 m_Plain_pages (mFld "ways" (mVar 0)) mNil) mNil)))))) ⟨fun _ h1 => Q .non h1, Q, fun _ _ => False, fun _ _ => False, fun _ => X⟩ [some a0] h := by rw [mq_Machine_told]; rfl
def mb_bare : MS :=
  (mRet (mNewD "Machine" 6 m_Machine___init__ [.non, .non] (mCons (mNew "Plain" 4 m_Plain___init__ (mCons (mVar 0) (mCons (mVar 1) (mCons (mVar 4) mNil)))) (mCons (mVar 2) (mCons (mVar 3) mNil)))))
theorem mx_bare : ∃ m : MDef, m = mBody 5 mb_bare := ⟨_, rfl⟩
noncomputable def m_bare : MDef := mx_bare.choose
theorem mq_bare : m_bare = mBody 5 mb_bare := mx_bare.choose_spec
theorem e_m_bare {a0 a1 a2 a3 a4 : D} {h : MH} {X : MX} {Q : MK} : m_bare [a0, a1, a2, a3, a4] h X Q = (mRet (mNewD "Machine" 6 m_Machine___init__ [.non, .non] (mCons (mNew "Plain" 4 m_Plain___init__ (mCons (mVar 0) (mCons (mVar 1) (mCons (mVar 4) mNil)))) (mCons (mVar 2) (mCons (mVar 3) mNil))))) ⟨fun _ h1 => Q .non h1, Q, fun _ _ => False, fun _ _ => False, fun _ => X⟩ [some a0, some a1, some a2, some a3, some a4] h := by rw [mq_bare]; rfl
local macro_rules | `(tactic| walk_at "go") => `(tactic| simp? only [↓e_m_plus, ↓e_m_both, ↓e_m_odd, ↓e_m_Machine___init__, ↓e_m_Machine_fall, ↓e_m_Machine_go, ↓e_m_Machine_reckon, ↓e_m_Machine_carry_word, ↓e_m_Machine_tell_way, ↓e_m_Machine_do, ↓e_m_Machine_step, ↓e_m_Machine_turn, ↓e_m_Machine_core, ↓e_m_Machine_events, ↓e_m_Machine_told, ↓e_m_bare, ↓e_ml_Machine_turn_1, Option.isSome_some, Option.isSome_none, ↓M.e_disp, ↓M.e_setdx, ↓M.setdm_i, ↓M.setdm_s, ↓M.e_dix_ri, ↓M.e_dix_rs, ↓M.e_din_ri, ↓M.e_din_rs, ↓M.e_dnin_ri, ↓M.e_dnin_rs, ↓M.zipT_cons, ↓M.zipT_nil, ↓M.kval_nil, ↓M.kval_cons, ↓M.kput_nil, ↓M.kput_cons, ↓M.kmap_nil, ↓M.kmap_cons, ↓M.dctO_dct, ↓M.i_miZS, ↓M.i_miES, ↓M.zsm_TS, ↓M.esm_S, ↓M.e_up, ↓M.upm_S, ↓M.e_split, ↓M.splm_S, ↓M.e_join, ↓M.joim_L, ↓M.joim_R, ↓M.joim_T, ↓M.joim_O, ↓M.strsD_map, ↓M.addT_TT, ↓M.o_ixS, ↓M.sl_S, ↓M.e_newD, ↓M.e_forR, ↓M.forRm_T, ↓M.gomR_cons, ↓M.e_isc, ↓M.e_dct, ↓M.hasS_nil, ↓M.hasS_cons, ↓M.cntFO, ↓M.cntFL, Sum.inl.injEq, Sum.inr.injEq])
local macro_rules | `(tactic| walk_at "en") => `(tactic| (unfold callm; walk_at "go"))
local macro_rules | `(tactic| walk_at "run") => `(tactic| repeat (first | walk_at "go" | walk_at "sp"))
local macro_rules | `(tactic| walk_at "rut") => `(tactic| repeat (first | walk_at "go" | walk_at "sp" | with_reducible refine M.mk_tree ?_))

local macro_rules | `(tactic| walk_at "as") => `(tactic| first | assumption | (simp only [M.put_ap, M.put_put', reduceIte, eq_self, Nat.reduceEqDiff, Nat.add_eq_left, Nat.add_left_cancel_iff, ite_true, ite_false]; assumption))
local macro_rules | `(tactic| walk_at "side") => `(tactic| first | assumption | omega | (simp; done) | decide | (simp; omega))
local macro_rules | `(tactic| walk_at "sp") => `(tactic| ((with_reducible refine M.optm_of (o := Pt.bind ?p ?d ?s) (a := ?v) ?e ?_); (case e => exact rfl)))
local macro_rules | `(tactic| walk_at "sp") => `(tactic| first | (with_reducible refine M.cndm_of (M.mulOk_of ?a ?b) ?_; (case a => omega); (case b => omega)) | (with_reducible refine M.cndm_of (M.mulOk_of2 ?a ?b) ?_; (case a => omega); (case b => omega)))
local macro_rules | `(tactic| walk_at "sp") => `(tactic| ((with_reducible refine M.eq_selfL' ?a ?_); (case a => first | rfl | (simp only [List.all_cons, List.all_nil, Bool.and_true, Bool.true_and, M.dat_non, M.dat_bl, M.dat_int, M.dat_str, M.dat_tup, M.dat_lst]; done) | (simp only [List.all_cons, List.all_nil, Bool.and_true, Bool.true_and, M.dat_non, M.dat_bl, M.dat_int, M.dat_str, M.dat_tup, M.dat_lst]; decide +kernel))))
local macro_rules | `(tactic| walk_at "sp") => `(tactic| ((with_reducible refine M.ne_selfL' ?a ?_); (case a => first | rfl | (simp only [List.all_cons, List.all_nil, Bool.and_true, Bool.true_and, M.dat_non, M.dat_bl, M.dat_int, M.dat_str, M.dat_tup, M.dat_lst]; done) | (simp only [List.all_cons, List.all_nil, Bool.and_true, Bool.true_and, M.dat_non, M.dat_bl, M.dat_int, M.dat_str, M.dat_tup, M.dat_lst]; decide +kernel))))
local macro_rules | `(tactic| walk_at "sp") => `(tactic| ((with_reducible refine M.eq_selfT' ?a ?_); (case a => first | rfl | (simp only [List.all_cons, List.all_nil, Bool.and_true, Bool.true_and, M.dat_non, M.dat_bl, M.dat_int, M.dat_str, M.dat_tup, M.dat_lst]; done) | (simp only [List.all_cons, List.all_nil, Bool.and_true, Bool.true_and, M.dat_non, M.dat_bl, M.dat_int, M.dat_str, M.dat_tup, M.dat_lst]; decide +kernel))))
local macro_rules | `(tactic| walk_at "sp") => `(tactic| ((with_reducible refine M.ne_selfT' ?a ?_); (case a => first | rfl | (simp only [List.all_cons, List.all_nil, Bool.and_true, Bool.true_and, M.dat_non, M.dat_bl, M.dat_int, M.dat_str, M.dat_tup, M.dat_lst]; done) | (simp only [List.all_cons, List.all_nil, Bool.and_true, Bool.true_and, M.dat_non, M.dat_bl, M.dat_int, M.dat_str, M.dat_tup, M.dat_lst]; decide +kernel))))
local macro_rules | `(tactic| walk_at "sp") => `(tactic| ((with_reducible refine M.eq_nilL' ?a ?_); (case a => first | rfl | (simp only [List.all_cons, List.all_nil, Bool.and_true, Bool.true_and, M.dat_non, M.dat_bl, M.dat_int, M.dat_str, M.dat_tup, M.dat_lst]; done) | (simp only [List.all_cons, List.all_nil, Bool.and_true, Bool.true_and, M.dat_non, M.dat_bl, M.dat_int, M.dat_str, M.dat_tup, M.dat_lst]; decide +kernel))))
local macro_rules | `(tactic| walk_at "sp") => `(tactic| ((with_reducible refine M.ne_nilL' ?a ?_); (case a => first | rfl | (simp only [List.all_cons, List.all_nil, Bool.and_true, Bool.true_and, M.dat_non, M.dat_bl, M.dat_int, M.dat_str, M.dat_tup, M.dat_lst]; done) | (simp only [List.all_cons, List.all_nil, Bool.and_true, Bool.true_and, M.dat_non, M.dat_bl, M.dat_int, M.dat_str, M.dat_tup, M.dat_lst]; decide +kernel))))
local macro_rules | `(tactic| walk_at "sp") => `(tactic| first | (with_reducible refine M.cndm_of ?a ?_; (case a => walk_at "side")) | (with_reducible refine M.mite_dt ?a ?_; (case a => omega)) | (with_reducible refine M.mite_df ?a ?_; (case a => omega)) | (with_reducible refine M.mite_nt ?a ?_; (case a => omega)) | (with_reducible refine M.mite_nf ?a ?_; (case a => omega)))
local macro_rules | `(tactic| walk_at "ms") => `(tactic| simp_all? only [↓e_m_plus, ↓e_m_both, ↓e_m_odd, ↓e_m_Machine___init__, ↓e_m_Machine_fall, ↓e_m_Machine_go, ↓e_m_Machine_reckon, ↓e_m_Machine_carry_word, ↓e_m_Machine_tell_way, ↓e_m_Machine_do, ↓e_m_Machine_step, ↓e_m_Machine_turn, ↓e_m_Machine_core, ↓e_m_Machine_events, ↓e_m_Machine_told, ↓e_m_bare, ↓e_ml_Machine_turn_1, Option.isSome_some, Option.isSome_none])
local macro_rules | `(tactic| walk_at "mo") => `(tactic| (unfold callm; walk_at "ms"))
local macro_rules | `(tactic| walk_at "hp") => `(tactic| simp only [MH.at, MH.put, MH.new, MH.upd, reduceIte, Nat.reduceEqDiff])
/-- a row's word -/
inductive RW | add | both | odd | load | save | peek | poke | why | tell | root | drop | give | want | jump | user | set | nought | call | halt | back | past
def RW.nm : RW → String
  | .add => "add" | .both => "both" | .odd => "odd" | .load => "load" | .save => "save" | .peek => "peek" | .poke => "poke" | .why => "why" | .tell => "tell" | .root => "root" | .drop => "drop" | .give => "give" | .want => "want" | .jump => "jump" | .user => "user" | .set => "set" | .nought => "nought" | .call => "call" | .halt => "halt" | .back => "back" | .past => "past"
def RW.tx (r : RW) : D := .str (Str.ofString r.nm)
def rowT (r : RW) (x y : Int) : D := match r with
  | .tell | .root | .drop | .give | .want | .jump | .user => .tup [r.tx, .int x]
  | .call | .halt | .back | .past => .tup [r.tx]
  | _ => .tup [r.tx, .int x, .int y]
def isTx (d : D) (z : Str) : Bool := match d with | .str w => decide (w = z) | _ => false
theorem isTx_of {d : D} {z : Str} (e : isTx d z = true) : d = .str z := by
  cases d with
  | str w => rw [of_decide_eq_true e]
  | _ => cases e
def inR (x : Int) : Prop := 0 ≤ x ∧ x < 4
def inA (x : Int) : Prop := 0 ≤ x ∧ x ≤ 60
def inW (x : Int) : Prop := 0 ≤ x ∧ x < 281474976710656
def okR (r : RW) (x y : Int) : Prop := match r with
  | .tell | .root | .drop | .give | .want => inR x
  | .jump | .user => inA x
  | .call | .halt | .back | .past => True
  | .set => inR x ∧ inW y
  | .nought => inR x ∧ inA y
  | _ => inR x ∧ inR y
theorem p_r {v : D} : partD (Str.ofString "r") v = regD v := if_pos rfl
theorem p_w {v : D} : partD (Str.ofString "w") v = wordD v := (if_neg (by decide +kernel)).trans (if_pos rfl)
theorem p_a {v : D} : partD (Str.ofString "a") v = atD v := (if_neg (by decide +kernel)).trans (if_neg (by decide +kernel))
theorem fit1 {z c : Str} {v : D} (h : chrs z = [c]) (hl : z.length = 1) : fitD (.str z) [v] = partD c v := by
  unfold fitD; dsimp only; rw [h, hl]; simp
theorem fit2 {z c d : Str} {v u : D} (h : chrs z = [c, d]) (hl : z.length = 2) : fitD (.str z) [v, u] = (partD c v && partD d u) := by
  unfold fitD; dsimp only; rw [h, hl]; simp
theorem g_r {x : Int} (h : inR x) : regD (.int x) = true := decide_eq_true h
theorem g_a {x : Int} (h : inA x) : atD (.int x) = true := decide_eq_true h
theorem g_w {x : Int} (h : inW x) : wordD (.int x) = true := by unfold wordD; dsimp only; rw [decide_eq_true h.1, decide_eq_true h.2]; rfl
theorem fm {w f : String} {l : List D} (e : isTx (formD (Str.ofString w)) (Str.ofString f) = true) (h : fitD (.str (Str.ofString f)) l = true) : orderD (.tup (.str (Str.ofString w) :: l)) = true := by
  show fitD (formD (Str.ofString w)) l = true
  rw [isTx_of e]; exact h
theorem rowT_ok {r : RW} {x y : Int} (h : okR r x y) : orderD (rowT r x y) = true := by
  have r1 : ∀ x : Int, inR x → fitD (.str (Str.ofString "r")) [.int x] = true := fun x hx => by rw [fit1 (c := Str.ofString "r") (by decide +kernel) (by decide +kernel), p_r]; exact g_r hx
  have a1 : ∀ x : Int, inA x → fitD (.str (Str.ofString "a")) [.int x] = true := fun x hx => by rw [fit1 (c := Str.ofString "a") (by decide +kernel) (by decide +kernel), p_a]; exact g_a hx
  have rr : ∀ x y : Int, inR x ∧ inR y → fitD (.str (Str.ofString "rr")) [.int x, .int y] = true := fun x y hx => by rw [fit2 (c := Str.ofString "r") (d := Str.ofString "r") (by decide +kernel) (by decide +kernel), p_r, p_r, g_r hx.1, g_r hx.2]; rfl
  have rw2 : ∀ x y : Int, inR x ∧ inW y → fitD (.str (Str.ofString "rw")) [.int x, .int y] = true := fun x y hx => by rw [fit2 (c := Str.ofString "r") (d := Str.ofString "w") (by decide +kernel) (by decide +kernel), p_r, p_w, g_r hx.1, g_w hx.2]; rfl
  have ra : ∀ x y : Int, inR x ∧ inA y → fitD (.str (Str.ofString "ra")) [.int x, .int y] = true := fun x y hx => by rw [fit2 (c := Str.ofString "r") (d := Str.ofString "a") (by decide +kernel) (by decide +kernel), p_r, p_a, g_r hx.1, g_a hx.2]; rfl
  cases r
  case tell | root | drop | give | want => exact fm (f := "r") (by decide +kernel) (r1 _ h)
  case jump | user => exact fm (f := "a") (by decide +kernel) (a1 _ h)
  case call | halt | back | past => exact fm (f := "") (by decide +kernel) (by decide +kernel)
  case set => exact fm (f := "rw") (by decide +kernel) (rw2 _ _ h)
  case nought => exact fm (f := "ra") (by decide +kernel) (ra _ _ h)
  all_goals exact fm (f := "rr") (by decide +kernel) (rr _ _ h)
/-- a machine over Plain: the way's pages, shelf, root, answers heard; the registers, counter, mode, what is saved, whether it halted, the events -/
structure Mac where
  ps : Pg
  rs : List Row
  b : Int
  n : Nat
  c : List Int
  i : Int
  k : Bool
  sn : Int
  sp : Int
  sa : Int
  sk : Bool
  st : Bool
  ev : List D
def cellN (c : List Int) (x : Int) : Int := c.getD x.toNat 0
def savedD (s : Mac) : D := .tup [.int s.sn, .int s.sp, .int s.sa, .bl s.sk]
def mcF (w q : Nat) (prog : List D) (door : Int) (ci ni : Nat) (s : Mac) : List (String × D) := [("ways", .ref w 0), ("orders", .lst prog), ("door", .int door), ("cells", .ref (q + 1) ci), ("counter", .int s.i), ("ruling", .bl s.k), ("fallen", savedD s), ("stopped", .bl s.st), ("notes", .ref (q + 2) ni)]
structure IsMc (w q mi ci ni : Nat) (m : Int) (ws : List D) (prog : List D) (door : Int) (h : MH) (s : Mac) : Prop where
  top : (h q)[mi]? = some (.ins "Machine" (mcF w q prog door ci ni s))
  cel : (h (q + 1))[ci]? = some (.lst (s.c.map .int))
  evs : (h (q + 2))[ni]? = some (.lst s.ev)
  way : IsPl w h s.ps m s.rs s.b ws s.n
  len : s.c.length = 4
  wds : ∀ c ∈ s.c, inW c
section
variable {w q mi ci ni : Nat} {m : Int} {ws prog : List D} {door : Int} {h : MH} {s : Mac} {X : KX} {K : K2} {x y v : D}
def fallM (door : Int) (s : Mac) (kd : String) (p l : Int) : Mac := { s with ev := s.ev ++ [.tup [.str (Str.ofString "fault"), .str (Str.ofString kd), .int p, .int l, .int s.i]], sn := kindN (Str.ofString kd), sp := p, sa := s.i, sk := s.k, k := true, i := door }
theorem set_at {R : List O} {i : Nat} {a b : O} (e : R[i]? = some a) : (R.set i b)[i]? = some b := List.getElem?_set_self (List.getElem?_eq_some_iff.mp e).1
/-- all but the machine's and the way's regions stay -/
def Fr (w q : Nat) (h h' : MH) : Prop := ∀ j, (j < w ∨ w + 3 ≤ j) → (j < q ∨ q + 3 ≤ j) → h' j = h j
def innerR : RW → Bool | .peek | .poke | .root | .drop | .give | .want | .why | .back | .past | .user => true | _ => false
def dropN (rs : List Row) (place : Int) : List Row := if place < 512 ∧ seatN (place / 8) rs < rs.length then rs.eraseIdx (seatN (place / 8) rs) else rs
def doR (m : Int) (ws : List D) (s : Mac) (r : RW) (x y : Int) : (String × Int × Int) ⊕ Mac := match r with
  | .call => .inl ("call", 0, 0)
  | .halt => .inr { s with st := true }
  | .jump => .inr { s with i := x }
  | .user => .inr { s with k := false, i := x }
  | .nought => .inr { s with i := if cellN s.c x = 0 then y else s.i + 1 }
  | .back => .inr { s with i := s.sa, k := s.sk }
  | .past => .inr { s with i := s.sa + 1, k := s.sk }
  | .set => .inr { s with c := s.c.set x.toNat y, i := s.i + 1 }
  | .tell => .inr { s with ev := s.ev ++ [.tup [.str (Str.ofString "told"), .int (cellN s.c x)]], i := s.i + 1 }
  | .add => .inr { s with c := s.c.set x.toNat ((cellN s.c x + cellN s.c y) % 281474976710656), i := s.i + 1 }
  | .both => .inr { s with c := s.c.set x.toNat (Builtin.bitAnd (cellN s.c x) (cellN s.c y)), i := s.i + 1 }
  | .odd => .inr { s with c := s.c.set x.toNat (Builtin.bitXor (cellN s.c x) (cellN s.c y)), i := s.i + 1 }
  | .why => .inr { s with c := (s.c.set x.toNat s.sn).set y.toNat s.sp, i := s.i + 1 }
  | .load => match reachN s.ps s.b m s.rs (cellN s.c y) false s.k with
    | .fault kd l => .inl (kd, cellN s.c y, l)
    | .page p ps rs => .inr { s with ps := ps, rs := rs, c := s.c.set x.toNat (wd ps p (cellN s.c y % 8)), i := s.i + 1 }
  | .save => match reachN s.ps s.b m s.rs (cellN s.c y) true s.k with
    | .fault kd l => .inl (kd, cellN s.c y, l)
    | .page p ps rs => .inr { s with ps := setW ps p (cellN s.c y % 8) (cellN s.c x), rs := rs, i := s.i + 1 }
  | .peek => if hasN s.ps (cellN s.c y / 8) = true then .inr { s with c := s.c.set x.toNat (wd s.ps (cellN s.c y / 8) (cellN s.c y % 8)), i := s.i + 1 } else .inl ("beyond", cellN s.c y, 0)
  | .poke => if hasN s.ps (cellN s.c y / 8) = true then .inr { s with ps := setW s.ps (cellN s.c y / 8) (cellN s.c y % 8) (cellN s.c x), i := s.i + 1 } else .inl ("beyond", cellN s.c y, 0)
  | .root => .inr { s with rs := [], b := cellN s.c x, i := s.i + 1 }
  | .drop => .inr { s with rs := dropN s.rs (cellN s.c x), i := s.i + 1 }
  | .give => .inr { s with ps := if hasN s.ps (cellN s.c x) = true then s.ps.set (cellN s.c x).toNat none else s.ps, c := s.c.set x.toNat (if hasN s.ps (cellN s.c x) = true then 1 else 0), i := s.i + 1 }
  | .want => if s.ps.length ≤ cellN s.c x ∨ hasN s.ps (cellN s.c x) = true ∨ s.n = ws.length then .inr { s with c := s.c.set x.toNat 0, i := s.i + 1 } else match ws[s.n]? with
    | some (.bl true) => .inr { s with ps := s.ps.set (cellN s.c x).toNat (some [0, 0, 0, 0, 0, 0, 0, 0]), n := s.n + 1, c := s.c.set x.toNat 1, i := s.i + 1 }
    | _ => .inr { s with n := s.n + 1, c := s.c.set x.toNat 0, i := s.i + 1 }
def doM (m : Int) (ws : List D) (s : Mac) (r : RW) (x y : Int) : (String × Int × Int) ⊕ Mac := if innerR r = true ∧ s.k = false then .inl ("deed", 0, 0) else doR m ws s r x y
local macro_rules | `(tactic| walk_at "ev") => `(tactic| ((first | simp only [List.any_cons, List.any_nil, M.eqF_SS, M.S_inj, String.reduceEq, decide_true, decide_false, Bool.or_false, Bool.false_or, Bool.true_or, Bool.or_true, Bool.not_true, Bool.not_false] | skip); walk_at "run"))
/-! rows, one by one -/
/-! rows, all -/
abbrev ROW := RW × Int × Int
def progD (rows : List ROW) : List D := rows.map fun p => rowT p.1 p.2.1 p.2.2
def haltM (n : Nat) (s : Mac) : Mac := if (n : Int) ≤ s.i then { s with st := true } else s
def stepM (m : Int) (ws : List D) (n : Nat) (door : Int) (s : Mac) (p : ROW) : Mac := haltM n (match doM m ws s p.1 p.2.1 p.2.2 with
  | .inl (kd, a, l) => fallM door s kd a l
  | .inr s2 => s2)
theorem IsMc.cls (M : IsMc w q mi ci ni m ws prog door h s) : clsO (h q)[mi]? = some "Machine" := by rw [M.top]; rfl
end
end MP

set_option Elab.async false
set_option linter.all false
set_option maxRecDepth 100000
set_option maxHeartbeats 4000000
set_option checkBinderAnnotations false
namespace MP
open PySem PySem.Spec PyProof.Rows L2 Z M
local macro_rules | `(tactic| walk_at "go") => `(tactic| simp? only [↓MP.is_whole_eq, ↓MP.Ty.whole, ↓MP.e_m_Machine_step, ↓MP.e_m_Machine_turn, ↓MP.e_m_Machine_core, ↓MP.e_m_Machine_events, ↓MP.e_m_Machine_told, ↓MP.e_m_Machine___init__, ↓MP.e_m_bare, ↓MP.e_ml_Machine_turn_1, Option.isSome_some, Option.isSome_none, ↓M.e_disp, ↓M.e_setdx, ↓M.setdm_i, ↓M.setdm_s, ↓M.e_dix_ri, ↓M.e_dix_rs, ↓M.e_din_ri, ↓M.e_din_rs, ↓M.e_dnin_ri, ↓M.e_dnin_rs, ↓M.zipT_cons, ↓M.zipT_nil, ↓M.kval_nil, ↓M.kval_cons, ↓M.kput_nil, ↓M.kput_cons, ↓M.kmap_nil, ↓M.kmap_cons, ↓M.dctO_dct, ↓M.i_miZS, ↓M.i_miES, ↓M.zsm_TS, ↓M.esm_S, ↓M.e_up, ↓M.upm_S, ↓M.e_split, ↓M.splm_S, ↓M.e_join, ↓M.joim_L, ↓M.joim_R, ↓M.joim_T, ↓M.joim_O, ↓M.strsD_map, ↓M.addT_TT, ↓M.o_ixS, ↓M.sl_S, ↓M.e_newD, ↓M.e_forR, ↓M.forRm_T, ↓M.gomR_cons, ↓M.e_isc, ↓M.e_dct, ↓M.hasS_nil, ↓M.hasS_cons, ↓M.cntFO, ↓M.cntFL, Sum.inl.injEq, Sum.inr.injEq])
local macro_rules | `(tactic| walk_at "en") => `(tactic| (unfold callm; walk_at "go"))
local macro_rules | `(tactic| walk_at "run") => `(tactic| repeat (first | walk_at "go" | walk_at "sp"))
local macro_rules | `(tactic| walk_at "rut") => `(tactic| repeat (first | walk_at "go" | walk_at "sp" | with_reducible refine M.mk_tree ?_))

local macro_rules | `(tactic| walk_at "as") => `(tactic| first | assumption | (simp only [M.put_ap, M.put_put', reduceIte, eq_self, Nat.reduceEqDiff, Nat.add_eq_left, Nat.add_left_cancel_iff, ite_true, ite_false]; assumption))
local macro_rules | `(tactic| walk_at "side") => `(tactic| first | assumption | omega | (simp; done) | decide | (simp; omega))
local macro_rules | `(tactic| walk_at "sp") => `(tactic| ((with_reducible refine M.optm_of (o := Pt.bind ?p ?d ?s) (a := ?v) ?e ?_); (case e => exact rfl)))
local macro_rules | `(tactic| walk_at "sp") => `(tactic| first | (with_reducible refine M.cndm_of (M.mulOk_of ?a ?b) ?_; (case a => omega); (case b => omega)) | (with_reducible refine M.cndm_of (M.mulOk_of2 ?a ?b) ?_; (case a => omega); (case b => omega)))
local macro_rules | `(tactic| walk_at "sp") => `(tactic| ((with_reducible refine M.eq_selfL' ?a ?_); (case a => first | rfl | (simp only [List.all_cons, List.all_nil, Bool.and_true, Bool.true_and, M.dat_non, M.dat_bl, M.dat_int, M.dat_str, M.dat_tup, M.dat_lst]; done) | (simp only [List.all_cons, List.all_nil, Bool.and_true, Bool.true_and, M.dat_non, M.dat_bl, M.dat_int, M.dat_str, M.dat_tup, M.dat_lst]; decide +kernel))))
local macro_rules | `(tactic| walk_at "sp") => `(tactic| ((with_reducible refine M.ne_selfL' ?a ?_); (case a => first | rfl | (simp only [List.all_cons, List.all_nil, Bool.and_true, Bool.true_and, M.dat_non, M.dat_bl, M.dat_int, M.dat_str, M.dat_tup, M.dat_lst]; done) | (simp only [List.all_cons, List.all_nil, Bool.and_true, Bool.true_and, M.dat_non, M.dat_bl, M.dat_int, M.dat_str, M.dat_tup, M.dat_lst]; decide +kernel))))
local macro_rules | `(tactic| walk_at "sp") => `(tactic| ((with_reducible refine M.eq_selfT' ?a ?_); (case a => first | rfl | (simp only [List.all_cons, List.all_nil, Bool.and_true, Bool.true_and, M.dat_non, M.dat_bl, M.dat_int, M.dat_str, M.dat_tup, M.dat_lst]; done) | (simp only [List.all_cons, List.all_nil, Bool.and_true, Bool.true_and, M.dat_non, M.dat_bl, M.dat_int, M.dat_str, M.dat_tup, M.dat_lst]; decide +kernel))))
local macro_rules | `(tactic| walk_at "sp") => `(tactic| ((with_reducible refine M.ne_selfT' ?a ?_); (case a => first | rfl | (simp only [List.all_cons, List.all_nil, Bool.and_true, Bool.true_and, M.dat_non, M.dat_bl, M.dat_int, M.dat_str, M.dat_tup, M.dat_lst]; done) | (simp only [List.all_cons, List.all_nil, Bool.and_true, Bool.true_and, M.dat_non, M.dat_bl, M.dat_int, M.dat_str, M.dat_tup, M.dat_lst]; decide +kernel))))
local macro_rules | `(tactic| walk_at "sp") => `(tactic| ((with_reducible refine M.eq_nilL' ?a ?_); (case a => first | rfl | (simp only [List.all_cons, List.all_nil, Bool.and_true, Bool.true_and, M.dat_non, M.dat_bl, M.dat_int, M.dat_str, M.dat_tup, M.dat_lst]; done) | (simp only [List.all_cons, List.all_nil, Bool.and_true, Bool.true_and, M.dat_non, M.dat_bl, M.dat_int, M.dat_str, M.dat_tup, M.dat_lst]; decide +kernel))))
local macro_rules | `(tactic| walk_at "sp") => `(tactic| ((with_reducible refine M.ne_nilL' ?a ?_); (case a => first | rfl | (simp only [List.all_cons, List.all_nil, Bool.and_true, Bool.true_and, M.dat_non, M.dat_bl, M.dat_int, M.dat_str, M.dat_tup, M.dat_lst]; done) | (simp only [List.all_cons, List.all_nil, Bool.and_true, Bool.true_and, M.dat_non, M.dat_bl, M.dat_int, M.dat_str, M.dat_tup, M.dat_lst]; decide +kernel))))
local macro_rules | `(tactic| walk_at "sp") => `(tactic| first | (with_reducible refine M.cndm_of ?a ?_; (case a => walk_at "side")) | (with_reducible refine M.mite_dt ?a ?_; (case a => omega)) | (with_reducible refine M.mite_df ?a ?_; (case a => omega)) | (with_reducible refine M.mite_nt ?a ?_; (case a => omega)) | (with_reducible refine M.mite_nf ?a ?_; (case a => omega)))
local macro_rules | `(tactic| walk_at "ms") => `(tactic| simp_all? only [↓MP.is_whole_eq, ↓MP.Ty.whole, ↓MP.e_m_Machine_step, ↓MP.e_m_Machine_turn, ↓MP.e_m_Machine_core, ↓MP.e_m_Machine_events, ↓MP.e_m_Machine_told, ↓MP.e_m_Machine___init__, ↓MP.e_m_bare, ↓MP.e_ml_Machine_turn_1, Option.isSome_some, Option.isSome_none])
local macro_rules | `(tactic| walk_at "mo") => `(tactic| (unfold callm; walk_at "ms"))
local macro_rules | `(tactic| walk_at "hp") => `(tactic| simp only [MH.at, MH.put, MH.new, MH.upd, reduceIte, Nat.reduceEqDiff])
section
variable {w q mi ci ni : Nat} {m : Int} {ws prog : List D} {door : Int} {h : MH} {s : Mac} {X : KX} {K : K2} {x y v : D}
/-- what stands while it turns: the counter is a row's number unless it halted -/
structure Gd (n : Nat) (s : Mac) : Prop where
  i0 : 0 ≤ s.i
  lt : s.st = false → s.i < n
  a0 : 0 ≤ s.sa
  sp : inW s.sp
  sn : inW s.sn
def runM (m : Int) (ws : List D) (rows : List ROW) (door : Int) : Nat → Mac → Nat × Mac
  | 0, s => (0, s)
  | k + 1, s => if s.st = true then (0, s) else match rows[s.i.toNat]? with
    | some p => ((runM m ws rows door k (stepM m ws rows.length door s p)).1 + 1, (runM m ws rows door k (stepM m ws rows.length door s p)).2)
    | none => (0, s)
def mac0 (ps : Pg) (rs : List Row) (b : Int) (n : Nat) : Mac := { ps := ps, rs := rs, b := b, n := n, c := [0, 0, 0, 0], i := 0, k := true, sn := 0, sp := 0, sa := 0, sk := true, st := false, ev := [] }
theorem c_listI {l : List D} (e : itemsL h x = some l) : @cbm cList [x] h K = @mklm l h K := by
  have e2 := seqI_of e
  unfold cbm cList
  dsimp only; rw [e2]; rfl
theorem rowT_know {r : RW} {a b : Int} : KnowT h (rowT r a b) := by
  cases r <;> exact ⟨fun z => (by cases z), fun k e d hd => by
    cases e
    simp only [List.mem_cons, List.not_mem_nil, or_false] at hd
    rcases hd with rfl | rfl | rfl <;> exact fun z => (by cases z)⟩
theorem mc_new {ps : Pg} {rs : List Row} {b : Int} {n : Nat} {rows : List ROW} (P : IsPl w h ps m rs b ws n) (dj : w + 3 ≤ q ∨ q + 3 ≤ w) (hok : ∀ p ∈ rows, okR p.1 p.2.1 p.2.2) (hl : 1 ≤ rows.length ∧ rows.length ≤ 60) (hd : inA door) (xo : ∀ h' : MH, (∀ j, j ≠ q → j ≠ q + 1 → j ≠ q + 2 → h' j = h j) → itemsL h' x = some (progD rows)) (k : ∀ h2, IsMc w q (h q).length (h (q + 1)).length (h (q + 2)).length m ws (progD rows) door h2 (mac0 ps rs b n) → (∀ j, j < q ∨ q + 3 ≤ j → h2 j = h j) → K.k (.ref q (h q).length) h2) : @newm "Machine" m_Machine___init__ [.ref w 0, x, .int door, .non, .non] h X K := by
  haveI : Ne2 q (q + 1) := ⟨by omega⟩
  haveI : Ne2 q (q + 2) := ⟨by omega⟩
  have pl : (progD rows).length = rows.length := by unfold progD; rw [List.length_map]
  have pm : ∀ d ∈ progD rows, ∃ p ∈ rows, d = rowT p.1 p.2.1 p.2.2 := fun d hd => by
    unfold progD at hd
    obtain ⟨p, hp, rfl⟩ := List.mem_map.mp hd
    exact ⟨p, hp, rfl⟩
  refine newm_of q ?_
  rw [new_def]
  show @callm m_Machine___init__ [.ref q (h q).length, .ref w 0, x, .int door, .non, .non] (h.put q (h q ++ [.ins "Machine" []])) X ⟨fun d h2 => d = .non ∧ K.k (.ref q (h q).length) h2⟩
  have F : At (h q ++ [.ins "Machine" []]) (h q).length (.ins "Machine" []) := ⟨by simp⟩
  have x1 := xo (h.put q (h q ++ [.ins "Machine" []])) fun j a b c => MH.put_ne a
  walk_at "en"
  walk_at "run"
  refine checked_ok (listD_ty x1) (u := .int) rfl (fun l e d hd => by
    rw [x1] at e; cases e
    obtain ⟨p, hp, rfl⟩ := pm d hd
    exact rowT_know) (fun l e _ _ _ _ => ?_) (fun z => ?_) (fun l i d e _ _ hi hf _ => ?_)
  · walk_at "run"
    rw [c_listI (xo _ fun j a b c => by rw [MH.put_ne a])]
    refine mk_tree ?_
    walk_at "run"
    refine mk_new (q + 1) ?_
    rw [new_def]
    walk_at "run"
    refine mk_new (q + 2) ?_
    rw [new_def]
    walk_at "run"
    exact k _ ⟨by rw [MH.put_same]; simp only [List.set_set]; rw [set_at (a := .ins "Machine" []) (by simp)]; rfl, by rw [MH.put_ne (by omega), MH.put_ne (by omega), MH.put_ne (by omega), MH.put_same]; simp; rfl, by rw [MH.put_ne (by omega), MH.put_same]; simp; rfl, P.of fun j a b => by rw [MH.put_ne (by omega), MH.put_ne (by omega), MH.put_ne (by omega), MH.put_ne (by omega), MH.put_ne (by omega)], rfl, fun c hc => by
      have : c = 0 := by simpa [mac0] using hc
      subst this; exact ⟨by decide, by decide⟩⟩ fun j a => by rw [MH.put_ne (by omega), MH.put_ne (by omega), MH.put_ne (by omega), MH.put_ne (by omega), MH.put_ne (by omega)]
  · have := z _ x1 (by rw [pl]; exact hl.1) (by rw [pl]; exact hl.2)
    have h2 : atD (.int door) = true := decide_eq_true hd
    rw [h2] at this; cases this.1
  · rw [x1] at e; cases e
    obtain ⟨p, hp, rfl⟩ := pm d (List.mem_of_getElem? hi)
    rw [rowT_ok (hok p hp)] at hf; cases hf
end
end MP

namespace Gx
open PySem PySem.Spec PyProof.Rows L2 Z M MP
set_option checkBinderAnnotations false
def mb_Machine_entry : MS :=
  (mRet (mFld "door" (mVar 0)))
theorem mx_Machine_entry : ∃ m : MDef, m = mBody 1 mb_Machine_entry := ⟨_, rfl⟩
noncomputable def m_Machine_entry : MDef := mx_Machine_entry.choose
theorem mq_Machine_entry : m_Machine_entry = mBody 1 mb_Machine_entry := mx_Machine_entry.choose_spec
theorem e_m_Machine_entry {a0 : D} {h : MH} {X : MX} {Q : MK} : m_Machine_entry [a0] h X Q = (mRet (mFld "door" (mVar 0))) ⟨fun _ h1 => Q .non h1, Q, fun _ _ => False, fun _ _ => False, fun _ => X⟩ [some a0] h := by rw [mq_Machine_entry]; rfl
def mb_Machine_program : MS :=
  (mRet (mCB cList (mCons (mFld "orders" (mVar 0)) mNil)))
theorem mx_Machine_program : ∃ m : MDef, m = mBody 1 mb_Machine_program := ⟨_, rfl⟩
noncomputable def m_Machine_program : MDef := mx_Machine_program.choose
theorem mq_Machine_program : m_Machine_program = mBody 1 mb_Machine_program := mx_Machine_program.choose_spec
theorem e_m_Machine_program {a0 : D} {h : MH} {X : MX} {Q : MK} : m_Machine_program [a0] h X Q = (mRet (mCB cList (mCons (mFld "orders" (mVar 0)) mNil))) ⟨fun _ h1 => Q .non h1, Q, fun _ _ => False, fun _ _ => False, fun _ => X⟩ [some a0] h := by rw [mq_Machine_program]; rfl
def mb__law_cell_at : MS :=
  (mSeq (mIfS (mB (mOp opLt (mVar 1) (mCB cLen (mCons (mVar 0) mNil)))) (mRet (mOp opIx (mVar 0) (mVar 1))) mNext)
  (mRet (mC (.int 0))))
theorem mx__law_cell_at : ∃ m : MDef, m = mBody 2 mb__law_cell_at := ⟨_, rfl⟩
noncomputable def m__law_cell_at : MDef := mx__law_cell_at.choose
theorem mq__law_cell_at : m__law_cell_at = mBody 2 mb__law_cell_at := mx__law_cell_at.choose_spec
theorem e_m__law_cell_at {a0 a1 : D} {h : MH} {X : MX} {Q : MK} : m__law_cell_at [a0, a1] h X Q = (mSeq (mIfS (mB (mOp opLt (mVar 1) (mCB cLen (mCons (mVar 0) mNil)))) (mRet (mOp opIx (mVar 0) (mVar 1))) mNext)
  (mRet (mC (.int 0)))) ⟨fun _ h1 => Q .non h1, Q, fun _ _ => False, fun _ _ => False, fun _ => X⟩ [some a0, some a1] h := by rw [mq__law_cell_at]; rfl
def mb__law_is_no_program : MS :=
  (mSeq (mIfS (mOr (mNot (mB (mIsX "NoProgram" (mVar 0)))) (mNot (mB (mIsX "ValueError" (mVar 0))))) (mRet (mC (.bl false))) mNext)
  (mSeq (mIfS (mOr (mB (mIsX "NoText" (mVar 0))) (mOr (mB (mIsX "Fault" (mVar 0))) (mB (mIsX "NoBound" (mVar 0))))) (mRet (mC (.bl false))) mNext)
  (mSeq (mIfS (mOr (mB (mIsX "NoImage" (mVar 0))) (mB (mIsX "NoShelf" (mVar 0)))) (mRet (mC (.bl false))) mNext)
  (mSeq (mIfS (mB (mOp opIs (mVar 1) (mC .non))) (mRet (mOp opIs (mFldX "NoProgram" "place" (mVar 0)) (mC .non))) mNext)
  (mRet (mAndV (mIsK .int (mFldX "NoProgram" "place" (mVar 0))) (mAndV (mNotV (mIsK .bool (mFldX "NoProgram" "place" (mVar 0)))) (mOp opEq (mFldX "NoProgram" "place" (mVar 0)) (mVar 1)))))))))
theorem mx__law_is_no_program : ∃ m : MDef, m = mBody 2 mb__law_is_no_program := ⟨_, rfl⟩
noncomputable def m__law_is_no_program : MDef := mx__law_is_no_program.choose
theorem mq__law_is_no_program : m__law_is_no_program = mBody 2 mb__law_is_no_program := mx__law_is_no_program.choose_spec
theorem e_m__law_is_no_program {a0 a1 : D} {h : MH} {X : MX} {Q : MK} : m__law_is_no_program [a0, a1] h X Q = (mSeq (mIfS (mOr (mNot (mB (mIsX "NoProgram" (mVar 0)))) (mNot (mB (mIsX "ValueError" (mVar 0))))) (mRet (mC (.bl false))) mNext)
  (mSeq (mIfS (mOr (mB (mIsX "NoText" (mVar 0))) (mOr (mB (mIsX "Fault" (mVar 0))) (mB (mIsX "NoBound" (mVar 0))))) (mRet (mC (.bl false))) mNext)
  (mSeq (mIfS (mOr (mB (mIsX "NoImage" (mVar 0))) (mB (mIsX "NoShelf" (mVar 0)))) (mRet (mC (.bl false))) mNext)
  (mSeq (mIfS (mB (mOp opIs (mVar 1) (mC .non))) (mRet (mOp opIs (mFldX "NoProgram" "place" (mVar 0)) (mC .non))) mNext)
  (mRet (mAndV (mIsK .int (mFldX "NoProgram" "place" (mVar 0))) (mAndV (mNotV (mIsK .bool (mFldX "NoProgram" "place" (mVar 0)))) (mOp opEq (mFldX "NoProgram" "place" (mVar 0)) (mVar 1))))))))) ⟨fun _ h1 => Q .non h1, Q, fun _ _ => False, fun _ _ => False, fun _ => X⟩ [some a0, some a1] h := by rw [mq__law_is_no_program]; rfl
def mb__law_mix : MS :=
  (mRet (mOp opMod (mOp opDiv (mOp opMod (mOp opAdd (mOp opMul (mOp opMod (mVar 0) (mC (.int 1000003))) (mVar 1)) (mVar 1)) (mC (.int 2147483647))) (mC (.int 1024))) (mVar 2)))
theorem mx__law_mix : ∃ m : MDef, m = mBody 3 mb__law_mix := ⟨_, rfl⟩
noncomputable def m__law_mix : MDef := mx__law_mix.choose
theorem mq__law_mix : m__law_mix = mBody 3 mb__law_mix := mx__law_mix.choose_spec
theorem e_m__law_mix {a0 a1 a2 : D} {h : MH} {X : MX} {Q : MK} : m__law_mix [a0, a1, a2] h X Q = (mRet (mOp opMod (mOp opDiv (mOp opMod (mOp opAdd (mOp opMul (mOp opMod (mVar 0) (mC (.int 1000003))) (mVar 1)) (mVar 1)) (mC (.int 2147483647))) (mC (.int 1024))) (mVar 2))) ⟨fun _ h1 => Q .non h1, Q, fun _ _ => False, fun _ _ => False, fun _ => X⟩ [some a0, some a1, some a2] h := by rw [mq__law_mix]; rfl
def mb__law_row : MS :=
  (mSeq (mSet 1 (mFn 3 m__law_mix (mCons (mVar 0) (mCons (mC (.int 48271)) (mCons (mC (.int 4)) mNil)))))
  (mSeq (mSet 2 (mFn 3 m__law_mix (mCons (mVar 0) (mCons (mC (.int 69623)) (mCons (mC (.int 4)) mNil)))))
  (mSeq (mSet 3 (mFn 3 m__law_mix (mCons (mVar 0) (mCons (mC (.int 40709)) (mCons (mC (.int 61)) mNil)))))
  (mSeq (mSet 4 (mLst (mCons (mTup (mCons (mC (.str (Str.ofString "set"))) (mCons (mVar 1) (mCons (mOp opMod (mVar 0) (mC (.int 281474976710656))) mNil)))) (mCons (mTup (mCons (mC (.str (Str.ofString "add"))) (mCons (mVar 1) (mCons (mVar 2) mNil)))) (mCons (mTup (mCons (mC (.str (Str.ofString "load"))) (mCons (mVar 1) (mCons (mVar 2) mNil)))) (mCons (mTup (mCons (mC (.str (Str.ofString "save"))) (mCons (mVar 1) (mCons (mVar 2) mNil)))) (mCons (mTup (mCons (mC (.str (Str.ofString "nought"))) (mCons (mVar 1) (mCons (mVar 3) mNil)))) (mCons (mTup (mCons (mC (.str (Str.ofString "want"))) (mCons (mVar 1) mNil))) mNil))))))))
  (mSeq (mSet 4 (mOp opAdd (mVar 4) (mLst (mCons (mTup (mCons (mC (.str (Str.ofString "jump"))) (mCons (mVar 3) mNil))) (mCons (mTup (mCons (mC (.str (Str.ofString "halt"))) mNil)) (mCons (mTup (mCons (mC (.str (Str.ofString "why"))) (mCons (mVar 1) (mCons (mVar 2) mNil)))) (mCons (mTup (mCons (mC (.str (Str.ofString "user"))) (mCons (mVar 3) mNil))) (mCons (mTup (mCons (mC (.str (Str.ofString "call"))) mNil)) mNil))))))))
  (mRet (mOp opIx (mVar 4) (mFn 3 m__law_mix (mCons (mVar 0) (mCons (mC (.int 39119)) (mCons (mC (.int 11)) mNil)))))))))))
theorem mx__law_row : ∃ m : MDef, m = mBody 5 mb__law_row := ⟨_, rfl⟩
noncomputable def m__law_row : MDef := mx__law_row.choose
theorem mq__law_row : m__law_row = mBody 5 mb__law_row := mx__law_row.choose_spec
theorem e_m__law_row {a0 : D} {h : MH} {X : MX} {Q : MK} : m__law_row [a0] h X Q = (mSeq (mSet 1 (mFn 3 m__law_mix (mCons (mVar 0) (mCons (mC (.int 48271)) (mCons (mC (.int 4)) mNil)))))
  (mSeq (mSet 2 (mFn 3 m__law_mix (mCons (mVar 0) (mCons (mC (.int 69623)) (mCons (mC (.int 4)) mNil)))))
  (mSeq (mSet 3 (mFn 3 m__law_mix (mCons (mVar 0) (mCons (mC (.int 40709)) (mCons (mC (.int 61)) mNil)))))
  (mSeq (mSet 4 (mLst (mCons (mTup (mCons (mC (.str (Str.ofString "set"))) (mCons (mVar 1) (mCons (mOp opMod (mVar 0) (mC (.int 281474976710656))) mNil)))) (mCons (mTup (mCons (mC (.str (Str.ofString "add"))) (mCons (mVar 1) (mCons (mVar 2) mNil)))) (mCons (mTup (mCons (mC (.str (Str.ofString "load"))) (mCons (mVar 1) (mCons (mVar 2) mNil)))) (mCons (mTup (mCons (mC (.str (Str.ofString "save"))) (mCons (mVar 1) (mCons (mVar 2) mNil)))) (mCons (mTup (mCons (mC (.str (Str.ofString "nought"))) (mCons (mVar 1) (mCons (mVar 3) mNil)))) (mCons (mTup (mCons (mC (.str (Str.ofString "want"))) (mCons (mVar 1) mNil))) mNil))))))))
  (mSeq (mSet 4 (mOp opAdd (mVar 4) (mLst (mCons (mTup (mCons (mC (.str (Str.ofString "jump"))) (mCons (mVar 3) mNil))) (mCons (mTup (mCons (mC (.str (Str.ofString "halt"))) mNil)) (mCons (mTup (mCons (mC (.str (Str.ofString "why"))) (mCons (mVar 1) (mCons (mVar 2) mNil)))) (mCons (mTup (mCons (mC (.str (Str.ofString "user"))) (mCons (mVar 3) mNil))) (mCons (mTup (mCons (mC (.str (Str.ofString "call"))) mNil)) mNil))))))))
  (mRet (mOp opIx (mVar 4) (mFn 3 m__law_mix (mCons (mVar 0) (mCons (mC (.int 39119)) (mCons (mC (.int 11)) mNil))))))))))) ⟨fun _ h1 => Q .non h1, Q, fun _ _ => False, fun _ _ => False, fun _ => X⟩ [some a0, none, none, none, none] h := by rw [mq__law_row]; rfl
def mb__law_spoil : MS :=
  (mSeq (mSet 2 (mFn 2 m__law_cell_at (mCons (mVar 1) (mCons (mC (.int 0)) mNil))))
  (mSeq (mSet 3 (mFn 3 m__law_mix (mCons (mVar 2) (mCons (mC (.int 27437)) (mCons (mCB cLen (mCons (mVar 0) mNil)) mNil)))))
  (mSeq (mSet 4 (mLst (mCons (mTup (mCons (mC (.str (Str.ofString "set"))) (mCons (mC (.int 4)) (mCons (mC (.int 0)) mNil)))) (mCons (mTup (mCons (mC (.str (Str.ofString "set"))) (mCons (mC (.int 0)) (mCons (mC (.int 281474976710656)) mNil)))) (mCons (mTup (mCons (mC (.str (Str.ofString "jump"))) (mCons (mC (.int 61)) mNil))) (mCons (mTup (mCons (mC (.str (Str.ofString "jump"))) (mCons (mUn opNeg (mC (.int 1))) mNil))) (mCons (mTup (mCons (mC (.str (Str.ofString "halt"))) (mCons (mC (.int 0)) mNil))) (mCons (mLst (mCons (mC (.str (Str.ofString "halt"))) mNil)) (mCons (mTup (mCons (mC (.str (Str.ofString "stop"))) mNil)) (mCons (mTup mNil) (mCons (mC .non) mNil)))))))))))
  (mSeq (mSet 4 (mOp opAdd (mVar 4) (mLst (mCons (mTup (mCons (mC (.str (Str.ofString "tell"))) (mCons (mC (.bl true)) mNil))) (mCons (mTup (mCons (mC (.str (Str.ofString "nought"))) (mCons (mC (.int 0)) (mCons (mC .non) mNil)))) (mCons (mTup (mCons (mC (.str (Str.ofString "add"))) (mCons (mC (.int 0)) mNil))) (mCons (mC (.int 7)) mNil)))))))
  (mSeq (mSetIx (mVar 0) (mVar 3) (mOp opIx (mVar 4) (mFn 3 m__law_mix (mCons (mVar 2) (mCons (mC (.int 18149)) (mCons (mC (.int 13)) mNil))))))
  (mSeq (mSet 5 (mOp opAdd (mVar 3) (mFn 3 m__law_mix (mCons (mFn 2 m__law_cell_at (mCons (mVar 1) (mCons (mC (.int 1)) mNil))) (mCons (mC (.int 13499)) (mCons (mOp opSub (mCB cLen (mCons (mVar 0) mNil)) (mVar 3)) mNil))))))
  (mSeq (mIfS (mB (mOp opGt (mVar 5) (mVar 3))) (mSetIx (mVar 0) (mVar 5) (mOp opIx (mVar 4) (mFn 3 m__law_mix (mCons (mVar 2) (mCons (mC (.int 11717)) (mCons (mC (.int 13)) mNil)))))) mNext)
  (mRet (mVar 3)))))))))
theorem mx__law_spoil : ∃ m : MDef, m = mBody 6 mb__law_spoil := ⟨_, rfl⟩
noncomputable def m__law_spoil : MDef := mx__law_spoil.choose
theorem mq__law_spoil : m__law_spoil = mBody 6 mb__law_spoil := mx__law_spoil.choose_spec
theorem e_m__law_spoil {a0 a1 : D} {h : MH} {X : MX} {Q : MK} : m__law_spoil [a0, a1] h X Q = (mSeq (mSet 2 (mFn 2 m__law_cell_at (mCons (mVar 1) (mCons (mC (.int 0)) mNil))))
  (mSeq (mSet 3 (mFn 3 m__law_mix (mCons (mVar 2) (mCons (mC (.int 27437)) (mCons (mCB cLen (mCons (mVar 0) mNil)) mNil)))))
  (mSeq (mSet 4 (mLst (mCons (mTup (mCons (mC (.str (Str.ofString "set"))) (mCons (mC (.int 4)) (mCons (mC (.int 0)) mNil)))) (mCons (mTup (mCons (mC (.str (Str.ofString "set"))) (mCons (mC (.int 0)) (mCons (mC (.int 281474976710656)) mNil)))) (mCons (mTup (mCons (mC (.str (Str.ofString "jump"))) (mCons (mC (.int 61)) mNil))) (mCons (mTup (mCons (mC (.str (Str.ofString "jump"))) (mCons (mUn opNeg (mC (.int 1))) mNil))) (mCons (mTup (mCons (mC (.str (Str.ofString "halt"))) (mCons (mC (.int 0)) mNil))) (mCons (mLst (mCons (mC (.str (Str.ofString "halt"))) mNil)) (mCons (mTup (mCons (mC (.str (Str.ofString "stop"))) mNil)) (mCons (mTup mNil) (mCons (mC .non) mNil)))))))))))
  (mSeq (mSet 4 (mOp opAdd (mVar 4) (mLst (mCons (mTup (mCons (mC (.str (Str.ofString "tell"))) (mCons (mC (.bl true)) mNil))) (mCons (mTup (mCons (mC (.str (Str.ofString "nought"))) (mCons (mC (.int 0)) (mCons (mC .non) mNil)))) (mCons (mTup (mCons (mC (.str (Str.ofString "add"))) (mCons (mC (.int 0)) mNil))) (mCons (mC (.int 7)) mNil)))))))
  (mSeq (mSetIx (mVar 0) (mVar 3) (mOp opIx (mVar 4) (mFn 3 m__law_mix (mCons (mVar 2) (mCons (mC (.int 18149)) (mCons (mC (.int 13)) mNil))))))
  (mSeq (mSet 5 (mOp opAdd (mVar 3) (mFn 3 m__law_mix (mCons (mFn 2 m__law_cell_at (mCons (mVar 1) (mCons (mC (.int 1)) mNil))) (mCons (mC (.int 13499)) (mCons (mOp opSub (mCB cLen (mCons (mVar 0) mNil)) (mVar 3)) mNil))))))
  (mSeq (mIfS (mB (mOp opGt (mVar 5) (mVar 3))) (mSetIx (mVar 0) (mVar 5) (mOp opIx (mVar 4) (mFn 3 m__law_mix (mCons (mVar 2) (mCons (mC (.int 11717)) (mCons (mC (.int 13)) mNil)))))) mNext)
  (mRet (mVar 3))))))))) ⟨fun _ h1 => Q .non h1, Q, fun _ _ => False, fun _ _ => False, fun _ => X⟩ [some a0, some a1, none, none, none, none] h := by rw [mq__law_spoil]; rfl
def mb__law_refused : MS :=
  (mSeq (mSet 5 (mC .non))
  (mSeq (mTryK (catch_ "HouseError") 6 5 (mIfS (mB (mOp opEq (mVar 0) (mC (.int 0)))) (mDrop (mFn 2 m_checked (mCons (mVar 3) (mCons (mVar 4) mNil)))) (mIfS (mB (mOp opEq (mVar 0) (mC (.int 1)))) (mDrop (mNewD "Machine" 6 m_Machine___init__ [.non, .non] (mCons (mNew "Plain" 4 m_Plain___init__ (mCons (mVar 1) (mCons (mVar 2) (mCons (mLst mNil) mNil)))) (mCons (mVar 3) (mCons (mVar 4) mNil))))) (mDrop (mFn 5 m_bare (mCons (mVar 1) (mCons (mVar 2) (mCons (mVar 3) (mCons (mVar 4) (mCons (mLst mNil) mNil))))))))))
  (mRet (mVar 5))))
theorem mx__law_refused : ∃ m : MDef, m = mBody 7 mb__law_refused := ⟨_, rfl⟩
noncomputable def m__law_refused : MDef := mx__law_refused.choose
theorem mq__law_refused : m__law_refused = mBody 7 mb__law_refused := mx__law_refused.choose_spec
theorem e_m__law_refused {a0 a1 a2 a3 a4 : D} {h : MH} {X : MX} {Q : MK} : m__law_refused [a0, a1, a2, a3, a4] h X Q = (mSeq (mSet 5 (mC .non))
  (mSeq (mTryK (catch_ "HouseError") 6 5 (mIfS (mB (mOp opEq (mVar 0) (mC (.int 0)))) (mDrop (mFn 2 m_checked (mCons (mVar 3) (mCons (mVar 4) mNil)))) (mIfS (mB (mOp opEq (mVar 0) (mC (.int 1)))) (mDrop (mNewD "Machine" 6 m_Machine___init__ [.non, .non] (mCons (mNew "Plain" 4 m_Plain___init__ (mCons (mVar 1) (mCons (mVar 2) (mCons (mLst mNil) mNil)))) (mCons (mVar 3) (mCons (mVar 4) mNil))))) (mDrop (mFn 5 m_bare (mCons (mVar 1) (mCons (mVar 2) (mCons (mVar 3) (mCons (mVar 4) (mCons (mLst mNil) mNil))))))))))
  (mRet (mVar 5)))) ⟨fun _ h1 => Q .non h1, Q, fun _ _ => False, fun _ _ => False, fun _ => X⟩ [some a0, some a1, some a2, some a3, some a4, none, none] h := by rw [mq__law_refused]; rfl
def ml_law_1 : MS :=
  (mIfS (mNot (mB (mFn 2 m__law_is_no_program (mCons (mFn 5 m__law_refused (mCons (mVar 11) (mCons (mVar 7) (mCons (mC (.int 1)) (mCons (mVar 5) (mCons (mVar 2) mNil)))))) (mCons (mVar 4) mNil))))) (mRet (mC (.bl false))) mNext)
theorem e_ml_law_1 {nx : MSt → MH → Prop} {rt : MK} {bk ct : MSt → MH → Prop} {ex : MSt → MX} {s : MSt} {h : MH} : ml_law_1 ⟨nx, rt, bk, ct, ex⟩ s h = (mIfS (mNot (mB (mFn 2 m__law_is_no_program (mCons (mFn 5 m__law_refused (mCons (mVar 11) (mCons (mVar 7) (mCons (mC (.int 1)) (mCons (mVar 5) (mCons (mVar 2) mNil)))))) (mCons (mVar 4) mNil))))) (mRet (mC (.bl false))) mNext) ⟨nx, rt, bk, ct, ex⟩ s h := rfl
def mt_law_11 : MS :=
  (mSeq (mFor (miR1 (mC (.int 3))) (.nm 11)
  ml_law_1)
  (mSeq (mIfS (mNot (mB (mIsX "NoImage" (mFn 5 m__law_refused (mCons (mC (.int 2)) (mCons (mLst mNil) (mCons (mC (.int 0)) (mCons (mVar 5) (mCons (mVar 2) mNil))))))))) (mRet (mC (.bl false))) mNext)
  (mRet (mIsX "NoShelf" (mFn 5 m__law_refused (mCons (mC (.int 2)) (mCons (mVar 7) (mCons (mC (.int 0)) (mCons (mVar 5) (mCons (mVar 2) mNil))))))))))
theorem o_mt_law_11 {nx : MSt → MH → Prop} {rt : MK} {bk ct : MSt → MH → Prop} {ex : MSt → MX} {s : MSt} {h : MH} : mt_law_11 ⟨nx, rt, bk, ct, ex⟩ s h = (mSeq (mFor (miR1 (mC (.int 3))) (.nm 11)
  ml_law_1)
  (mSeq (mIfS (mNot (mB (mIsX "NoImage" (mFn 5 m__law_refused (mCons (mC (.int 2)) (mCons (mLst mNil) (mCons (mC (.int 0)) (mCons (mVar 5) (mCons (mVar 2) mNil))))))))) (mRet (mC (.bl false))) mNext)
  (mRet (mIsX "NoShelf" (mFn 5 m__law_refused (mCons (mC (.int 2)) (mCons (mVar 7) (mCons (mC (.int 0)) (mCons (mVar 5) (mCons (mVar 2) mNil)))))))))) ⟨nx, rt, bk, ct, ex⟩ s h := rfl
def mt_law_9 : MS :=
  (mSeq (mSet 7 (mLst (mCons (mOp opMul (mLst (mCons (mC (.int 0)) mNil)) (mC (.int 8))) mNil)))
  (mSeq (mIfS (mB (mOp opLt (mVar 3) (mC (.int 2)))) (mSeq (mSet 8 (mNewD "Machine" 6 m_Machine___init__ [.non, .non] (mCons (mNew "Plain" 4 m_Plain___init__ (mCons (mVar 7) (mCons (mC (.int 1)) (mCons (mLst mNil) mNil)))) (mCons (mVar 5) (mCons (mVar 2) mNil)))))
  (mSeq (mSet 9 (mCB cList (mCons (mVar 5) mNil)))
  (mSeq (mSet 10 (mMt "Machine" 1 m_Machine_program (mVar 8) mNil))
  (mSeq (mIfS (mOr (mB (mOp opIsNot (mFn 2 m_checked (mCons (mVar 5) (mCons (mVar 2) mNil))) (mC .non))) (mOr (mB (mOp opNe (mVar 10) (mVar 9))) (mOr (mB (mOp opNe (mMt "Machine" 1 m_Machine_entry (mVar 8) mNil) (mVar 2))) (mB (mOp opNe (mVar 5) (mVar 9)))))) (mRet (mC (.bl false))) mNext)
  (mSeq (mDrop (mLM lAppend (mVar 10) (mCons (mTup (mCons (mC (.str (Str.ofString "halt"))) mNil)) mNil)))
  (mSeq (mDrop (mLM lAppend (mVar 5) (mCons (mTup (mCons (mC (.str (Str.ofString "halt"))) mNil)) mNil)))
  (mRet (mAndV (mOp opEq (mMt "Machine" 1 m_Machine_program (mVar 8) mNil) (mVar 9)) (mIsK .int (mMt "Machine" 1 m_Machine_entry (mVar 8) mNil)))))))))) mNext)
  mt_law_11))
theorem o_mt_law_9 {nx : MSt → MH → Prop} {rt : MK} {bk ct : MSt → MH → Prop} {ex : MSt → MX} {s : MSt} {h : MH} : mt_law_9 ⟨nx, rt, bk, ct, ex⟩ s h = (mSeq (mSet 7 (mLst (mCons (mOp opMul (mLst (mCons (mC (.int 0)) mNil)) (mC (.int 8))) mNil)))
  (mSeq (mIfS (mB (mOp opLt (mVar 3) (mC (.int 2)))) (mSeq (mSet 8 (mNewD "Machine" 6 m_Machine___init__ [.non, .non] (mCons (mNew "Plain" 4 m_Plain___init__ (mCons (mVar 7) (mCons (mC (.int 1)) (mCons (mLst mNil) mNil)))) (mCons (mVar 5) (mCons (mVar 2) mNil)))))
  (mSeq (mSet 9 (mCB cList (mCons (mVar 5) mNil)))
  (mSeq (mSet 10 (mMt "Machine" 1 m_Machine_program (mVar 8) mNil))
  (mSeq (mIfS (mOr (mB (mOp opIsNot (mFn 2 m_checked (mCons (mVar 5) (mCons (mVar 2) mNil))) (mC .non))) (mOr (mB (mOp opNe (mVar 10) (mVar 9))) (mOr (mB (mOp opNe (mMt "Machine" 1 m_Machine_entry (mVar 8) mNil) (mVar 2))) (mB (mOp opNe (mVar 5) (mVar 9)))))) (mRet (mC (.bl false))) mNext)
  (mSeq (mDrop (mLM lAppend (mVar 10) (mCons (mTup (mCons (mC (.str (Str.ofString "halt"))) mNil)) mNil)))
  (mSeq (mDrop (mLM lAppend (mVar 5) (mCons (mTup (mCons (mC (.str (Str.ofString "halt"))) mNil)) mNil)))
  (mRet (mAndV (mOp opEq (mMt "Machine" 1 m_Machine_program (mVar 8) mNil) (mVar 9)) (mIsK .int (mMt "Machine" 1 m_Machine_entry (mVar 8) mNil)))))))))) mNext)
  mt_law_11)) ⟨nx, rt, bk, ct, ex⟩ s h := rfl
def mt_law_2 : MS :=
  (mSeq (mSet 2 (mOp opMod (mFn 2 m__law_cell_at (mCons (mVar 0) (mCons (mC (.int 2)) mNil))) (mC (.int 61))))
  (mSeq (mSet 3 (mFn 3 m__law_mix (mCons (mFn 2 m__law_cell_at (mCons (mVar 0) (mCons (mC (.int 2)) mNil))) (mCons (mC (.int 48271)) (mCons (mC (.int 5)) mNil)))))
  (mSeq (mSet 4 (mC .non))
  (mSeq (mSet 5 (mVar 1))
  (mSeq (mIfS (mB (mOp opEq (mVar 3) (mC (.int 2)))) (mSet 4 (mFn 2 m__law_spoil (mCons (mVar 1) (mCons (mVar 0) mNil)))) mNext)
  (mSeq (mIfS (mB (mOp opEq (mVar 3) (mC (.int 3)))) (mSeq (mSet 6 (mLst (mCons (mLst mNil) (mCons (mOp opAdd (mVar 1) (mOp opMul (mLst (mCons (mTup (mCons (mC (.str (Str.ofString "halt"))) mNil)) mNil)) (mOp opSub (mC (.int 61)) (mCB cLen (mCons (mVar 1) mNil))))) (mCons (mCB cTuple (mCons (mVar 1) mNil)) (mCons (mC .non) (mCons mDct (mCons (mC (.str (Str.ofString "halt"))) (mCons (mC (.int 1)) mNil)))))))))
  (mSet 5 (mOp opIx (mVar 6) (mFn 3 m__law_mix (mCons (mFn 2 m__law_cell_at (mCons (mVar 0) (mCons (mC (.int 0)) mNil))) (mCons (mC (.int 69623)) (mCons (mC (.int 7)) mNil))))))) mNext)
  (mSeq (mIfS (mB (mOp opEq (mVar 3) (mC (.int 4)))) (mSeq (mSet 6 (mLst (mCons (mUn opNeg (mC (.int 1))) (mCons (mC (.int 61)) (mCons (mC (.bl true)) (mCons (mC (.bl false)) (mCons (mC .non) (mCons (mC (.str (Str.ofString "0"))) (mCons (mLst (mCons (mC (.int 0)) mNil)) (mCons (mOp opAdd (mC (.int 61)) (mOp opMul (mVar 2) (mC (.int 100000000000000000000000000000000000000000000000000)))) mNil))))))))))
  (mSet 2 (mOp opIx (mVar 6) (mFn 3 m__law_mix (mCons (mFn 2 m__law_cell_at (mCons (mVar 0) (mCons (mC (.int 0)) mNil))) (mCons (mC (.int 40709)) (mCons (mC (.int 8)) mNil))))))) mNext)
  mt_law_9)))))))
theorem o_mt_law_2 {nx : MSt → MH → Prop} {rt : MK} {bk ct : MSt → MH → Prop} {ex : MSt → MX} {s : MSt} {h : MH} : mt_law_2 ⟨nx, rt, bk, ct, ex⟩ s h = (mSeq (mSet 2 (mOp opMod (mFn 2 m__law_cell_at (mCons (mVar 0) (mCons (mC (.int 2)) mNil))) (mC (.int 61))))
  (mSeq (mSet 3 (mFn 3 m__law_mix (mCons (mFn 2 m__law_cell_at (mCons (mVar 0) (mCons (mC (.int 2)) mNil))) (mCons (mC (.int 48271)) (mCons (mC (.int 5)) mNil)))))
  (mSeq (mSet 4 (mC .non))
  (mSeq (mSet 5 (mVar 1))
  (mSeq (mIfS (mB (mOp opEq (mVar 3) (mC (.int 2)))) (mSet 4 (mFn 2 m__law_spoil (mCons (mVar 1) (mCons (mVar 0) mNil)))) mNext)
  (mSeq (mIfS (mB (mOp opEq (mVar 3) (mC (.int 3)))) (mSeq (mSet 6 (mLst (mCons (mLst mNil) (mCons (mOp opAdd (mVar 1) (mOp opMul (mLst (mCons (mTup (mCons (mC (.str (Str.ofString "halt"))) mNil)) mNil)) (mOp opSub (mC (.int 61)) (mCB cLen (mCons (mVar 1) mNil))))) (mCons (mCB cTuple (mCons (mVar 1) mNil)) (mCons (mC .non) (mCons mDct (mCons (mC (.str (Str.ofString "halt"))) (mCons (mC (.int 1)) mNil)))))))))
  (mSet 5 (mOp opIx (mVar 6) (mFn 3 m__law_mix (mCons (mFn 2 m__law_cell_at (mCons (mVar 0) (mCons (mC (.int 0)) mNil))) (mCons (mC (.int 69623)) (mCons (mC (.int 7)) mNil))))))) mNext)
  (mSeq (mIfS (mB (mOp opEq (mVar 3) (mC (.int 4)))) (mSeq (mSet 6 (mLst (mCons (mUn opNeg (mC (.int 1))) (mCons (mC (.int 61)) (mCons (mC (.bl true)) (mCons (mC (.bl false)) (mCons (mC .non) (mCons (mC (.str (Str.ofString "0"))) (mCons (mLst (mCons (mC (.int 0)) mNil)) (mCons (mOp opAdd (mC (.int 61)) (mOp opMul (mVar 2) (mC (.int 100000000000000000000000000000000000000000000000000)))) mNil))))))))))
  (mSet 2 (mOp opIx (mVar 6) (mFn 3 m__law_mix (mCons (mFn 2 m__law_cell_at (mCons (mVar 0) (mCons (mC (.int 0)) mNil))) (mCons (mC (.int 40709)) (mCons (mC (.int 8)) mNil))))))) mNext)
  mt_law_9))))))) ⟨nx, rt, bk, ct, ex⟩ s h := rfl
def mb_law : MS :=
  (mSeq (mSet 1 (mLc (miL (mSl (mVar 0) (mPart (mC (.int 3))) (mPart (mC (.int 63))))) (.nm 12) mYes (mFn 1 m__law_row (mCons (mVar 12) mNil)) [12]))
  (mSeq (mIfS (mB (mOp opEq (mVar 1) (mLst mNil))) (mSet 1 (mLst (mCons (mTup (mCons (mC (.str (Str.ofString "halt"))) mNil)) mNil))) mNext)
  mt_law_2))
theorem mx_law : ∃ m : MDef, m = mBody 13 mb_law := ⟨_, rfl⟩
noncomputable def m_law : MDef := mx_law.choose
theorem mq_law : m_law = mBody 13 mb_law := mx_law.choose_spec
theorem e_m_law {a0 : D} {h : MH} {X : MX} {Q : MK} : m_law [a0] h X Q = (mSeq (mSet 1 (mLc (miL (mSl (mVar 0) (mPart (mC (.int 3))) (mPart (mC (.int 63))))) (.nm 12) mYes (mFn 1 m__law_row (mCons (mVar 12) mNil)) [12]))
  (mSeq (mIfS (mB (mOp opEq (mVar 1) (mLst mNil))) (mSet 1 (mLst (mCons (mTup (mCons (mC (.str (Str.ofString "halt"))) mNil)) mNil))) mNext)
  mt_law_2)) ⟨fun _ h1 => Q .non h1, Q, fun _ _ => False, fun _ _ => False, fun _ => X⟩ [some a0, none, none, none, none, none, none, none, none, none, none, none, none] h := by rw [mq_law]; rfl
local macro_rules | `(tactic| walk_at "go") => `(tactic| simp? only [↓MP.is_whole_eq, ↓MP.Ty.whole, ↓MP.e_m_Machine___init__, ↓MP.e_m_bare, ↓MP.e_m_Shelf___init__, ↓MP.e_m_Plain___init__, ↓MP.e_m_Plain_Ways___init__, ↓MP.e_m_Memory___init__, ↓e_m_Machine_entry, ↓e_m_Machine_program, ↓e_m__law_cell_at, ↓e_m__law_is_no_program, ↓e_m__law_mix, ↓e_m__law_row, ↓e_m__law_spoil, ↓e_m__law_refused, ↓e_m_law, ↓e_ml_law_1, Option.isSome_some, Option.isSome_none, ↓M.e_isx, ↓M.e_fldx, ↓M.e_tryk, ↓M.e_disp, ↓M.e_setdx, ↓M.setdm_i, ↓M.setdm_s, ↓M.e_dix_ri, ↓M.e_dix_rs, ↓M.e_din_ri, ↓M.e_din_rs, ↓M.e_dnin_ri, ↓M.e_dnin_rs, ↓M.zipT_cons, ↓M.zipT_nil, ↓M.kval_nil, ↓M.kval_cons, ↓M.kput_nil, ↓M.kput_cons, ↓M.kmap_nil, ↓M.kmap_cons, ↓M.dctO_dct, ↓M.i_miZS, ↓M.i_miES, ↓M.zsm_TS, ↓M.esm_S, ↓M.e_up, ↓M.upm_S, ↓M.e_split, ↓M.splm_S, ↓M.e_join, ↓M.joim_L, ↓M.joim_R, ↓M.joim_T, ↓M.joim_O, ↓M.strsD_map, ↓M.addT_TT, ↓M.o_ixS, ↓M.sl_S, ↓M.e_newD, ↓M.e_forR, ↓M.forRm_T, ↓M.gomR_cons, ↓M.e_isc, ↓M.e_dct, ↓M.hasS_nil, ↓M.hasS_cons, ↓M.cntFO, ↓M.cntFL, Sum.inl.injEq, Sum.inr.injEq])
local macro_rules | `(tactic| walk_at "en") => `(tactic| (unfold callm; walk_at "go"))
local macro_rules | `(tactic| walk_at "run") => `(tactic| repeat (first | walk_at "go" | walk_at "sp"))
local macro_rules | `(tactic| walk_at "rut") => `(tactic| repeat (first | walk_at "go" | walk_at "sp" | with_reducible refine M.mk_tree ?_))

local macro_rules | `(tactic| walk_at "as") => `(tactic| first | assumption | (simp only [M.put_ap, M.put_put', reduceIte, eq_self, Nat.reduceEqDiff, Nat.add_eq_left, Nat.add_left_cancel_iff, ite_true, ite_false]; assumption))
local macro_rules | `(tactic| walk_at "side") => `(tactic| first | assumption | omega | (simp; done) | decide | (simp; omega))
local macro_rules | `(tactic| walk_at "sp") => `(tactic| ((with_reducible refine M.optm_of (o := Pt.bind ?p ?d ?s) (a := ?v) ?e ?_); (case e => exact rfl)))
local macro_rules | `(tactic| walk_at "sp") => `(tactic| first | (with_reducible refine M.cndm_of (M.mulOk_of ?a ?b) ?_; (case a => omega); (case b => omega)) | (with_reducible refine M.cndm_of (M.mulOk_of2 ?a ?b) ?_; (case a => omega); (case b => omega)))
local macro_rules | `(tactic| walk_at "sp") => `(tactic| ((with_reducible refine M.eq_selfL' ?a ?_); (case a => first | rfl | (simp only [List.all_cons, List.all_nil, Bool.and_true, Bool.true_and, M.dat_non, M.dat_bl, M.dat_int, M.dat_str, M.dat_tup, M.dat_lst]; done) | (simp only [List.all_cons, List.all_nil, Bool.and_true, Bool.true_and, M.dat_non, M.dat_bl, M.dat_int, M.dat_str, M.dat_tup, M.dat_lst]; decide +kernel))))
local macro_rules | `(tactic| walk_at "sp") => `(tactic| ((with_reducible refine M.ne_selfL' ?a ?_); (case a => first | rfl | (simp only [List.all_cons, List.all_nil, Bool.and_true, Bool.true_and, M.dat_non, M.dat_bl, M.dat_int, M.dat_str, M.dat_tup, M.dat_lst]; done) | (simp only [List.all_cons, List.all_nil, Bool.and_true, Bool.true_and, M.dat_non, M.dat_bl, M.dat_int, M.dat_str, M.dat_tup, M.dat_lst]; decide +kernel))))
local macro_rules | `(tactic| walk_at "sp") => `(tactic| ((with_reducible refine M.eq_selfT' ?a ?_); (case a => first | rfl | (simp only [List.all_cons, List.all_nil, Bool.and_true, Bool.true_and, M.dat_non, M.dat_bl, M.dat_int, M.dat_str, M.dat_tup, M.dat_lst]; done) | (simp only [List.all_cons, List.all_nil, Bool.and_true, Bool.true_and, M.dat_non, M.dat_bl, M.dat_int, M.dat_str, M.dat_tup, M.dat_lst]; decide +kernel))))
local macro_rules | `(tactic| walk_at "sp") => `(tactic| ((with_reducible refine M.ne_selfT' ?a ?_); (case a => first | rfl | (simp only [List.all_cons, List.all_nil, Bool.and_true, Bool.true_and, M.dat_non, M.dat_bl, M.dat_int, M.dat_str, M.dat_tup, M.dat_lst]; done) | (simp only [List.all_cons, List.all_nil, Bool.and_true, Bool.true_and, M.dat_non, M.dat_bl, M.dat_int, M.dat_str, M.dat_tup, M.dat_lst]; decide +kernel))))
local macro_rules | `(tactic| walk_at "sp") => `(tactic| ((with_reducible refine M.eq_nilL' ?a ?_); (case a => first | rfl | (simp only [List.all_cons, List.all_nil, Bool.and_true, Bool.true_and, M.dat_non, M.dat_bl, M.dat_int, M.dat_str, M.dat_tup, M.dat_lst]; done) | (simp only [List.all_cons, List.all_nil, Bool.and_true, Bool.true_and, M.dat_non, M.dat_bl, M.dat_int, M.dat_str, M.dat_tup, M.dat_lst]; decide +kernel))))
local macro_rules | `(tactic| walk_at "sp") => `(tactic| ((with_reducible refine M.ne_nilL' ?a ?_); (case a => first | rfl | (simp only [List.all_cons, List.all_nil, Bool.and_true, Bool.true_and, M.dat_non, M.dat_bl, M.dat_int, M.dat_str, M.dat_tup, M.dat_lst]; done) | (simp only [List.all_cons, List.all_nil, Bool.and_true, Bool.true_and, M.dat_non, M.dat_bl, M.dat_int, M.dat_str, M.dat_tup, M.dat_lst]; decide +kernel))))
local macro_rules | `(tactic| walk_at "sp") => `(tactic| first | (with_reducible refine M.cndm_of ?a ?_; (case a => walk_at "side")) | (with_reducible refine M.mite_dt ?a ?_; (case a => omega)) | (with_reducible refine M.mite_df ?a ?_; (case a => omega)) | (with_reducible refine M.mite_nt ?a ?_; (case a => omega)) | (with_reducible refine M.mite_nf ?a ?_; (case a => omega)))
local macro_rules | `(tactic| walk_at "ms") => `(tactic| simp_all? only [↓MP.is_whole_eq, ↓MP.Ty.whole, ↓MP.e_m_Machine___init__, ↓MP.e_m_bare, ↓MP.e_m_Shelf___init__, ↓MP.e_m_Plain___init__, ↓MP.e_m_Plain_Ways___init__, ↓MP.e_m_Memory___init__, ↓e_m_Machine_entry, ↓e_m_Machine_program, ↓e_m__law_cell_at, ↓e_m__law_is_no_program, ↓e_m__law_mix, ↓e_m__law_row, ↓e_m__law_spoil, ↓e_m__law_refused, ↓e_m_law, ↓e_ml_law_1, Option.isSome_some, Option.isSome_none])
local macro_rules | `(tactic| walk_at "mo") => `(tactic| (unfold callm; walk_at "ms"))
local macro_rules | `(tactic| walk_at "hp") => `(tactic| simp only [MH.at, MH.put, MH.new, MH.upd, reduceIte, Nat.reduceEqDiff])
section
variable {h : MH} {X : KX} {K : K2} {x y v : D}
theorem cell_ok {ns : List Int} {k : Int} (hk : 0 ≤ k) (q : ∀ c, K.k (.int c) h) : @callm m__law_cell_at [.rol (ns.map .int), .int k] h X K := by
  walk_at "en"
  refine mite_d (fun h1 => ?_) (fun h1 => ?_)
  · walk_at "go"
    rw [atI_nn hk, List.getElem?_map, List.getElem?_eq_getElem (by omega)]
    walk_at "go"
    exact q _
  · walk_at "go"
    exact q _
local macro_rules | `(tactic| walk_at "sp") => `(tactic| (with_reducible refine cell_ok ?a fun c => ?_; (case a => omega)))
theorem mix_ok {c b n : Int} (hb : 0 ≤ b ∧ b ≤ 1000000) (hn : 0 < n) (q : ∀ r, 0 ≤ r → r < n → K.k (.int r) h) : @callm m__law_mix [.int c, .int b, .int n] h X K := by
  walk_at "en"
  walk_at "run"
  exact q _ (Int.emod_nonneg _ (by omega)) (Int.emod_lt_of_pos _ hn)
def psZ : Pg := [some [0, 0, 0, 0, 0, 0, 0, 0]]
def zW : D := .lst [.int 0, .int 0, .int 0, .int 0, .int 0, .int 0, .int 0, .int 0]
theorem psZ_ok : PgOk psZ := ⟨by decide, by decide, fun i ws e => by
  cases i with
  | zero => cases e; exact ⟨rfl, by decide⟩
  | succ i => cases e⟩
theorem psZ_v {q : Nat} {h : MH} : PgsV q h (.lst [zW]) psZ := by
  refine ⟨[zW], fun _ => rfl, rfl, fun i ws e => ?_, fun i e => ?_⟩
  · cases i with
    | zero => cases e; exact ⟨zW, rfl, rfl, fun _ => rfl⟩
    | succ i => cases e
  · cases i with
    | zero => cases e
    | succ i => cases e
theorem row_ok {c : Int} (q : ∀ (r : RW) (x y : Int), okR r x y → K.k (rowT r x y) h) : @callm m__law_row [.int c] h X K := by
  walk_at "en"
  walk_at "run"
  refine mix_ok (by omega) (by omega) fun xa a0 a9 => ?_
  walk_at "run"
  refine mix_ok (by omega) (by omega) fun xb b0 b9 => ?_
  walk_at "run"
  refine mix_ok (by omega) (by omega) fun xt t0 t9 => ?_
  have ia : inR xa := ⟨a0, a9⟩
  have ib : inR xb := ⟨b0, b9⟩
  have it : inA xt := ⟨t0, by omega⟩
  walk_at "run"
  refine mk_tree ?_
  walk_at "run"
  refine mk_tree ?_
  walk_at "run"
  refine mk_tree ?_
  walk_at "run"
  refine mix_ok (by omega) (by omega) fun x6 w0 w9 => ?_
  walk_at "run"
  have : x6 = 0 ∨ x6 = 1 ∨ x6 = 2 ∨ x6 = 3 ∨ x6 = 4 ∨ x6 = 5 ∨ x6 = 6 ∨ x6 = 7 ∨ x6 = 8 ∨ x6 = 9 ∨ x6 = 10 := by omega
  rcases this with rfl | rfl | rfl | rfl | rfl | rfl | rfl | rfl | rfl | rfl | rfl <;> walk_at "run"
  · exact q .set xa _ ⟨ia, by unfold inW; omega⟩
  · exact q .add xa xb ⟨ia, ib⟩
  · exact q .load xa xb ⟨ia, ib⟩
  · exact q .save xa xb ⟨ia, ib⟩
  · exact q .nought xa xt ⟨ia, it⟩
  · exact q .want xa 0 ia
  · exact q .jump xt 0 it
  · exact q .halt 0 0 trivial
  · exact q .why xa xb ⟨ia, ib⟩
  · exact q .user xt 0 it
  · exact q .call 0 0 trivial
/-- the kept refusal is told as it should be -/
theorem noprog_ok {r i : Nat} {due : D} (e : (h r)[i]? = some (.exn "NoProgram" [("place", due)])) (hd : due = .non ∨ ∃ n : Int, due = .int n) (q : K.k (.bl true) h) : @callm m__law_is_no_program [.ref r i, due] h X K := by
  walk_at "en"
  iterate 7 (refine isx_of e ?_; walk_at "run")
  rcases hd with rfl | ⟨n, rfl⟩
  · walk_at "run"
    refine fldx_of e rfl ?_
    walk_at "run"
    exact q
  · walk_at "run"
    iterate 3 (refine fldx_of e rfl ?_; walk_at "run")
    exact q
/-- what checked refuses, as long as the regions 5 and 6 stay -/
def BadIn (R5 R6 : List O) (x y due : D) : Prop := ∀ (h : MH), h 5 = R5 → h 6 = R6 → ∀ (X : KX) (K : K2), X.x "NoProgram" [("place", due)] h → @callm m_checked [x, y] h X K
theorem ref_0 {due p m : D} (B : BadIn (h 5) (h 6) x y due) (k : ∀ h' n, (∀ j, j ≠ 20 → h' j = h j) → (h' 20)[n]? = some (.exn "NoProgram" [("place", due)]) → K.k (.ref 20 n) h') : @callm m__law_refused [.int 0, p, m, x, y] h X K := by
  walk_at "en"
  walk_at "run"
  refine B h rfl rfl _ _ ?_
  refine trk_of 20 rfl (by simp) ?_
  walk_at "run"
  exact k _ _ (fun j hj => MH.put_ne hj) (by rw [MH.put_same]; simp)
theorem mach_bad {w q : Nat} {due : D} (B : BadIn (h 5) (h 6) x y due) (hq : q ≠ 5 ∧ q ≠ 6) (f : ∀ h', (∀ j, j ≠ q → h' j = h j) → X.x "NoProgram" [("place", due)] h') : @newm "Machine" m_Machine___init__ [.ref w 0, x, y, .non, .non] h X K := by
  refine newm_of q ?_
  rw [new_def]
  show @callm m_Machine___init__ [.ref q (h q).length, .ref w 0, x, y, .non, .non] (h.put q (h q ++ [.ins "Machine" []])) X ⟨fun d h2 => d = .non ∧ K.k (.ref q (h q).length) h2⟩
  walk_at "en"
  refine B _ (MH.put_ne (Ne.symm hq.1)) (MH.put_ne (Ne.symm hq.2)) _ _ ?_
  exact f _ fun j hj => MH.put_ne hj
theorem ref_1 {due : D} (B : BadIn (h 5) (h 6) x y due) (e0 : h 0 = []) (e1 : h 1 = []) (e2 : h 2 = []) (k : ∀ h' n, (∀ j, j ≠ 0 → j ≠ 1 → j ≠ 2 → j ≠ 3 → j ≠ 20 → h' j = h j) → (h' 20)[n]? = some (.exn "NoProgram" [("place", due)]) → K.k (.ref 20 n) h') : @callm m__law_refused [.int 1, .lst [zW], .int 1, x, y] h X K := by
  walk_at "en"
  walk_at "run"
  refine mk_tree ?_
  walk_at "run"
  refine pl_newg (q := 0) psZ_ok e0 e1 e2 (fun R => psZ_v) (by decide) (ws := []) (fun _ _ => rfl) fun h1 P f1 => ?_
  walk_at "run"
  refine mach_bad (q := 3) (due := due) (by rw [f1 5 (by omega), f1 6 (by omega)]; exact B) (by decide) fun h2 f2 => ?_
  refine trk_of 20 rfl (by simp) ?_
  walk_at "run"
  exact k _ _ (fun j a b c d e => by rw [MH.put_ne e, f2 j d]; exact f1 j (by omega)) (by rw [MH.put_same]; simp)
theorem ref_2 {due : D} (B : BadIn (h 5) (h 6) x y due) (e0 : h 10 = []) (e1 : h 11 = []) (e2 : h 12 = []) (k : ∀ h' n, (∀ j, j ≠ 10 → j ≠ 11 → j ≠ 12 → j ≠ 13 → j ≠ 20 → h' j = h j) → (h' 20)[n]? = some (.exn "NoProgram" [("place", due)]) → K.k (.ref 20 n) h') : @callm m__law_refused [.int 2, .lst [zW], .int 1, x, y] h X K := by
  walk_at "en"
  walk_at "run"
  refine mk_tree ?_
  walk_at "run"
  refine (show m_bare [.lst [zW], .int 1, x, y, .lst []] h _ _ from ?_)
  walk_at "run"
  refine pl_newg (q := 10) psZ_ok e0 e1 e2 (fun R => psZ_v) (by decide) (ws := []) (fun _ _ => rfl) fun h1 P f1 => ?_
  walk_at "run"
  refine mach_bad (q := 13) (due := due) (by rw [f1 5 (by omega), f1 6 (by omega)]; exact B) (by decide) fun h2 f2 => ?_
  refine trk_of 20 rfl (by simp) ?_
  walk_at "run"
  exact k _ _ (fun j a b c d e => by rw [MH.put_ne e, f2 j d]; exact f1 j (by omega)) (by rw [MH.put_same]; simp)
def noR : D → Bool | .ref _ _ => false | .ty _ => false | .cls _ => false | _ => true
theorem noR_ty {R : MH} {d : D} (e : noR d = true) : tyOf R d ≠ none := by cases d <;> first | (cases e; done) | (intro z; cases z)
def okK : D → Bool | .tup k => k.all noR | d => noR d
theorem okK_know {R : MH} {d : D} (e : okK d = true) : KnowT R d := by
  cases d with
  | tup k => exact ⟨fun z => (by cases z), fun l q x hx => by cases q; exact noR_ty (List.all_eq_true.mp e x hx)⟩
  | _ => exact ⟨noR_ty (by exact e), fun l q => (by cases q)⟩
theorem rowT_okK {r : RW} {x y : Int} : okK (rowT r x y) = true := by cases r <;> rfl
theorem prog_okK {rows : List ROW} : ∀ d ∈ progD rows, okK d = true := fun d hd => by
  unfold progD at hd
  obtain ⟨p, _, rfl⟩ := List.mem_map.mp hd
  exact rowT_okK
def badL : List D := [.tup [.str (Str.ofString "set"), .int 4, .int 0], .tup [.str (Str.ofString "set"), .int 0, .int 281474976710656], .tup [.str (Str.ofString "jump"), .int 61], .tup [.str (Str.ofString "jump"), .int (-1)], .tup [.str (Str.ofString "halt"), .int 0], .lst [.str (Str.ofString "halt")], .tup [.str (Str.ofString "stop")], .tup [], .non, .tup [.str (Str.ofString "tell"), .bl true], .tup [.str (Str.ofString "nought"), .int 0, .non], .tup [.str (Str.ofString "add"), .int 0], .int 7]
theorem badL_no : ∀ d ∈ badL, orderD d = false := by decide +kernel
theorem badL_okK : ∀ d ∈ badL, okK d = true := by decide +kernel
theorem badL_at {w : Int} (h0 : 0 ≤ w) (h9 : w < 13) : ∃ b ∈ badL, atI badL w = some b := by
  have : badL[w.toNat]? = some (badL[w.toNat]'(by show _ < 13; omega)) := List.getElem?_eq_getElem _
  exact ⟨_, List.getElem_mem _, by rw [atI_nn h0]; exact this⟩
theorem spoil_ok {ns : List Int} {i : Nat} {L : List D} (F : At (h 5) i (.lst L)) (hl : 1 ≤ L.length ∧ L.length ≤ 60) (k : ∀ (a : Nat) (L' : List D), a < L.length → L'.length = L.length → (∃ d, L'[a]? = some d ∧ d ∈ badL) → (∀ j, j < a → L'[j]? = L[j]?) → (∀ d ∈ L', d ∈ L ∨ d ∈ badL) → K.k (.int (a : Nat)) (h.put 5 ((h 5).set i (.lst L')))) : @callm m__law_spoil [.ref 5 i, .rol (ns.map .int)] h X K := by
  walk_at "en"
  refine cell_ok (by omega) fun c => ?_
  walk_at "run"
  refine mix_ok (by omega) (by omega) fun a0 a1 a2 => ?_
  obtain ⟨a, rfl⟩ : ∃ a : Nat, a0 = (a : Int) := ⟨a0.toNat, by omega⟩
  walk_at "rut"
  refine mix_ok (by omega) (by omega) fun w w0 w9 => ?_
  obtain ⟨b, hb, eb⟩ := badL_at w0 w9
  unfold badL at eb
  walk_at "run"
  rw [eb]
  walk_at "run"
  rw [ixN_nat (by omega)]
  simp only [_root_.M.optm_some]
  have F1 : At ((h.put 5 ((h 5).set i (.lst (L.set a b)))) 5) i (.lst (L.set a b)) := ⟨by rw [MH.put_same]; exact set_at F.e⟩
  have f1 := k a (L.set a b) (by omega) (by simp) ⟨b, List.getElem?_set_self (by omega), hb⟩ (fun j hj => List.getElem?_set_ne (by omega)) fun d hd => by
    rcases List.mem_or_eq_of_mem_set hd with z | rfl
    · exact .inl z
    · exact .inr hb
  have f2 : ∀ (r : Nat) (b2 : D), a < r → r < L.length → b2 ∈ badL → K.k (.int (a : Nat)) (h.put 5 ((h 5).set i (.lst ((L.set a b).set r b2)))) := fun r b2 ha hr hb2 => k a _ (by omega) (by simp) ⟨b, by rw [List.getElem?_set_ne (by omega)]; exact List.getElem?_set_self (by omega), hb⟩ (fun j hj => by rw [List.getElem?_set_ne (by omega), List.getElem?_set_ne (by omega)]) fun d hd => by
    rcases List.mem_or_eq_of_mem_set hd with z | rfl
    · rcases List.mem_or_eq_of_mem_set z with z | rfl
      · exact .inl z
      · exact .inr hb
    · exact .inr hb2
  walk_at "run"
  refine mix_ok (by omega) (by omega) fun r0 r1 r2 => ?_
  walk_at "run"
  refine mite_d (fun c3 => ?_) (fun c3 => ?_)
  · walk_at "run"
    refine mix_ok (by omega) (by omega) fun w2 v0 v9 => ?_
    obtain ⟨b2, hb2, eb2⟩ := badL_at v0 v9
    unfold badL at eb2
    walk_at "run"
    rw [eb2]
    walk_at "run"
    have er : (a : Int) + r0 = ((a + r0.toNat : Nat) : Int) := by omega
    have f3 := f2 (a + r0.toNat) b2 (by omega) (by omega) hb2
    rw [er, ixN_nat (by omega)]
    simp only [_root_.M.optm_some]
    walk_at "run"
    rw [List.set_set]
    exact f3
  · walk_at "run"
    exact f1
theorem badin_at {R5 R6 : List O} {i a : Nat} {L : List D} {e : Int} (h5 : R5[i]? = some (.lst L)) (hl : 1 ≤ L.length ∧ L.length ≤ 60) (hk : ∀ d ∈ L, okK d = true) (hb : ∃ d, L[a]? = some d ∧ orderD d = false) (ho : ∀ j d, j < a → L[j]? = some d → orderD d = true) : BadIn R5 R6 (.ref 5 i) (.int e) (.int (a : Nat)) := by
  intro h e5 e6 X K f
  obtain ⟨b, hb, nb⟩ := hb
  have it : itemsL h (.ref 5 i) = some L := by rw [itemsL_ref, e5, h5]; rfl
  refine checked_ok (listD_ty it) (u := .int) rfl (fun l e d hd => by rw [it] at e; cases e; exact okK_know (hk d hd)) (fun l e _ _ all _ => ?_) (fun z => ?_) (fun l j d e _ _ hj nd pre => ?_)
  · rw [it] at e; cases e
    rw [all b (List.mem_of_getElem? hb)] at nb; cases nb
  · rw [(z L it hl.1 hl.2).2 b (List.mem_of_getElem? hb)] at nb; cases nb
  · rw [it] at e; cases e
    have : j = a := by
      rcases Nat.lt_trichotomy j a with z | z | z
      · rw [ho j d z hj] at nd; cases nd
      · exact z
      · rw [pre a b z hb] at nb; cases nb
    rw [this]; exact f
theorem badin_x {R5 R6 : List O} {t u : M.Ty} (ht : ∀ h : MH, h 5 = R5 → h 6 = R6 → tyOf h x = some t) (hu : ∀ h : MH, tyOf h y = some u) (hi : ∀ (h : MH) l, h 5 = R5 → h 6 = R6 → itemsL h x = some l → (l.length = 0 ∨ 60 < l.length) ∧ ∀ d ∈ l, okK d = true) : BadIn R5 R6 x y .non := by
  intro h e5 e6 X K f
  refine checked_ok (ht h e5 e6) (hu h) (fun l e d hd => okK_know ((hi h l e5 e6 e).2 d hd)) (fun l e h1 h2 _ _ => ?_) (fun _ => f) (fun l j d e h1 h2 _ _ _ => ?_)
  · have := (hi h l e5 e6 e).1; omega
  · have := (hi h l e5 e6 e).1; omega
theorem badin_y {R5 R6 : List O} {i : Nat} {rows : List ROW} {u : M.Ty} (h5 : R5[i]? = some (.lst (progD rows))) (ok : ∀ p ∈ rows, okR p.1 p.2.1 p.2.2) (hu : ∀ h : MH, tyOf h y = some u) (ha : atD y = false) : BadIn R5 R6 (.ref 5 i) y .non := by
  intro h e5 e6 X K f
  have it : itemsL h (.ref 5 i) = some (progD rows) := by rw [itemsL_ref, e5, h5]; rfl
  refine checked_ok (listD_ty it) (hu h) (fun l e d hd => by rw [it] at e; cases e; exact okK_know (prog_okK d hd)) (fun l e _ _ _ z => by rw [ha] at z; cases z) (fun _ => f) (fun l j d e _ _ hj nd _ => ?_)
  rw [it] at e; cases e
  have hd := List.mem_of_getElem? hj
  unfold progD at hd
  obtain ⟨p, hp, rfl⟩ := List.mem_map.mp hd
  rw [rowT_ok (ok p hp)] at nd; cases nd
theorem ref_img (k : ∀ h' n, (∀ j, j ≠ 30 → j ≠ 21 → h' j = h j) → (h' 21)[n]? = some (.exn "NoImage" []) → K.k (.ref 21 n) h') : @callm m__law_refused [.int 2, .lst [], .int 0, x, y] h X K := by
  walk_at "en"
  walk_at "run"
  refine mk_tree ?_
  walk_at "run"
  refine (show m_bare [.lst [], .int 0, x, y, .lst []] h _ _ from ?_)
  walk_at "run"
  refine newm_of 30 ?_
  rw [new_def]
  refine (show @callm m_Plain___init__ [.ref 30 (h 30).length, .lst [], .int 0, .lst []] (h.put 30 (h 30 ++ [.ins "Plain" []])) ⟨_⟩ ⟨_⟩ from ?_)
  walk_at "mo"
  refine newm_of 30 ?_
  rw [new_def, MH.put_put, MH.put_same]
  refine (show @callm m_Memory___init__ [.ref 30 (h 30 ++ [O.ins "Plain" []]).length, .lst []] (h.put 30 (h 30 ++ [O.ins "Plain" []] ++ [O.ins "Memory" []])) ⟨_⟩ ⟨_⟩ from ?_)
  walk_at "mo"
  refine MP.is_image_ok (t := .list) rfl (fun l e d hd => by cases e; cases hd) ?_
  rw [show imageD _ (.lst []) = false from rfl]
  walk_at "run"
  refine trk_of 21 rfl (by simp) ?_
  walk_at "run"
  exact k _ _ (fun j a b => by rw [MH.put_ne b, MH.put_ne a]) (by rw [MH.put_same]; simp)
theorem ref_shelf (e1 : h 41 = []) (k : ∀ h' n, (h' 22)[n]? = some (.exn "NoShelf" []) → K.k (.ref 22 n) h') : @callm m__law_refused [.int 2, .lst [zW], .int 0, x, y] h X K := by
  walk_at "en"
  walk_at "run"
  refine mk_tree ?_
  walk_at "run"
  refine (show m_bare [.lst [zW], .int 0, x, y, .lst []] h _ _ from ?_)
  walk_at "run"
  refine newm_of 40 ?_
  rw [new_def]
  refine (show @callm m_Plain___init__ [.ref 40 (h 40).length, .lst [zW], .int 0, .lst []] (h.put 40 (h 40 ++ [.ins "Plain" []])) ⟨_⟩ ⟨_⟩ from ?_)
  walk_at "mo"
  refine mem_new (q := 41) (ps := psZ) psZ_ok (by rw [MH.put_ne (by decide)]; exact e1) psZ_v fun R1 im => ?_
  have F0 : At (((h.put 40 (h 40 ++ [.ins "Plain" []])).put 41 R1) 40) (h 40).length (.ins "Plain" []) := ⟨by rw [MH.put_ne (by decide), MH.put_same]; simp⟩
  walk_at "run"
  generalize hH : (((h.put 40 (h 40 ++ [O.ins "Plain" []])).put 41 R1).put 40 ((h 40 ++ [O.ins "Plain" []]).set (h 40).length (O.ins "Plain" [("memory", D.ref 41 0)]))) = H
  clear hH F0 im
  walk_at "mo"
  refine newm_of 42 ?_
  rw [new_def]
  refine (show @callm m_Shelf___init__ [.ref 42 (H 42).length, .int 0] (H.put 42 (H 42 ++ [O.ins "Shelf" []])) ⟨_⟩ ⟨_⟩ from ?_)
  walk_at "mo"
  refine trk_of 22 rfl (by simp) ?_
  walk_at "run"
  exact k _ _ (by rw [MH.put_same]; simp)
theorem bad_tail {sc rw_ due : D} {way : Int} {u6 u7 u8 u9 u10 u11 u12 : Option D} (B : BadIn (h 5) (h 6) x y due) (hd : due = .non ∨ ∃ n : Int, due = .int n) (hw : 2 ≤ way) (em : ∀ j, j ≠ 5 → j ≠ 6 → h j = []) : mt_law_9 ⟨fun _ _ => D.non = .bl true, fun d _ => d = .bl true, fun _ _ => False, fun _ _ => False, fun _ => NX⟩ [some sc, some rw_, some y, some (.int way), some due, some x, u6, u7, u8, u9, u10, u11, u12] h := by
  rw [o_mt_law_9]
  walk_at "rut"
  rw [o_mt_law_11]
  walk_at "run"
  refine gomU (fun n s h' => h' 5 = h 5 ∧ h' 6 = h 6 ∧ (n ≤ 1 → h' 0 = [] ∧ h' 1 = [] ∧ h' 2 = []) ∧ (n ≤ 2 → h' 10 = [] ∧ h' 11 = [] ∧ h' 12 = []) ∧ (∀ j, 30 ≤ j → h' j = []) ∧ ∃ o, s = [some sc, some rw_, some y, some (.int way), some due, some x, u6, some (.lst [zW]), u8, u9, u10, o, u12]) (fun _ _ _ _ => trivial) (fun n s h' hn ⟨p5, p6, p0, p1, p3, o, e⟩ => ?_) (fun s h' ⟨p5, p6, p0, p1, p3, o, e⟩ => ?_) ⟨rfl, rfl, fun _ => ⟨em 0 (by decide) (by decide), em 1 (by decide) (by decide), em 2 (by decide) (by decide)⟩, fun _ => ⟨em 10 (by decide) (by decide), em 11 (by decide) (by decide), em 12 (by decide) (by decide)⟩, fun j hj => em j (by omega) (by omega), _, rfl⟩
  · subst e
    have B' : BadIn (h' 5) (h' 6) x y due := by rw [p5, p6]; exact B
    refine ⟨_, rfl, fun nx ct hx _ => ?_⟩
    have : n = 0 ∨ n = 1 ∨ n = 2 := by omega
    rcases this with rfl | rfl | rfl
    · walk_at "run"
      refine ref_0 B' fun h2 k f e => ?_
      walk_at "run"
      refine noprog_ok e hd ?_
      walk_at "run"
      exact hx _ _ ⟨by rw [f 5 (by decide)]; exact p5, by rw [f 6 (by decide)]; exact p6, fun _ => ⟨by rw [f 0 (by decide)]; exact (p0 (by decide)).1, by rw [f 1 (by decide)]; exact (p0 (by decide)).2.1, by rw [f 2 (by decide)]; exact (p0 (by decide)).2.2⟩, fun _ => ⟨by rw [f 10 (by decide)]; exact (p1 (by decide)).1, by rw [f 11 (by decide)]; exact (p1 (by decide)).2.1, by rw [f 12 (by decide)]; exact (p1 (by decide)).2.2⟩, fun j hj => by rw [f j (by omega)]; exact p3 j hj, _, rfl⟩
    · walk_at "run"
      obtain ⟨q0, q1, q2⟩ := p0 (by decide)
      refine ref_1 B' q0 q1 q2 fun h2 k f e => ?_
      walk_at "run"
      refine noprog_ok e hd ?_
      walk_at "run"
      exact hx _ _ ⟨by rw [f 5 (by decide) (by decide) (by decide) (by decide) (by decide)]; exact p5, by rw [f 6 (by decide) (by decide) (by decide) (by decide) (by decide)]; exact p6, fun z => absurd z (by decide), fun _ => ⟨by rw [f 10 (by decide) (by decide) (by decide) (by decide) (by decide)]; exact (p1 (by decide)).1, by rw [f 11 (by decide) (by decide) (by decide) (by decide) (by decide)]; exact (p1 (by decide)).2.1, by rw [f 12 (by decide) (by decide) (by decide) (by decide) (by decide)]; exact (p1 (by decide)).2.2⟩, fun j hj => by rw [f j (by omega) (by omega) (by omega) (by omega) (by omega)]; exact p3 j hj, _, rfl⟩
    · walk_at "run"
      obtain ⟨q0, q1, q2⟩ := p1 (by decide)
      refine ref_2 B' q0 q1 q2 fun h2 k f e => ?_
      walk_at "run"
      refine noprog_ok e hd ?_
      walk_at "run"
      exact hx _ _ ⟨by rw [f 5 (by decide) (by decide) (by decide) (by decide) (by decide)]; exact p5, by rw [f 6 (by decide) (by decide) (by decide) (by decide) (by decide)]; exact p6, fun z => absurd z (by decide), fun z => absurd z (by decide), fun j hj => by rw [f j (by omega) (by omega) (by omega) (by omega) (by omega)]; exact p3 j hj, _, rfl⟩
  · subst e
    walk_at "run"
    refine mk_tree ?_
    walk_at "run"
    refine ref_img fun h2 k f e => ?_
    walk_at "run"
    refine isx_of e ?_
    walk_at "run"
    refine ref_shelf (by rw [f 41 (by decide) (by decide)]; exact p3 41 (by decide)) fun h3 k e => ?_
    walk_at "run"
    refine isx_of e ?_
    walk_at "run"
theorem rs_flat {r k : Nat} {l : List D} (e : (h r)[k]? = some (.lst l)) (hd : ∀ d ∈ l, dat 15 d = true) : M.rs h 60 (.ref r k) = some (.lst l) := by
  show (match h.at r k with | some (.lst l) => (l.mapM (M.rs h 59)).map D.lst | _ => none) = _
  rw [show h.at r k = _ from e]
  show (l.mapM (M.rs h 59)).map D.lst = _
  rw [mapM_same fun d hd' => rs_dat (dat_le (hd d hd') (by omega))]; rfl
theorem rs_tree {l : List D} (hd : ∀ d ∈ l, dat 15 d = true) : M.rs h 60 (.lst l) = some (.lst l) := by
  show (l.mapM (M.rs h 59)).map D.lst = _
  rw [mapM_same fun d hd' => rs_dat (dat_le (hd d hd') (by omega))]; rfl
theorem dat_lst {l : List D} (hd : ∀ d ∈ l, dat 15 d = true) : dat 20 (.lst l) = true := by
  rw [M.dat_lst]
  exact List.all_eq_true.mpr fun d h => dat_le (hd d h) (by decide)
theorem prog_dat {rows : List ROW} : ∀ d ∈ progD rows, dat 15 d = true := fun d hd => by
  unfold progD at hd
  obtain ⟨p, _, rfl⟩ := List.mem_map.mp hd
  obtain ⟨r, x, y⟩ := p
  cases r <;> (simp [rowT, RW.tx, M.dat_tup, M.dat_str, M.dat_int]; decide +kernel)
theorem program_ok {w q mi ci ni : Nat} {m door : Int} {ws prog : List D} {s : Mac} (Mc : IsMc w q mi ci ni m ws prog door h s) (k : @mklm prog h K) : @callm m_Machine_program [.ref q mi] h X K := by
  have F := At.mk Mc.top
  unfold mcF at F
  walk_at "en"
  walk_at "run"
  exact k
theorem entry_ok {w q mi ci ni : Nat} {m door : Int} {ws prog : List D} {s : Mac} (Mc : IsMc w q mi ci ni m ws prog door h s) (k : K.k (.int door) h) : @callm m_Machine_entry [.ref q mi] h X K := by
  have F := At.mk Mc.top
  unfold mcF at F
  walk_at "en"
  walk_at "run"
  exact k
theorem mc_keep {w q mi ci ni : Nat} {m : Int} {ws prog : List D} {door : Int} {h h2 : MH} {s : Mac} (M : IsMc w q mi ci ni m ws prog door h s) (e : ∀ j, (j < w + 3 ∧ w ≤ j) ∨ (q ≤ j ∧ j < q + 3) → h2 j = h j) : IsMc w q mi ci ni m ws prog door h2 s :=
  ⟨by rw [e q (by omega)]; exact M.top, by rw [e (q + 1) (by omega)]; exact M.cel, by rw [e (q + 2) (by omega)]; exact M.evs, M.way.of fun k a b => e k (by omega), M.len, M.wds⟩
theorem add_ref {r i : Nat} {xs ys : List D} (e : (h r)[i]? = some (.lst xs)) (hl : xs.length + ys.length ≤ 1000000) (q : @mklm (xs ++ ys) h K) : @opm opAdd (.ref r i) (.lst ys) h K := by
  unfold opm opAdd
  dsimp only
  unfold opCat
  have : properL h (.ref r i) = some xs := by show (match h.at r i with | some (.lst l) => some l | _ => none) = _; rw [show h.at r i = _ from e]
  rw [this]
  exact ⟨hl, q⟩
theorem good_tail {sc due : D} {i : Nat} {rows : List ROW} {e : Int} {way : Int} {u6 u7 u8 u9 u10 u11 u12 : Option D} (h5 : (h 5)[i]? = some (.lst (progD rows))) (ok : ∀ p ∈ rows, okR p.1 p.2.1 p.2.2) (hl : 1 ≤ rows.length ∧ rows.length ≤ 60) (he : inA e) (hw : way < 2) (em : ∀ j, j ≠ 5 → h j = []) : mt_law_9 ⟨fun _ _ => D.non = .bl true, fun d _ => d = .bl true, fun _ _ => False, fun _ _ => False, fun _ => NX⟩ [some sc, some (.ref 5 i), some (.int e), some (.int way), some due, some (.ref 5 i), u6, u7, u8, u9, u10, u11, u12] h := by
  rw [o_mt_law_9]
  walk_at "rut"
  refine pl_newg (q := 0) psZ_ok (em 0 (by decide)) (em 1 (by decide)) (em 2 (by decide)) (fun R => psZ_v) (by decide) (ws := []) (fun _ _ => rfl) fun h1 P f1 => ?_
  walk_at "run"
  have g5 : (h1 5)[i]? = some (.lst (progD rows)) := by rw [f1 5 (by omega)]; exact h5
  refine mc_new (q := 10) P (by decide) ok hl he (fun h' f => by rw [itemsL_ref, f 5 (by decide) (by decide) (by decide), g5]; rfl) fun h2 Mc f2 => ?_
  have F5 : At (h2 5) i (.lst (progD rows)) := ⟨by rw [f2 5 (by omega)]; exact g5⟩
  rw [f1 10 (by omega), f1 11 (by omega), f1 12 (by omega), em 10 (by decide), em 11 (by decide), em 12 (by decide)] at Mc
  rw [f1 10 (by omega), em 10 (by decide)]
  walk_at "run"
  refine mk_tree ?_
  walk_at "run"
  refine cndm_of Mc.cls ?_
  walk_at "run"
  refine program_ok Mc ?_
  refine mk_new 30 ?_
  rw [new_def]
  have M3 := mc_keep (h2 := h2.put 30 (h2 30 ++ [.lst (progD rows)])) Mc fun j a => MH.put_ne (by omega)
  have F3 : At ((h2.put 30 (h2 30 ++ [.lst (progD rows)])) 5) i (.lst (progD rows)) := ⟨by rw [MH.put_ne (by decide)]; exact F5.e⟩
  have T3 : At ((h2.put 30 (h2 30 ++ [.lst (progD rows)])) 30) (h2 30).length (.lst (progD rows)) := ⟨by rw [MH.put_same]; simp⟩
  generalize h2.put 30 (h2 30 ++ [.lst (progD rows)]) = h3 at M3 F3 T3 ⊢
  generalize (h2 30).length = k3 at T3 ⊢
  walk_at "run"
  have it : itemsL h3 (.ref 5 i) = some (progD rows) := by rw [itemsL_ref, F3.e]; rfl
  have pl : (progD rows).length = rows.length := by unfold progD; rw [List.length_map]
  have nb : ∀ d ∈ progD rows, orderD d = true := fun d hd => by
    unfold progD at hd
    obtain ⟨p, hp, rfl⟩ := List.mem_map.mp hd
    exact rowT_ok (ok p hp)
  refine checked_ok (listD_ty it) (u := .int) rfl (fun l e d hd => by rw [it] at e; cases e; exact okK_know (prog_okK d hd)) (fun l _ _ _ _ _ => ?_) (fun z => ?_) (fun l j d e _ _ hj nd _ => ?_)
  · walk_at "run"
    refine o_neD rfl (rs_flat T3.e prog_dat) (rs_tree prog_dat) ?_
    rw [show deq (.lst (progD rows)) (.lst (progD rows)) = true from deq_self (n := 20) (dat_lst prog_dat)]
    walk_at "run"
    refine cndm_of M3.cls ?_
    walk_at "run"
    refine entry_ok M3 ?_
    walk_at "run"
    refine o_neD rfl (rs_flat F3.e prog_dat) (rs_tree prog_dat) ?_
    rw [show deq (.lst (progD rows)) (.lst (progD rows)) = true from deq_self (n := 20) (dat_lst prog_dat)]
    walk_at "run"
    refine cndm_of M3.cls ?_
    walk_at "run"
    refine program_ok (mc_keep M3 fun j a => by rw [MH.put_ne (by omega), MH.put_ne (by omega)]) ?_
    refine mk_tree ?_
    walk_at "run"
    refine o_eqD rfl (rs_tree prog_dat) (rs_tree prog_dat) ?_
    rw [show deq (.lst (progD rows)) (.lst (progD rows)) = true from deq_self (n := 20) (dat_lst prog_dat)]
    walk_at "run"
    refine cndm_of M3.cls ?_
    walk_at "run"
    refine entry_ok (mc_keep M3 fun j a => by rw [MH.put_ne (by omega), MH.put_ne (by omega)]) ?_
    walk_at "run"
  · have := (z _ it (by rw [pl]; exact hl.1) (by rw [pl]; exact hl.2)).1
    rw [show atD (.int e) = true from decide_eq_true he] at this; cases this
  · rw [it] at e; cases e
    rw [nb d (List.mem_of_getElem? hj)] at nd; cases nd
theorem law_spec (ns : List Int) (hl : ns.length ≤ 63) : m_law [.rol (ns.map .int)] mh0 NX fun d _ => d = .bl true := by
  show @callm m_law [.rol (ns.map .int)] mh0 ⟨NX⟩ ⟨fun d _ => d = .bl true⟩
  walk_at "en"
  refine mk_tree ?_
  have e0 : List.drop 3 (List.take 63 (List.map D.int ns)) = ((ns.take 63).drop 3).map D.int := by rw [List.map_drop, List.map_take]
  rw [e0]
  have hc : ((ns.take 63).drop 3).length ≤ 60 := by rw [List.length_drop, List.length_take]; omega
  generalize (ns.take 63).drop 3 = cs at hc ⊢
  walk_at "run"
  refine lcm_inv (fun n acc h => h = mh0 ∧ ∃ rows : List ROW, acc = progD rows ∧ rows.length = n ∧ ∀ p ∈ rows, okR p.1 p.2.1 p.2.2) (fun _ _ _ _ => trivial) (fun n acc h ⟨_, rows, e, el, _⟩ => by rw [e]; unfold progD; rw [List.length_map]; omega) (by rw [List.length_map]; omega) (fun n acc h d hd ⟨eh, rows, e, el, o1⟩ Q hQ => ?_) (fun acc h ⟨eh, rows, e, el, o1⟩ => ?_) ⟨rfl, [], rfl, rfl, by simp⟩
  · subst eh
    obtain ⟨c, _, rfl⟩ := List.mem_map.mp (List.mem_of_getElem? hd)
    walk_at "run"
    refine row_ok fun r x y ok1 => ?_
    refine hQ _ _ ⟨rfl, rows ++ [(r, x, y)], by rw [e]; unfold progD; rw [List.map_append]; rfl, by simp [el], fun p hp => ?_⟩
    rcases List.mem_append.mp hp with hp | hp
    · exact o1 p hp
    · cases List.mem_singleton.mp hp; exact ok1
  · subst eh e
    rw [List.length_map] at el
    have hr : rows.length ≤ 60 := by omega
    clear el hc
    have rest : ∀ (rows : List ROW) (i : Nat) (R : List O), R[i]? = some (.lst (progD rows)) → 1 ≤ rows.length ∧ rows.length ≤ 60 → (∀ p ∈ rows, okR p.1 p.2.1 p.2.2) → mt_law_2 ⟨fun _ _ => D.non = .bl true, fun d _ => d = .bl true, fun _ _ => False, fun _ _ => False, fun _ => NX⟩ [some (.rol (ns.map .int)), some (.ref 5 i), none, none, none, none, none, none, none, none, none, none, none] (mh0.put 5 R) := fun rows i R hR hr o1 => by
      rw [o_mt_law_2]
      have em : ∀ j, j ≠ 5 → (mh0.put 5 R) j = [] := fun j hj => MH.put_ne hj
      have F : At ((mh0.put 5 R) 5) i (.lst (progD rows)) := ⟨by rw [MH.put_same]; exact hR⟩
      generalize mh0.put 5 R = g at em F ⊢
      walk_at "run"
      refine mix_ok (by omega) (by omega) fun w w0 w9 => ?_
      have pl : (progD rows).length = rows.length := by unfold progD; rw [List.length_map]
      have : w = 0 ∨ w = 1 ∨ w = 2 ∨ w = 3 ∨ w = 4 := by omega
      rcases this with rfl | rfl | rfl | rfl | rfl
      · walk_at "run"
        exact good_tail F.e o1 hr ⟨by omega, by omega⟩ (by decide) em
      · walk_at "run"
        exact good_tail F.e o1 hr ⟨by omega, by omega⟩ (by decide) em
      · walk_at "run"
        refine spoil_ok F (by rw [pl]; exact hr) fun a L' ha hL hb hp hm => ?_
        walk_at "run"
        have e5 : ((g.put 5 ((g 5).set i (.lst L'))) 5)[i]? = some (.lst L') := by rw [MH.put_same]; exact set_at F.e
        refine bad_tail (badin_at e5 (by rw [hL, pl]; exact hr) (fun d hd => ?_) ?_ fun j d hj e => ?_) (.inr ⟨_, rfl⟩) (by decide) fun j a b => by rw [MH.put_ne a]; exact em j a
        · rcases hm d hd with z | z
          · exact prog_okK d z
          · exact badL_okK d z
        · obtain ⟨d, h1, h2⟩ := hb
          exact ⟨d, h1, badL_no d h2⟩
        · rw [hp j hj] at e
          have hd := List.mem_of_getElem? e
          unfold progD at hd
          obtain ⟨p, hp, rfl⟩ := List.mem_map.mp hd
          exact rowT_ok (o1 p hp)
      · walk_at "rut"
        refine add_ref (F.e) (by simp; omega) ?_
        walk_at "rut"
        refine mk_dct 6 ?_
        walk_at "rut"
        refine mix_ok (by omega) (by omega) fun w2 v0 v9 => ?_
        walk_at "run"
        have fin : ∀ (y x : D) (t u : M.Ty) (v : Option D), (∀ h : MH, tyOf h y = some u) → (∀ h : MH, h 6 = g 6 ++ [.dct []] → tyOf h x = some t) → (∀ (h : MH) l, h 6 = g 6 ++ [.dct []] → itemsL h x = some l → (l.length = 0 ∨ 60 < l.length) ∧ ∀ d ∈ l, okK d = true) → mt_law_9 ⟨fun _ _ => D.non = .bl true, fun d _ => d = .bl true, fun _ _ => False, fun _ _ => False, fun _ => NX⟩ [some (.rol (ns.map .int)), some (.ref 5 i), some y, some (.int 3), some .non, some x, v, none, none, none, none, none, none] (g.put 6 (g 6 ++ [.dct []])) := fun y x t u v hu ht hi => bad_tail (badin_x (fun h _ e => ht h (by rw [e, MH.put_same])) hu (fun h l _ e q => hi h l (by rw [e, MH.put_same]) q)) (.inl rfl) (by decide) fun j a b => by rw [MH.put_ne b]; exact em j a
        have g6 : g 6 = [] := em 6 (by decide)
        have : w2 = 0 ∨ w2 = 1 ∨ w2 = 2 ∨ w2 = 3 ∨ w2 = 4 ∨ w2 = 5 ∨ w2 = 6 := by omega
        rcases this with rfl | rfl | rfl | rfl | rfl | rfl | rfl
        all_goals
          rw [show atI _ _ = some _ from rfl]
          walk_at "run"
        · exact fin _ _ .list .int _ (fun _ => rfl) (fun _ _ => rfl) fun h l _ q => by cases q; exact ⟨.inl rfl, fun d hd => by cases hd⟩
        · refine fin _ _ .list .int _ (fun _ => rfl) (fun _ _ => rfl) fun h l _ q => ?_
          cases q
          refine ⟨.inr ?_, fun d hd => ?_⟩
          · rw [List.flatten_replicate_singleton, List.length_append, List.length_replicate]; omega
          · rcases List.mem_append.mp hd with z | z
            · exact prog_okK d z
            · rw [List.flatten_replicate_singleton] at z
              rw [(List.mem_replicate.mp z).2]; rfl
        · exact fin _ _ .tuple .int _ (fun _ => rfl) (fun _ _ => rfl) fun h l _ q => by cases q
        · exact fin _ _ .non .int _ (fun _ => rfl) (fun _ _ => rfl) fun h l _ q => by cases q
        · refine fin _ _ .dict .int _ (fun _ => rfl) (fun h e => ?_) fun h l e q => ?_
          · rw [g6] at e ⊢
            unfold tyOf; dsimp only
            rw [show h.at 6 ([] : List O).length = some (.dct []) from by show (h 6)[0]? = _; rw [e]; rfl]
          · rw [g6] at e q
            rw [itemsL_ref, e] at q; cases q
        · exact fin _ _ .str .int _ (fun _ => rfl) (fun _ _ => rfl) fun h l _ q => by cases q
        · exact fin _ _ .int .int _ (fun _ => rfl) (fun _ _ => rfl) fun h l _ q => by cases q
      · walk_at "rut"
        refine mix_ok (by omega) (by omega) fun w2 v0 v9 => ?_
        walk_at "run"
        have fin : ∀ (y : D) (u : M.Ty) (v : Option D), (∀ h : MH, tyOf h y = some u) → atD y = false → mt_law_9 ⟨fun _ _ => D.non = .bl true, fun d _ => d = .bl true, fun _ _ => False, fun _ _ => False, fun _ => NX⟩ [some (.rol (ns.map .int)), some (.ref 5 i), some y, some (.int 4), some .non, some (.ref 5 i), v, none, none, none, none, none, none] g := fun y u v hu ha => bad_tail (badin_y F.e o1 hu ha) (.inl rfl) (by decide) fun j a b => em j a
        have : w2 = 0 ∨ w2 = 1 ∨ w2 = 2 ∨ w2 = 3 ∨ w2 = 4 ∨ w2 = 5 ∨ w2 = 6 ∨ w2 = 7 := by omega
        rcases this with rfl | rfl | rfl | rfl | rfl | rfl | rfl | rfl
        all_goals
          rw [show atI _ _ = some _ from rfl]
          walk_at "run"
        · exact fin _ .int _ (fun _ => rfl) (by decide)
        · exact fin _ .int _ (fun _ => rfl) (by decide)
        · exact fin _ .bool _ (fun _ => rfl) rfl
        · exact fin _ .bool _ (fun _ => rfl) rfl
        · exact fin _ _ _ (fun _ => rfl) rfl
        · exact fin _ .str _ (fun _ => rfl) rfl
        · exact fin _ .list _ (fun _ => rfl) rfl
        · exact fin _ .int _ (fun _ => rfl) (decide_eq_false (by omega))
    refine mk_new 5 ?_
    rw [new_def]
    walk_at "run"
    refine mk_tree ?_
    walk_at "run"
    refine o_eqD rfl (rs_flat (l := progD rows) (by rw [MH.put_same]; rfl) prog_dat) (rs_tree (l := []) (by intro d hd; cases hd)) ?_
    cases rows with
    | nil =>
      rw [show deq (.lst (progD [])) (.lst []) = true from by decide +kernel]
      walk_at "run"
      refine mk_new 5 ?_
      rw [new_def, MH.put_same, MH.put_put]
      walk_at "run"
      exact rest [(.halt, 0, 0)] 1 _ rfl (by simp) (by simp [okR])
    | cons p l =>
      rw [show deq (.lst (progD (p :: l))) (.lst []) = false from by unfold progD; rw [List.map_cons, deq_LL]; rfl]
      walk_at "run"
      exact rest _ 0 _ rfl ⟨by simp, hr⟩ o1
end
def top (i : Nat) : Stmt := PySem.Challenge.pw_shadowpages_k32_programs_refused.main.body.getD i (.Pass ⟨0, 0, 0, 0⟩)
abbrev s__wall : Stmt := top 0
abbrev s_NoProgram___init__ : Stmt := inClass (top 9) 0
theorem sc_NoProgram___init__ : FnScope ["self", "place"] ["self", "place"] (defScope s_NoProgram___init__) := ⟨rfl, rfl, rfl, by decide +kernel, rfl, by decide +kernel, by decide +kernel⟩
abbrev s_NoText___init__ : Stmt := inClass (top 10) 0
abbrev s_Fault___init__ : Stmt := inClass (top 11) 0
abbrev s_is_whole : Stmt := top 13
theorem sc_is_whole : FnScope ["thing"] ["thing"] (defScope s_is_whole) := ⟨rfl, rfl, rfl, by decide +kernel, rfl, by decide +kernel, by decide +kernel⟩
abbrev s_is_word : Stmt := top 14
theorem sc_is_word : FnScope ["thing"] ["thing"] (defScope s_is_word) := ⟨rfl, rfl, rfl, by decide +kernel, rfl, by decide +kernel, by decide +kernel⟩
abbrev s_plus : Stmt := top 15
abbrev s_both : Stmt := top 16
abbrev s_odd : Stmt := top 17
abbrev s_is_below : Stmt := top 22
abbrev s_are_words : Stmt := top 23
theorem sc_are_words : FnScope ["thing", "word"] ["thing"] (defScope s_are_words) := ⟨rfl, rfl, rfl, by decide +kernel, rfl, by decide +kernel, by decide +kernel⟩
abbrev s_is_image : Stmt := top 24
theorem sc_is_image : FnScope ["thing", "words"] ["thing"] (defScope s_is_image) := ⟨rfl, rfl, rfl, by decide +kernel, rfl, by decide +kernel, by decide +kernel⟩
abbrev s_is_register : Stmt := top 26
theorem sc_is_register : FnScope ["thing"] ["thing"] (defScope s_is_register) := ⟨rfl, rfl, rfl, by decide +kernel, rfl, by decide +kernel, by decide +kernel⟩
abbrev s_is_at : Stmt := top 27
theorem sc_is_at : FnScope ["thing"] ["thing"] (defScope s_is_at) := ⟨rfl, rfl, rfl, by decide +kernel, rfl, by decide +kernel, by decide +kernel⟩
abbrev s_form_of : Stmt := top 28
theorem sc_form_of : FnScope ["word"] ["word"] (defScope s_form_of) := ⟨rfl, rfl, rfl, by decide +kernel, rfl, by decide +kernel, by decide +kernel⟩
abbrev s_is_part : Stmt := top 29
theorem sc_is_part : FnScope ["thing", "sign"] ["thing", "sign"] (defScope s_is_part) := ⟨rfl, rfl, rfl, by decide +kernel, rfl, by decide +kernel, by decide +kernel⟩
abbrev s_is_order : Stmt := top 30
theorem sc_is_order : FnScope ["thing", "form", "part", "sign"] ["thing"] (defScope s_is_order) := ⟨rfl, rfl, rfl, by decide +kernel, rfl, by decide +kernel, by decide +kernel⟩
abbrev s_is_inner : Stmt := top 31
abbrev s_checked : Stmt := top 32
theorem sc_checked : FnScope ["program", "entry", "number", "thing"] ["program", "entry"] (defScope s_checked) := ⟨rfl, rfl, rfl, by decide +kernel, rfl, by decide +kernel, by decide +kernel⟩
abbrev s_Shelf___init__ : Stmt := inClass (top 35) 0
theorem sc_Shelf___init__ : FnScope ["self", "most"] ["self", "most"] (defScope s_Shelf___init__) := ⟨rfl, rfl, rfl, by decide +kernel, rfl, by decide +kernel, by decide +kernel⟩
abbrev s_Shelf_seat : Stmt := inClass (top 35) 1
abbrev s_Shelf_seek : Stmt := inClass (top 35) 2
abbrev s_Shelf_keep : Stmt := inClass (top 35) 3
abbrev s_Shelf_drop : Stmt := inClass (top 35) 4
abbrev s_Shelf_empty : Stmt := inClass (top 35) 5
abbrev s_Shelf_told : Stmt := inClass (top 35) 6
abbrev s_Store_size : Stmt := inClass (top 37) 0
abbrev s_Store_has : Stmt := inClass (top 37) 1
abbrev s_Store_fetch : Stmt := inClass (top 37) 2
abbrev s_Store_deposit : Stmt := inClass (top 37) 3
abbrev s_Store_look_for : Stmt := inClass (top 37) 4
abbrev s_Store_read : Stmt := inClass (top 37) 5
abbrev s_Store_write : Stmt := inClass (top 37) 6
abbrev s_Memory___init__ : Stmt := inClass (top 38) 0
theorem sc_Memory___init__ : FnScope ["self", "pages", "words"] ["self", "pages"] (defScope s_Memory___init__) := ⟨rfl, rfl, rfl, by decide +kernel, rfl, by decide +kernel, by decide +kernel⟩
abbrev s_Memory_size : Stmt := inClass (top 38) 1
abbrev s_Memory_has : Stmt := inClass (top 38) 2
abbrev s_Memory_fetch : Stmt := inClass (top 38) 3
abbrev s_Memory_deposit : Stmt := inClass (top 38) 4
abbrev s_Memory_give : Stmt := inClass (top 38) 5
abbrev s_Memory_lay : Stmt := inClass (top 38) 6
abbrev s_Memory_told : Stmt := inClass (top 38) 7
abbrev s_look_at : Stmt := top 40
abbrev s_parts_of : Stmt := top 41
abbrev s_page_of : Stmt := top 48
abbrev s_has : Stmt := top 49
abbrev s_put : Stmt := top 50
abbrev s_look_by : Stmt := top 53
abbrev s_rights_of : Stmt := top 54
abbrev s_look : Stmt := top 55
abbrev s_stamp : Stmt := top 56
abbrev s_mark : Stmt := top 57
abbrev s_lets : Stmt := top 58
abbrev s_Ways___init__ : Stmt := inClass (top 61) 0
theorem sc_Ways___init__ : FnScope ["self", "most"] ["self", "most"] (defScope s_Ways___init__) := ⟨rfl, rfl, rfl, by decide +kernel, rfl, by decide +kernel, by decide +kernel⟩
abbrev s_Ways_left : Stmt := inClass (top 61) 1
abbrev s_Ways_left_all : Stmt := inClass (top 61) 2
abbrev s_Ways_granted : Stmt := inClass (top 61) 3
abbrev s_Ways_bring : Stmt := inClass (top 61) 4
abbrev s_Ways_yield_up : Stmt := inClass (top 61) 5
abbrev s_Ways_on_shelf : Stmt := inClass (top 61) 6
abbrev s_Ways_reach : Stmt := inClass (top 61) 7
abbrev s_Ways_load : Stmt := inClass (top 61) 8
abbrev s_Ways_save : Stmt := inClass (top 61) 9
abbrev s_Ways_page_at : Stmt := inClass (top 61) 10
abbrev s_Ways_peek : Stmt := inClass (top 61) 11
abbrev s_Ways_poke : Stmt := inClass (top 61) 12
abbrev s_Ways_root : Stmt := inClass (top 61) 13
abbrev s_Ways_turn_root : Stmt := inClass (top 61) 14
abbrev s_Ways_drop : Stmt := inClass (top 61) 15
abbrev s_Ways_give : Stmt := inClass (top 61) 16
abbrev s_Ways_want : Stmt := inClass (top 61) 17
abbrev s_Ways_shelf : Stmt := inClass (top 61) 18
abbrev s_Ways_words_of : Stmt := inClass (top 61) 19
abbrev s_Ways_pages : Stmt := inClass (top 61) 20
abbrev s_Plain___init__ : Stmt := inClass (top 62) 0
theorem sc_Plain___init__ : FnScope ["self", "pages", "most", "words"] ["self", "pages", "most", "words"] (defScope s_Plain___init__) := ⟨rfl, rfl, rfl, by decide +kernel, rfl, by decide +kernel, by decide +kernel⟩
abbrev s_Plain_size : Stmt := inClass (top 62) 1
abbrev s_Plain_has : Stmt := inClass (top 62) 2
abbrev s_Plain_fetch : Stmt := inClass (top 62) 3
abbrev s_Plain_deposit : Stmt := inClass (top 62) 4
abbrev s_Plain_granted : Stmt := inClass (top 62) 5
abbrev s_Plain_bring : Stmt := inClass (top 62) 6
abbrev s_Plain_yield_up : Stmt := inClass (top 62) 7
abbrev s_Machine___init__ : Stmt := inClass (top 64) 0
theorem sc_Machine___init__ : FnScope ["self", "ways", "program", "entry", "core", "events"] ["self", "ways", "program", "entry", "core", "events"] (defScope s_Machine___init__) := ⟨rfl, rfl, rfl, by decide +kernel, rfl, by decide +kernel, by decide +kernel⟩
abbrev s_Machine_turn : Stmt := inClass (top 64) 1
abbrev s_Machine_step : Stmt := inClass (top 64) 2
abbrev s_Machine_fall : Stmt := inClass (top 64) 3
abbrev s_Machine_do : Stmt := inClass (top 64) 4
abbrev s_Machine_go : Stmt := inClass (top 64) 5
abbrev s_Machine_reckon : Stmt := inClass (top 64) 6
abbrev s_Machine_carry_word : Stmt := inClass (top 64) 7
abbrev s_Machine_tell_way : Stmt := inClass (top 64) 8
abbrev s_Machine_core : Stmt := inClass (top 64) 9
abbrev s_Machine_events : Stmt := inClass (top 64) 10
abbrev s_Machine_told : Stmt := inClass (top 64) 11
abbrev s_Machine_program : Stmt := inClass (top 64) 12
theorem sc_Machine_program : FnScope ["self"] ["self"] (defScope s_Machine_program) := ⟨rfl, rfl, rfl, by decide +kernel, rfl, by decide +kernel, by decide +kernel⟩
abbrev s_Machine_entry : Stmt := inClass (top 64) 13
theorem sc_Machine_entry : FnScope ["self"] ["self"] (defScope s_Machine_entry) := ⟨rfl, rfl, rfl, by decide +kernel, rfl, by decide +kernel, by decide +kernel⟩
abbrev s_bare : Stmt := top 65
theorem sc_bare : FnScope ["pages", "most", "program", "entry", "words"] ["pages", "most", "program", "entry", "words"] (defScope s_bare) := ⟨rfl, rfl, rfl, by decide +kernel, rfl, by decide +kernel, by decide +kernel⟩
abbrev s__law_cell_at : Stmt := top 67
theorem sc__law_cell_at : FnScope ["_law_script", "_law_k"] ["_law_script", "_law_k"] (defScope s__law_cell_at) := ⟨rfl, rfl, rfl, by decide +kernel, rfl, by decide +kernel, by decide +kernel⟩
abbrev s__law_mix : Stmt := top 68
theorem sc__law_mix : FnScope ["_law_cell", "_law_by", "_law_many"] ["_law_cell", "_law_by", "_law_many"] (defScope s__law_mix) := ⟨rfl, rfl, rfl, by decide +kernel, rfl, by decide +kernel, by decide +kernel⟩
abbrev s__law_row : Stmt := top 69
theorem sc__law_row : FnScope ["_law_cell", "_law_a", "_law_b", "_law_at", "_law_some"] ["_law_cell"] (defScope s__law_row) := ⟨rfl, rfl, rfl, by decide +kernel, rfl, by decide +kernel, by decide +kernel⟩
abbrev s__law_spoil : Stmt := top 70
theorem sc__law_spoil : FnScope ["_law_rows", "_law_script", "_law_cell", "_law_at", "_law_bad", "_law_rest"] ["_law_rows", "_law_script"] (defScope s__law_spoil) := ⟨rfl, rfl, rfl, by decide +kernel, rfl, by decide +kernel, by decide +kernel⟩
abbrev s__law_refused : Stmt := top 71
theorem sc__law_refused : FnScope ["_law_kind", "_law_pages", "_law_most", "_law_rows", "_law_entry", "_law_found", "e"] ["_law_kind", "_law_pages", "_law_most", "_law_rows", "_law_entry"] (defScope s__law_refused) := ⟨rfl, rfl, rfl, by decide +kernel, rfl, by decide +kernel, by decide +kernel⟩
abbrev s__law_is_no_program : Stmt := top 72
theorem sc__law_is_no_program : FnScope ["_law_found", "_law_due"] ["_law_found", "_law_due"] (defScope s__law_is_no_program) := ⟨rfl, rfl, rfl, by decide +kernel, rfl, by decide +kernel, by decide +kernel⟩
abbrev s_law : Stmt := top 73
theorem sc_law : FnScope ["_law_script", "_law_rows", "_law_entry", "_law_way", "_law_due", "_law_program", "_law_bad", "_law_pages", "_law_machine", "_law_kept", "_law_told", "_law_kind", "_law_cell"] ["_law_script"] (defScope s_law) := ⟨rfl, rfl, rfl, by decide +kernel, rfl, by decide +kernel, by decide +kernel⟩
structure Ad where
  z : Unit := ()
  C_HouseError : Addr
  C_NoImage : Addr
  C_NoShelf : Addr
  C_NoBound : Addr
  C_NoProgram : Addr
  C_NoText : Addr
  C_Fault : Addr
  C_Shelf : Addr
  C_Memory : Addr
  C_Ways : Addr
  C_Plain : Addr
  C_Machine : Addr
structure Txt (K : PySem.W.Frag) (mg : Str → Option Value) (A : Ad) : Prop where
  b_ValueError : mg "ValueError" = none
  b_all : mg "all" = none
  b_bool : mg "bool" = none
  b_enumerate : mg "enumerate" = none
  b_int : mg "int" = none
  b_isinstance : mg "isinstance" = none
  b_len : mg "len" = none
  b_list : mg "list" = none
  b_range : mg "range" = none
  b_str : mg "str" = none
  b_tuple : mg "tuple" = none
  b_zip : mg "zip" = none
  c_CELLS : ∃ t, mg "CELLS" = some (.int 8 t)
  c_MOST_PAGES : ∃ t, mg "MOST_PAGES" = some (.int 24 t)
  c_MOST_ROWS : ∃ t, mg "MOST_ROWS" = some (.int 60 t)
  c_MOST : ∃ t, mg "MOST" = some (.int 12 t)
  k_HouseError : mg "HouseError" = some (.ref A.C_HouseError)
  k_NoImage : mg "NoImage" = some (.ref A.C_NoImage)
  k_NoShelf : mg "NoShelf" = some (.ref A.C_NoShelf)
  k_NoBound : mg "NoBound" = some (.ref A.C_NoBound)
  k_NoProgram : mg "NoProgram" = some (.ref A.C_NoProgram)
  k_NoText : mg "NoText" = some (.ref A.C_NoText)
  k_Fault : mg "Fault" = some (.ref A.C_Fault)
  k_Shelf : mg "Shelf" = some (.ref A.C_Shelf)
  k_Memory : mg "Memory" = some (.ref A.C_Memory)
  k_Ways : mg "Ways" = some (.ref A.C_Ways)
  k_Plain : mg "Plain" = some (.ref A.C_Plain)
  k_Machine : mg "Machine" = some (.ref A.C_Machine)
  cl_Shelf : Cls K A.C_Shelf
  mk_Shelf : PySem.W.makesIn K A.C_Shelf = true ∧ PySem.W.keepIn K (.ref A.C_Shelf) = true
  no_Shelf_most : NoAttr K A.C_Shelf "most"
  no_Shelf_line : NoAttr K A.C_Shelf "line"
  cl_Memory : Cls K A.C_Memory
  mk_Memory : PySem.W.makesIn K A.C_Memory = true ∧ PySem.W.keepIn K (.ref A.C_Memory) = true
  no_Memory_held : NoAttr K A.C_Memory "held"
  cl_Plain : Cls K A.C_Plain
  mk_Plain : PySem.W.makesIn K A.C_Plain = true ∧ PySem.W.keepIn K (.ref A.C_Plain) = true
  no_Plain_memory : NoAttr K A.C_Plain "memory"
  no_Plain_replies : NoAttr K A.C_Plain "replies"
  no_Plain_heard : NoAttr K A.C_Plain "heard"
  no_Plain_held : NoAttr K A.C_Plain "held"
  no_Plain_base : NoAttr K A.C_Plain "base"
  cl_Machine : Cls K A.C_Machine
  mk_Machine : PySem.W.makesIn K A.C_Machine = true ∧ PySem.W.keepIn K (.ref A.C_Machine) = true
  no_Machine_ways : NoAttr K A.C_Machine "ways"
  no_Machine_orders : NoAttr K A.C_Machine "orders"
  no_Machine_door : NoAttr K A.C_Machine "door"
  no_Machine_cells : NoAttr K A.C_Machine "cells"
  no_Machine_counter : NoAttr K A.C_Machine "counter"
  no_Machine_ruling : NoAttr K A.C_Machine "ruling"
  no_Machine_fallen : NoAttr K A.C_Machine "fallen"
  no_Machine_stopped : NoAttr K A.C_Machine "stopped"
  no_Machine_notes : NoAttr K A.C_Machine "notes"
  x_NoImage : ExD K A.C_HouseError A.C_NoImage
  x_NoShelf : ExD K A.C_HouseError A.C_NoShelf
  x_NoProgram : XfD K A.C_HouseError A.C_NoProgram
  xn_NoProgram_place : PySem.W.findIn K (.ref A.C_NoProgram) "place" = some none
  kt_NoImage_NoText : PySem.W.kitOne K (.ref A.C_NoImage) (.ref A.C_NoText) = some false
  kt_NoImage_Fault : PySem.W.kitOne K (.ref A.C_NoImage) (.ref A.C_Fault) = some false
  kt_NoImage_NoBound : PySem.W.kitOne K (.ref A.C_NoImage) (.ref A.C_NoBound) = some false
  kt_NoImage_NoImage : PySem.W.kitOne K (.ref A.C_NoImage) (.ref A.C_NoImage) = some true
  kt_NoImage_NoShelf : PySem.W.kitOne K (.ref A.C_NoImage) (.ref A.C_NoShelf) = some false
  kt_NoImage_NoProgram : PySem.W.kitOne K (.ref A.C_NoImage) (.ref A.C_NoProgram) = some false
  kt_NoImage_ValueError : PySem.W.kitOne K (.ref A.C_NoImage) (.type "ValueError") = some true
  kt_NoShelf_NoText : PySem.W.kitOne K (.ref A.C_NoShelf) (.ref A.C_NoText) = some false
  kt_NoShelf_Fault : PySem.W.kitOne K (.ref A.C_NoShelf) (.ref A.C_Fault) = some false
  kt_NoShelf_NoBound : PySem.W.kitOne K (.ref A.C_NoShelf) (.ref A.C_NoBound) = some false
  kt_NoShelf_NoImage : PySem.W.kitOne K (.ref A.C_NoShelf) (.ref A.C_NoImage) = some false
  kt_NoShelf_NoShelf : PySem.W.kitOne K (.ref A.C_NoShelf) (.ref A.C_NoShelf) = some true
  kt_NoShelf_NoProgram : PySem.W.kitOne K (.ref A.C_NoShelf) (.ref A.C_NoProgram) = some false
  kt_NoShelf_ValueError : PySem.W.kitOne K (.ref A.C_NoShelf) (.type "ValueError") = some true
  kt_NoProgram_NoText : PySem.W.kitOne K (.ref A.C_NoProgram) (.ref A.C_NoText) = some false
  kt_NoProgram_Fault : PySem.W.kitOne K (.ref A.C_NoProgram) (.ref A.C_Fault) = some false
  kt_NoProgram_NoBound : PySem.W.kitOne K (.ref A.C_NoProgram) (.ref A.C_NoBound) = some false
  kt_NoProgram_NoImage : PySem.W.kitOne K (.ref A.C_NoProgram) (.ref A.C_NoImage) = some false
  kt_NoProgram_NoShelf : PySem.W.kitOne K (.ref A.C_NoProgram) (.ref A.C_NoShelf) = some false
  kt_NoProgram_NoProgram : PySem.W.kitOne K (.ref A.C_NoProgram) (.ref A.C_NoProgram) = some true
  kt_NoProgram_ValueError : PySem.W.kitOne K (.ref A.C_NoProgram) (.type "ValueError") = some true
  un_HouseError : UnB K A.C_HouseError "__init__" (.builtin "ValueError.__init__")
def Cb0 (K : PySem.W.Frag) (A : Ad) : Cb := { K := K, tb := [("Shelf", A.C_Shelf, true, ["most", "line"]), ("Memory", A.C_Memory, true, ["held"]), ("Ways", A.C_Ways, false, ["held", "base"]), ("Plain", A.C_Plain, true, ["memory", "replies", "heard", "held", "base"]), ("Machine", A.C_Machine, true, ["ways", "orders", "door", "cells", "counter", "ruling", "fallen", "stopped", "notes"])], xt := [("NoImage", A.C_NoImage), ("NoShelf", A.C_NoShelf), ("NoProgram", A.C_NoProgram)] }
abbrev G (K : PySem.W.Frag) (A : Ad) : Gb := G0 (Cb0 K A)
section
variable {K : PySem.W.Frag} {mg : Str → Option Value} {A : Ad}
theorem gok_of (T : Txt K mg A) : GOk (G K A) := ⟨List.forall_mem_cons.mpr ⟨fun _ => ⟨T.cl_Shelf, List.forall_mem_cons.mpr ⟨T.no_Shelf_most, List.forall_mem_cons.mpr ⟨T.no_Shelf_line, List.forall_mem_nil _⟩⟩⟩, List.forall_mem_cons.mpr ⟨fun _ => ⟨T.cl_Memory, List.forall_mem_cons.mpr ⟨T.no_Memory_held, List.forall_mem_nil _⟩⟩, List.forall_mem_cons.mpr ⟨fun z => Bool.noConfusion z, List.forall_mem_cons.mpr ⟨fun _ => ⟨T.cl_Plain, List.forall_mem_cons.mpr ⟨T.no_Plain_memory, List.forall_mem_cons.mpr ⟨T.no_Plain_replies, List.forall_mem_cons.mpr ⟨T.no_Plain_heard, List.forall_mem_cons.mpr ⟨T.no_Plain_held, List.forall_mem_cons.mpr ⟨T.no_Plain_base, List.forall_mem_nil _⟩⟩⟩⟩⟩⟩, List.forall_mem_cons.mpr ⟨fun _ => ⟨T.cl_Machine, List.forall_mem_cons.mpr ⟨T.no_Machine_ways, List.forall_mem_cons.mpr ⟨T.no_Machine_orders, List.forall_mem_cons.mpr ⟨T.no_Machine_door, List.forall_mem_cons.mpr ⟨T.no_Machine_cells, List.forall_mem_cons.mpr ⟨T.no_Machine_counter, List.forall_mem_cons.mpr ⟨T.no_Machine_ruling, List.forall_mem_cons.mpr ⟨T.no_Machine_fallen, List.forall_mem_cons.mpr ⟨T.no_Machine_stopped, List.forall_mem_cons.mpr ⟨T.no_Machine_notes, List.forall_mem_nil _⟩⟩⟩⟩⟩⟩⟩⟩⟩⟩, List.forall_mem_nil _⟩⟩⟩⟩⟩⟩
theorem xc_exc_of (T : Txt K mg A) : ∀ c C, (G K A).xc c = some C → ExcC (G K A).K C := fun c C h => (show ∀ e ∈ (Cb0 K A).xt, ExcC K e.2 from List.forall_mem_cons.mpr ⟨T.x_NoImage.c, List.forall_mem_cons.mpr ⟨T.x_NoShelf.c, List.forall_mem_cons.mpr ⟨T.x_NoProgram.c, List.forall_mem_nil _⟩⟩⟩) _ (look_mem h)
theorem xm_HouseError_of (T : Txt K mg A) : ∀ c C, (G K A).xc c = some C → PySem.W.exmOne (G K A).K (.ref C) (.ref A.C_HouseError) = some (catch_ "HouseError" c) := fun c C h => (show ∀ e ∈ (Cb0 K A).xt, PySem.W.exmOne K (.ref e.2) (.ref A.C_HouseError) = some (catch_ "HouseError" e.1) from List.forall_mem_cons.mpr ⟨T.x_NoImage.m, List.forall_mem_cons.mpr ⟨T.x_NoShelf.m, List.forall_mem_cons.mpr ⟨T.x_NoProgram.m, List.forall_mem_nil _⟩⟩⟩) _ (look_mem h)
theorem kt_NoText_of (T : Txt K mg A) : ∀ c C, (G K A).xc c = some C → PySem.W.kitOne (G K A).K (.ref C) (.ref A.C_NoText) = some (isSub c "NoText") := fun c C h => (show ∀ e ∈ (Cb0 K A).xt, PySem.W.kitOne K (.ref e.2) (.ref A.C_NoText) = some (isSub e.1 "NoText") from List.forall_mem_cons.mpr ⟨T.kt_NoImage_NoText, List.forall_mem_cons.mpr ⟨T.kt_NoShelf_NoText, List.forall_mem_cons.mpr ⟨T.kt_NoProgram_NoText, List.forall_mem_nil _⟩⟩⟩) _ (look_mem h)
theorem kt_Fault_of (T : Txt K mg A) : ∀ c C, (G K A).xc c = some C → PySem.W.kitOne (G K A).K (.ref C) (.ref A.C_Fault) = some (isSub c "Fault") := fun c C h => (show ∀ e ∈ (Cb0 K A).xt, PySem.W.kitOne K (.ref e.2) (.ref A.C_Fault) = some (isSub e.1 "Fault") from List.forall_mem_cons.mpr ⟨T.kt_NoImage_Fault, List.forall_mem_cons.mpr ⟨T.kt_NoShelf_Fault, List.forall_mem_cons.mpr ⟨T.kt_NoProgram_Fault, List.forall_mem_nil _⟩⟩⟩) _ (look_mem h)
theorem kt_NoBound_of (T : Txt K mg A) : ∀ c C, (G K A).xc c = some C → PySem.W.kitOne (G K A).K (.ref C) (.ref A.C_NoBound) = some (isSub c "NoBound") := fun c C h => (show ∀ e ∈ (Cb0 K A).xt, PySem.W.kitOne K (.ref e.2) (.ref A.C_NoBound) = some (isSub e.1 "NoBound") from List.forall_mem_cons.mpr ⟨T.kt_NoImage_NoBound, List.forall_mem_cons.mpr ⟨T.kt_NoShelf_NoBound, List.forall_mem_cons.mpr ⟨T.kt_NoProgram_NoBound, List.forall_mem_nil _⟩⟩⟩) _ (look_mem h)
theorem kt_NoImage_of (T : Txt K mg A) : ∀ c C, (G K A).xc c = some C → PySem.W.kitOne (G K A).K (.ref C) (.ref A.C_NoImage) = some (isSub c "NoImage") := fun c C h => (show ∀ e ∈ (Cb0 K A).xt, PySem.W.kitOne K (.ref e.2) (.ref A.C_NoImage) = some (isSub e.1 "NoImage") from List.forall_mem_cons.mpr ⟨T.kt_NoImage_NoImage, List.forall_mem_cons.mpr ⟨T.kt_NoShelf_NoImage, List.forall_mem_cons.mpr ⟨T.kt_NoProgram_NoImage, List.forall_mem_nil _⟩⟩⟩) _ (look_mem h)
theorem kt_NoShelf_of (T : Txt K mg A) : ∀ c C, (G K A).xc c = some C → PySem.W.kitOne (G K A).K (.ref C) (.ref A.C_NoShelf) = some (isSub c "NoShelf") := fun c C h => (show ∀ e ∈ (Cb0 K A).xt, PySem.W.kitOne K (.ref e.2) (.ref A.C_NoShelf) = some (isSub e.1 "NoShelf") from List.forall_mem_cons.mpr ⟨T.kt_NoImage_NoShelf, List.forall_mem_cons.mpr ⟨T.kt_NoShelf_NoShelf, List.forall_mem_cons.mpr ⟨T.kt_NoProgram_NoShelf, List.forall_mem_nil _⟩⟩⟩) _ (look_mem h)
theorem kt_NoProgram_of (T : Txt K mg A) : ∀ c C, (G K A).xc c = some C → PySem.W.kitOne (G K A).K (.ref C) (.ref A.C_NoProgram) = some (isSub c "NoProgram") := fun c C h => (show ∀ e ∈ (Cb0 K A).xt, PySem.W.kitOne K (.ref e.2) (.ref A.C_NoProgram) = some (isSub e.1 "NoProgram") from List.forall_mem_cons.mpr ⟨T.kt_NoImage_NoProgram, List.forall_mem_cons.mpr ⟨T.kt_NoShelf_NoProgram, List.forall_mem_cons.mpr ⟨T.kt_NoProgram_NoProgram, List.forall_mem_nil _⟩⟩⟩) _ (look_mem h)
theorem kt_ValueError_of (T : Txt K mg A) : ∀ c C, (G K A).xc c = some C → PySem.W.kitOne (G K A).K (.ref C) (.type "ValueError") = some (isSub c "ValueError") := fun c C h => (show ∀ e ∈ (Cb0 K A).xt, PySem.W.kitOne K (.ref e.2) (.type "ValueError") = some (isSub e.1 "ValueError") from List.forall_mem_cons.mpr ⟨T.kt_NoImage_ValueError, List.forall_mem_cons.mpr ⟨T.kt_NoShelf_ValueError, List.forall_mem_cons.mpr ⟨T.kt_NoProgram_ValueError, List.forall_mem_nil _⟩⟩⟩) _ (look_mem h)
end
section
variable {P : Program} {w : World} {K : PySem.W.Frag} {mg : Str → Option Value} {base : Heap} {A : Ad}
theorem ok_NoProgram___init__ (F : Mf K A.C_NoProgram "__init__" "NoProgram.__init__" s_NoProgram___init__ ["self", "place"]) (T : Txt K mg A) : Xn P w K mg base 1 "NoProgram" A.C_NoProgram ["place"] := by
  refine Mf.xn F T.x_NoProgram.o T.k_NoProgram sc_NoProgram___init__ rfl (fun cdv f Ar outer s H vs Q E hr h => ?_)
  obtain ⟨a, us, rfl, hl, ha, q⟩ := h
  obtain ⟨y0, rfl⟩ : ∃ y0, us = [y0] := by
    match us, hl with | [y0], _ => exact ⟨y0, rfl⟩
  refine ⟨_, (pss_cons (ps_expr (pe_heinit (pe_glob (v := .ref A.C_HouseError) rfl T.k_HouseError rfl) T.un_HouseError (pa_cons (pv 0) (pa_cons pe_str pa_nil)))) (pss_one (ps_ost (pv 0) (pv 1)))), ?_⟩
  refine ⟨.ref a, rfl, a, A.C_NoProgram, [_], rfl, by decide, T.x_NoProgram.o, ha, ?_⟩
  refine r_ost0 T.x_NoProgram.o T.xn_NoProgram_place rfl rfl ha fun d nd ne => ?_
  exact q d nd ne
theorem ok_is_whole (F : Df K mg "is_whole" s_is_whole ["thing"]) (T : Txt K mg A) : Dn P w K mg base 1 "is_whole" (SPm (G K A) 1 m_is_whole) := by
  have gok := gok_of T
  refine F.dn sc_is_whole (fun vs H Q E h => h.len) (fun cdv f Ar outer s H vs Q E hr h => ?_)
  rw [mq_is_whole] at h
  refine ⟨_, ?_, body_R (G := G K A) (N := ["thing"]) (t := mb_is_whole) (W := fun cls d _ H => E cls d H) rfl (fun _ => rfl) h⟩
  exact (s_one (s_ret (m_andV (m_isk .int rfl rfl (by rfl) T.b_isinstance (by decide +kernel) (m_var (pv 0)) (pe_bltn (v := .ty "int") (by rfl) T.b_int (by decide +kernel) rfl)) (m_one (m_notV (m_isk .bool rfl rfl (by rfl) T.b_isinstance (by decide +kernel) (m_var (pv 0)) (pe_bltn (v := .ty "bool") (by rfl) T.b_bool (by decide +kernel) rfl)))))))
theorem ok_form_of (F : Df K mg "form_of" s_form_of ["word"]) (T : Txt K mg A) : Dn P w K mg base 1 "form_of" (SPm (G K A) 1 m_form_of) := by
  have gok := gok_of T
  refine F.dn sc_form_of (fun vs H Q E h => h.len) (fun cdv f Ar outer s H vs Q E hr h => ?_)
  rw [mq_form_of] at h
  refine ⟨_, ?_, body_R (G := G K A) (N := ["word"]) (t := mb_form_of) (W := fun cls d _ H => E cls d H) rfl (fun _ => rfl) h⟩
  exact (s_seq (s_if (m_tcmp (ro_in rfl) (m_var (pv 0)) (m_tup (m_cons m_str (m_cons m_str (m_cons m_str (m_cons m_str (m_cons m_str (m_cons m_str (m_cons m_str (m_cons m_str m_nil))))))))) (by rfl)) (s_one (s_ret m_str)) s_nil)
  (s_seq (s_if (m_tcmp (ro_in rfl) (m_var (pv 0)) (m_tup (m_cons m_str (m_cons m_str (m_cons m_str (m_cons m_str (m_cons m_str m_nil)))))) (by rfl)) (s_one (s_ret m_str)) s_nil)
  (s_seq (s_if (m_tcmp (ro_in rfl) (m_var (pv 0)) (m_tup (m_cons m_str (m_cons m_str (m_cons m_str (m_cons m_str m_nil))))) (by rfl)) (s_one (s_ret m_str)) s_nil)
  (s_seq (s_if (m_tcmp (ro_in rfl) (m_var (pv 0)) (m_tup (m_cons m_str (m_cons m_str m_nil))) (by rfl)) (s_one (s_ret m_str)) s_nil)
  (s_seq (s_if (m_tcmp (ro_eq hr.units rfl) (m_var (pv 0)) m_str (nomark _)) (s_one (s_ret m_str)) s_nil)
  (s_seq (s_if (m_tcmp (ro_eq hr.units rfl) (m_var (pv 0)) m_str (nomark _)) (s_one (s_ret m_str)) s_nil)
  (s_one (s_ret m_non))))))))
theorem ok_Machine_entry (F : Mf K A.C_Machine "entry" "Machine.entry" s_Machine_entry ["self"]) (T : Txt K mg A) : Mn P w K mg base 1 A.C_Machine (Str.ofString "entry") (SPm (G K A) 1 m_Machine_entry) := by
  have gok := gok_of T
  refine F.mn T.cl_Machine sc_Machine_entry (fun vs H Q E h => h.len) (fun cdv f Ar outer s H vs Q E hr h => ?_)
  rw [mq_Machine_entry] at h
  refine ⟨_, ?_, body_R (G := G K A) (N := ["self"]) (t := mb_Machine_entry) (W := fun cls d _ H => E cls d H) rfl (fun _ => rfl) h⟩
  exact (s_one (s_ret (m_fld gok rfl (m_var (pv 0)))))
theorem ok_Machine_program (F : Mf K A.C_Machine "program" "Machine.program" s_Machine_program ["self"]) (T : Txt K mg A) : Mn P w K mg base 1 A.C_Machine (Str.ofString "program") (SPm (G K A) 1 m_Machine_program) := by
  have gok := gok_of T
  refine F.mn T.cl_Machine sc_Machine_program (fun vs H Q E h => h.len) (fun cdv f Ar outer s H vs Q E hr h => ?_)
  rw [mq_Machine_program] at h
  refine ⟨_, ?_, body_R (G := G K A) (N := ["self"]) (t := mb_Machine_program) (W := fun cls d _ H => E cls d H) rfl (fun _ => rfl) h⟩
  exact (s_one (s_ret (m_callTy (rc_list rfl) (by rfl) T.b_list (by decide +kernel) (m_cons (m_fld gok rfl (m_var (pv 0))) m_nil))))
theorem ok__law_cell_at (F : Df K mg "_law_cell_at" s__law_cell_at ["_law_script", "_law_k"]) (T : Txt K mg A) : Dn P w K mg base 1 "_law_cell_at" (SPm (G K A) 2 m__law_cell_at) := by
  have gok := gok_of T
  refine F.dn sc__law_cell_at (fun vs H Q E h => h.len) (fun cdv f Ar outer s H vs Q E hr h => ?_)
  rw [mq__law_cell_at] at h
  refine ⟨_, ?_, body_R (G := G K A) (N := ["_law_script", "_law_k"]) (t := mb__law_cell_at) (W := fun cls d _ H => E cls d H) rfl (fun _ => rfl) h⟩
  exact (s_seq (s_if (m_tcmp ro_lt (m_var (pv 1)) (m_callB (rc_len rfl) (by rfl) T.b_len (by decide +kernel) (m_cons (m_var (pv 0)) m_nil)) (nomark _)) (s_one (s_ret (m_ix rfl (m_var (pv 0)) (m_var (pv 1))))) s_nil)
  (s_one (s_ret m_int)))
theorem ok__law_is_no_program (F : Df K mg "_law_is_no_program" s__law_is_no_program ["_law_found", "_law_due"]) (T : Txt K mg A) : Dn P w K mg base 1 "_law_is_no_program" (SPm (G K A) 2 m__law_is_no_program) := by
  have gok := gok_of T
  have xc_exc := xc_exc_of T
  have kt_NoText := kt_NoText_of T
  have kt_Fault := kt_Fault_of T
  have kt_NoBound := kt_NoBound_of T
  have kt_NoImage := kt_NoImage_of T
  have kt_NoShelf := kt_NoShelf_of T
  have kt_NoProgram := kt_NoProgram_of T
  have kt_ValueError := kt_ValueError_of T
  refine F.dn sc__law_is_no_program (fun vs H Q E h => h.len) (fun cdv f Ar outer s H vs Q E hr h => ?_)
  rw [mq__law_is_no_program] at h
  refine ⟨_, ?_, body_R (G := G K A) (N := ["_law_found", "_law_due"]) (t := mb__law_is_no_program) (W := fun cls d _ H => E cls d H) rfl (fun _ => rfl) h⟩
  exact (s_seq (s_if (PW.pt (m_or (m_not (m_test (m_isx (v := .ref A.C_NoProgram) (cv := .ref A.C_NoProgram) rfl xc_exc kt_NoProgram (by rfl) T.b_isinstance (by decide +kernel) (m_var (pv 0)) (pe_glob rfl T.k_NoProgram rfl) (fun _ r => r)))) (m_or1 (m_not (m_test (m_isx (v := .ty "ValueError") (cv := .type "ValueError") rfl xc_exc kt_ValueError (by rfl) T.b_isinstance (by decide +kernel) (m_var (pv 0)) (pe_bltn (by rfl) T.b_ValueError (by decide +kernel) rfl) (fun _ r => r))))))) (s_one (s_ret m_bl)) s_nil)
  (s_seq (s_if (PW.pt (m_or (m_test (m_isx (v := .ref A.C_NoText) (cv := .ref A.C_NoText) rfl xc_exc kt_NoText (by rfl) T.b_isinstance (by decide +kernel) (m_var (pv 0)) (pe_glob rfl T.k_NoText rfl) (fun _ r => r))) (m_or (m_test (m_isx (v := .ref A.C_Fault) (cv := .ref A.C_Fault) rfl xc_exc kt_Fault (by rfl) T.b_isinstance (by decide +kernel) (m_var (pv 0)) (pe_glob rfl T.k_Fault rfl) (fun _ r => r))) (m_or1 (m_test (m_isx (v := .ref A.C_NoBound) (cv := .ref A.C_NoBound) rfl xc_exc kt_NoBound (by rfl) T.b_isinstance (by decide +kernel) (m_var (pv 0)) (pe_glob rfl T.k_NoBound rfl) (fun _ r => r))))))) (s_one (s_ret m_bl)) s_nil)
  (s_seq (s_if (PW.pt (m_or (m_test (m_isx (v := .ref A.C_NoImage) (cv := .ref A.C_NoImage) rfl xc_exc kt_NoImage (by rfl) T.b_isinstance (by decide +kernel) (m_var (pv 0)) (pe_glob rfl T.k_NoImage rfl) (fun _ r => r))) (m_or1 (m_test (m_isx (v := .ref A.C_NoShelf) (cv := .ref A.C_NoShelf) rfl xc_exc kt_NoShelf (by rfl) T.b_isinstance (by decide +kernel) (m_var (pv 0)) (pe_glob rfl T.k_NoShelf rfl) (fun _ r => r)))))) (s_one (s_ret m_bl)) s_nil)
  (s_seq (s_if (m_tcmp ro_is (m_var (pv 1)) m_non (nomark _)) (s_one (s_ret (m_cmp ro_is (m_fldx rfl T.x_NoProgram.x T.xn_NoProgram_place rfl (m_var (pv 0))) m_non (nomark _)))) s_nil)
  (s_one (s_ret (m_andV (m_isk .int rfl rfl (by rfl) T.b_isinstance (by decide +kernel) (m_fldx rfl T.x_NoProgram.x T.xn_NoProgram_place rfl (m_var (pv 0))) (pe_bltn (v := .ty "int") (by rfl) T.b_int (by decide +kernel) rfl)) (m_andV (m_notV (m_isk .bool rfl rfl (by rfl) T.b_isinstance (by decide +kernel) (m_fldx rfl T.x_NoProgram.x T.xn_NoProgram_place rfl (m_var (pv 0))) (pe_bltn (v := .ty "bool") (by rfl) T.b_bool (by decide +kernel) rfl))) (m_one (m_cmp (ro_eq hr.units rfl) (m_fldx rfl T.x_NoProgram.x T.xn_NoProgram_place rfl (m_var (pv 0))) (m_var (pv 1)) (nomark _)))))))))))
theorem ok__law_mix (F : Df K mg "_law_mix" s__law_mix ["_law_cell", "_law_by", "_law_many"]) (T : Txt K mg A) : Dn P w K mg base 1 "_law_mix" (SPm (G K A) 3 m__law_mix) := by
  have gok := gok_of T
  refine F.dn sc__law_mix (fun vs H Q E h => h.len) (fun cdv f Ar outer s H vs Q E hr h => ?_)
  rw [mq__law_mix] at h
  refine ⟨_, ?_, body_R (G := G K A) (N := ["_law_cell", "_law_by", "_law_many"]) (t := mb__law_mix) (W := fun cls d _ H => E cls d H) rfl (fun _ => rfl) h⟩
  exact (s_one (s_ret (m_op ro_mod (m_op ro_div (m_op ro_mod (m_op ro_add (m_op ro_mul (m_op ro_mod (m_var (pv 0)) m_int) (m_var (pv 1))) (m_var (pv 1))) m_int) m_int) (m_var (pv 2)))))
theorem ok_is_at (F : Df K mg "is_at" s_is_at ["thing"]) (T : Txt K mg A) (D_is_whole : Dn P w K mg base 1 "is_whole" (SPm (G K A) 1 m_is_whole)) : Dn P w K mg base 2 "is_at" (SPm (G K A) 1 m_is_at) := by
  have gok := gok_of T
  refine F.dn sc_is_at (fun vs H Q E h => h.len) (fun cdv f Ar outer s H vs Q E hr h => ?_)
  rw [mq_is_at] at h
  refine ⟨_, ?_, body_R (G := G K A) (N := ["thing"]) (t := mb_is_at) (W := fun cls d _ H => E cls d H) rfl (fun _ => rfl) h⟩
  exact (s_one (s_ret (m_andV (m_fn D_is_whole hr (by decide) (takes_of rfl rfl rfl rfl) (m_cons (m_var (pv 0)) m_nil)) (m_one (m_chain ro_le ro_le m_int (m_var (pv 0)) (m_c (pe_glob (v := .int 60) rfl (T.c_MOST_ROWS).choose_spec ⟨_, rfl⟩) fun _ => .int _))))))
theorem ok_is_register (F : Df K mg "is_register" s_is_register ["thing"]) (T : Txt K mg A) (D_is_whole : Dn P w K mg base 1 "is_whole" (SPm (G K A) 1 m_is_whole)) : Dn P w K mg base 2 "is_register" (SPm (G K A) 1 m_is_register) := by
  have gok := gok_of T
  refine F.dn sc_is_register (fun vs H Q E h => h.len) (fun cdv f Ar outer s H vs Q E hr h => ?_)
  rw [mq_is_register] at h
  refine ⟨_, ?_, body_R (G := G K A) (N := ["thing"]) (t := mb_is_register) (W := fun cls d _ H => E cls d H) rfl (fun _ => rfl) h⟩
  exact (s_one (s_ret (m_andV (m_fn D_is_whole hr (by decide) (takes_of rfl rfl rfl rfl) (m_cons (m_var (pv 0)) m_nil)) (m_one (m_chain ro_le ro_lt m_int (m_var (pv 0)) m_int)))))
theorem ok_is_word (F : Df K mg "is_word" s_is_word ["thing"]) (T : Txt K mg A) (D_is_whole : Dn P w K mg base 1 "is_whole" (SPm (G K A) 1 m_is_whole)) : Dn P w K mg base 2 "is_word" (SPm (G K A) 1 m_is_word) := by
  have gok := gok_of T
  refine F.dn sc_is_word (fun vs H Q E h => h.len) (fun cdv f Ar outer s H vs Q E hr h => ?_)
  rw [mq_is_word] at h
  refine ⟨_, ?_, body_R (G := G K A) (N := ["thing"]) (t := mb_is_word) (W := fun cls d _ H => E cls d H) rfl (fun _ => rfl) h⟩
  exact (s_one (s_ret (m_andV (m_fn D_is_whole hr (by decide) (takes_of rfl rfl rfl rfl) (m_cons (m_var (pv 0)) m_nil)) (m_one (m_chain ro_le ro_lt m_int (m_var (pv 0)) (m_powc (by decide +kernel) ⟨by decide, by decide, by decide +kernel⟩ pe_int pe_int))))))
theorem ok_Shelf___init__ (F : Mf K A.C_Shelf "__init__" "Shelf.__init__" s_Shelf___init__ ["self", "most"]) (T : Txt K mg A) (D_is_whole : Dn P w K mg base 1 "is_whole" (SPm (G K A) 1 m_is_whole)) : Kn P w K mg base 2 "Shelf" A.C_Shelf (SPm (G K A) 2 m_Shelf___init__) := by
  have gok := gok_of T
  refine F.kn T.mk_Shelf T.k_Shelf sc_Shelf___init__ (fun vs H Q E h => h.len) (fun cdv f Ar outer s H vs Q E hr h => ?_)
  rw [mq_Shelf___init__] at h
  refine ⟨_, ?_, body_R (G := G K A) (N := ["self", "most"]) (t := mb_Shelf___init__) (W := fun cls d _ H => E cls d H) rfl (fun _ => rfl) h⟩
  exact (s_seq (s_if (PW.pt (m_or (m_not (m_test (m_fn D_is_whole hr (by decide) (takes_of rfl rfl rfl rfl) (m_cons (m_var (pv 1)) m_nil)))) (m_or (m_tcmp ro_lt (m_var (pv 1)) m_int (nomark _)) (m_or1 (m_tcmp ro_gt (m_var (pv 1)) (m_c (pe_glob (v := .int 12) rfl (T.c_MOST).choose_spec ⟨_, rfl⟩) fun _ => .int _) (nomark _)))))) (s_one (s_raise rfl rfl (takes_of rfl rfl rfl rfl) (pmk_o T.x_NoShelf T.k_NoShelf))) s_nil)
  (s_seq (s_sfld gok rfl (c := "Shelf") rfl (f := "most") (by decide) (m_var (pv 0)) (m_var (pv 1)))
  (s_one (s_sfld gok rfl (c := "Shelf") rfl (f := "line") (by decide) (m_var (pv 0)) (m_lst m_nil)))))
theorem ok__law_row (F : Df K mg "_law_row" s__law_row ["_law_cell"]) (T : Txt K mg A) (D__law_mix : Dn P w K mg base 1 "_law_mix" (SPm (G K A) 3 m__law_mix)) : Dn P w K mg base 2 "_law_row" (SPm (G K A) 1 m__law_row) := by
  have gok := gok_of T
  refine F.dn sc__law_row (fun vs H Q E h => h.len) (fun cdv f Ar outer s H vs Q E hr h => ?_)
  rw [mq__law_row] at h
  refine ⟨_, ?_, body_R (G := G K A) (N := ["_law_cell", "_law_a", "_law_b", "_law_at", "_law_some"]) (t := mb__law_row) (W := fun cls d _ H => E cls d H) rfl (fun _ => rfl) h⟩
  exact (s_seq (s_set (i := 1) sc__law_row.nd rfl (Or.inl rfl) (m_fn D__law_mix hr (by decide) (takes_of rfl rfl rfl rfl) (m_cons (m_var (pv 0)) (m_cons m_int (m_cons m_int m_nil)))))
  (s_seq (s_set (i := 2) sc__law_row.nd rfl (Or.inl rfl) (m_fn D__law_mix hr (by decide) (takes_of rfl rfl rfl rfl) (m_cons (m_var (pv 0)) (m_cons m_int (m_cons m_int m_nil)))))
  (s_seq (s_set (i := 3) sc__law_row.nd rfl (Or.inl rfl) (m_fn D__law_mix hr (by decide) (takes_of rfl rfl rfl rfl) (m_cons (m_var (pv 0)) (m_cons m_int (m_cons m_int m_nil)))))
  (s_seq (s_set (i := 4) sc__law_row.nd rfl (Or.inl rfl) (m_lst (m_cons (m_tup (m_cons m_str (m_cons (m_var (pv 1)) (m_cons (m_op ro_mod (m_var (pv 0)) (m_powc (by decide +kernel) ⟨by decide, by decide, by decide +kernel⟩ pe_int pe_int)) m_nil)))) (m_cons (m_tup (m_cons m_str (m_cons (m_var (pv 1)) (m_cons (m_var (pv 2)) m_nil)))) (m_cons (m_tup (m_cons m_str (m_cons (m_var (pv 1)) (m_cons (m_var (pv 2)) m_nil)))) (m_cons (m_tup (m_cons m_str (m_cons (m_var (pv 1)) (m_cons (m_var (pv 2)) m_nil)))) (m_cons (m_tup (m_cons m_str (m_cons (m_var (pv 1)) (m_cons (m_var (pv 3)) m_nil)))) (m_cons (m_tup (m_cons m_str (m_cons (m_var (pv 1)) m_nil))) m_nil))))))))
  (s_seq (s_set (i := 4) sc__law_row.nd rfl (Or.inl rfl) (m_op ro_add (m_var (pv 4)) (m_lst (m_cons (m_tup (m_cons m_str (m_cons (m_var (pv 3)) m_nil))) (m_cons (m_tup (m_cons m_str m_nil)) (m_cons (m_tup (m_cons m_str (m_cons (m_var (pv 1)) (m_cons (m_var (pv 2)) m_nil)))) (m_cons (m_tup (m_cons m_str (m_cons (m_var (pv 3)) m_nil))) (m_cons (m_tup (m_cons m_str m_nil)) m_nil))))))))
  (s_one (s_ret (m_ix rfl (m_var (pv 4)) (m_fn D__law_mix hr (by decide) (takes_of rfl rfl rfl rfl) (m_cons (m_var (pv 0)) (m_cons m_int (m_cons m_int m_nil))))))))))))
theorem ok__law_spoil (F : Df K mg "_law_spoil" s__law_spoil ["_law_rows", "_law_script"]) (T : Txt K mg A) (D__law_cell_at : Dn P w K mg base 1 "_law_cell_at" (SPm (G K A) 2 m__law_cell_at)) (D__law_mix : Dn P w K mg base 1 "_law_mix" (SPm (G K A) 3 m__law_mix)) : Dn P w K mg base 2 "_law_spoil" (SPm (G K A) 2 m__law_spoil) := by
  have gok := gok_of T
  refine F.dn sc__law_spoil (fun vs H Q E h => h.len) (fun cdv f Ar outer s H vs Q E hr h => ?_)
  rw [mq__law_spoil] at h
  refine ⟨_, ?_, body_R (G := G K A) (N := ["_law_rows", "_law_script", "_law_cell", "_law_at", "_law_bad", "_law_rest"]) (t := mb__law_spoil) (W := fun cls d _ H => E cls d H) rfl (fun _ => rfl) h⟩
  exact (s_seq (s_set (i := 2) sc__law_spoil.nd rfl (Or.inl rfl) (m_fn D__law_cell_at hr (by decide) (takes_of rfl rfl rfl rfl) (m_cons (m_var (pv 1)) (m_cons m_int m_nil))))
  (s_seq (s_set (i := 3) sc__law_spoil.nd rfl (Or.inl rfl) (m_fn D__law_mix hr (by decide) (takes_of rfl rfl rfl rfl) (m_cons (m_var (pv 2)) (m_cons m_int (m_cons (m_callB (rc_len rfl) (by rfl) T.b_len (by decide +kernel) (m_cons (m_var (pv 0)) m_nil)) m_nil)))))
  (s_seq (s_set (i := 4) sc__law_spoil.nd rfl (Or.inl rfl) (m_lst (m_cons (m_tup (m_cons m_str (m_cons m_int (m_cons m_int m_nil)))) (m_cons (m_tup (m_cons m_str (m_cons m_int (m_cons (m_powc (by decide +kernel) ⟨by decide, by decide, by decide +kernel⟩ pe_int pe_int) m_nil)))) (m_cons (m_tup (m_cons m_str (m_cons m_int m_nil))) (m_cons (m_tup (m_cons m_str (m_cons (m_un ro_neg m_int) m_nil))) (m_cons (m_tup (m_cons m_str (m_cons m_int m_nil))) (m_cons (m_lst (m_cons m_str m_nil)) (m_cons (m_tup (m_cons m_str m_nil)) (m_cons (m_tup m_nil) (m_cons m_non m_nil)))))))))))
  (s_seq (s_set (i := 4) sc__law_spoil.nd rfl (Or.inl rfl) (m_op ro_add (m_var (pv 4)) (m_lst (m_cons (m_tup (m_cons m_str (m_cons m_bl m_nil))) (m_cons (m_tup (m_cons m_str (m_cons m_int (m_cons m_non m_nil)))) (m_cons (m_tup (m_cons m_str (m_cons m_int m_nil))) (m_cons m_int m_nil)))))))
  (s_seq (s_setix (m_ix rfl (m_var (pv 4)) (m_fn D__law_mix hr (by decide) (takes_of rfl rfl rfl rfl) (m_cons (m_var (pv 2)) (m_cons m_int (m_cons m_int m_nil))))) (m_var (pv 0)) (m_var (pv 3)))
  (s_seq (s_set (i := 5) sc__law_spoil.nd rfl (Or.inl rfl) (m_op ro_add (m_var (pv 3)) (m_fn D__law_mix hr (by decide) (takes_of rfl rfl rfl rfl) (m_cons (m_fn D__law_cell_at hr (by decide) (takes_of rfl rfl rfl rfl) (m_cons (m_var (pv 1)) (m_cons m_int m_nil))) (m_cons m_int (m_cons (m_op ro_sub (m_callB (rc_len rfl) (by rfl) T.b_len (by decide +kernel) (m_cons (m_var (pv 0)) m_nil)) (m_var (pv 3))) m_nil))))))
  (s_seq (s_if (m_tcmp ro_gt (m_var (pv 5)) (m_var (pv 3)) (nomark _)) (s_one (s_setix (m_ix rfl (m_var (pv 4)) (m_fn D__law_mix hr (by decide) (takes_of rfl rfl rfl rfl) (m_cons (m_var (pv 2)) (m_cons m_int (m_cons m_int m_nil))))) (m_var (pv 0)) (m_var (pv 5)))) s_nil)
  (s_one (s_ret (m_var (pv 3)))))))))))
theorem ok_is_part (F : Df K mg "is_part" s_is_part ["thing", "sign"]) (T : Txt K mg A) (D_is_at : Dn P w K mg base 2 "is_at" (SPm (G K A) 1 m_is_at)) (D_is_register : Dn P w K mg base 2 "is_register" (SPm (G K A) 1 m_is_register)) (D_is_word : Dn P w K mg base 2 "is_word" (SPm (G K A) 1 m_is_word)) : Dn P w K mg base 3 "is_part" (SPm (G K A) 2 m_is_part) := by
  have gok := gok_of T
  refine F.dn sc_is_part (fun vs H Q E h => h.len) (fun cdv f Ar outer s H vs Q E hr h => ?_)
  rw [mq_is_part] at h
  refine ⟨_, ?_, body_R (G := G K A) (N := ["thing", "sign"]) (t := mb_is_part) (W := fun cls d _ H => E cls d H) rfl (fun _ => rfl) h⟩
  exact (s_seq (s_if (m_tcmp (ro_eq hr.units rfl) (m_var (pv 1)) m_str (nomark _)) (s_one (s_ret (m_fn D_is_register hr (by decide) (takes_of rfl rfl rfl rfl) (m_cons (m_var (pv 0)) m_nil)))) s_nil)
  (s_seq (s_if (m_tcmp (ro_eq hr.units rfl) (m_var (pv 1)) m_str (nomark _)) (s_one (s_ret (m_fn D_is_word hr (by decide) (takes_of rfl rfl rfl rfl) (m_cons (m_var (pv 0)) m_nil)))) s_nil)
  (s_one (s_ret (m_fn D_is_at hr (by decide) (takes_of rfl rfl rfl rfl) (m_cons (m_var (pv 0)) m_nil))))))
theorem ok_are_words (F : Df K mg "are_words" s_are_words ["thing"]) (T : Txt K mg A) (D_is_word : Dn P w K mg base 2 "is_word" (SPm (G K A) 1 m_is_word)) : Dn P w K mg base 3 "are_words" (SPm (G K A) 1 m_are_words) := by
  have gok := gok_of T
  refine F.dn sc_are_words (fun vs H Q E h => h.len) (fun cdv f Ar outer s H vs Q E hr h => ?_)
  rw [mq_are_words] at h
  refine ⟨_, ?_, body_R (G := G K A) (N := ["thing", "word"]) (t := mb_are_words) (W := fun cls d _ H => E cls d H) rfl (fun _ => rfl) h⟩
  exact (s_one (s_ret (m_andV (m_isk .list rfl rfl (by rfl) T.b_isinstance (by decide +kernel) (m_var (pv 0)) (pe_bltn (v := .ty "list") (by rfl) T.b_list (by decide +kernel) rfl)) (m_andV (m_cmp (ro_eq hr.units rfl) (m_callB (rc_len rfl) (by rfl) T.b_len (by decide +kernel) (m_cons (m_var (pv 0)) m_nil)) (m_c (pe_glob (v := .int 8) rfl (T.c_CELLS).choose_spec ⟨_, rfl⟩) fun _ => .int _) (nomark _)) (m_one (m_callB (rc_all rfl rfl) (by rfl) T.b_all (by decide +kernel) (m_cons (m_lc (own := [("word", 1)]) (by decide) rfl sc_are_words.nd (i_L rfl (m_var (pv 0))) (blkOk_by (own := [("word", 1)]) (N := ["thing", "word"]) (sc := defScope s_are_words) (by decide +kernel)) (fun _ _ _ _ _ => (g_nm (i := 1) sc_are_words.nd rfl (Or.inl rfl))) (fun _ _ _ _ _ => t_nil) (fun _ _ _ _ _ => (m_fn D_is_word hr (by decide) takes0 (m_cons (m_var (pv 1)) m_nil)))) m_nil)))))))
theorem ok_is_order (F : Df K mg "is_order" s_is_order ["thing"]) (T : Txt K mg A) (D_form_of : Dn P w K mg base 1 "form_of" (SPm (G K A) 1 m_form_of)) (D_is_part : Dn P w K mg base 3 "is_part" (SPm (G K A) 2 m_is_part)) : Dn P w K mg base 4 "is_order" (SPm (G K A) 1 m_is_order) := by
  have gok := gok_of T
  refine F.dn sc_is_order (fun vs H Q E h => h.len) (fun cdv f Ar outer s H vs Q E hr h => ?_)
  rw [mq_is_order] at h
  refine ⟨_, ?_, body_R (G := G K A) (N := ["thing", "form", "part", "sign"]) (t := mb_is_order) (W := fun cls d _ H => E cls d H) rfl (fun _ => rfl) h⟩
  exact (s_seq (s_if (PW.pt (m_or (m_not (m_test (m_isk .tuple rfl rfl (by rfl) T.b_isinstance (by decide +kernel) (m_var (pv 0)) (pe_bltn (v := .ty "tuple") (by rfl) T.b_tuple (by decide +kernel) rfl)))) (m_or (m_tcmp (ro_eq hr.units rfl) (m_callB (rc_len rfl) (by rfl) T.b_len (by decide +kernel) (m_cons (m_var (pv 0)) m_nil)) m_int (nomark _)) (m_or1 (m_not (m_test (m_isk .str rfl rfl (by rfl) T.b_isinstance (by decide +kernel) (m_ix rfl (m_var (pv 0)) m_int) (pe_bltn (v := .ty "str") (by rfl) T.b_str (by decide +kernel) rfl)))))))) (s_one (s_ret m_bl)) s_nil)
  (s_seq (s_set (i := 1) sc_is_order.nd rfl (Or.inl rfl) (m_fn D_form_of hr (by decide) (takes_of rfl rfl rfl rfl) (m_cons (m_ix rfl (m_var (pv 0)) m_int) m_nil)))
  (s_seq (s_if (PW.pt (m_or (m_tcmp ro_is (m_var (pv 1)) m_non (nomark _)) (m_or1 (m_tcmp (ro_ne hr.units rfl) (m_callB (rc_len rfl) (by rfl) T.b_len (by decide +kernel) (m_cons (m_var (pv 1)) m_nil)) (m_op ro_sub (m_callB (rc_len rfl) (by rfl) T.b_len (by decide +kernel) (m_cons (m_var (pv 0)) m_nil)) m_int) (nomark _))))) (s_one (s_ret m_bl)) s_nil)
  (s_seq (s_for (passes_of rfl) rfl (i_ZS rfl (by rfl) T.b_zip (m_sl rfl (m_var (pv 0)) (m_part m_int) m_nopart) (m_var (pv 1))) (g_tp rfl rfl (g_cons (g_nm (i := 2) sc_is_order.nd rfl (Or.inl rfl)) (g_cons (g_nm (i := 3) sc_is_order.nd rfl (Or.inl rfl)) g_nil)))
  (s_one (s_if (m_not (m_test (m_fn D_is_part hr (by decide) (takes_of rfl rfl rfl rfl) (m_cons (m_var (pv 2)) (m_cons (m_var (pv 3)) m_nil))))) (s_one (s_ret m_bl)) s_nil)))
  (s_one (s_ret m_bl))))))
theorem ok_is_image (F : Df K mg "is_image" s_is_image ["thing"]) (T : Txt K mg A) (D_are_words : Dn P w K mg base 3 "are_words" (SPm (G K A) 1 m_are_words)) : Dn P w K mg base 4 "is_image" (SPm (G K A) 1 m_is_image) := by
  have gok := gok_of T
  refine F.dn sc_is_image (fun vs H Q E h => h.len) (fun cdv f Ar outer s H vs Q E hr h => ?_)
  rw [mq_is_image] at h
  refine ⟨_, ?_, body_R (G := G K A) (N := ["thing", "words"]) (t := mb_is_image) (W := fun cls d _ H => E cls d H) rfl (fun _ => rfl) h⟩
  exact (s_seq (s_if (PW.pt (m_or (m_not (m_test (m_isk .list rfl rfl (by rfl) T.b_isinstance (by decide +kernel) (m_var (pv 0)) (pe_bltn (v := .ty "list") (by rfl) T.b_list (by decide +kernel) rfl)))) (m_or (m_tcmp ro_lt (m_callB (rc_len rfl) (by rfl) T.b_len (by decide +kernel) (m_cons (m_var (pv 0)) m_nil)) m_int (nomark _)) (m_or1 (m_tcmp ro_gt (m_callB (rc_len rfl) (by rfl) T.b_len (by decide +kernel) (m_cons (m_var (pv 0)) m_nil)) (m_c (pe_glob (v := .int 24) rfl (T.c_MOST_PAGES).choose_spec ⟨_, rfl⟩) fun _ => .int _) (nomark _)))))) (s_one (s_ret m_bl)) s_nil)
  (s_one (s_ret (m_callB (rc_all rfl rfl) (by rfl) T.b_all (by decide +kernel) (m_cons (m_lc (own := [("words", 1)]) (by decide) rfl sc_is_image.nd (i_L rfl (m_var (pv 0))) (blkOk_by (own := [("words", 1)]) (N := ["thing", "words"]) (sc := defScope s_is_image) (by decide +kernel)) (fun _ _ _ _ _ => (g_nm (i := 1) sc_is_image.nd rfl (Or.inl rfl))) (fun _ _ _ _ _ => t_nil) (fun _ _ _ _ _ => (m_orV (m_cmp ro_is (m_var (pv 1)) m_non (nomark _)) (m_one (m_fn D_are_words hr (by decide) takes0 (m_cons (m_var (pv 1)) m_nil)))))) m_nil)))))
theorem ok_Plain_Ways___init__ (F : Uf K A.C_Ways "__init__" "Ways.__init__" s_Ways___init__ ["self", "most"]) (T : Txt K mg A) (K_Shelf___init__ : Kn P w K mg base 2 "Shelf" A.C_Shelf (SPm (G K A) 2 m_Shelf___init__)) : Un P w K mg base 4 A.C_Ways (Str.ofString "__init__") (SPm (G K A) 2 m_Plain_Ways___init__) := by
  have gok := gok_of T
  refine F.un sc_Ways___init__ (fun vs H Q E h => h.len) (fun cdv f Ar outer s H vs Q E hr h => ?_)
  rw [mq_Plain_Ways___init__] at h
  refine ⟨_, ?_, body_R (G := G K A) (N := ["self", "most"]) (t := mb_Plain_Ways___init__) (W := fun cls d _ H => E cls d H) rfl (fun _ => rfl) h⟩
  exact (s_seq (s_sfld gok rfl (c := "Plain") rfl (f := "held") (by decide) (m_var (pv 0)) (m_new rfl K_Shelf___init__ hr (by decide) (takes_of rfl rfl rfl rfl) (m_cons (m_var (pv 1)) m_nil)))
  (s_one (s_sfld gok rfl (c := "Plain") rfl (f := "base") (by decide) (m_var (pv 0)) m_int)))
theorem ok_checked (F : Df K mg "checked" s_checked ["program", "entry"]) (T : Txt K mg A) (X_NoProgram___init__ : Xn P w K mg base 1 "NoProgram" A.C_NoProgram ["place"]) (D_is_at : Dn P w K mg base 2 "is_at" (SPm (G K A) 1 m_is_at)) (D_is_order : Dn P w K mg base 4 "is_order" (SPm (G K A) 1 m_is_order)) : Dn P w K mg base 5 "checked" (SPm (G K A) 2 m_checked) := by
  have gok := gok_of T
  refine F.dn sc_checked (fun vs H Q E h => h.len) (fun cdv f Ar outer s H vs Q E hr h => ?_)
  rw [mq_checked] at h
  refine ⟨_, ?_, body_R (G := G K A) (N := ["program", "entry", "number", "thing"]) (t := mb_checked) (W := fun cls d _ H => E cls d H) rfl (fun _ => rfl) h⟩
  exact (s_seq (s_if (PW.pt (m_or (m_not (m_test (m_isk .list rfl rfl (by rfl) T.b_isinstance (by decide +kernel) (m_var (pv 0)) (pe_bltn (v := .ty "list") (by rfl) T.b_list (by decide +kernel) rfl)))) (m_or1 (m_not (m_tchain ro_le ro_le m_int (m_callB (rc_len rfl) (by rfl) T.b_len (by decide +kernel) (m_cons (m_var (pv 0)) m_nil)) (m_c (pe_glob (v := .int 60) rfl (T.c_MOST_ROWS).choose_spec ⟨_, rfl⟩) fun _ => .int _)))))) (s_one (s_raiseF rfl rfl (takes_of rfl rfl rfl rfl) X_NoProgram___init__ hr (by decide) ⟨by decide, by decide⟩ (m_cons m_non m_nil))) s_nil)
  (s_seq (s_for (passes_of rfl) rfl (i_E rfl (by rfl) T.b_enumerate (m_var (pv 0))) (g_tp rfl rfl (g_cons (g_nm (i := 2) sc_checked.nd rfl (Or.inl rfl)) (g_cons (g_nm (i := 3) sc_checked.nd rfl (Or.inl rfl)) g_nil)))
  (s_one (s_if (m_not (m_test (m_fn D_is_order hr (by decide) (takes_of rfl rfl rfl rfl) (m_cons (m_var (pv 3)) m_nil)))) (s_one (s_raiseF rfl rfl (takes_of rfl rfl rfl rfl) X_NoProgram___init__ hr (by decide) ⟨by decide, by decide⟩ (m_cons (m_var (pv 2)) m_nil))) s_nil)))
  (s_one (s_if (m_not (m_test (m_fn D_is_at hr (by decide) (takes_of rfl rfl rfl rfl) (m_cons (m_var (pv 1)) m_nil)))) (s_one (s_raiseF rfl rfl (takes_of rfl rfl rfl rfl) X_NoProgram___init__ hr (by decide) ⟨by decide, by decide⟩ (m_cons m_non m_nil))) s_nil))))
theorem ok_Memory___init__ (F : Mf K A.C_Memory "__init__" "Memory.__init__" s_Memory___init__ ["self", "pages"]) (T : Txt K mg A) (D_is_image : Dn P w K mg base 4 "is_image" (SPm (G K A) 1 m_is_image)) : Kn P w K mg base 5 "Memory" A.C_Memory (SPm (G K A) 2 m_Memory___init__) := by
  have gok := gok_of T
  refine F.kn T.mk_Memory T.k_Memory sc_Memory___init__ (fun vs H Q E h => h.len) (fun cdv f Ar outer s H vs Q E hr h => ?_)
  rw [mq_Memory___init__] at h
  refine ⟨_, ?_, body_R (G := G K A) (N := ["self", "pages", "words"]) (t := mb_Memory___init__) (W := fun cls d _ H => E cls d H) rfl (fun _ => rfl) h⟩
  exact (s_seq (s_if (m_not (m_test (m_fn D_is_image hr (by decide) (takes_of rfl rfl rfl rfl) (m_cons (m_var (pv 1)) m_nil)))) (s_one (s_raise rfl rfl (takes_of rfl rfl rfl rfl) (pmk_o T.x_NoImage T.k_NoImage))) s_nil)
  (s_one (s_sfld gok rfl (c := "Memory") rfl (f := "held") (by decide) (m_var (pv 0)) (m_lc (own := [("words", 2)]) (by decide) rfl sc_Memory___init__.nd (i_L rfl (m_var (pv 1))) (blkOk_by (own := [("words", 2)]) (N := ["self", "pages", "words"]) (sc := defScope s_Memory___init__) (by decide +kernel)) (fun _ _ _ _ _ => (g_nm (i := 2) sc_Memory___init__.nd rfl (Or.inl rfl))) (fun _ _ _ _ _ => t_nil) (fun _ _ _ _ _ => (m_if (m_tcmp ro_is (m_var (pv 2)) m_non (nomark _)) m_non (m_callTy (rc_list rfl) (by rfl) T.b_list (by decide +kernel) (m_cons (m_var (pv 2)) m_nil))))))))
theorem ok_Machine___init__ (F : MfD K A.C_Machine "__init__" "Machine.__init__" s_Machine___init__ ["self", "ways", "program", "entry", "core", "events"] [.non, .non]) (T : Txt K mg A) (D_checked : Dn P w K mg base 5 "checked" (SPm (G K A) 2 m_checked)) : KnD P w K mg base 6 "Machine" A.C_Machine (SPm (G K A) 6 m_Machine___init__) [.non, .non] := by
  have gok := gok_of T
  refine F.kn T.mk_Machine T.k_Machine sc_Machine___init__ (fun vs H Q E h => h.len) (fun cdv f Ar outer s H vs Q E hr h => ?_)
  rw [mq_Machine___init__] at h
  refine ⟨_, ?_, body_R (G := G K A) (N := ["self", "ways", "program", "entry", "core", "events"]) (t := mb_Machine___init__) (W := fun cls d _ H => E cls d H) rfl (fun _ => rfl) h⟩
  exact (s_seq (s_expr (m_fn D_checked hr (by decide) (takes_of rfl rfl rfl rfl) (m_cons (m_var (pv 2)) (m_cons (m_var (pv 3)) m_nil))))
  (s_seq (s_sfld gok rfl (c := "Machine") rfl (f := "ways") (by decide) (m_var (pv 0)) (m_var (pv 1)))
  (s_seq (s_sfld gok rfl (c := "Machine") rfl (f := "orders") (by decide) (m_var (pv 0)) (m_callTy (rc_list rfl) (by rfl) T.b_list (by decide +kernel) (m_cons (m_var (pv 2)) m_nil)))
  (s_seq (s_sfld gok rfl (c := "Machine") rfl (f := "door") (by decide) (m_var (pv 0)) (m_var (pv 3)))
  (s_seq (s_sfld gok rfl (c := "Machine") rfl (f := "cells") (by decide) (m_var (pv 0)) (m_lst (m_cons m_int (m_cons m_int (m_cons m_int (m_cons m_int m_nil))))))
  (s_seq (s_sfld gok rfl (c := "Machine") rfl (f := "counter") (by decide) (m_var (pv 0)) m_int)
  (s_seq (s_sfld gok rfl (c := "Machine") rfl (f := "ruling") (by decide) (m_var (pv 0)) m_bl)
  (s_seq (s_sfld gok rfl (c := "Machine") rfl (f := "fallen") (by decide) (m_var (pv 0)) (m_tup (m_cons m_int (m_cons m_int (m_cons m_int (m_cons m_bl m_nil))))))
  (s_seq (s_sfld gok rfl (c := "Machine") rfl (f := "stopped") (by decide) (m_var (pv 0)) m_bl)
  (s_seq (s_sfld gok rfl (c := "Machine") rfl (f := "notes") (by decide) (m_var (pv 0)) (m_lst m_nil))
  (s_seq (s_if (m_tcmp ro_isnot (m_var (pv 4)) m_non (nomark _)) (s_seq (s_sfld gok rfl (c := "Machine") rfl (f := "cells") (by decide) (m_var (pv 0)) (m_callTy (rc_list rfl) (by rfl) T.b_list (by decide +kernel) (m_cons (m_ix rfl (m_var (pv 4)) m_int) m_nil)))
  (s_seq (s_sfld gok rfl (c := "Machine") rfl (f := "counter") (by decide) (m_var (pv 0)) (m_ix rfl (m_var (pv 4)) m_int))
  (s_seq (s_sfld gok rfl (c := "Machine") rfl (f := "ruling") (by decide) (m_var (pv 0)) (m_ix rfl (m_var (pv 4)) m_int))
  (s_seq (s_sfld gok rfl (c := "Machine") rfl (f := "fallen") (by decide) (m_var (pv 0)) (m_ix rfl (m_var (pv 4)) m_int))
  (s_one (s_sfld gok rfl (c := "Machine") rfl (f := "stopped") (by decide) (m_var (pv 0)) (m_ix rfl (m_var (pv 4)) m_int))))))) s_nil)
  (s_one (s_if (m_tcmp ro_isnot (m_var (pv 5)) m_non (nomark _)) (s_one (s_sfld gok rfl (c := "Machine") rfl (f := "notes") (by decide) (m_var (pv 0)) (m_callTy (rc_list rfl) (by rfl) T.b_list (by decide +kernel) (m_cons (m_var (pv 5)) m_nil)))) s_nil)))))))))))))
theorem ok_Plain___init__ (F : Mf K A.C_Plain "__init__" "Plain.__init__" s_Plain___init__ ["self", "pages", "most", "words"]) (T : Txt K mg A) (K_Memory___init__ : Kn P w K mg base 5 "Memory" A.C_Memory (SPm (G K A) 2 m_Memory___init__)) (U_Plain_Ways___init__ : Un P w K mg base 4 A.C_Ways (Str.ofString "__init__") (SPm (G K A) 2 m_Plain_Ways___init__)) : Kn P w K mg base 7 "Plain" A.C_Plain (SPm (G K A) 4 m_Plain___init__) := by
  have gok := gok_of T
  refine F.kn T.mk_Plain T.k_Plain sc_Plain___init__ (fun vs H Q E h => h.len) (fun cdv f Ar outer s H vs Q E hr h => ?_)
  rw [mq_Plain___init__] at h
  refine ⟨_, ?_, body_R (G := G K A) (N := ["self", "pages", "most", "words"]) (t := mb_Plain___init__) (W := fun cls d _ H => E cls d H) rfl (fun _ => rfl) h⟩
  exact (s_seq (s_sfld gok rfl (c := "Plain") rfl (f := "memory") (by decide) (m_var (pv 0)) (m_new rfl K_Memory___init__ hr (by decide) (takes_of rfl rfl rfl rfl) (m_cons (m_var (pv 1)) m_nil)))
  (s_seq (s_expr (m_un' (pe_glob (v := .ref A.C_Ways) rfl T.k_Ways rfl) U_Plain_Ways___init__ hr (by decide) (takes_of rfl rfl rfl rfl) (m_cons (m_var (pv 0)) (m_cons (m_var (pv 2)) m_nil))))
  (s_seq (s_sfld gok rfl (c := "Plain") rfl (f := "replies") (by decide) (m_var (pv 0)) (m_callTy (rc_list rfl) (by rfl) T.b_list (by decide +kernel) (m_cons (m_var (pv 3)) m_nil)))
  (s_one (s_sfld gok rfl (c := "Plain") rfl (f := "heard") (by decide) (m_var (pv 0)) m_int)))))
theorem ok_bare (F : Df K mg "bare" s_bare ["pages", "most", "program", "entry", "words"]) (T : Txt K mg A) (K_Machine___init__ : KnD P w K mg base 6 "Machine" A.C_Machine (SPm (G K A) 6 m_Machine___init__) [.non, .non]) (K_Plain___init__ : Kn P w K mg base 7 "Plain" A.C_Plain (SPm (G K A) 4 m_Plain___init__)) : Dn P w K mg base 9 "bare" (SPm (G K A) 5 m_bare) := by
  have gok := gok_of T
  refine F.dn sc_bare (fun vs H Q E h => h.len) (fun cdv f Ar outer s H vs Q E hr h => ?_)
  rw [mq_bare] at h
  refine ⟨_, ?_, body_R (G := G K A) (N := ["pages", "most", "program", "entry", "words"]) (t := mb_bare) (W := fun cls d _ H => E cls d H) rfl (fun _ => rfl) h⟩
  exact (s_one (s_ret (m_newD rfl K_Machine___init__ (fun _ => (.cons .non (.cons .non .nil))) hr (by decide) (takes_of rfl rfl rfl rfl) (m_cons (m_new rfl K_Plain___init__ hr (by decide) (takes_of rfl rfl rfl rfl) (m_cons (m_var (pv 0)) (m_cons (m_var (pv 1)) (m_cons (m_var (pv 4)) m_nil)))) (m_cons (m_var (pv 2)) (m_cons (m_var (pv 3)) m_nil))))))
theorem ok__law_refused (F : Df K mg "_law_refused" s__law_refused ["_law_kind", "_law_pages", "_law_most", "_law_rows", "_law_entry"]) (T : Txt K mg A) (K_Machine___init__ : KnD P w K mg base 6 "Machine" A.C_Machine (SPm (G K A) 6 m_Machine___init__) [.non, .non]) (K_Plain___init__ : Kn P w K mg base 7 "Plain" A.C_Plain (SPm (G K A) 4 m_Plain___init__)) (D_bare : Dn P w K mg base 9 "bare" (SPm (G K A) 5 m_bare)) (D_checked : Dn P w K mg base 5 "checked" (SPm (G K A) 2 m_checked)) : Dn P w K mg base 10 "_law_refused" (SPm (G K A) 5 m__law_refused) := by
  have gok := gok_of T
  have xm_HouseError := xm_HouseError_of T
  refine F.dn sc__law_refused (fun vs H Q E h => h.len) (fun cdv f Ar outer s H vs Q E hr h => ?_)
  rw [mq__law_refused] at h
  refine ⟨_, ?_, body_R (G := G K A) (N := ["_law_kind", "_law_pages", "_law_most", "_law_rows", "_law_entry", "_law_found", "e"]) (t := mb__law_refused) (W := fun cls d _ H => E cls d H) rfl (fun _ => rfl) h⟩
  exact (s_seq (s_set (i := 5) sc__law_refused.nd rfl (Or.inl rfl) m_non)
  (s_seq (s_trykeep (i := 6) (j := 5) rfl rfl rfl rfl sc__law_refused.nd rfl rfl ⟨rfl, by decide, .inl T.k_HouseError⟩ rfl xm_HouseError (fun W pn xe tk pw => (s_one (s_if (m_tcmp (ro_eq hr.units rfl) (m_var (pv 0)) m_int (nomark _)) (s_one (s_expr (m_fn D_checked hr (by decide) tk (m_cons (m_var (pv 3)) (m_cons (m_var (pv 4)) m_nil))))) (s_one (s_if (m_tcmp (ro_eq hr.units rfl) (m_var (pv 0)) m_int (nomark _)) (s_one (s_expr (m_newD rfl K_Machine___init__ (fun _ => (.cons .non (.cons .non .nil))) hr (by decide) tk (m_cons (m_new rfl K_Plain___init__ hr (by decide) tk (m_cons (m_var (pv 1)) (m_cons (m_var (pv 2)) (m_cons (m_lst m_nil) m_nil)))) (m_cons (m_var (pv 3)) (m_cons (m_var (pv 4)) m_nil)))))) (s_one (s_expr (m_fn D_bare hr (by decide) tk (m_cons (m_var (pv 1)) (m_cons (m_var (pv 2)) (m_cons (m_var (pv 3)) (m_cons (m_var (pv 4)) (m_cons (m_lst m_nil) m_nil)))))))))))))
  (fun ea eo ecls ed pn hz hf => pss_one (ps_set (i := 5) sc__law_refused.nd rfl (Or.inl rfl) (pv 6))))
  (s_one (s_ret (m_var (pv 5))))))
theorem L_law {fa : Addr} (hfa : mg "law" = some (.ref fa)) (T : Txt K mg A) (F_law : Df K mg "law" s_law ["_law_script"]) (F_NoProgram___init__ : Mf K A.C_NoProgram "__init__" "NoProgram.__init__" s_NoProgram___init__ ["self", "place"]) (F_is_whole : Df K mg "is_whole" s_is_whole ["thing"]) (F_form_of : Df K mg "form_of" s_form_of ["word"]) (F_Machine_entry : Mf K A.C_Machine "entry" "Machine.entry" s_Machine_entry ["self"]) (F_Machine_program : Mf K A.C_Machine "program" "Machine.program" s_Machine_program ["self"]) (F__law_cell_at : Df K mg "_law_cell_at" s__law_cell_at ["_law_script", "_law_k"]) (F__law_is_no_program : Df K mg "_law_is_no_program" s__law_is_no_program ["_law_found", "_law_due"]) (F__law_mix : Df K mg "_law_mix" s__law_mix ["_law_cell", "_law_by", "_law_many"]) (F_is_at : Df K mg "is_at" s_is_at ["thing"]) (F_is_register : Df K mg "is_register" s_is_register ["thing"]) (F_is_word : Df K mg "is_word" s_is_word ["thing"]) (F_Shelf___init__ : Mf K A.C_Shelf "__init__" "Shelf.__init__" s_Shelf___init__ ["self", "most"]) (F__law_row : Df K mg "_law_row" s__law_row ["_law_cell"]) (F__law_spoil : Df K mg "_law_spoil" s__law_spoil ["_law_rows", "_law_script"]) (F_is_part : Df K mg "is_part" s_is_part ["thing", "sign"]) (F_are_words : Df K mg "are_words" s_are_words ["thing"]) (F_is_order : Df K mg "is_order" s_is_order ["thing"]) (F_is_image : Df K mg "is_image" s_is_image ["thing"]) (F_U_Ways___init__ : Uf K A.C_Ways "__init__" "Ways.__init__" s_Ways___init__ ["self", "most"]) (F_checked : Df K mg "checked" s_checked ["program", "entry"]) (F_Memory___init__ : Mf K A.C_Memory "__init__" "Memory.__init__" s_Memory___init__ ["self", "pages"]) (F_Machine___init__ : MfD K A.C_Machine "__init__" "Machine.__init__" s_Machine___init__ ["self", "ways", "program", "entry", "core", "events"] [.non, .non]) (F_Plain___init__ : Mf K A.C_Plain "__init__" "Plain.__init__" s_Plain___init__ ["self", "pages", "most", "words"]) (F_bare : Df K mg "bare" s_bare ["pages", "most", "program", "entry", "words"]) (F__law_refused : Df K mg "_law_refused" s__law_refused ["_law_kind", "_law_pages", "_law_most", "_law_rows", "_law_entry"]) :
    ∃ fd : FuncData, (∀ (s : Shared) (u : Value), BindsTo s fd ⟨[u], []⟩ [("_law_script", u)]) ∧ ∀ base : Heap, K.In base → base.Ns mainGlobals mg → FnOk P w K mg base (L2.CX P w) 11 fa fd ["_law_script"] (sp_law K) := by
  have gok := gok_of T
  refine F_law.law hfa sc_law (fun vs H Q E h => ?_) (fun base _ _ cdv f Ar outer s H vs Q E hr h => ?_)
  · obtain ⟨a, ns, rfl, _⟩ := h; rfl
  replace h : SPm (G K A) 1 m_law vs H Q E := law_start (C := Cb0 K A) law_spec h
  have X_NoProgram___init__ : Xn P w K mg base 1 "NoProgram" A.C_NoProgram ["place"] := ok_NoProgram___init__ F_NoProgram___init__ T
  have D_is_whole : Dn P w K mg base 1 "is_whole" (SPm (G K A) 1 m_is_whole) := ok_is_whole F_is_whole T
  have D_form_of : Dn P w K mg base 1 "form_of" (SPm (G K A) 1 m_form_of) := ok_form_of F_form_of T
  have M_Machine_entry : Mn P w K mg base 1 A.C_Machine (Str.ofString "entry") (SPm (G K A) 1 m_Machine_entry) := ok_Machine_entry F_Machine_entry T
  have M_Machine_program : Mn P w K mg base 1 A.C_Machine (Str.ofString "program") (SPm (G K A) 1 m_Machine_program) := ok_Machine_program F_Machine_program T
  have D__law_cell_at : Dn P w K mg base 1 "_law_cell_at" (SPm (G K A) 2 m__law_cell_at) := ok__law_cell_at F__law_cell_at T
  have D__law_is_no_program : Dn P w K mg base 1 "_law_is_no_program" (SPm (G K A) 2 m__law_is_no_program) := ok__law_is_no_program F__law_is_no_program T
  have D__law_mix : Dn P w K mg base 1 "_law_mix" (SPm (G K A) 3 m__law_mix) := ok__law_mix F__law_mix T
  have D_is_at : Dn P w K mg base 2 "is_at" (SPm (G K A) 1 m_is_at) := ok_is_at F_is_at T D_is_whole
  have D_is_register : Dn P w K mg base 2 "is_register" (SPm (G K A) 1 m_is_register) := ok_is_register F_is_register T D_is_whole
  have D_is_word : Dn P w K mg base 2 "is_word" (SPm (G K A) 1 m_is_word) := ok_is_word F_is_word T D_is_whole
  have K_Shelf___init__ : Kn P w K mg base 2 "Shelf" A.C_Shelf (SPm (G K A) 2 m_Shelf___init__) := ok_Shelf___init__ F_Shelf___init__ T D_is_whole
  have D__law_row : Dn P w K mg base 2 "_law_row" (SPm (G K A) 1 m__law_row) := ok__law_row F__law_row T D__law_mix
  have D__law_spoil : Dn P w K mg base 2 "_law_spoil" (SPm (G K A) 2 m__law_spoil) := ok__law_spoil F__law_spoil T D__law_cell_at D__law_mix
  have D_is_part : Dn P w K mg base 3 "is_part" (SPm (G K A) 2 m_is_part) := ok_is_part F_is_part T D_is_at D_is_register D_is_word
  have D_are_words : Dn P w K mg base 3 "are_words" (SPm (G K A) 1 m_are_words) := ok_are_words F_are_words T D_is_word
  have D_is_order : Dn P w K mg base 4 "is_order" (SPm (G K A) 1 m_is_order) := ok_is_order F_is_order T D_form_of D_is_part
  have D_is_image : Dn P w K mg base 4 "is_image" (SPm (G K A) 1 m_is_image) := ok_is_image F_is_image T D_are_words
  have U_Plain_Ways___init__ : Un P w K mg base 4 A.C_Ways (Str.ofString "__init__") (SPm (G K A) 2 m_Plain_Ways___init__) := ok_Plain_Ways___init__ F_U_Ways___init__ T K_Shelf___init__
  have D_checked : Dn P w K mg base 5 "checked" (SPm (G K A) 2 m_checked) := ok_checked F_checked T X_NoProgram___init__ D_is_at D_is_order
  have K_Memory___init__ : Kn P w K mg base 5 "Memory" A.C_Memory (SPm (G K A) 2 m_Memory___init__) := ok_Memory___init__ F_Memory___init__ T D_is_image
  have K_Machine___init__ : KnD P w K mg base 6 "Machine" A.C_Machine (SPm (G K A) 6 m_Machine___init__) [.non, .non] := ok_Machine___init__ F_Machine___init__ T D_checked
  have K_Plain___init__ : Kn P w K mg base 7 "Plain" A.C_Plain (SPm (G K A) 4 m_Plain___init__) := ok_Plain___init__ F_Plain___init__ T K_Memory___init__ U_Plain_Ways___init__
  have D_bare : Dn P w K mg base 9 "bare" (SPm (G K A) 5 m_bare) := ok_bare F_bare T K_Machine___init__ K_Plain___init__
  have D__law_refused : Dn P w K mg base 10 "_law_refused" (SPm (G K A) 5 m__law_refused) := ok__law_refused F__law_refused T K_Machine___init__ K_Plain___init__ D_bare D_checked
  have xc_exc := xc_exc_of T
  have kt_NoImage := kt_NoImage_of T
  have kt_NoShelf := kt_NoShelf_of T
  rw [mq_law] at h
  refine ⟨_, ?_, body_R (G := G K A) (N := ["_law_script", "_law_rows", "_law_entry", "_law_way", "_law_due", "_law_program", "_law_bad", "_law_pages", "_law_machine", "_law_kept", "_law_told", "_law_kind", "_law_cell"]) (t := mb_law) (W := fun cls d _ H => E cls d H) rfl (fun _ => rfl) h⟩
  exact (s_seq (s_setLc (i := 1) (own := [("_law_cell", 12)]) (by decide) rfl sc_law.nd rfl rfl (sw_true rfl rfl rfl (by decide +kernel)) (i_L rfl (m_sl rfl (m_var (pv 0)) (m_part m_int) (m_part m_int))) (blkOk_by (own := [("_law_cell", 12)]) (N := ["_law_script", "_law_rows", "_law_entry", "_law_way", "_law_due", "_law_program", "_law_bad", "_law_pages", "_law_machine", "_law_kept", "_law_told", "_law_kind", "_law_cell"]) (sc := defScope s_law) (by decide +kernel)) (fun _ _ _ _ _ => (g_nm (i := 12) sc_law.nd rfl (Or.inl rfl))) (fun _ _ _ _ _ => t_nil) (fun _ _ _ _ _ => (m_fn D__law_row hr (by decide) takes0 (m_cons (m_var (pv 12)) m_nil))))
  (s_seq (s_if (m_tcmp (ro_eq hr.units rfl) (m_var (pv 1)) (m_lst m_nil) (nomark _)) (s_one (s_set (i := 1) sc_law.nd rfl (Or.inl rfl) (m_lst (m_cons (m_tup (m_cons m_str m_nil)) m_nil)))) s_nil)
  (s_seq (s_set (i := 2) sc_law.nd rfl (Or.inl rfl) (m_op ro_mod (m_fn D__law_cell_at hr (by decide) (takes_of rfl rfl rfl rfl) (m_cons (m_var (pv 0)) (m_cons m_int m_nil))) m_int))
  (s_seq (s_set (i := 3) sc_law.nd rfl (Or.inl rfl) (m_fn D__law_mix hr (by decide) (takes_of rfl rfl rfl rfl) (m_cons (m_fn D__law_cell_at hr (by decide) (takes_of rfl rfl rfl rfl) (m_cons (m_var (pv 0)) (m_cons m_int m_nil))) (m_cons m_int (m_cons m_int m_nil)))))
  (s_seq (s_set (i := 4) sc_law.nd rfl (Or.inl rfl) m_non)
  (s_seq (s_set (i := 5) sc_law.nd rfl (Or.inl rfl) (m_var (pv 1)))
  (s_seq (s_if (m_tcmp (ro_eq hr.units rfl) (m_var (pv 3)) m_int (nomark _)) (s_one (s_set (i := 4) sc_law.nd rfl (Or.inl rfl) (m_fn D__law_spoil hr (by decide) (takes_of rfl rfl rfl rfl) (m_cons (m_var (pv 1)) (m_cons (m_var (pv 0)) m_nil))))) s_nil)
  (s_seq (s_if (m_tcmp (ro_eq hr.units rfl) (m_var (pv 3)) m_int (nomark _)) (s_seq (s_set (i := 6) sc_law.nd rfl (Or.inl rfl) (m_lst (m_cons (m_lst m_nil) (m_cons (m_op ro_add (m_var (pv 1)) (m_op ro_mul (m_lst (m_cons (m_tup (m_cons m_str m_nil)) m_nil)) (m_op ro_sub m_int (m_callB (rc_len rfl) (by rfl) T.b_len (by decide +kernel) (m_cons (m_var (pv 1)) m_nil))))) (m_cons (m_callTy (rc_tuple rfl) (by rfl) T.b_tuple (by decide +kernel) (m_cons (m_var (pv 1)) m_nil)) (m_cons m_non (m_cons m_dct (m_cons m_str (m_cons m_int m_nil)))))))))
  (s_one (s_set (i := 5) sc_law.nd rfl (Or.inl rfl) (m_ix rfl (m_var (pv 6)) (m_fn D__law_mix hr (by decide) (takes_of rfl rfl rfl rfl) (m_cons (m_fn D__law_cell_at hr (by decide) (takes_of rfl rfl rfl rfl) (m_cons (m_var (pv 0)) (m_cons m_int m_nil))) (m_cons m_int (m_cons m_int m_nil)))))))) s_nil)
  (s_seq (s_if (m_tcmp (ro_eq hr.units rfl) (m_var (pv 3)) m_int (nomark _)) (s_seq (s_set (i := 6) sc_law.nd rfl (Or.inl rfl) (m_lst (m_cons (m_un ro_neg m_int) (m_cons m_int (m_cons m_bl (m_cons m_bl (m_cons m_non (m_cons m_str (m_cons (m_lst (m_cons m_int m_nil)) (m_cons (m_op ro_add m_int (m_op ro_mul (m_var (pv 2)) (m_powc (by decide +kernel) ⟨by decide, by decide, by decide +kernel⟩ pe_int pe_int))) m_nil))))))))))
  (s_one (s_set (i := 2) sc_law.nd rfl (Or.inl rfl) (m_ix rfl (m_var (pv 6)) (m_fn D__law_mix hr (by decide) (takes_of rfl rfl rfl rfl) (m_cons (m_fn D__law_cell_at hr (by decide) (takes_of rfl rfl rfl rfl) (m_cons (m_var (pv 0)) (m_cons m_int m_nil))) (m_cons m_int (m_cons m_int m_nil)))))))) s_nil)
  (s_seq (s_set (i := 7) sc_law.nd rfl (Or.inl rfl) (m_lst (m_cons (m_op ro_mul (m_lst (m_cons m_int m_nil)) m_int) m_nil)))
  (s_seq (s_if (m_tcmp ro_lt (m_var (pv 3)) m_int (nomark _)) (s_seq (s_set (i := 8) sc_law.nd rfl (Or.inl rfl) (m_newD rfl K_Machine___init__ (fun _ => (.cons .non (.cons .non .nil))) hr (by decide) (takes_of rfl rfl rfl rfl) (m_cons (m_new rfl K_Plain___init__ hr (by decide) (takes_of rfl rfl rfl rfl) (m_cons (m_var (pv 7)) (m_cons m_int (m_cons (m_lst m_nil) m_nil)))) (m_cons (m_var (pv 5)) (m_cons (m_var (pv 2)) m_nil)))))
  (s_seq (s_set (i := 9) sc_law.nd rfl (Or.inl rfl) (m_callTy (rc_list rfl) (by rfl) T.b_list (by decide +kernel) (m_cons (m_var (pv 5)) m_nil)))
  (s_seq (s_set (i := 10) sc_law.nd rfl (Or.inl rfl) (m_mt0 (m := "program") rfl (by decide) (m_var (pv 8)) M_Machine_program hr (by decide) (takes_of rfl rfl rfl rfl)))
  (s_seq (s_if (PW.pt (m_or (m_tcmp ro_isnot (m_fn D_checked hr (by decide) (takes_of rfl rfl rfl rfl) (m_cons (m_var (pv 5)) (m_cons (m_var (pv 2)) m_nil))) m_non (nomark _)) (m_or (m_tcmp (ro_ne hr.units rfl) (m_var (pv 10)) (m_var (pv 9)) (nomark _)) (m_or (m_tcmp (ro_ne hr.units rfl) (m_mt0 (m := "entry") rfl (by decide) (m_var (pv 8)) M_Machine_entry hr (by decide) (takes_of rfl rfl rfl rfl)) (m_var (pv 2)) (nomark _)) (m_or1 (m_tcmp (ro_ne hr.units rfl) (m_var (pv 5)) (m_var (pv 9)) (nomark _))))))) (s_one (s_ret m_bl)) s_nil)
  (s_seq (s_expr (m_lm rfl PySem.F.slot_list_append PySem.F.type_list_append rm_append (m_var (pv 10)) (m_cons (m_tup (m_cons m_str m_nil)) m_nil)))
  (s_seq (s_expr (m_lm rfl PySem.F.slot_list_append PySem.F.type_list_append rm_append (m_var (pv 5)) (m_cons (m_tup (m_cons m_str m_nil)) m_nil)))
  (s_one (s_ret (m_andV (m_cmp (ro_eq hr.units rfl) (m_mt0 (m := "program") rfl (by decide) (m_var (pv 8)) M_Machine_program hr (by decide) (takes_of rfl rfl rfl rfl)) (m_var (pv 9)) (nomark _)) (m_one (m_isk .int rfl rfl (by rfl) T.b_isinstance (by decide +kernel) (m_mt0 (m := "entry") rfl (by decide) (m_var (pv 8)) M_Machine_entry hr (by decide) (takes_of rfl rfl rfl rfl)) (pe_bltn (v := .ty "int") (by rfl) T.b_int (by decide +kernel) rfl)))))))))))) s_nil)
  (s_seq (s_for (passes_of rfl) rfl (i_R1 (by rfl) T.b_range m_int) (g_nm (i := 11) sc_law.nd rfl (Or.inl rfl))
  (s_one (s_if (m_not (m_test (m_fn D__law_is_no_program hr (by decide) (takes_of rfl rfl rfl rfl) (m_cons (m_fn D__law_refused hr (by decide) (takes_of rfl rfl rfl rfl) (m_cons (m_var (pv 11)) (m_cons (m_var (pv 7)) (m_cons m_int (m_cons (m_var (pv 5)) (m_cons (m_var (pv 2)) m_nil)))))) (m_cons (m_var (pv 4)) m_nil))))) (s_one (s_ret m_bl)) s_nil)))
  (s_seq (s_if (m_not (m_test (m_isx (v := .ref A.C_NoImage) (cv := .ref A.C_NoImage) rfl xc_exc kt_NoImage (by rfl) T.b_isinstance (by decide +kernel) (m_fn D__law_refused hr (by decide) (takes_of rfl rfl rfl rfl) (m_cons m_int (m_cons (m_lst m_nil) (m_cons m_int (m_cons (m_var (pv 5)) (m_cons (m_var (pv 2)) m_nil)))))) (pe_glob rfl T.k_NoImage rfl) (fun _ r => r)))) (s_one (s_ret m_bl)) s_nil)
  (s_one (s_ret (m_isx (v := .ref A.C_NoShelf) (cv := .ref A.C_NoShelf) rfl xc_exc kt_NoShelf (by rfl) T.b_isinstance (by decide +kernel) (m_fn D__law_refused hr (by decide) (takes_of rfl rfl rfl rfl) (m_cons m_int (m_cons (m_var (pv 7)) (m_cons m_int (m_cons (m_var (pv 5)) (m_cons (m_var (pv 2)) m_nil)))))) (pe_glob rfl T.k_NoShelf rfl) (fun _ r => r)))))))))))))))))
end
theorem all_mk {P : Program} {w : World} {K : PySem.W.Frag} {h : Heap} {mg : Str → Option Value} {fa : Addr} {C_HouseError C_NoImage C_NoShelf C_NoBound C_NoProgram C_NoText C_Fault C_Shelf C_Memory C_Ways C_Plain C_Machine : Addr} (X : K.In h) (G : h.Ns mainGlobals mg) (hfa : mg "law" = some (.ref fa))
    (hb_HouseError : PySem.W.subIn K (.ref C_HouseError) (.type "BaseException") = some true)
    (hd_HouseError : PySem.W.hasDictIn K C_HouseError = true)
    (ht_HouseError : PySem.W.typeIn K (.ref C_HouseError) = some (.type "type"))
    (b_ValueError : PySem.W.nsIn K mainGlobals "ValueError" = some none)
    (b_all : PySem.W.nsIn K mainGlobals "all" = some none)
    (b_bool : PySem.W.nsIn K mainGlobals "bool" = some none)
    (b_enumerate : PySem.W.nsIn K mainGlobals "enumerate" = some none)
    (b_int : PySem.W.nsIn K mainGlobals "int" = some none)
    (b_isinstance : PySem.W.nsIn K mainGlobals "isinstance" = some none)
    (b_len : PySem.W.nsIn K mainGlobals "len" = some none)
    (b_list : PySem.W.nsIn K mainGlobals "list" = some none)
    (b_range : PySem.W.nsIn K mainGlobals "range" = some none)
    (b_str : PySem.W.nsIn K mainGlobals "str" = some none)
    (b_tuple : PySem.W.nsIn K mainGlobals "tuple" = some none)
    (b_zip : PySem.W.nsIn K mainGlobals "zip" = some none)
    {t_CELLS : Tok}
    (c_CELLS : PySem.W.nsIn K mainGlobals "CELLS" = some (some (.int 8 t_CELLS)))
    {t_MOST_PAGES : Tok}
    (c_MOST_PAGES : PySem.W.nsIn K mainGlobals "MOST_PAGES" = some (some (.int 24 t_MOST_PAGES)))
    {t_MOST_ROWS : Tok}
    (c_MOST_ROWS : PySem.W.nsIn K mainGlobals "MOST_ROWS" = some (some (.int 60 t_MOST_ROWS)))
    {t_MOST : Tok}
    (c_MOST : PySem.W.nsIn K mainGlobals "MOST" = some (some (.int 12 t_MOST)))
    (k_HouseError : PySem.W.nsIn K mainGlobals "HouseError" = some (some (.ref C_HouseError)))
    (k_NoImage : PySem.W.nsIn K mainGlobals "NoImage" = some (some (.ref C_NoImage)))
    (k_NoShelf : PySem.W.nsIn K mainGlobals "NoShelf" = some (some (.ref C_NoShelf)))
    (k_NoBound : PySem.W.nsIn K mainGlobals "NoBound" = some (some (.ref C_NoBound)))
    (k_NoProgram : PySem.W.nsIn K mainGlobals "NoProgram" = some (some (.ref C_NoProgram)))
    (k_NoText : PySem.W.nsIn K mainGlobals "NoText" = some (some (.ref C_NoText)))
    (k_Fault : PySem.W.nsIn K mainGlobals "Fault" = some (some (.ref C_Fault)))
    (k_Shelf : PySem.W.nsIn K mainGlobals "Shelf" = some (some (.ref C_Shelf)))
    (k_Memory : PySem.W.nsIn K mainGlobals "Memory" = some (some (.ref C_Memory)))
    (k_Ways : PySem.W.nsIn K mainGlobals "Ways" = some (some (.ref C_Ways)))
    (k_Plain : PySem.W.nsIn K mainGlobals "Plain" = some (some (.ref C_Plain)))
    (k_Machine : PySem.W.nsIn K mainGlobals "Machine" = some (some (.ref C_Machine)))
    (pg_Shelf : PySem.W.plainGet K C_Shelf Str.empty = true)
    (ph_Shelf : PySem.W.hasDictIn K C_Shelf = true)
    (po_Shelf : PySem.W.plainOver K C_Shelf = true)
    (ps_Shelf : PySem.W.findIn K (.ref C_Shelf) "__setattr__" = some (some (.builtin "object.__setattr__")))
    (pm_Shelf : PySem.W.makesIn K C_Shelf = true)
    (pk_Shelf : PySem.W.keepIn K (.ref C_Shelf) = true)
    (no_Shelf_most : PySem.W.findIn K (.ref C_Shelf) "most" = some none)
    (no_Shelf_line : PySem.W.findIn K (.ref C_Shelf) "line" = some none)
    (pg_Memory : PySem.W.plainGet K C_Memory Str.empty = true)
    (ph_Memory : PySem.W.hasDictIn K C_Memory = true)
    (po_Memory : PySem.W.plainOver K C_Memory = true)
    (ps_Memory : PySem.W.findIn K (.ref C_Memory) "__setattr__" = some (some (.builtin "object.__setattr__")))
    (pm_Memory : PySem.W.makesIn K C_Memory = true)
    (pk_Memory : PySem.W.keepIn K (.ref C_Memory) = true)
    (no_Memory_held : PySem.W.findIn K (.ref C_Memory) "held" = some none)
    (pg_Plain : PySem.W.plainGet K C_Plain Str.empty = true)
    (ph_Plain : PySem.W.hasDictIn K C_Plain = true)
    (po_Plain : PySem.W.plainOver K C_Plain = true)
    (ps_Plain : PySem.W.findIn K (.ref C_Plain) "__setattr__" = some (some (.builtin "object.__setattr__")))
    (pm_Plain : PySem.W.makesIn K C_Plain = true)
    (pk_Plain : PySem.W.keepIn K (.ref C_Plain) = true)
    (no_Plain_memory : PySem.W.findIn K (.ref C_Plain) "memory" = some none)
    (no_Plain_replies : PySem.W.findIn K (.ref C_Plain) "replies" = some none)
    (no_Plain_heard : PySem.W.findIn K (.ref C_Plain) "heard" = some none)
    (no_Plain_held : PySem.W.findIn K (.ref C_Plain) "held" = some none)
    (no_Plain_base : PySem.W.findIn K (.ref C_Plain) "base" = some none)
    (pg_Machine : PySem.W.plainGet K C_Machine Str.empty = true)
    (ph_Machine : PySem.W.hasDictIn K C_Machine = true)
    (po_Machine : PySem.W.plainOver K C_Machine = true)
    (ps_Machine : PySem.W.findIn K (.ref C_Machine) "__setattr__" = some (some (.builtin "object.__setattr__")))
    (pm_Machine : PySem.W.makesIn K C_Machine = true)
    (pk_Machine : PySem.W.keepIn K (.ref C_Machine) = true)
    (no_Machine_ways : PySem.W.findIn K (.ref C_Machine) "ways" = some none)
    (no_Machine_orders : PySem.W.findIn K (.ref C_Machine) "orders" = some none)
    (no_Machine_door : PySem.W.findIn K (.ref C_Machine) "door" = some none)
    (no_Machine_cells : PySem.W.findIn K (.ref C_Machine) "cells" = some none)
    (no_Machine_counter : PySem.W.findIn K (.ref C_Machine) "counter" = some none)
    (no_Machine_ruling : PySem.W.findIn K (.ref C_Machine) "ruling" = some none)
    (no_Machine_fallen : PySem.W.findIn K (.ref C_Machine) "fallen" = some none)
    (no_Machine_stopped : PySem.W.findIn K (.ref C_Machine) "stopped" = some none)
    (no_Machine_notes : PySem.W.findIn K (.ref C_Machine) "notes" = some none)
    (xk_NoImage : PySem.W.keepIn K (.ref C_NoImage) = true)
    (xb_NoImage : PySem.W.subIn K (.ref C_NoImage) (.type "BaseException") = some true)
    (xt_NoImage : PySem.W.typeIn K (.ref C_NoImage) = some (.type "type"))
    (x1_NoImage : PySem.W.findIn K (.ref C_NoImage) "__getattribute__" = some (some (.builtin "BaseException.__getattribute__")))
    (x2_NoImage : PySem.W.findIn K (.ref C_NoImage) "__getattr__" = some none)
    (x3_NoImage : PySem.W.hasDictIn K C_NoImage = true)
    (x4_NoImage : PySem.W.findIn K (.ref C_NoImage) "__class__" = some (some (.builtin "object.__class__")))
    (x5_NoImage : PySem.W.specialIn K (.builtin "object.__class__") "__get__" = some (some (.builtin "getset_descriptor.__get__")))
    (x6_NoImage : PySem.W.takesIn K (.builtin "object.__class__") = some true)
    (x7_NoImage : PySem.W.mroIn K C_NoImage (.type "object") = some true)
    (x8_NoImage : PySem.W.subIn K (.ref C_NoImage) (.ref C_HouseError) = some true)
    (xq_NoImage : PySem.W.excIn K C_NoImage [.type "ValueError", .type "Exception", .type "BaseException", .type "object"] "ValueError.__new__" = true)
    (xk_NoShelf : PySem.W.keepIn K (.ref C_NoShelf) = true)
    (xb_NoShelf : PySem.W.subIn K (.ref C_NoShelf) (.type "BaseException") = some true)
    (xt_NoShelf : PySem.W.typeIn K (.ref C_NoShelf) = some (.type "type"))
    (x1_NoShelf : PySem.W.findIn K (.ref C_NoShelf) "__getattribute__" = some (some (.builtin "BaseException.__getattribute__")))
    (x2_NoShelf : PySem.W.findIn K (.ref C_NoShelf) "__getattr__" = some none)
    (x3_NoShelf : PySem.W.hasDictIn K C_NoShelf = true)
    (x4_NoShelf : PySem.W.findIn K (.ref C_NoShelf) "__class__" = some (some (.builtin "object.__class__")))
    (x5_NoShelf : PySem.W.specialIn K (.builtin "object.__class__") "__get__" = some (some (.builtin "getset_descriptor.__get__")))
    (x6_NoShelf : PySem.W.takesIn K (.builtin "object.__class__") = some true)
    (x7_NoShelf : PySem.W.mroIn K C_NoShelf (.type "object") = some true)
    (x8_NoShelf : PySem.W.subIn K (.ref C_NoShelf) (.ref C_HouseError) = some true)
    (xq_NoShelf : PySem.W.excIn K C_NoShelf [.type "ValueError", .type "Exception", .type "BaseException", .type "object"] "ValueError.__new__" = true)
    {nm_NoProgram q_NoProgram : _} {N_NoProgram bs_NoProgram sn_NoProgram sub_NoProgram ab_NoProgram col_NoProgram dd_NoProgram k0_NoProgram k1_NoProgram k2_NoProgram k3_NoProgram k5_NoProgram : _}
    (xk_NoProgram : PySem.W.keepIn K (.ref C_NoProgram) = true)
    (xb_NoProgram : PySem.W.subIn K (.ref C_NoProgram) (.type "BaseException") = some true)
    (xt_NoProgram : PySem.W.typeIn K (.ref C_NoProgram) = some (.type "type"))
    (x1_NoProgram : PySem.W.findIn K (.ref C_NoProgram) "__getattribute__" = some (some (.builtin "BaseException.__getattribute__")))
    (x2_NoProgram : PySem.W.findIn K (.ref C_NoProgram) "__getattr__" = some none)
    (x3_NoProgram : PySem.W.hasDictIn K C_NoProgram = true)
    (x4_NoProgram : PySem.W.findIn K (.ref C_NoProgram) "__class__" = some (some (.builtin "object.__class__")))
    (x5_NoProgram : PySem.W.specialIn K (.builtin "object.__class__") "__get__" = some (some (.builtin "getset_descriptor.__get__")))
    (x6_NoProgram : PySem.W.takesIn K (.builtin "object.__class__") = some true)
    (x7_NoProgram : PySem.W.mroIn K C_NoProgram (.type "object") = some true)
    (x8_NoProgram : PySem.W.subIn K (.ref C_NoProgram) (.ref C_HouseError) = some true)
    (xl_NoProgram : K.lookup C_NoProgram = some (excClassObj nm_NoProgram q_NoProgram C_NoProgram N_NoProgram bs_NoProgram [.ref C_HouseError, .type "ValueError", .type "Exception", .type "BaseException", .type "object"] true sn_NoProgram sub_NoProgram ab_NoProgram col_NoProgram dd_NoProgram k0_NoProgram k1_NoProgram k2_NoProgram k3_NoProgram k5_NoProgram "ValueError.__new__"))
    (xs_NoProgram : PySem.W.findIn K (.ref C_NoProgram) "__setattr__" = some (some (.builtin "object.__setattr__")))
    (xn_NoProgram_place : PySem.W.findIn K (.ref C_NoProgram) "place" = some none)
    (kt_NoImage_NoText : PySem.W.kitOne K (.ref C_NoImage) (.ref C_NoText) = some false)
    (kt_NoImage_Fault : PySem.W.kitOne K (.ref C_NoImage) (.ref C_Fault) = some false)
    (kt_NoImage_NoBound : PySem.W.kitOne K (.ref C_NoImage) (.ref C_NoBound) = some false)
    (kt_NoImage_NoImage : PySem.W.kitOne K (.ref C_NoImage) (.ref C_NoImage) = some true)
    (kt_NoImage_NoShelf : PySem.W.kitOne K (.ref C_NoImage) (.ref C_NoShelf) = some false)
    (kt_NoImage_NoProgram : PySem.W.kitOne K (.ref C_NoImage) (.ref C_NoProgram) = some false)
    (kt_NoImage_ValueError : PySem.W.kitOne K (.ref C_NoImage) (.type "ValueError") = some true)
    (kt_NoShelf_NoText : PySem.W.kitOne K (.ref C_NoShelf) (.ref C_NoText) = some false)
    (kt_NoShelf_Fault : PySem.W.kitOne K (.ref C_NoShelf) (.ref C_Fault) = some false)
    (kt_NoShelf_NoBound : PySem.W.kitOne K (.ref C_NoShelf) (.ref C_NoBound) = some false)
    (kt_NoShelf_NoImage : PySem.W.kitOne K (.ref C_NoShelf) (.ref C_NoImage) = some false)
    (kt_NoShelf_NoShelf : PySem.W.kitOne K (.ref C_NoShelf) (.ref C_NoShelf) = some true)
    (kt_NoShelf_NoProgram : PySem.W.kitOne K (.ref C_NoShelf) (.ref C_NoProgram) = some false)
    (kt_NoShelf_ValueError : PySem.W.kitOne K (.ref C_NoShelf) (.type "ValueError") = some true)
    (kt_NoProgram_NoText : PySem.W.kitOne K (.ref C_NoProgram) (.ref C_NoText) = some false)
    (kt_NoProgram_Fault : PySem.W.kitOne K (.ref C_NoProgram) (.ref C_Fault) = some false)
    (kt_NoProgram_NoBound : PySem.W.kitOne K (.ref C_NoProgram) (.ref C_NoBound) = some false)
    (kt_NoProgram_NoImage : PySem.W.kitOne K (.ref C_NoProgram) (.ref C_NoImage) = some false)
    (kt_NoProgram_NoShelf : PySem.W.kitOne K (.ref C_NoProgram) (.ref C_NoShelf) = some false)
    (kt_NoProgram_NoProgram : PySem.W.kitOne K (.ref C_NoProgram) (.ref C_NoProgram) = some true)
    (kt_NoProgram_ValueError : PySem.W.kitOne K (.ref C_NoProgram) (.type "ValueError") = some true)
    (ur_HouseError : PySem.W.readsIn K C_HouseError (.type "type") = true)
    (ug_HouseError : PySem.W.specialIn K (.ref C_HouseError) "__getattribute__" = some (some (.builtin "type.__getattribute__")))
    (ua_HouseError : PySem.W.findCls K (.ref C_HouseError) (.type "type") "__init__" = some (.val (.builtin "ValueError.__init__")))
    {f_law : Addr} {od_law an_law : Option Addr} {sl_law : Array (Option Value)} {oc_law kV_law dc_law pm_law cd_law ct_law : Value}
    (a_law : PySem.W.nsIn K mainGlobals "law" = some (some (.ref f_law)))
    (l_law : K.lookup f_law = some ⟨oc_law, od_law, .func (PySem.W.fnOf "law" "law" (defArgs s_law) (defBody s_law) (defScope s_law) .none kV_law dc_law pm_law an_law cd_law ct_law), sl_law⟩)
    (d_law : PySem.W.codeIn K cd_law "law" = true)
    (e_law : PySem.W.keepIn K (.ref f_law) = true)
    {f_NoProgram___init__ : Addr} {od_NoProgram___init__ an_NoProgram___init__ : Option Addr} {sl_NoProgram___init__ : Array (Option Value)} {oc_NoProgram___init__ kV_NoProgram___init__ dc_NoProgram___init__ pm_NoProgram___init__ cd_NoProgram___init__ ct_NoProgram___init__ : Value}
    (a_NoProgram_NoProgram___init__ : PySem.W.findIn K (.ref C_NoProgram) "__init__" = some (some (.ref f_NoProgram___init__)))
    (i_NoProgram_NoProgram___init__ : PySem.W.isFn K (.ref f_NoProgram___init__) = true)
    (l_NoProgram___init__ : K.lookup f_NoProgram___init__ = some ⟨oc_NoProgram___init__, od_NoProgram___init__, .func (PySem.W.fnOf "__init__" "NoProgram.__init__" (defArgs s_NoProgram___init__) (defBody s_NoProgram___init__) (defScope s_NoProgram___init__) .none kV_NoProgram___init__ dc_NoProgram___init__ pm_NoProgram___init__ an_NoProgram___init__ cd_NoProgram___init__ ct_NoProgram___init__), sl_NoProgram___init__⟩)
    (d_NoProgram___init__ : PySem.W.codeIn K cd_NoProgram___init__ "NoProgram.__init__" = true)
    (e_NoProgram___init__ : PySem.W.keepIn K (.ref f_NoProgram___init__) = true)
    {f_is_whole : Addr} {od_is_whole an_is_whole : Option Addr} {sl_is_whole : Array (Option Value)} {oc_is_whole kV_is_whole dc_is_whole pm_is_whole cd_is_whole ct_is_whole : Value}
    (a_is_whole : PySem.W.nsIn K mainGlobals "is_whole" = some (some (.ref f_is_whole)))
    (l_is_whole : K.lookup f_is_whole = some ⟨oc_is_whole, od_is_whole, .func (PySem.W.fnOf "is_whole" "is_whole" (defArgs s_is_whole) (defBody s_is_whole) (defScope s_is_whole) .none kV_is_whole dc_is_whole pm_is_whole an_is_whole cd_is_whole ct_is_whole), sl_is_whole⟩)
    (d_is_whole : PySem.W.codeIn K cd_is_whole "is_whole" = true)
    (e_is_whole : PySem.W.keepIn K (.ref f_is_whole) = true)
    {f_form_of : Addr} {od_form_of an_form_of : Option Addr} {sl_form_of : Array (Option Value)} {oc_form_of kV_form_of dc_form_of pm_form_of cd_form_of ct_form_of : Value}
    (a_form_of : PySem.W.nsIn K mainGlobals "form_of" = some (some (.ref f_form_of)))
    (l_form_of : K.lookup f_form_of = some ⟨oc_form_of, od_form_of, .func (PySem.W.fnOf "form_of" "form_of" (defArgs s_form_of) (defBody s_form_of) (defScope s_form_of) .none kV_form_of dc_form_of pm_form_of an_form_of cd_form_of ct_form_of), sl_form_of⟩)
    (d_form_of : PySem.W.codeIn K cd_form_of "form_of" = true)
    (e_form_of : PySem.W.keepIn K (.ref f_form_of) = true)
    {f_Machine_entry : Addr} {od_Machine_entry an_Machine_entry : Option Addr} {sl_Machine_entry : Array (Option Value)} {oc_Machine_entry kV_Machine_entry dc_Machine_entry pm_Machine_entry cd_Machine_entry ct_Machine_entry : Value}
    (a_Machine_Machine_entry : PySem.W.findIn K (.ref C_Machine) "entry" = some (some (.ref f_Machine_entry)))
    (i_Machine_Machine_entry : PySem.W.isFn K (.ref f_Machine_entry) = true)
    (l_Machine_entry : K.lookup f_Machine_entry = some ⟨oc_Machine_entry, od_Machine_entry, .func (PySem.W.fnOf "entry" "Machine.entry" (defArgs s_Machine_entry) (defBody s_Machine_entry) (defScope s_Machine_entry) .none kV_Machine_entry dc_Machine_entry pm_Machine_entry an_Machine_entry cd_Machine_entry ct_Machine_entry), sl_Machine_entry⟩)
    (d_Machine_entry : PySem.W.codeIn K cd_Machine_entry "Machine.entry" = true)
    (e_Machine_entry : PySem.W.keepIn K (.ref f_Machine_entry) = true)
    {f_Machine_program : Addr} {od_Machine_program an_Machine_program : Option Addr} {sl_Machine_program : Array (Option Value)} {oc_Machine_program kV_Machine_program dc_Machine_program pm_Machine_program cd_Machine_program ct_Machine_program : Value}
    (a_Machine_Machine_program : PySem.W.findIn K (.ref C_Machine) "program" = some (some (.ref f_Machine_program)))
    (i_Machine_Machine_program : PySem.W.isFn K (.ref f_Machine_program) = true)
    (l_Machine_program : K.lookup f_Machine_program = some ⟨oc_Machine_program, od_Machine_program, .func (PySem.W.fnOf "program" "Machine.program" (defArgs s_Machine_program) (defBody s_Machine_program) (defScope s_Machine_program) .none kV_Machine_program dc_Machine_program pm_Machine_program an_Machine_program cd_Machine_program ct_Machine_program), sl_Machine_program⟩)
    (d_Machine_program : PySem.W.codeIn K cd_Machine_program "Machine.program" = true)
    (e_Machine_program : PySem.W.keepIn K (.ref f_Machine_program) = true)
    {f__law_cell_at : Addr} {od__law_cell_at an__law_cell_at : Option Addr} {sl__law_cell_at : Array (Option Value)} {oc__law_cell_at kV__law_cell_at dc__law_cell_at pm__law_cell_at cd__law_cell_at ct__law_cell_at : Value}
    (a__law_cell_at : PySem.W.nsIn K mainGlobals "_law_cell_at" = some (some (.ref f__law_cell_at)))
    (l__law_cell_at : K.lookup f__law_cell_at = some ⟨oc__law_cell_at, od__law_cell_at, .func (PySem.W.fnOf "_law_cell_at" "_law_cell_at" (defArgs s__law_cell_at) (defBody s__law_cell_at) (defScope s__law_cell_at) .none kV__law_cell_at dc__law_cell_at pm__law_cell_at an__law_cell_at cd__law_cell_at ct__law_cell_at), sl__law_cell_at⟩)
    (d__law_cell_at : PySem.W.codeIn K cd__law_cell_at "_law_cell_at" = true)
    (e__law_cell_at : PySem.W.keepIn K (.ref f__law_cell_at) = true)
    {f__law_is_no_program : Addr} {od__law_is_no_program an__law_is_no_program : Option Addr} {sl__law_is_no_program : Array (Option Value)} {oc__law_is_no_program kV__law_is_no_program dc__law_is_no_program pm__law_is_no_program cd__law_is_no_program ct__law_is_no_program : Value}
    (a__law_is_no_program : PySem.W.nsIn K mainGlobals "_law_is_no_program" = some (some (.ref f__law_is_no_program)))
    (l__law_is_no_program : K.lookup f__law_is_no_program = some ⟨oc__law_is_no_program, od__law_is_no_program, .func (PySem.W.fnOf "_law_is_no_program" "_law_is_no_program" (defArgs s__law_is_no_program) (defBody s__law_is_no_program) (defScope s__law_is_no_program) .none kV__law_is_no_program dc__law_is_no_program pm__law_is_no_program an__law_is_no_program cd__law_is_no_program ct__law_is_no_program), sl__law_is_no_program⟩)
    (d__law_is_no_program : PySem.W.codeIn K cd__law_is_no_program "_law_is_no_program" = true)
    (e__law_is_no_program : PySem.W.keepIn K (.ref f__law_is_no_program) = true)
    {f__law_mix : Addr} {od__law_mix an__law_mix : Option Addr} {sl__law_mix : Array (Option Value)} {oc__law_mix kV__law_mix dc__law_mix pm__law_mix cd__law_mix ct__law_mix : Value}
    (a__law_mix : PySem.W.nsIn K mainGlobals "_law_mix" = some (some (.ref f__law_mix)))
    (l__law_mix : K.lookup f__law_mix = some ⟨oc__law_mix, od__law_mix, .func (PySem.W.fnOf "_law_mix" "_law_mix" (defArgs s__law_mix) (defBody s__law_mix) (defScope s__law_mix) .none kV__law_mix dc__law_mix pm__law_mix an__law_mix cd__law_mix ct__law_mix), sl__law_mix⟩)
    (d__law_mix : PySem.W.codeIn K cd__law_mix "_law_mix" = true)
    (e__law_mix : PySem.W.keepIn K (.ref f__law_mix) = true)
    {f_is_at : Addr} {od_is_at an_is_at : Option Addr} {sl_is_at : Array (Option Value)} {oc_is_at kV_is_at dc_is_at pm_is_at cd_is_at ct_is_at : Value}
    (a_is_at : PySem.W.nsIn K mainGlobals "is_at" = some (some (.ref f_is_at)))
    (l_is_at : K.lookup f_is_at = some ⟨oc_is_at, od_is_at, .func (PySem.W.fnOf "is_at" "is_at" (defArgs s_is_at) (defBody s_is_at) (defScope s_is_at) .none kV_is_at dc_is_at pm_is_at an_is_at cd_is_at ct_is_at), sl_is_at⟩)
    (d_is_at : PySem.W.codeIn K cd_is_at "is_at" = true)
    (e_is_at : PySem.W.keepIn K (.ref f_is_at) = true)
    {f_is_register : Addr} {od_is_register an_is_register : Option Addr} {sl_is_register : Array (Option Value)} {oc_is_register kV_is_register dc_is_register pm_is_register cd_is_register ct_is_register : Value}
    (a_is_register : PySem.W.nsIn K mainGlobals "is_register" = some (some (.ref f_is_register)))
    (l_is_register : K.lookup f_is_register = some ⟨oc_is_register, od_is_register, .func (PySem.W.fnOf "is_register" "is_register" (defArgs s_is_register) (defBody s_is_register) (defScope s_is_register) .none kV_is_register dc_is_register pm_is_register an_is_register cd_is_register ct_is_register), sl_is_register⟩)
    (d_is_register : PySem.W.codeIn K cd_is_register "is_register" = true)
    (e_is_register : PySem.W.keepIn K (.ref f_is_register) = true)
    {f_is_word : Addr} {od_is_word an_is_word : Option Addr} {sl_is_word : Array (Option Value)} {oc_is_word kV_is_word dc_is_word pm_is_word cd_is_word ct_is_word : Value}
    (a_is_word : PySem.W.nsIn K mainGlobals "is_word" = some (some (.ref f_is_word)))
    (l_is_word : K.lookup f_is_word = some ⟨oc_is_word, od_is_word, .func (PySem.W.fnOf "is_word" "is_word" (defArgs s_is_word) (defBody s_is_word) (defScope s_is_word) .none kV_is_word dc_is_word pm_is_word an_is_word cd_is_word ct_is_word), sl_is_word⟩)
    (d_is_word : PySem.W.codeIn K cd_is_word "is_word" = true)
    (e_is_word : PySem.W.keepIn K (.ref f_is_word) = true)
    {f_Shelf___init__ : Addr} {od_Shelf___init__ an_Shelf___init__ : Option Addr} {sl_Shelf___init__ : Array (Option Value)} {oc_Shelf___init__ kV_Shelf___init__ dc_Shelf___init__ pm_Shelf___init__ cd_Shelf___init__ ct_Shelf___init__ : Value}
    (a_Shelf_Shelf___init__ : PySem.W.findIn K (.ref C_Shelf) "__init__" = some (some (.ref f_Shelf___init__)))
    (i_Shelf_Shelf___init__ : PySem.W.isFn K (.ref f_Shelf___init__) = true)
    (l_Shelf___init__ : K.lookup f_Shelf___init__ = some ⟨oc_Shelf___init__, od_Shelf___init__, .func (PySem.W.fnOf "__init__" "Shelf.__init__" (defArgs s_Shelf___init__) (defBody s_Shelf___init__) (defScope s_Shelf___init__) .none kV_Shelf___init__ dc_Shelf___init__ pm_Shelf___init__ an_Shelf___init__ cd_Shelf___init__ ct_Shelf___init__), sl_Shelf___init__⟩)
    (d_Shelf___init__ : PySem.W.codeIn K cd_Shelf___init__ "Shelf.__init__" = true)
    (e_Shelf___init__ : PySem.W.keepIn K (.ref f_Shelf___init__) = true)
    {f__law_row : Addr} {od__law_row an__law_row : Option Addr} {sl__law_row : Array (Option Value)} {oc__law_row kV__law_row dc__law_row pm__law_row cd__law_row ct__law_row : Value}
    (a__law_row : PySem.W.nsIn K mainGlobals "_law_row" = some (some (.ref f__law_row)))
    (l__law_row : K.lookup f__law_row = some ⟨oc__law_row, od__law_row, .func (PySem.W.fnOf "_law_row" "_law_row" (defArgs s__law_row) (defBody s__law_row) (defScope s__law_row) .none kV__law_row dc__law_row pm__law_row an__law_row cd__law_row ct__law_row), sl__law_row⟩)
    (d__law_row : PySem.W.codeIn K cd__law_row "_law_row" = true)
    (e__law_row : PySem.W.keepIn K (.ref f__law_row) = true)
    {f__law_spoil : Addr} {od__law_spoil an__law_spoil : Option Addr} {sl__law_spoil : Array (Option Value)} {oc__law_spoil kV__law_spoil dc__law_spoil pm__law_spoil cd__law_spoil ct__law_spoil : Value}
    (a__law_spoil : PySem.W.nsIn K mainGlobals "_law_spoil" = some (some (.ref f__law_spoil)))
    (l__law_spoil : K.lookup f__law_spoil = some ⟨oc__law_spoil, od__law_spoil, .func (PySem.W.fnOf "_law_spoil" "_law_spoil" (defArgs s__law_spoil) (defBody s__law_spoil) (defScope s__law_spoil) .none kV__law_spoil dc__law_spoil pm__law_spoil an__law_spoil cd__law_spoil ct__law_spoil), sl__law_spoil⟩)
    (d__law_spoil : PySem.W.codeIn K cd__law_spoil "_law_spoil" = true)
    (e__law_spoil : PySem.W.keepIn K (.ref f__law_spoil) = true)
    {f_is_part : Addr} {od_is_part an_is_part : Option Addr} {sl_is_part : Array (Option Value)} {oc_is_part kV_is_part dc_is_part pm_is_part cd_is_part ct_is_part : Value}
    (a_is_part : PySem.W.nsIn K mainGlobals "is_part" = some (some (.ref f_is_part)))
    (l_is_part : K.lookup f_is_part = some ⟨oc_is_part, od_is_part, .func (PySem.W.fnOf "is_part" "is_part" (defArgs s_is_part) (defBody s_is_part) (defScope s_is_part) .none kV_is_part dc_is_part pm_is_part an_is_part cd_is_part ct_is_part), sl_is_part⟩)
    (d_is_part : PySem.W.codeIn K cd_is_part "is_part" = true)
    (e_is_part : PySem.W.keepIn K (.ref f_is_part) = true)
    {f_are_words : Addr} {od_are_words an_are_words : Option Addr} {sl_are_words : Array (Option Value)} {oc_are_words kV_are_words dc_are_words pm_are_words cd_are_words ct_are_words : Value}
    (a_are_words : PySem.W.nsIn K mainGlobals "are_words" = some (some (.ref f_are_words)))
    (l_are_words : K.lookup f_are_words = some ⟨oc_are_words, od_are_words, .func (PySem.W.fnOf "are_words" "are_words" (defArgs s_are_words) (defBody s_are_words) (defScope s_are_words) .none kV_are_words dc_are_words pm_are_words an_are_words cd_are_words ct_are_words), sl_are_words⟩)
    (d_are_words : PySem.W.codeIn K cd_are_words "are_words" = true)
    (e_are_words : PySem.W.keepIn K (.ref f_are_words) = true)
    {f_is_order : Addr} {od_is_order an_is_order : Option Addr} {sl_is_order : Array (Option Value)} {oc_is_order kV_is_order dc_is_order pm_is_order cd_is_order ct_is_order : Value}
    (a_is_order : PySem.W.nsIn K mainGlobals "is_order" = some (some (.ref f_is_order)))
    (l_is_order : K.lookup f_is_order = some ⟨oc_is_order, od_is_order, .func (PySem.W.fnOf "is_order" "is_order" (defArgs s_is_order) (defBody s_is_order) (defScope s_is_order) .none kV_is_order dc_is_order pm_is_order an_is_order cd_is_order ct_is_order), sl_is_order⟩)
    (d_is_order : PySem.W.codeIn K cd_is_order "is_order" = true)
    (e_is_order : PySem.W.keepIn K (.ref f_is_order) = true)
    {f_is_image : Addr} {od_is_image an_is_image : Option Addr} {sl_is_image : Array (Option Value)} {oc_is_image kV_is_image dc_is_image pm_is_image cd_is_image ct_is_image : Value}
    (a_is_image : PySem.W.nsIn K mainGlobals "is_image" = some (some (.ref f_is_image)))
    (l_is_image : K.lookup f_is_image = some ⟨oc_is_image, od_is_image, .func (PySem.W.fnOf "is_image" "is_image" (defArgs s_is_image) (defBody s_is_image) (defScope s_is_image) .none kV_is_image dc_is_image pm_is_image an_is_image cd_is_image ct_is_image), sl_is_image⟩)
    (d_is_image : PySem.W.codeIn K cd_is_image "is_image" = true)
    (e_is_image : PySem.W.keepIn K (.ref f_is_image) = true)
    {f_Ways___init__ : Addr} {od_Ways___init__ an_Ways___init__ : Option Addr} {sl_Ways___init__ : Array (Option Value)} {oc_Ways___init__ kV_Ways___init__ dc_Ways___init__ pm_Ways___init__ cd_Ways___init__ ct_Ways___init__ : Value}
    (ua_Ways___init__ : PySem.W.findCls K (.ref C_Ways) (.type "type") "__init__" = some (.val (.ref f_Ways___init__)))
    (ur_Ways : PySem.W.readsIn K C_Ways (.type "type") = true)
    (ug_Ways : PySem.W.specialIn K (.ref C_Ways) "__getattribute__" = some (some (.builtin "type.__getattribute__")))
    (l_Ways___init__ : K.lookup f_Ways___init__ = some ⟨oc_Ways___init__, od_Ways___init__, .func (PySem.W.fnOf "__init__" "Ways.__init__" (defArgs s_Ways___init__) (defBody s_Ways___init__) (defScope s_Ways___init__) .none kV_Ways___init__ dc_Ways___init__ pm_Ways___init__ an_Ways___init__ cd_Ways___init__ ct_Ways___init__), sl_Ways___init__⟩)
    (d_Ways___init__ : PySem.W.codeIn K cd_Ways___init__ "Ways.__init__" = true)
    (e_Ways___init__ : PySem.W.keepIn K (.ref f_Ways___init__) = true)
    {f_checked : Addr} {od_checked an_checked : Option Addr} {sl_checked : Array (Option Value)} {oc_checked kV_checked dc_checked pm_checked cd_checked ct_checked : Value}
    (a_checked : PySem.W.nsIn K mainGlobals "checked" = some (some (.ref f_checked)))
    (l_checked : K.lookup f_checked = some ⟨oc_checked, od_checked, .func (PySem.W.fnOf "checked" "checked" (defArgs s_checked) (defBody s_checked) (defScope s_checked) .none kV_checked dc_checked pm_checked an_checked cd_checked ct_checked), sl_checked⟩)
    (d_checked : PySem.W.codeIn K cd_checked "checked" = true)
    (e_checked : PySem.W.keepIn K (.ref f_checked) = true)
    {f_Memory___init__ : Addr} {od_Memory___init__ an_Memory___init__ : Option Addr} {sl_Memory___init__ : Array (Option Value)} {oc_Memory___init__ kV_Memory___init__ dc_Memory___init__ pm_Memory___init__ cd_Memory___init__ ct_Memory___init__ : Value}
    (a_Memory_Memory___init__ : PySem.W.findIn K (.ref C_Memory) "__init__" = some (some (.ref f_Memory___init__)))
    (i_Memory_Memory___init__ : PySem.W.isFn K (.ref f_Memory___init__) = true)
    (l_Memory___init__ : K.lookup f_Memory___init__ = some ⟨oc_Memory___init__, od_Memory___init__, .func (PySem.W.fnOf "__init__" "Memory.__init__" (defArgs s_Memory___init__) (defBody s_Memory___init__) (defScope s_Memory___init__) .none kV_Memory___init__ dc_Memory___init__ pm_Memory___init__ an_Memory___init__ cd_Memory___init__ ct_Memory___init__), sl_Memory___init__⟩)
    (d_Memory___init__ : PySem.W.codeIn K cd_Memory___init__ "Memory.__init__" = true)
    (e_Memory___init__ : PySem.W.keepIn K (.ref f_Memory___init__) = true)
    {f_Machine___init__ : Addr} {od_Machine___init__ an_Machine___init__ : Option Addr} {sl_Machine___init__ : Array (Option Value)} {oc_Machine___init__ kV_Machine___init__ dc_Machine___init__ pm_Machine___init__ cd_Machine___init__ ct_Machine___init__ : Value}
    (a_Machine_Machine___init__ : PySem.W.findIn K (.ref C_Machine) "__init__" = some (some (.ref f_Machine___init__)))
    (i_Machine_Machine___init__ : PySem.W.isFn K (.ref f_Machine___init__) = true)
    {T_Machine___init__ : Addr} {td_Machine___init__ : Option Addr} {tsl_Machine___init__ : Array (Option Value)} {tc_Machine___init__ : Value} {tn_Machine___init__ : Nat}
    (l_Machine___init__ : K.lookup f_Machine___init__ = some ⟨oc_Machine___init__, od_Machine___init__, .func (PySem.W.fnOf "__init__" "Machine.__init__" (defArgs s_Machine___init__) (defBody s_Machine___init__) (defScope s_Machine___init__) (.ref T_Machine___init__) kV_Machine___init__ dc_Machine___init__ pm_Machine___init__ an_Machine___init__ cd_Machine___init__ ct_Machine___init__), sl_Machine___init__⟩)
    (t_Machine___init__ : K.lookup T_Machine___init__ = some ⟨tc_Machine___init__, td_Machine___init__, .seq #[.none, .none] tn_Machine___init__, tsl_Machine___init__⟩)
    (d_Machine___init__ : PySem.W.codeIn K cd_Machine___init__ "Machine.__init__" = true)
    (e_Machine___init__ : PySem.W.keepIn K (.ref f_Machine___init__) = true)
    {f_Plain___init__ : Addr} {od_Plain___init__ an_Plain___init__ : Option Addr} {sl_Plain___init__ : Array (Option Value)} {oc_Plain___init__ kV_Plain___init__ dc_Plain___init__ pm_Plain___init__ cd_Plain___init__ ct_Plain___init__ : Value}
    (a_Plain_Plain___init__ : PySem.W.findIn K (.ref C_Plain) "__init__" = some (some (.ref f_Plain___init__)))
    (i_Plain_Plain___init__ : PySem.W.isFn K (.ref f_Plain___init__) = true)
    (l_Plain___init__ : K.lookup f_Plain___init__ = some ⟨oc_Plain___init__, od_Plain___init__, .func (PySem.W.fnOf "__init__" "Plain.__init__" (defArgs s_Plain___init__) (defBody s_Plain___init__) (defScope s_Plain___init__) .none kV_Plain___init__ dc_Plain___init__ pm_Plain___init__ an_Plain___init__ cd_Plain___init__ ct_Plain___init__), sl_Plain___init__⟩)
    (d_Plain___init__ : PySem.W.codeIn K cd_Plain___init__ "Plain.__init__" = true)
    (e_Plain___init__ : PySem.W.keepIn K (.ref f_Plain___init__) = true)
    {f_bare : Addr} {od_bare an_bare : Option Addr} {sl_bare : Array (Option Value)} {oc_bare kV_bare dc_bare pm_bare cd_bare ct_bare : Value}
    (a_bare : PySem.W.nsIn K mainGlobals "bare" = some (some (.ref f_bare)))
    (l_bare : K.lookup f_bare = some ⟨oc_bare, od_bare, .func (PySem.W.fnOf "bare" "bare" (defArgs s_bare) (defBody s_bare) (defScope s_bare) .none kV_bare dc_bare pm_bare an_bare cd_bare ct_bare), sl_bare⟩)
    (d_bare : PySem.W.codeIn K cd_bare "bare" = true)
    (e_bare : PySem.W.keepIn K (.ref f_bare) = true)
    {f__law_refused : Addr} {od__law_refused an__law_refused : Option Addr} {sl__law_refused : Array (Option Value)} {oc__law_refused kV__law_refused dc__law_refused pm__law_refused cd__law_refused ct__law_refused : Value}
    (a__law_refused : PySem.W.nsIn K mainGlobals "_law_refused" = some (some (.ref f__law_refused)))
    (l__law_refused : K.lookup f__law_refused = some ⟨oc__law_refused, od__law_refused, .func (PySem.W.fnOf "_law_refused" "_law_refused" (defArgs s__law_refused) (defBody s__law_refused) (defScope s__law_refused) .none kV__law_refused dc__law_refused pm__law_refused an__law_refused cd__law_refused ct__law_refused), sl__law_refused⟩)
    (d__law_refused : PySem.W.codeIn K cd__law_refused "_law_refused" = true)
    (e__law_refused : PySem.W.keepIn K (.ref f__law_refused) = true)
    : ∃ fd : FuncData, (∀ (s : Shared) (u : Value), BindsTo s fd ⟨[u], []⟩ [("_law_script", u)]) ∧ ∀ base : Heap, K.In base → base.Ns mainGlobals mg → FnOk P w K mg base (L2.CX P w) 11 fa fd ["_law_script"] (sp_law K) := by
  let A : Ad := { C_HouseError := C_HouseError, C_NoImage := C_NoImage, C_NoShelf := C_NoShelf, C_NoBound := C_NoBound, C_NoProgram := C_NoProgram, C_NoText := C_NoText, C_Fault := C_Fault, C_Shelf := C_Shelf, C_Memory := C_Memory, C_Ways := C_Ways, C_Plain := C_Plain, C_Machine := C_Machine }
  have T : Txt K mg A := { b_ValueError := PySem.W.mg_none_of X G b_ValueError, b_all := PySem.W.mg_none_of X G b_all, b_bool := PySem.W.mg_none_of X G b_bool, b_enumerate := PySem.W.mg_none_of X G b_enumerate, b_int := PySem.W.mg_none_of X G b_int, b_isinstance := PySem.W.mg_none_of X G b_isinstance, b_len := PySem.W.mg_none_of X G b_len, b_list := PySem.W.mg_none_of X G b_list, b_range := PySem.W.mg_none_of X G b_range, b_str := PySem.W.mg_none_of X G b_str, b_tuple := PySem.W.mg_none_of X G b_tuple, b_zip := PySem.W.mg_none_of X G b_zip, c_CELLS := cst_of X G c_CELLS, c_MOST_PAGES := cst_of X G c_MOST_PAGES, c_MOST_ROWS := cst_of X G c_MOST_ROWS, c_MOST := cst_of X G c_MOST, k_HouseError := PySem.W.mg_of X G k_HouseError, k_NoImage := PySem.W.mg_of X G k_NoImage, k_NoShelf := PySem.W.mg_of X G k_NoShelf, k_NoBound := PySem.W.mg_of X G k_NoBound, k_NoProgram := PySem.W.mg_of X G k_NoProgram, k_NoText := PySem.W.mg_of X G k_NoText, k_Fault := PySem.W.mg_of X G k_Fault, k_Shelf := PySem.W.mg_of X G k_Shelf, k_Memory := PySem.W.mg_of X G k_Memory, k_Ways := PySem.W.mg_of X G k_Ways, k_Plain := PySem.W.mg_of X G k_Plain, k_Machine := PySem.W.mg_of X G k_Machine, cl_Shelf := ⟨pg_Shelf, ph_Shelf, po_Shelf, ps_Shelf⟩, mk_Shelf := ⟨pm_Shelf, pk_Shelf⟩, no_Shelf_most := no_Shelf_most, no_Shelf_line := no_Shelf_line, cl_Memory := ⟨pg_Memory, ph_Memory, po_Memory, ps_Memory⟩, mk_Memory := ⟨pm_Memory, pk_Memory⟩, no_Memory_held := no_Memory_held, cl_Plain := ⟨pg_Plain, ph_Plain, po_Plain, ps_Plain⟩, mk_Plain := ⟨pm_Plain, pk_Plain⟩, no_Plain_memory := no_Plain_memory, no_Plain_replies := no_Plain_replies, no_Plain_heard := no_Plain_heard, no_Plain_held := no_Plain_held, no_Plain_base := no_Plain_base, cl_Machine := ⟨pg_Machine, ph_Machine, po_Machine, ps_Machine⟩, mk_Machine := ⟨pm_Machine, pk_Machine⟩, no_Machine_ways := no_Machine_ways, no_Machine_orders := no_Machine_orders, no_Machine_door := no_Machine_door, no_Machine_cells := no_Machine_cells, no_Machine_counter := no_Machine_counter, no_Machine_ruling := no_Machine_ruling, no_Machine_fallen := no_Machine_fallen, no_Machine_stopped := no_Machine_stopped, no_Machine_notes := no_Machine_notes, x_NoImage := ⟨xq_NoImage, xk_NoImage, xb_NoImage, xt_NoImage, ⟨x1_NoImage, x2_NoImage, xb_NoImage, x3_NoImage, x4_NoImage, x5_NoImage, x6_NoImage, x7_NoImage⟩, PySem.W.exm_ref hb_HouseError hd_HouseError ht_HouseError x8_NoImage⟩, x_NoShelf := ⟨xq_NoShelf, xk_NoShelf, xb_NoShelf, xt_NoShelf, ⟨x1_NoShelf, x2_NoShelf, xb_NoShelf, x3_NoShelf, x4_NoShelf, x5_NoShelf, x6_NoShelf, x7_NoShelf⟩, PySem.W.exm_ref hb_HouseError hd_HouseError ht_HouseError x8_NoShelf⟩, x_NoProgram := ⟨⟨⟨nm_NoProgram, q_NoProgram, N_NoProgram, bs_NoProgram, _, sn_NoProgram, sub_NoProgram, ab_NoProgram, col_NoProgram, dd_NoProgram, k0_NoProgram, k1_NoProgram, k2_NoProgram, k3_NoProgram, k5_NoProgram, xl_NoProgram, rfl⟩, xs_NoProgram, xb_NoProgram, xt_NoProgram, xk_NoProgram⟩, ⟨x1_NoProgram, x2_NoProgram, xb_NoProgram, x3_NoProgram⟩, ⟨x1_NoProgram, x2_NoProgram, xb_NoProgram, x3_NoProgram, x4_NoProgram, x5_NoProgram, x6_NoProgram, x7_NoProgram⟩, PySem.W.exm_ref hb_HouseError hd_HouseError ht_HouseError x8_NoProgram⟩, xn_NoProgram_place := xn_NoProgram_place, kt_NoImage_NoText := kt_NoImage_NoText, kt_NoImage_Fault := kt_NoImage_Fault, kt_NoImage_NoBound := kt_NoImage_NoBound, kt_NoImage_NoImage := kt_NoImage_NoImage, kt_NoImage_NoShelf := kt_NoImage_NoShelf, kt_NoImage_NoProgram := kt_NoImage_NoProgram, kt_NoImage_ValueError := kt_NoImage_ValueError, kt_NoShelf_NoText := kt_NoShelf_NoText, kt_NoShelf_Fault := kt_NoShelf_Fault, kt_NoShelf_NoBound := kt_NoShelf_NoBound, kt_NoShelf_NoImage := kt_NoShelf_NoImage, kt_NoShelf_NoShelf := kt_NoShelf_NoShelf, kt_NoShelf_NoProgram := kt_NoShelf_NoProgram, kt_NoShelf_ValueError := kt_NoShelf_ValueError, kt_NoProgram_NoText := kt_NoProgram_NoText, kt_NoProgram_Fault := kt_NoProgram_Fault, kt_NoProgram_NoBound := kt_NoProgram_NoBound, kt_NoProgram_NoImage := kt_NoProgram_NoImage, kt_NoProgram_NoShelf := kt_NoProgram_NoShelf, kt_NoProgram_NoProgram := kt_NoProgram_NoProgram, kt_NoProgram_ValueError := kt_NoProgram_ValueError, un_HouseError := ⟨ur_HouseError, ug_HouseError, ua_HouseError⟩ }
  have F_law : Df K mg "law" s_law ["_law_script"] := .mk' X G a_law l_law d_law e_law (fun _ _ _ _ _ _ us hl => match us, hl with | [_], _ => rfl)
  have F_NoProgram___init__ : Mf K C_NoProgram "__init__" "NoProgram.__init__" s_NoProgram___init__ ["self", "place"] := .mk' a_NoProgram_NoProgram___init__ i_NoProgram_NoProgram___init__ l_NoProgram___init__ d_NoProgram___init__ e_NoProgram___init__ (fun _ _ _ _ _ _ us hl => match us, hl with | [_, _], _ => rfl)
  have F_is_whole : Df K mg "is_whole" s_is_whole ["thing"] := .mk' X G a_is_whole l_is_whole d_is_whole e_is_whole (fun _ _ _ _ _ _ us hl => match us, hl with | [_], _ => rfl)
  have F_form_of : Df K mg "form_of" s_form_of ["word"] := .mk' X G a_form_of l_form_of d_form_of e_form_of (fun _ _ _ _ _ _ us hl => match us, hl with | [_], _ => rfl)
  have F_Machine_entry : Mf K C_Machine "entry" "Machine.entry" s_Machine_entry ["self"] := .mk' a_Machine_Machine_entry i_Machine_Machine_entry l_Machine_entry d_Machine_entry e_Machine_entry (fun _ _ _ _ _ _ us hl => match us, hl with | [_], _ => rfl)
  have F_Machine_program : Mf K C_Machine "program" "Machine.program" s_Machine_program ["self"] := .mk' a_Machine_Machine_program i_Machine_Machine_program l_Machine_program d_Machine_program e_Machine_program (fun _ _ _ _ _ _ us hl => match us, hl with | [_], _ => rfl)
  have F__law_cell_at : Df K mg "_law_cell_at" s__law_cell_at ["_law_script", "_law_k"] := .mk' X G a__law_cell_at l__law_cell_at d__law_cell_at e__law_cell_at (fun _ _ _ _ _ _ us hl => match us, hl with | [_, _], _ => rfl)
  have F__law_is_no_program : Df K mg "_law_is_no_program" s__law_is_no_program ["_law_found", "_law_due"] := .mk' X G a__law_is_no_program l__law_is_no_program d__law_is_no_program e__law_is_no_program (fun _ _ _ _ _ _ us hl => match us, hl with | [_, _], _ => rfl)
  have F__law_mix : Df K mg "_law_mix" s__law_mix ["_law_cell", "_law_by", "_law_many"] := .mk' X G a__law_mix l__law_mix d__law_mix e__law_mix (fun _ _ _ _ _ _ us hl => match us, hl with | [_, _, _], _ => rfl)
  have F_is_at : Df K mg "is_at" s_is_at ["thing"] := .mk' X G a_is_at l_is_at d_is_at e_is_at (fun _ _ _ _ _ _ us hl => match us, hl with | [_], _ => rfl)
  have F_is_register : Df K mg "is_register" s_is_register ["thing"] := .mk' X G a_is_register l_is_register d_is_register e_is_register (fun _ _ _ _ _ _ us hl => match us, hl with | [_], _ => rfl)
  have F_is_word : Df K mg "is_word" s_is_word ["thing"] := .mk' X G a_is_word l_is_word d_is_word e_is_word (fun _ _ _ _ _ _ us hl => match us, hl with | [_], _ => rfl)
  have F_Shelf___init__ : Mf K C_Shelf "__init__" "Shelf.__init__" s_Shelf___init__ ["self", "most"] := .mk' a_Shelf_Shelf___init__ i_Shelf_Shelf___init__ l_Shelf___init__ d_Shelf___init__ e_Shelf___init__ (fun _ _ _ _ _ _ us hl => match us, hl with | [_, _], _ => rfl)
  have F__law_row : Df K mg "_law_row" s__law_row ["_law_cell"] := .mk' X G a__law_row l__law_row d__law_row e__law_row (fun _ _ _ _ _ _ us hl => match us, hl with | [_], _ => rfl)
  have F__law_spoil : Df K mg "_law_spoil" s__law_spoil ["_law_rows", "_law_script"] := .mk' X G a__law_spoil l__law_spoil d__law_spoil e__law_spoil (fun _ _ _ _ _ _ us hl => match us, hl with | [_, _], _ => rfl)
  have F_is_part : Df K mg "is_part" s_is_part ["thing", "sign"] := .mk' X G a_is_part l_is_part d_is_part e_is_part (fun _ _ _ _ _ _ us hl => match us, hl with | [_, _], _ => rfl)
  have F_are_words : Df K mg "are_words" s_are_words ["thing"] := .mk' X G a_are_words l_are_words d_are_words e_are_words (fun _ _ _ _ _ _ us hl => match us, hl with | [_], _ => rfl)
  have F_is_order : Df K mg "is_order" s_is_order ["thing"] := .mk' X G a_is_order l_is_order d_is_order e_is_order (fun _ _ _ _ _ _ us hl => match us, hl with | [_], _ => rfl)
  have F_is_image : Df K mg "is_image" s_is_image ["thing"] := .mk' X G a_is_image l_is_image d_is_image e_is_image (fun _ _ _ _ _ _ us hl => match us, hl with | [_], _ => rfl)
  have F_U_Ways___init__ : Uf K C_Ways "__init__" "Ways.__init__" s_Ways___init__ ["self", "most"] := .mk' ur_Ways ug_Ways ua_Ways___init__ l_Ways___init__ d_Ways___init__ e_Ways___init__ (fun _ _ _ _ _ _ us hl => match us, hl with | [_, _], _ => rfl)
  have F_checked : Df K mg "checked" s_checked ["program", "entry"] := .mk' X G a_checked l_checked d_checked e_checked (fun _ _ _ _ _ _ us hl => match us, hl with | [_, _], _ => rfl)
  have F_Memory___init__ : Mf K C_Memory "__init__" "Memory.__init__" s_Memory___init__ ["self", "pages"] := .mk' a_Memory_Memory___init__ i_Memory_Memory___init__ l_Memory___init__ d_Memory___init__ e_Memory___init__ (fun _ _ _ _ _ _ us hl => match us, hl with | [_, _], _ => rfl)
  have F_Machine___init__ : MfD K C_Machine "__init__" "Machine.__init__" s_Machine___init__ ["self", "ways", "program", "entry", "core", "events"] [.non, .non] := .mk' a_Machine_Machine___init__ i_Machine_Machine___init__ l_Machine___init__ d_Machine___init__ e_Machine___init__ t_Machine___init__ (.cons rfl (.cons rfl .nil)) (List.cons_ne_nil _ _) (by simp) (fun _ _ _ _ _ _ _ us its hl hi => match us, hl, its, hi with | [_, _, _, _, _, _], _, [_, _], _ => ⟨_, rfl, rfl⟩) (fun _ _ _ _ _ _ _ us its hl hi => match us, hl, its, hi with | [_, _, _, _], _, [_, _], _ => ⟨_, rfl, rfl⟩)
  have F_Plain___init__ : Mf K C_Plain "__init__" "Plain.__init__" s_Plain___init__ ["self", "pages", "most", "words"] := .mk' a_Plain_Plain___init__ i_Plain_Plain___init__ l_Plain___init__ d_Plain___init__ e_Plain___init__ (fun _ _ _ _ _ _ us hl => match us, hl with | [_, _, _, _], _ => rfl)
  have F_bare : Df K mg "bare" s_bare ["pages", "most", "program", "entry", "words"] := .mk' X G a_bare l_bare d_bare e_bare (fun _ _ _ _ _ _ us hl => match us, hl with | [_, _, _, _, _], _ => rfl)
  have F__law_refused : Df K mg "_law_refused" s__law_refused ["_law_kind", "_law_pages", "_law_most", "_law_rows", "_law_entry"] := .mk' X G a__law_refused l__law_refused d__law_refused e__law_refused (fun _ _ _ _ _ _ us hl => match us, hl with | [_, _, _, _, _], _ => rfl)
  exact L_law hfa T F_law F_NoProgram___init__ F_is_whole F_form_of F_Machine_entry F_Machine_program F__law_cell_at F__law_is_no_program F__law_mix F_is_at F_is_register F_is_word F_Shelf___init__ F__law_row F__law_spoil F_is_part F_are_words F_is_order F_is_image F_U_Ways___init__ F_checked F_Memory___init__ F_Machine___init__ F_Plain___init__ F_bare F__law_refused
end Gx
open PySem PySem.W PyProof.Rows
namespace HeadR
open PySem PySem.W PySem.Calls PyProof.Rows
noncomputable abbrev R : OpenRow := OpenLaw.row PySem.Challenge.rw_shadowpages_k32_programs_refused
noncomputable def q : Program := view R.prog [0, 2, 3, 4, 5, 6, 7, 8, 9, 10, 11, 13, 14, 15, 16, 17, 19, 20, 21, 22, 23, 24, 26, 27, 28, 29, 30, 31, 32, 34, 35, 37, 38, 40, 41, 43, 44, 45, 46, 47, 48, 49, 50, 52, 53, 54, 55, 56, 57, 58, 60, 61, 62, 64, 65, 67, 68, 69, 70, 71, 72, 73]
def as0 : List Addr := [2, 3, 15, 17, 18, 20, 21, 22, 29, 30, 31, 32, 35, 42, 43, 44, 47, 54, 55, 56, 59, 66, 67, 68, 71, 78, 79, 80, 83, 90]
def as1 : List Addr := [91, 92, 95, 102, 103, 104, 107, 114, 116, 117, 119, 120, 121, 122, 123, 126, 133, 135, 136, 138, 139, 140, 141, 142, 145, 152, 154, 155, 157, 158]
def as2 : List Addr := [159, 160, 161, 164, 166, 167, 169, 170, 171, 173, 174, 176, 177, 178, 180, 181, 183, 184, 185, 187, 188, 190, 191, 192, 194, 195, 197, 198, 199, 201]
def as3 : List Addr := [202, 204, 205, 206, 209, 210, 211, 214, 215, 216, 218, 219, 221, 222, 223, 225, 226, 228, 229, 230, 232, 233, 235, 236, 237, 239, 240, 242, 243, 244]
def as4 : List Addr := [246, 247, 249, 250, 251, 253, 254, 256, 257, 258, 260, 261, 263, 264, 272, 274, 275, 277, 278, 279, 281, 282, 284, 285, 286, 288, 289, 291, 292, 293]
def as5 : List Addr := [295, 296, 298, 299, 300, 302, 303, 305, 306, 307, 309, 310, 312, 313, 314, 316, 317, 319, 320, 321, 322, 323, 324, 325, 335, 337, 338, 340, 341, 342]
def as6 : List Addr := [344, 345, 347, 348, 349, 351, 352, 354, 355, 356, 358, 359, 361, 362, 363, 365, 366, 368, 369, 370, 372, 373, 375, 376, 377, 379, 380, 382, 383, 384]
def as7 : List Addr := [385, 386, 387, 388, 391, 398, 401, 402, 403, 405, 406, 408, 409, 410, 412, 413, 415, 416, 417, 419, 420, 422, 423, 424, 426, 427, 429, 430, 431, 433]
def as8 : List Addr := [434, 436, 437, 438, 440, 441, 443, 444, 445, 448, 449, 450, 451, 452, 455, 457, 458, 460, 461, 462, 464, 465, 467, 468, 469, 471, 472, 474, 475, 476]
def as9 : List Addr := [478, 479, 481, 482, 483, 485, 486, 488, 489, 490, 492, 493, 495, 496, 497, 499, 500, 502, 503, 504, 506, 507, 509, 510, 511, 513, 514, 516, 517, 518]
def as10 : List Addr := [520, 521, 523, 524, 525, 527, 528, 530, 531, 532, 539, 541, 542, 544, 545, 546, 548, 549, 551, 552, 553, 555, 556, 558, 559, 560, 562, 563, 565, 566]
def as11 : List Addr := [567, 569, 570, 572, 573, 574, 576, 577, 579, 580, 581, 583, 584, 586, 587, 588, 590, 591, 593, 594, 595, 597, 598, 600, 601, 602, 604, 605, 607, 608]
def as12 : List Addr := [609, 611, 612, 614, 615, 616, 618, 619, 621, 622, 623, 625, 626, 628, 629, 630, 632, 633, 635, 636, 637, 639, 640, 642, 643, 644, 646, 647, 649, 650]
def as13 : List Addr := [651, 653, 654, 656, 657, 658, 660, 661, 663, 664, 665, 667, 668, 670, 671, 672, 675, 676, 677, 680, 681, 682, 683, 684, 687, 694, 696, 697, 699, 700]
def as14 : List Addr := [701, 703, 704, 706, 707, 708, 710, 711, 713, 714, 715, 717, 718, 720, 721, 722, 724, 725, 727, 728, 729, 731, 732, 734, 735, 736, 738, 739, 741, 742]
def as15 : List Addr := [743, 745, 746, 748, 749, 750, 751, 752, 762, 763, 765, 766, 768, 769, 770, 772, 773, 775, 776, 777, 779, 780, 782, 783, 784, 786, 787, 789, 790, 791]
def as16 : List Addr := [793, 794, 796, 797, 798, 800, 801, 803, 804, 805, 807, 808, 810, 811, 812, 814, 815, 817, 818, 819, 821, 822, 824, 825, 826, 828, 829, 831, 832, 833]
def as17 : List Addr := [835, 836, 838, 839, 840, 842, 843, 845, 846, 847, 849, 850, 852, 853, 854, 856, 857, 859, 860, 861, 862, 863, 864, 865, 868, 870, 871, 873, 874, 875]
def as18 : List Addr := [877, 878, 880, 881, 882, 884, 885, 887, 888, 889, 891, 892, 894, 895, 896, 898, 899, 901, 902, 903, 905, 906, 908, 909, 910, 912, 913, 915, 916, 917]
def as19 : List Addr := [920, 921]
def as : List Addr := as0 ++ as1 ++ as2 ++ as3 ++ as4 ++ as5 ++ as6 ++ as7 ++ as8 ++ as9 ++ as10 ++ as11 ++ as12 ++ as13 ++ as14 ++ as15 ++ as16 ++ as17 ++ as18 ++ as19
noncomputable abbrev K : Params → Frag := HeadR.aux.heap_39
set_option maxRecDepth 100000
set_option maxHeartbeats 0
theorem ek : ∀ P, as = (K P).map (·.1) := fun _ => by kernel_rfl
noncomputable abbrev run (w : World) (os : OsState) : Option SharedT := HeadRun.endF (HeadRun.stepQ (HeadRun.denQ HeadRun.tabQ) R.prog w) 30000 R.prog w os
theorem pr {α β δ : Type} {o : Option δ} {f : δ → α} {g : δ → β} {a : α} {b : β} (x : o.map f = some a) (y : o.map g = some b) : o.map (fun s => (f s, g s)) = some (a, b) := by
  cases o with
  | none => cases x
  | some s => cases x; cases y; rfl
theorem unl {α β δ : Type} {o : Option δ} {f : δ → α} {g : δ → β} {a : α} {b : β} (x : o.map (fun s => (f s, g s)) = some (a, b)) : o.map f = some a := by
  cases o with
  | none => cases x
  | some s => cases x; rfl
theorem unr {α β δ : Type} {o : Option δ} {f : δ → α} {g : δ → β} {a : α} {b : β} (x : o.map (fun s => (f s, g s)) = some (a, b)) : o.map g = some b := by
  cases o with
  | none => cases x
  | some s => cases x; rfl
theorem an {δ : Type} {o : Option δ} {f g : δ → Bool} (x : o.map f = some true) (y : o.map g = some true) : o.map (fun s => f s && g s) = some true := by
  cases o with
  | none => cases x
  | some s =>
    have a : f s = true := Option.some.inj x
    have b : g s = true := Option.some.inj y
    show some (f s && g s) = some true
    rw [a, b]
    rfl
theorem g0 (w : World) (os : OsState) : (run w os).map (fun s => (HeadRun.looksF R.prog (boot_heap w.params) s.abs, s.abs.heap.bltView, s.abs.heap.accountedOkI (importedModules R.prog.main.body), (s.abs.heap.isNs mainGlobals, s.abs.heap.isNs builtinsNs, tablesOk q s.abs.heap), ((xlAt q [] s.abs && recOk (RowW.records R.toRowW) s.abs), if true then s.abs.gens.size == 0 else !leftWithCleanup s.abs.gens), pinSeenD q (drecsOf q) s.abs, as.map (HeadRun.getT s), clsSeenW q [] s.abs)) = some ((true, bltViewBooted, true, (true, true, true), (true, true), pinGoodD (drecsOf q), ((K w.params).map fun x => some x.2), clsGoodW q [])) := by kernel_rfl
theorem c0 (w : World) (os : OsState) : (run w os).map (fun s => HeadRun.looksF R.prog (boot_heap w.params) s.abs) = some (true) := (unl (g0 w os))
theorem c2 (w : World) (os : OsState) : (run w os).map (fun s => s.abs.heap.bltView) = some (bltViewBooted) := (unl (unr (g0 w os)))
theorem c3b (w : World) (os : OsState) : (run w os).map (fun s => s.abs.heap.accountedOkI (importedModules R.prog.main.body)) = some (true) := (unl (unr (unr (g0 w os))))
theorem c3c (w : World) (os : OsState) : (run w os).map (fun s => (s.abs.heap.isNs mainGlobals, s.abs.heap.isNs builtinsNs, tablesOk q s.abs.heap)) = some ((true, true, true)) := (unl (unr (unr (unr (g0 w os)))))
theorem c3d (w : World) (os : OsState) : (run w os).map (fun s => ((xlAt q [] s.abs && recOk (RowW.records R.toRowW) s.abs), if true then s.abs.gens.size == 0 else !leftWithCleanup s.abs.gens)) = some ((true, true)) := (unl (unr (unr (unr (unr (g0 w os))))))
theorem c5 (w : World) (os : OsState) : (run w os).map (fun s => pinSeenD q (drecsOf q) s.abs) = some (pinGoodD (drecsOf q)) := (unl (unr (unr (unr (unr (unr (g0 w os)))))))
theorem k (w : World) (os : OsState) : (run w os).map (fun s => as.map (HeadRun.getT s)) = some (((K w.params).map fun x => some x.2)) := (unl (unr (unr (unr (unr (unr (unr (g0 w os))))))))
theorem c9 (w : World) (os : OsState) : (run w os).map (fun s => clsSeenW q [] s.abs) = some (clsGoodW q []) := (unr (unr (unr (unr (unr (unr (unr (g0 w os))))))))
theorem g1 (w : World) (os : OsState) : (run w os).map (fun s => (seen ((recsOf q).map (·.name)) (ownsOf q) [] { s.abs with gens := #[] }, s.abs.heap.keysOk (looseW q []) ((recsOf q).map (·.name)) ((litsOf q).map (·.1)) ((clssOf q (looseW q [])).map (·.name)))) = some ((expectedOf q, true)) := by kernel_rfl
theorem c1 (w : World) (os : OsState) : (run w os).map (fun s => seen ((recsOf q).map (·.name)) (ownsOf q) [] { s.abs with gens := #[] }) = some (expectedOf q) := (unl (g1 w os))
theorem c3a (w : World) (os : OsState) : (run w os).map (fun s => s.abs.heap.keysOk (looseW q []) ((recsOf q).map (·.name)) ((litsOf q).map (·.1)) ((clssOf q (looseW q [])).map (·.name))) = some (true) := (unr (g1 w os))
theorem g2 (w : World) (os : OsState) : (run w os).map (fun s => (tabsOk q s.abs, wideSeen q s.abs)) = some ((true, wideGood q)) := by kernel_rfl
theorem c4 (w : World) (os : OsState) : (run w os).map (fun s => tabsOk q s.abs) = some (true) := (unl (g2 w os))
theorem c8 (w : World) (os : OsState) : (run w os).map (fun s => wideSeen q s.abs) = some (wideGood q) := (unr (g2 w os))
theorem g3 (w : World) (os : OsState) : (run w os).map (fun s => (plainSeenE q (looseW q []) s.abs, plainSeenD q [] s.abs)) = some ((plainGoodE q (looseW q []), plainGoodD q [])) := by kernel_rfl
theorem c6 (w : World) (os : OsState) : (run w os).map (fun s => plainSeenE q (looseW q []) s.abs) = some (plainGoodE q (looseW q [])) := (unl (g3 w os))
theorem c7 (w : World) (os : OsState) : (run w os).map (fun s => plainSeenD q [] s.abs) = some (plainGoodD q []) := (unr (g3 w os))
theorem t2 (w : World) (os : OsState) : (run w os).map (fun s => HeadRun.seenQ q [] (importedModules R.prog.main.body) (fun s => xlAt q [] s && recOk (RowW.records R.toRowW) s) s.abs) = some (openGood q []) := by
  have e : (fun s : SharedT => HeadRun.seenQ q [] (importedModules R.prog.main.body) (fun s => xlAt q [] s && recOk (RowW.records R.toRowW) s) s.abs) = fun s => openSeen q [] (importedModules R.prog.main.body) (fun s => xlAt q [] s && recOk (RowW.records R.toRowW) s) true s.abs := funext fun s => (HeadRun.seenQ_eq _ _ _ _ _).symm
  rw [e]
  unfold openSeen openGood
  exact pr (c1 w os) (pr (c2 w os) (pr (an (an (an (an (an (an (c3a w os) (c3b w os)) (unl (c3c w os))) (unl (unr (c3c w os)))) (unr (unr (c3c w os)))) (unl (c3d w os))) (unr (c3d w os))) (pr (c4 w os) (pr (c5 w os) (pr (c6 w os) (pr (c7 w os) (pr (c8 w os) (c9 w os))))))))
theorem left : LeftO R.prog q [] (fun s => xlAt q [] s && recOk (RowW.records R.toRowW) s) (Hook.obs (kHook K as ek)) (Hook.val (kHook K as ek)) 30800 true :=
  HeadRun.left_oneK (M := 30000) (by kernel_rfl) (by rfl) (fun s => by kernel_rfl) (by rfl) fun w os => pr (c0 w os) (pr (t2 w os) (k w os))
end HeadR
set_option maxRecDepth 100000 in
set_option maxHeartbeats 0 in
theorem PySem.Challenge.cw_shadowpages_k32_programs_refused_holds : PySem.Challenge.rw_shadowpages_k32_programs_refused.Holds := by
  w_on; o_law
  refine PySem.W.holds_open (q := HeadR.q) (loose := []) (Xt := fun s => xlAt HeadR.q [] s && recOk (RowW.records HeadR.R.toRowW) s) (XP := XL HeadR.q []) (Yf := Hook.obs (kHook HeadR.aux.heap_39 HeadR.as HeadR.ek)) (Ya := Hook.val (kHook HeadR.aux.heap_39 HeadR.as HeadR.ek)) (YP := Hook.says (kHook HeadR.aux.heap_39 HeadR.as HeadR.ek)) (N := 30800) HeadR.left (Hook.of (kHook HeadR.aux.heap_39 HeadR.as HeadR.ek)) (Hook.keeps (kHook HeadR.aux.heap_39 HeadR.as HeadR.ek)) (fun s e => xl_of s (Bool.and_eq_true_iff.mp e).1) XL.keeps (by rfl) (by rfl) (by rfl) (fun s e => recFacts_of (Bool.and_eq_true_iff.mp e).2) (by rfl) (by first | assumption | decide +kernel) (by decide +kernel) ⟨rfl, rfl, rfl, rfl, rfl, by decide +kernel⟩ ?hw ?hc
  (case hw => w_witness2)
  k_fill
  refine Z.walk_z (l := PySem.Challenge.rw_shadowpages_k32_programs_refused) (k := 11) rfl rfl (by decide) (fun w h Y => PySem.W.kIn_of Y) ?F
  case F =>
    intro w mg fa h KX G hmg
    refine' Gx.all_mk KX G hmg ?hb_HouseError ?hd_HouseError ?ht_HouseError ?b_ValueError ?b_all ?b_bool ?b_enumerate ?b_int ?b_isinstance ?b_len ?b_list ?b_range ?b_str ?b_tuple ?b_zip ?c_CELLS ?c_MOST_PAGES ?c_MOST_ROWS ?c_MOST ?k_HouseError ?k_NoImage ?k_NoShelf ?k_NoBound ?k_NoProgram ?k_NoText ?k_Fault ?k_Shelf ?k_Memory ?k_Ways ?k_Plain ?k_Machine ?pg_Shelf ?ph_Shelf ?po_Shelf ?ps_Shelf ?pm_Shelf ?pk_Shelf ?no_Shelf_most ?no_Shelf_line ?pg_Memory ?ph_Memory ?po_Memory ?ps_Memory ?pm_Memory ?pk_Memory ?no_Memory_held ?pg_Plain ?ph_Plain ?po_Plain ?ps_Plain ?pm_Plain ?pk_Plain ?no_Plain_memory ?no_Plain_replies ?no_Plain_heard ?no_Plain_held ?no_Plain_base ?pg_Machine ?ph_Machine ?po_Machine ?ps_Machine ?pm_Machine ?pk_Machine ?no_Machine_ways ?no_Machine_orders ?no_Machine_door ?no_Machine_cells ?no_Machine_counter ?no_Machine_ruling ?no_Machine_fallen ?no_Machine_stopped ?no_Machine_notes ?xk_NoImage ?xb_NoImage ?xt_NoImage ?x1_NoImage ?x2_NoImage ?x3_NoImage ?x4_NoImage ?x5_NoImage ?x6_NoImage ?x7_NoImage ?x8_NoImage ?xq_NoImage ?xk_NoShelf ?xb_NoShelf ?xt_NoShelf ?x1_NoShelf ?x2_NoShelf ?x3_NoShelf ?x4_NoShelf ?x5_NoShelf ?x6_NoShelf ?x7_NoShelf ?x8_NoShelf ?xq_NoShelf ?xk_NoProgram ?xb_NoProgram ?xt_NoProgram ?x1_NoProgram ?x2_NoProgram ?x3_NoProgram ?x4_NoProgram ?x5_NoProgram ?x6_NoProgram ?x7_NoProgram ?x8_NoProgram ?xl_NoProgram ?xs_NoProgram ?xn_NoProgram_place ?kt_NoImage_NoText ?kt_NoImage_Fault ?kt_NoImage_NoBound ?kt_NoImage_NoImage ?kt_NoImage_NoShelf ?kt_NoImage_NoProgram ?kt_NoImage_ValueError ?kt_NoShelf_NoText ?kt_NoShelf_Fault ?kt_NoShelf_NoBound ?kt_NoShelf_NoImage ?kt_NoShelf_NoShelf ?kt_NoShelf_NoProgram ?kt_NoShelf_ValueError ?kt_NoProgram_NoText ?kt_NoProgram_Fault ?kt_NoProgram_NoBound ?kt_NoProgram_NoImage ?kt_NoProgram_NoShelf ?kt_NoProgram_NoProgram ?kt_NoProgram_ValueError ?ur_HouseError ?ug_HouseError ?ua_HouseError ?a_law ?l_law ?d_law ?e_law ?a_NoProgram_NoProgram___init__ ?i_NoProgram_NoProgram___init__ ?l_NoProgram___init__ ?d_NoProgram___init__ ?e_NoProgram___init__ ?a_is_whole ?l_is_whole ?d_is_whole ?e_is_whole ?a_form_of ?l_form_of ?d_form_of ?e_form_of ?a_Machine_Machine_entry ?i_Machine_Machine_entry ?l_Machine_entry ?d_Machine_entry ?e_Machine_entry ?a_Machine_Machine_program ?i_Machine_Machine_program ?l_Machine_program ?d_Machine_program ?e_Machine_program ?a__law_cell_at ?l__law_cell_at ?d__law_cell_at ?e__law_cell_at ?a__law_is_no_program ?l__law_is_no_program ?d__law_is_no_program ?e__law_is_no_program ?a__law_mix ?l__law_mix ?d__law_mix ?e__law_mix ?a_is_at ?l_is_at ?d_is_at ?e_is_at ?a_is_register ?l_is_register ?d_is_register ?e_is_register ?a_is_word ?l_is_word ?d_is_word ?e_is_word ?a_Shelf_Shelf___init__ ?i_Shelf_Shelf___init__ ?l_Shelf___init__ ?d_Shelf___init__ ?e_Shelf___init__ ?a__law_row ?l__law_row ?d__law_row ?e__law_row ?a__law_spoil ?l__law_spoil ?d__law_spoil ?e__law_spoil ?a_is_part ?l_is_part ?d_is_part ?e_is_part ?a_are_words ?l_are_words ?d_are_words ?e_are_words ?a_is_order ?l_is_order ?d_is_order ?e_is_order ?a_is_image ?l_is_image ?d_is_image ?e_is_image ?ua_Ways___init__ ?ur_Ways ?ug_Ways ?l_Ways___init__ ?d_Ways___init__ ?e_Ways___init__ ?a_checked ?l_checked ?d_checked ?e_checked ?a_Memory_Memory___init__ ?i_Memory_Memory___init__ ?l_Memory___init__ ?d_Memory___init__ ?e_Memory___init__ ?a_Machine_Machine___init__ ?i_Machine_Machine___init__ ?l_Machine___init__ ?t_Machine___init__ ?d_Machine___init__ ?e_Machine___init__ ?a_Plain_Plain___init__ ?i_Plain_Plain___init__ ?l_Plain___init__ ?d_Plain___init__ ?e_Plain___init__ ?a_bare ?l_bare ?d_bare ?e_bare ?a__law_refused ?l__law_refused ?d__law_refused ?e__law_refused
    (case k_HouseError => k_is)
    (case k_NoImage => k_is)
    (case k_NoShelf => k_is)
    (case k_NoBound => k_is)
    (case k_NoProgram => k_is)
    (case k_NoText => k_is)
    (case k_Fault => k_is)
    (case k_Shelf => k_is)
    (case k_Memory => k_is)
    (case k_Ways => k_is)
    (case k_Plain => k_is)
    (case k_Machine => k_is)
    (case hb_HouseError => k_is)
    (case hd_HouseError => k_is)
    (case ht_HouseError => k_is)
    (case b_ValueError => k_is)
    (case b_all => k_is)
    (case b_bool => k_is)
    (case b_enumerate => k_is)
    (case b_int => k_is)
    (case b_isinstance => k_is)
    (case b_len => k_is)
    (case b_list => k_is)
    (case b_range => k_is)
    (case b_str => k_is)
    (case b_tuple => k_is)
    (case b_zip => k_is)
    (case c_CELLS => k_is)
    (case c_MOST_PAGES => k_is)
    (case c_MOST_ROWS => k_is)
    (case c_MOST => k_is)
    (case pg_Shelf => k_is)
    (case ph_Shelf => k_is)
    (case po_Shelf => k_is)
    (case ps_Shelf => k_is)
    (case pm_Shelf => k_is)
    (case pk_Shelf => k_is)
    (case no_Shelf_most => k_is)
    (case no_Shelf_line => k_is)
    (case pg_Memory => k_is)
    (case ph_Memory => k_is)
    (case po_Memory => k_is)
    (case ps_Memory => k_is)
    (case pm_Memory => k_is)
    (case pk_Memory => k_is)
    (case no_Memory_held => k_is)
    (case pg_Plain => k_is)
    (case ph_Plain => k_is)
    (case po_Plain => k_is)
    (case ps_Plain => k_is)
    (case pm_Plain => k_is)
    (case pk_Plain => k_is)
    (case no_Plain_memory => k_is)
    (case no_Plain_replies => k_is)
    (case no_Plain_heard => k_is)
    (case no_Plain_held => k_is)
    (case no_Plain_base => k_is)
    (case pg_Machine => k_is)
    (case ph_Machine => k_is)
    (case po_Machine => k_is)
    (case ps_Machine => k_is)
    (case pm_Machine => k_is)
    (case pk_Machine => k_is)
    (case no_Machine_ways => k_is)
    (case no_Machine_orders => k_is)
    (case no_Machine_door => k_is)
    (case no_Machine_cells => k_is)
    (case no_Machine_counter => k_is)
    (case no_Machine_ruling => k_is)
    (case no_Machine_fallen => k_is)
    (case no_Machine_stopped => k_is)
    (case no_Machine_notes => k_is)
    (case xk_NoImage => first | k_is | rfl)
    (case xb_NoImage => first | k_is | rfl)
    (case xt_NoImage => first | k_is | rfl)
    (case x1_NoImage => first | k_is | rfl)
    (case x2_NoImage => first | k_is | rfl)
    (case x3_NoImage => first | k_is | rfl)
    (case x4_NoImage => first | k_is | rfl)
    (case x5_NoImage => first | k_is | rfl)
    (case x6_NoImage => first | k_is | rfl)
    (case x7_NoImage => first | k_is | rfl)
    (case x8_NoImage => first | k_is | rfl)
    (case xq_NoImage => k_exc)
    (case xk_NoShelf => first | k_is | rfl)
    (case xb_NoShelf => first | k_is | rfl)
    (case xt_NoShelf => first | k_is | rfl)
    (case x1_NoShelf => first | k_is | rfl)
    (case x2_NoShelf => first | k_is | rfl)
    (case x3_NoShelf => first | k_is | rfl)
    (case x4_NoShelf => first | k_is | rfl)
    (case x5_NoShelf => first | k_is | rfl)
    (case x6_NoShelf => first | k_is | rfl)
    (case x7_NoShelf => first | k_is | rfl)
    (case x8_NoShelf => first | k_is | rfl)
    (case xq_NoShelf => k_exc)
    (case xk_NoProgram => first | k_is | rfl)
    (case xb_NoProgram => first | k_is | rfl)
    (case xt_NoProgram => first | k_is | rfl)
    (case x1_NoProgram => first | k_is | rfl)
    (case x2_NoProgram => first | k_is | rfl)
    (case x3_NoProgram => first | k_is | rfl)
    (case x4_NoProgram => first | k_is | rfl)
    (case x5_NoProgram => first | k_is | rfl)
    (case x6_NoProgram => first | k_is | rfl)
    (case x7_NoProgram => first | k_is | rfl)
    (case x8_NoProgram => first | k_is | rfl)
    (case xl_NoProgram => first | k_is | rfl)
    (case xs_NoProgram => first | k_is | rfl)
    (case xn_NoProgram_place => first | k_is | rfl)
    (case kt_NoImage_NoText => first | k_is | rfl)
    (case kt_NoImage_Fault => first | k_is | rfl)
    (case kt_NoImage_NoBound => first | k_is | rfl)
    (case kt_NoImage_NoImage => first | k_is | rfl)
    (case kt_NoImage_NoShelf => first | k_is | rfl)
    (case kt_NoImage_NoProgram => first | k_is | rfl)
    (case kt_NoImage_ValueError => first | k_is | rfl)
    (case kt_NoShelf_NoText => first | k_is | rfl)
    (case kt_NoShelf_Fault => first | k_is | rfl)
    (case kt_NoShelf_NoBound => first | k_is | rfl)
    (case kt_NoShelf_NoImage => first | k_is | rfl)
    (case kt_NoShelf_NoShelf => first | k_is | rfl)
    (case kt_NoShelf_NoProgram => first | k_is | rfl)
    (case kt_NoShelf_ValueError => first | k_is | rfl)
    (case kt_NoProgram_NoText => first | k_is | rfl)
    (case kt_NoProgram_Fault => first | k_is | rfl)
    (case kt_NoProgram_NoBound => first | k_is | rfl)
    (case kt_NoProgram_NoImage => first | k_is | rfl)
    (case kt_NoProgram_NoShelf => first | k_is | rfl)
    (case kt_NoProgram_NoProgram => first | k_is | rfl)
    (case kt_NoProgram_ValueError => first | k_is | rfl)
    (case ur_HouseError => k_is)
    (case ug_HouseError => k_is)
    (case ua_HouseError => k_is)
    (case a_law => k_is)
    (case l_law => k_is)
    (case d_law => k_is)
    (case e_law => k_is)
    (case a_NoProgram_NoProgram___init__ => k_is)
    (case i_NoProgram_NoProgram___init__ => k_is)
    (case l_NoProgram___init__ => k_is)
    (case d_NoProgram___init__ => k_is)
    (case e_NoProgram___init__ => k_is)
    (case a_is_whole => k_is)
    (case l_is_whole => k_is)
    (case d_is_whole => k_is)
    (case e_is_whole => k_is)
    (case a_form_of => k_is)
    (case l_form_of => k_is)
    (case d_form_of => k_is)
    (case e_form_of => k_is)
    (case a_Machine_Machine_entry => k_is)
    (case i_Machine_Machine_entry => k_is)
    (case l_Machine_entry => k_is)
    (case d_Machine_entry => k_is)
    (case e_Machine_entry => k_is)
    (case a_Machine_Machine_program => k_is)
    (case i_Machine_Machine_program => k_is)
    (case l_Machine_program => k_is)
    (case d_Machine_program => k_is)
    (case e_Machine_program => k_is)
    (case a__law_cell_at => k_is)
    (case l__law_cell_at => k_is)
    (case d__law_cell_at => k_is)
    (case e__law_cell_at => k_is)
    (case a__law_is_no_program => k_is)
    (case l__law_is_no_program => k_is)
    (case d__law_is_no_program => k_is)
    (case e__law_is_no_program => k_is)
    (case a__law_mix => k_is)
    (case l__law_mix => k_is)
    (case d__law_mix => k_is)
    (case e__law_mix => k_is)
    (case a_is_at => k_is)
    (case l_is_at => k_is)
    (case d_is_at => k_is)
    (case e_is_at => k_is)
    (case a_is_register => k_is)
    (case l_is_register => k_is)
    (case d_is_register => k_is)
    (case e_is_register => k_is)
    (case a_is_word => k_is)
    (case l_is_word => k_is)
    (case d_is_word => k_is)
    (case e_is_word => k_is)
    (case a_Shelf_Shelf___init__ => k_is)
    (case i_Shelf_Shelf___init__ => k_is)
    (case l_Shelf___init__ => k_is)
    (case d_Shelf___init__ => k_is)
    (case e_Shelf___init__ => k_is)
    (case a__law_row => k_is)
    (case l__law_row => k_is)
    (case d__law_row => k_is)
    (case e__law_row => k_is)
    (case a__law_spoil => k_is)
    (case l__law_spoil => k_is)
    (case d__law_spoil => k_is)
    (case e__law_spoil => k_is)
    (case a_is_part => k_is)
    (case l_is_part => k_is)
    (case d_is_part => k_is)
    (case e_is_part => k_is)
    (case a_are_words => k_is)
    (case l_are_words => k_is)
    (case d_are_words => k_is)
    (case e_are_words => k_is)
    (case a_is_order => k_is)
    (case l_is_order => k_is)
    (case d_is_order => k_is)
    (case e_is_order => k_is)
    (case a_is_image => k_is)
    (case l_is_image => k_is)
    (case d_is_image => k_is)
    (case e_is_image => k_is)
    (case ua_Ways___init__ => k_is)
    (case ur_Ways => k_is)
    (case ug_Ways => k_is)
    (case l_Ways___init__ => k_is)
    (case d_Ways___init__ => k_is)
    (case e_Ways___init__ => k_is)
    (case a_checked => k_is)
    (case l_checked => k_is)
    (case d_checked => k_is)
    (case e_checked => k_is)
    (case a_Memory_Memory___init__ => k_is)
    (case i_Memory_Memory___init__ => k_is)
    (case l_Memory___init__ => k_is)
    (case d_Memory___init__ => k_is)
    (case e_Memory___init__ => k_is)
    (case a_Machine_Machine___init__ => k_is)
    (case i_Machine_Machine___init__ => k_is)
    (case l_Machine___init__ => k_is)
    (case t_Machine___init__ => k_is)
    (case d_Machine___init__ => k_is)
    (case e_Machine___init__ => k_is)
    (case a_Plain_Plain___init__ => k_is)
    (case i_Plain_Plain___init__ => k_is)
    (case l_Plain___init__ => k_is)
    (case d_Plain___init__ => k_is)
    (case e_Plain___init__ => k_is)
    (case a_bare => k_is)
    (case l_bare => k_is)
    (case d_bare => k_is)
    (case e_bare => k_is)
    (case a__law_refused => k_is)
    (case l__law_refused => k_is)
    (case d__law_refused => k_is)
    (case e__law_refused => k_is)
#print axioms PySem.Challenge.cw_shadowpages_k32_programs_refused_holds
