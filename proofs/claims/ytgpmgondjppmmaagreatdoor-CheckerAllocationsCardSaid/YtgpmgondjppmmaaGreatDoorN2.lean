/- Allocations in plain words: what an offer allows, what a bound is worth. Plain arithmetic. No condition. -/
import Derived.Test.YtgpmgondjppmmaaGreatDoorN1
set_option linter.unnecessarySimpa false
set_option linter.unusedSectionVars false
set_option linter.unusedSimpArgs false
set_option linter.unusedVariables false
namespace Go.Alc
structure Opt where
 lo:Int
 hi:Int
 cost:Int
 deriving Inhabited
structure Rq where
 c:Rat
 f:List Rat
 low:Option Rat
 high:Option Rat
instance:Inhabited Rq := ⟨⟨0,[],none,none⟩⟩
structure Off where
 nom:List Int
 opts:List (List Opt)
 reqs:List Rq
namespace Off
variable (O:Off)
def n:Nat := O.nom.length
def m:Nat := O.reqs.length
def row (i:Nat):List Opt := O.opts.getD i []
def cnt (i:Nat):Nat := (O.row i).length
def opt (i k:Nat):Opt := (O.row i).getD k default
def rq (r:Nat):Rq := O.reqs.getD r default
end Off
def mcN (l:List Opt):Nat → Int
 | 0 => (l.getD 0 default).cost
 | i+1 => if (l.getD (i+1) default).cost < mcN l i then (l.getD (i+1) default).cost else mcN l i
theorem mcN_le (l:List Opt):∀ {i j:Nat},j ≤ i → mcN l i ≤ (l.getD j default).cost
 | 0,j,h => by
  obtain rfl:j = 0 := by omega
  exact Int.le_refl _
 | i+1,j,h => by
  unfold mcN
  rcases Nat.lt_or_ge j (i+1) with h1 | h1
  ·have := mcN_le l (i := i) (j := j) (by omega)
   split <;> omega
  ·obtain rfl:j = i+1 := by omega
   split <;> omega
def rmax (x y:Rat):Rat := if x < y then y else x
def rmin (x y:Rat):Rat := if y < x then y else x
theorem rmax_l (x y:Rat):x ≤ rmax x y := by unfold rmax; split <;> grind
theorem rmax_r (x y:Rat):y ≤ rmax x y := by unfold rmax; split <;> grind
theorem rmin_l (x y:Rat):rmin x y ≤ x := by unfold rmin; split <;> grind
theorem rmin_r (x y:Rat):rmin x y ≤ y := by unfold rmin; split <;> grind
theorem rmax_self (x:Rat):rmax x x = x := by unfold rmax; split <;> rfl
theorem rmin_self (x:Rat):rmin x x = x := by unfold rmin; split <;> rfl
section
variable (O:Off)
def cheap (i:Nat):Int := mcN (O.row i) (O.cnt i - 1)
def ci (l:List Nat) (i:Nat):Int := if i < l.length then (O.opt i (l.getD i 0)).cost else cheap O i
def bnd (l:List Nat):Nat → Int
 | 0 => 0
 | i+1 => bnd l i + ci O l i
def bound (l:List Nat):Int := bnd O l O.n
def ends (r i k:Nat):Rat × Rat := ((O.rq r).f.getD i 0 * ((O.nom.getD i 0 + (O.opt i k).lo:Int):Rat),(O.rq r).f.getD i 0 * ((O.nom.getD i 0 + (O.opt i k).hi:Int):Rat))
def sp (r i k:Nat):Rat × Rat := (rmin (ends O r i k).1 (ends O r i k).2,rmax (ends O r i k).1 (ends O r i k).2)
def comb (x y:Rat × Rat):Rat × Rat := (rmax x.1 y.1,rmin x.2 y.2)
def gl (r i:Nat):Nat → Rat × Rat
 | 0 => sp O r i 0
 | j+1 => comb (gl r i j) (sp O r i (j+1))
def glA (r i:Nat):Nat → Rat × Rat
 | 0 => sp O r i 0
 | j+1 => comb (glA r i j) (sp O r i j)
theorem glA_eq (r i:Nat):∀ j,glA O r i (j+1) = gl O r i j
 | 0 => by simp [glA,gl,comb,rmax_self,rmin_self]
 | j+1 => by rw [glA,glA_eq r i j,gl]
def si (r:Nat) (l:List Nat) (i:Nat):Rat × Rat := if i < l.length then sp O r i (l.getD i 0) else gl O r i (O.cnt i - 1)
def wst (r:Nat) (l:List Nat):Nat → Rat × Rat
 | 0 => ((O.rq r).c,(O.rq r).c)
 | i+1 => ((wst r l i).1 + (si O r l i).1,(wst r l i).2 + (si O r l i).2)
def worst (r:Nat) (l:List Nat):Rat × Rat := wst O r l O.n
def above (r:Nat) (l:List Nat):Bool := match (O.rq r).high with
 | some h => decide (h < (worst O r l).2)
 | none => false
def below (r:Nat) (l:List Nat):Bool := match (O.rq r).low with
 | some h => decide ((worst O r l).1 < h)
 | none => false
def fa (r:Nat) (l:List Nat):Int := if above O r l = true then 1 else if below O r l = true then -1 else 0
def okAll (l:List Nat):Prop := ∀ r,r < O.m → fa O r l = 0
def ff (l:List Nat):Nat → Nat → Int × Int
 | 0,_ => (-1,0)
 | t+1,r => if fa O r l = 0 then ff l t (r+1) else ((r:Int),fa O r l)
def fl (l:List Nat):Int × Int := ff O l O.m 0
theorem ff_spec (l:List Nat):∀ (t r:Nat),((ff O l t r).2 = 0 ∧ (ff O l t r).1 = -1 ∧ ∀ q,r ≤ q → q < r + t → fa O q l = 0) ∨ ((ff O l t r).2 ≠ 0 ∧ ∃ q:Nat,(ff O l t r).1 = q ∧ r ≤ q ∧ q < r + t ∧ (ff O l t r).2 = fa O q l)
 | 0,r => .inl ⟨rfl,rfl,fun q h1 h2 => by omega⟩
 | t+1,r => by
  unfold ff
  by_cases h:fa O r l = 0
  ·rw [if_pos h]
   rcases ff_spec l t (r+1) with ⟨h1,h0,h2⟩ | ⟨h1,q,h2,h3,h4,h5⟩
   ·refine .inl ⟨h1,h0,fun q a b => ?_⟩
    rcases Nat.lt_or_ge r q with h3 | h3
    ·exact h2 q h3 (by omega)
    ·obtain rfl:q = r := by omega
     exact h
   ·exact .inr ⟨h1,q,h2,by omega,by omega,h5⟩
  ·rw [if_neg h]
   exact .inr ⟨h,r,rfl,by omega,by omega,rfl⟩
theorem fl_ok {l:List Nat} (h:(fl O l).2 = 0):okAll O l := by
 rcases ff_spec O l O.m 0 with ⟨_,_,h2⟩ | ⟨h1,_⟩
 ·exact fun r hr => h2 r (Nat.zero_le _) (by omega)
 ·exact absurd h h1
theorem fl_no {l:List Nat} (h:(fl O l).2 ≠ 0):∃ q:Nat,(fl O l).1 = q ∧ q < O.m ∧ (fl O l).2 = fa O q l := by
 rcases ff_spec O l O.m 0 with ⟨h1,_⟩ | ⟨_,q,h2,_,h4,h5⟩
 ·exact absurd h1 h
 ·exact ⟨q,h2,by omega,h5⟩
theorem fl_iff {l:List Nat}:(fl O l).2 = 0 ↔ okAll O l := by
 refine ⟨fl_ok O,fun h => ?_⟩
 rcases ff_spec O l O.m 0 with ⟨h1,_⟩ | ⟨h1,q,h2,_,h4,h5⟩
 ·exact h1
 ·rw [show (fl O l).2 = fa O q l from h5]
  exact h q (by omega)
theorem getD_app {l:List Nat} {k i:Nat} (h:i < l.length):(l ++ [k]).getD i 0 = l.getD i 0 := by
 simp [List.getD,List.getElem?_append_left h]
theorem getD_new {l:List Nat} {k:Nat}:(l ++ [k]).getD l.length 0 = k := by
 simp [List.getD]
theorem ci_le {l:List Nat} {k:Nat} (hk:k < O.cnt l.length) (i:Nat):ci O l i ≤ ci O (l ++ [k]) i := by
 unfold ci
 rw [List.length_append,List.length_singleton]
 by_cases h1:i < l.length
 ·rw [if_pos h1,if_pos (by omega),getD_app h1]; exact Int.le_refl _
 ·rw [if_neg h1]
  by_cases h2:i = l.length
  ·subst h2
   rw [if_pos (by omega),getD_new]
   exact mcN_le _ (by omega)
  ·rw [if_neg (by omega)]; exact Int.le_refl _
theorem bnd_le {l:List Nat} {k:Nat} (hk:k < O.cnt l.length):∀ i,bnd O l i ≤ bnd O (l ++ [k]) i
 | 0 => Int.le_refl _
 | i+1 => Int.add_le_add (bnd_le hk i) (ci_le O hk i)
theorem bound_le {l:List Nat} {k:Nat} (hk:k < O.cnt l.length):bound O l ≤ bound O (l ++ [k]) := bnd_le O hk _
theorem gl_le (r i:Nat):∀ {j k:Nat},k ≤ j → (sp O r i k).1 ≤ (gl O r i j).1 ∧ (gl O r i j).2 ≤ (sp O r i k).2
 | 0,k,h => by
  obtain rfl:k = 0 := by omega
  exact ⟨Rat.le_refl,Rat.le_refl⟩
 | j+1,k,h => by
  unfold gl comb
  rcases Nat.lt_or_ge k (j+1) with h1 | h1
  ·obtain ⟨a,b⟩ := gl_le r i (j := j) (k := k) (by omega)
   exact ⟨Rat.le_trans a (rmax_l _ _),Rat.le_trans (rmin_l _ _) b⟩
  ·obtain rfl:k = j+1 := by omega
   exact ⟨rmax_r _ _,rmin_r _ _⟩
theorem si_le {l:List Nat} {k:Nat} (hk:k < O.cnt l.length) (r i:Nat):(si O r (l ++ [k]) i).1 ≤ (si O r l i).1 ∧ (si O r l i).2 ≤ (si O r (l ++ [k]) i).2 := by
 unfold si
 rw [List.length_append,List.length_singleton]
 by_cases h1:i < l.length
 ·rw [if_pos h1,if_pos (by omega),getD_app h1]; exact ⟨Rat.le_refl,Rat.le_refl⟩
 ·rw [if_neg h1]
  by_cases h2:i = l.length
  ·subst h2
   rw [if_pos (by omega),getD_new]
   exact gl_le O r _ (by omega)
  ·rw [if_neg (by omega)]; exact ⟨Rat.le_refl,Rat.le_refl⟩
theorem wst_le {l:List Nat} {k:Nat} (hk:k < O.cnt l.length) (r:Nat):∀ i,(wst O r (l ++ [k]) i).1 ≤ (wst O r l i).1 ∧ (wst O r l i).2 ≤ (wst O r (l ++ [k]) i).2
 | 0 => ⟨Rat.le_refl,Rat.le_refl⟩
 | i+1 => by
  obtain ⟨a,b⟩ := wst_le hk r i
  obtain ⟨c,d⟩ := si_le O hk r i
  unfold wst
  exact ⟨by grind,by grind⟩
theorem above_le {l:List Nat} {k:Nat} (hk:k < O.cnt l.length) {r:Nat} (h:above O r l = true):above O r (l ++ [k]) = true := by
 unfold above at h ⊢
 split at h
 ·rename_i x _
  simp only [decide_eq_true_eq] at h ⊢
  have:(worst O r l).2 ≤ (worst O r (l ++ [k])).2 := (wst_le O hk r O.n).2
  grind
 ·cases h
theorem below_le {l:List Nat} {k:Nat} (hk:k < O.cnt l.length) {r:Nat} (h:below O r l = true):below O r (l ++ [k]) = true := by
 unfold below at h ⊢
 split at h
 ·rename_i x _
  simp only [decide_eq_true_eq] at h ⊢
  have:(worst O r (l ++ [k])).1 ≤ (worst O r l).1 := (wst_le O hk r O.n).1
  grind
 ·cases h
theorem fa_zero {r:Nat} {l:List Nat}:fa O r l = 0 ↔ above O r l = false ∧ below O r l = false := by
 unfold fa
 cases above O r l <;> cases below O r l <;> simp
theorem okAll_le {l:List Nat} {k:Nat} (hk:k < O.cnt l.length) (h:okAll O (l ++ [k])):okAll O l := fun r hr => by
 obtain ⟨h1,h2⟩ := (fa_zero O).1 (h r hr)
 refine (fa_zero O).2 ⟨?_,?_⟩
 ·cases h3:above O r l with
  | false => rfl
  | true => rw [above_le O hk h3] at h1; cases h1
 ·cases h3:below O r l with
  | false => rfl
  | true => rw [below_le O hk h3] at h2; cases h2
structure Bd where
 fixed:List (Int × Int)
 least:Int
 req:Int
 duals:List (List UInt8)
structure Al where
 poss:Bool
 choice:List Int
 cost:Int
 proof:List Bd
def pk (l:List Nat):List (Int × Int) := (List.range l.length).map fun (i:Nat) => ((i:Int),((l.getD i 0:Nat):Int))
theorem pk_len (l:List Nat):(pk l).length = l.length := by simp [pk]
def leafOk (A:Al) (x:Bd) (l:List Nat):Prop :=
 (x.req = -1 ∧ x.duals = [] ∧ A.poss = true ∧ x.least = bound O l ∧ A.cost ≤ x.least) ∨
 (0 ≤ x.req ∧ x.req < O.m ∧ x.least = 0 ∧ ((x.duals = [[49]] ∧ above O x.req.toNat l = true) ∨ (x.duals = [[45,49]] ∧ below O x.req.toNat l = true)))
def walkK (f:Nat → List Bd → Option (List Bd)):Nat → Nat → List Bd → Option (List Bd)
 | 0,_,lf => some lf
 | t+1,k,lf => (f k lf).bind (walkK f t (k+1))
open Classical in
noncomputable def stepL (A:Al) (l:List Nat) (lf:List Bd) (more:List Bd → Option (List Bd)):Option (List Bd) := match lf with
 | [] => none
 | x :: left => if x.fixed = pk l then (if leafOk O A x l then some left else none) else more (x :: left)
noncomputable def walkL (A:Al):Nat → List Nat → List Bd → Option (List Bd)
 | 0,l,lf => stepL O A l lf fun _ => none
 | d+1,l,lf => stepL O A l lf fun lf => walkK (fun k lf => walkL A d (l ++ [k]) lf) (O.cnt l.length) 0 lf
abbrev Sr := Option (List Nat × Int)
def cut (s:Sr) (l:List Nat):Prop := match s with
 | some x => x.2 ≤ bound O l
 | none => False
instance (s:Sr) (l:List Nat):Decidable (cut O s l) := by unfold cut; split <;> infer_instance
def foldK (f:Nat → Sr → Sr):Nat → Nat → Sr → Sr
 | 0,_,s => s
 | t+1,k,s => foldK f t (k+1) (f k s)
def srch:Nat → List Nat → Sr → Sr
 | 0,l,s => if cut O s l then s else if (fl O l).2 ≠ 0 then s else some (l,bound O l)
 | d+1,l,s => if cut O s l then s else if (fl O l).2 ≠ 0 then s else foldK (fun k s => srch d (l ++ [k]) s) (O.cnt l.length) 0 s
def catK (f:Nat → List Bd):Nat → Nat → List Bd
 | 0,_ => []
 | t+1,k => f k ++ catK f t (k+1)
def sideText (s:Int):List UInt8 := if s = 1 then [49] else [45,49]
def prvs (s:Sr):Nat → List Nat → List Bd
 | 0,l => if cut O s l then [⟨pk l,bound O l,-1,[]⟩] else if (fl O l).2 ≠ 0 then [⟨pk l,0,(fl O l).1,[sideText (fl O l).2]⟩] else []
 | d+1,l => if cut O s l then [⟨pk l,bound O l,-1,[]⟩] else if (fl O l).2 ≠ 0 then [⟨pk l,0,(fl O l).1,[sideText (fl O l).2]⟩] else catK (fun k => prvs s d (l ++ [k])) (O.cnt l.length) 0
def InR (l:List Nat):Prop := ∀ i,i < l.length → l.getD i 0 < O.cnt i
theorem InR.snoc {l:List Nat} {k:Nat} (h:InR O l) (hk:k < O.cnt l.length):InR O (l ++ [k]) := fun i hi => by
 rw [List.length_append,List.length_singleton] at hi
 rcases Nat.lt_or_ge i l.length with h1 | h1
 ·rw [getD_app h1]; exact h i h1
 ·obtain rfl:i = l.length := by omega
  rw [getD_new]; exact hk
def Good (s:Sr):Prop := ∀ c x,s = some (c,x) → c.length = O.n ∧ InR O c ∧ okAll O c ∧ x = bound O c
def Chp (s:Sr) (v:Int):Prop := ∃ c x,s = some (c,x) ∧ x ≤ v
theorem foldK_good {f:Nat → Sr → Sr} {K:Nat} {P:Sr → Prop} (h:∀ k s,k < K → P s → P (f k s)):∀ (t k:Nat) (s:Sr),k + t ≤ K → P s → P (foldK f t k s)
 | 0,_,_,_,hs => hs
 | t+1,k,s,hk,hs => foldK_good h t (k+1) _ (by omega) (h k s (by omega) hs)
theorem foldK_at {f:Nat → Sr → Sr} {P:Sr → Prop} (h:∀ k s,P s → P (f k s)) {q:Nat} (hq:∀ s,P (f q s)):∀ (t k:Nat) (s:Sr),k ≤ q → q < k + t → P (foldK f t k s)
 | 0,k,s,h1,h2 => by omega
 | t+1,k,s,h1,h2 => by
  unfold foldK
  rcases Nat.lt_or_ge k q with h3 | h3
  ·exact foldK_at h hq t (k+1) _ h3 (by omega)
  ·obtain rfl:k = q := by omega
   exact foldK_good (K := k+1 + t) (fun k s _ => h k s) t (k+1) _ (by omega) (hq s)
theorem srch_good:∀ (d:Nat) (l:List Nat) (s:Sr),l.length + d = O.n → InR O l → Good O s → Good O (srch O d l s)
 | 0,l,s,hl,hi,hs => by
  unfold srch
  split
  ·exact hs
  ·split
   ·exact hs
   ·rename_i h
    intro c x e
    simp only [Option.some.injEq,Prod.mk.injEq] at e
    obtain ⟨rfl,rfl⟩ := e
    exact ⟨by omega,hi,fl_ok O (by simpa using h),rfl⟩
 | d+1,l,s,hl,hi,hs => by
  unfold srch
  split
  ·exact hs
  ·split
   ·exact hs
   ·exact foldK_good (K := O.cnt l.length) (fun k s hk hs => srch_good d (l ++ [k]) s (by simp; omega) (hi.snoc O hk) hs) _ _ _ (by omega) hs
theorem srch_chp {v:Int}:∀ (d:Nat) (l:List Nat) (s:Sr),Chp s v → Chp (srch O d l s) v
 | 0,l,s,hs => by
  unfold srch
  split
  ·exact hs
  ·split
   ·exact hs
   ·rename_i h _
    obtain ⟨c,x,rfl,hx⟩ := hs
    simp only [cut] at h
    exact ⟨l,bound O l,rfl,by omega⟩
 | d+1,l,s,hs => by
  unfold srch
  split
  ·exact hs
  ·split
   ·exact hs
   ·exact foldK_good (K := O.cnt l.length) (fun k s _ hs => srch_chp d (l ++ [k]) s hs) _ _ _ (by omega) hs
theorem srch_all:∀ (d:Nat) (l:List Nat) (s:Sr) (e:List Nat),l.length + d = O.n → e.length = d → InR O (l ++ e) → okAll O (l ++ e) → Chp (srch O d l s) (bound O (l ++ e)) ∧ bound O l ≤ bound O (l ++ e) ∧ okAll O l
 | 0,l,s,e,hl,he,hi,hk => by
  obtain rfl:e = [] := List.eq_nil_of_length_eq_zero he
  rw [List.append_nil] at hi hk ⊢
  refine ⟨?_,Int.le_refl _,hk⟩
  unfold srch
  split
  ·rename_i h
   match s,h with
   | some (c,x),h => exact ⟨c,x,rfl,h⟩
  ·rw [if_neg (by simp [(fl_iff O).2 hk])]
   exact ⟨l,_,rfl,Int.le_refl _⟩
 | d+1,l,s,[],hl,he,hi,hk => by simp at he
 | d+1,l,s,k :: e,hl,he,hi,hk => by
  have e1:l ++ k :: e = (l ++ [k]) ++ e := by simp
  have hkk:k < O.cnt l.length := by
   have := hi l.length (by simp)
   simpa [List.getD] using this
  rw [e1] at hi hk ⊢
  have ih := fun s => srch_all d (l ++ [k]) s e (by simp; omega) (by simpa using he) hi hk
  have h1 := (ih none).2
  have hb := bound_le O hkk
  have ho := okAll_le O hkk h1.2
  refine ⟨?_,by omega,ho⟩
  unfold srch
  split
  ·rename_i h
   match s,h with
   | some (c,x),h =>
    simp only [cut] at h
    exact ⟨c,x,rfl,by have := h1.1; omega⟩
  ·rw [if_neg (by simp [(fl_iff O).2 ho])]
   exact foldK_at (fun k s hs => srch_chp O d (l ++ [k]) s hs) (fun s => (ih s).1) _ _ _ (Nat.zero_le _) (by omega)
def alOf (s:Sr) (p:List Bd):Al := match s with
 | some x => ⟨true,x.1.map fun (k:Nat) => (k:Int),x.2,p⟩
 | none => ⟨false,[],0,p⟩
def natL (l:List Int):List Nat := l.map Int.toNat
theorem natL_map (l:List Nat):natL (l.map fun (k:Nat) => (k:Int)) = l := by
 simp [natL,List.map_map,Function.comp_def]
def ChOk (A:Al):Prop := A.choice.length = O.n ∧ (∀ i,i < O.n → 0 ≤ A.choice.getD i 0 ∧ A.choice.getD i 0 < O.cnt i) ∧ A.cost = bound O (natL A.choice) ∧ okAll O (natL A.choice)
def Accept (A:Al):Prop := (A.poss = true → ChOk O A) ∧ (A.poss = false → A.choice = [] ∧ A.cost = 0) ∧ walkL O A O.n [] A.proof = some []
def Beg (d:Nat) (L:List Bd):Prop := ∃ x L',L = x :: L' ∧ d ≤ x.fixed.length
theorem Beg.app {d:Nat} {L M:List Bd} (h:Beg d L):Beg d (L ++ M) := by
 obtain ⟨x,L',rfl,h⟩ := h
 exact ⟨x,L' ++ M,rfl,h⟩
theorem leaf_cut {s:Sr} {p:List Bd} {l:List Nat} (h:cut O s l):leafOk O (alOf s p) ⟨pk l,bound O l,-1,[]⟩ l := by
 match s,h with
 | some (c,x),h => exact .inl ⟨rfl,rfl,rfl,rfl,h⟩
theorem leaf_fail {s:Sr} {p:List Bd} {l:List Nat} (h:(fl O l).2 ≠ 0):leafOk O (alOf s p) ⟨pk l,0,(fl O l).1,[sideText (fl O l).2]⟩ l := by
 obtain ⟨q,h1,h2,h3⟩ := fl_no O h
 refine .inr ⟨by simp only; omega,by simp only; omega,rfl,?_⟩
 have e:(fl O l).1.toNat = q := by omega
 simp only [e]
 rw [h3] at h ⊢
 unfold fa at h ⊢
 unfold sideText
 cases h4:above O q l with
 | true => exact .inl ⟨by simp,rfl⟩
 | false =>
  cases h5:below O q l with
  | true => exact .inr ⟨by simp,rfl⟩
  | false => simp [h4,h5] at h
theorem stepL_leaf {A:Al} {x:Bd} {l:List Nat} {L:List Bd} {more:List Bd → Option (List Bd)} (h1:x.fixed = pk l) (h2:leafOk O A x l):stepL O A l (x :: L) more = some L := by
 unfold stepL; simp only [h1,h2,if_true]
theorem stepL_more {A:Al} {l:List Nat} {L:List Bd} {more:List Bd → Option (List Bd)} (h:Beg (l.length+1) L):stepL O A l L more = more L := by
 obtain ⟨x,L',rfl,h⟩ := h
 unfold stepL
 have:¬ x.fixed = pk l := fun e => by rw [e,pk_len] at h; omega
 simp only [this,if_false]
theorem prvs_walk {s:Sr} {p:List Bd} (hc:∀ i,i < O.n → 0 < O.cnt i) (hs:∀ l,l.length = O.n → InR O l → okAll O l → cut O s l) :
  ∀ (d:Nat) (l:List Nat),l.length + d = O.n → InR O l → Beg l.length (prvs O s d l) ∧ ∀ rest,walkL O (alOf s p) d l (prvs O s d l ++ rest) = some rest
 | 0,l,hl,hi => by
  unfold prvs walkL
  by_cases h1:cut O s l
  ·rw [if_pos h1]
   exact ⟨⟨_,_,rfl,by simp [pk_len]⟩,fun rest => stepL_leaf O rfl (leaf_cut O h1)⟩
  ·rw [if_neg h1]
   by_cases h2:(fl O l).2 ≠ 0
   ·rw [if_pos h2]
    exact ⟨⟨_,_,rfl,by simp [pk_len]⟩,fun rest => stepL_leaf O rfl (leaf_fail O h2)⟩
   ·exact absurd (hs l (by omega) hi (fl_ok O (by simpa using h2))) h1
 | d+1,l,hl,hi => by
  unfold prvs walkL
  by_cases h1:cut O s l
  ·rw [if_pos h1]
   exact ⟨⟨_,_,rfl,by simp [pk_len]⟩,fun rest => stepL_leaf O rfl (leaf_cut O h1)⟩
  ·rw [if_neg h1]
   by_cases h2:(fl O l).2 ≠ 0
   ·rw [if_pos h2]
    exact ⟨⟨_,_,rfl,by simp [pk_len]⟩,fun rest => stepL_leaf O rfl (leaf_fail O h2)⟩
   ·rw [if_neg h2]
    have ih := fun k (hk:k < O.cnt l.length) => prvs_walk (p := p) hc hs d (l ++ [k]) (by simp; omega) (hi.snoc O hk)
    have key:∀ (t k:Nat),k + t = O.cnt l.length → ∀ rest,walkK (fun k lf => walkL O (alOf s p) d (l ++ [k]) lf) t k (catK (fun k => prvs O s d (l ++ [k])) t k ++ rest) = some rest := by
     intro t
     induction t with
     | zero => intro k _ rest; rfl
     | succ t iht =>
      intro k hk rest
      unfold walkK catK
      rw [List.append_assoc,(ih k (by omega)).2]
      exact iht (k+1) (by omega) rest
    have hb:Beg (l.length+1) (catK (fun k => prvs O s d (l ++ [k])) (O.cnt l.length) 0) := by
     have h0 := hc l.length (by omega)
     obtain ⟨t,ht⟩:∃ t,O.cnt l.length = t+1 := ⟨O.cnt l.length - 1,by omega⟩
     rw [ht]
     unfold catK
     have := (ih 0 h0).1
     rw [List.length_append,List.length_singleton] at this
     exact this.app
    refine ⟨?_,fun rest => ?_⟩
    ·obtain ⟨x,L',e,h⟩ := hb
     exact ⟨x,L',e,by omega⟩
    ·rw [stepL_more O hb.app]
     exact key _ 0 (by omega) rest
theorem found (hc:∀ i,i < O.n → 0 < O.cnt i):Accept O (alOf (srch O O.n [] none) (prvs O (srch O O.n [] none) O.n [])) := by
 have hn:InR O [] := fun i hi => by simp at hi
 obtain ⟨s,hs⟩:∃ s,s = srch O O.n [] none := ⟨_,rfl⟩
 have hg:Good O s := by rw [hs]; exact srch_good O _ _ _ (by simp) hn (fun c x e => by cases e)
 have hcut:∀ l,l.length = O.n → InR O l → okAll O l → cut O s l := fun l h1 h2 h3 => by
  have := (srch_all O O.n [] none l (by simp) h1 (by simpa using h2) (by simpa using h3)).1
  rw [← hs] at this
  obtain ⟨c,x,e,hx⟩ := this
  rw [e]
  simpa [cut] using hx
 rw [← hs]
 have hw := (prvs_walk (O := O) (p := prvs O s O.n []) hc hcut O.n [] (by simp) hn).2 []
 rw [List.append_nil] at hw
 match s,hg,hw with
 | none,hg,hw => exact ⟨fun h => (by cases h),fun _ => ⟨rfl,rfl⟩,hw⟩
 | some (c,x),hg,hw =>
  obtain ⟨g1,g2,g3,g4⟩ := hg c x rfl
  refine ⟨fun _ => ⟨by simp [alOf,g1],fun i hi => ?_,?_,?_⟩,fun h => (by cases h),hw⟩
  ·have := g2 i (by omega)
   have hi':i < c.length := by omega
   simp only [alOf,List.getD,List.getElem?_map,List.getElem?_eq_getElem hi',Option.map_some,Option.getD_some] at this ⊢
   omega
  ·simp only [alOf,natL_map]; exact g4
  ·simp only [alOf,natL_map]; exact g3
end
end Go.Alc
