/- Regions whose order is drawn; the interpreter is sound. No condition. -/
import Derived.Test.YtgpmgondjppmmaaGreatDoorA3
import Derived.Scope
set_option linter.unusedSectionVars false
set_option linter.unusedSimpArgs false
set_option linter.unusedVariables false
namespace Go.Pi
open Go.RowKit (Below)
variable [Hole]
theorem look_del_eq {α:Type} (h:List (Nat × α)) (k r:Nat):look (del h k) r = if r = k then none else look h r := by
 induction h with
 | nil => simp [del,look]
 | cons p h ih =>
  obtain ⟨i,v⟩ := p
  simp only [del,look,Bool.cond_eq_ite,nat_beq_eq]
  by_cases hik:i = k
  ·subst hik
   rw [if_pos rfl,ih]
   by_cases hr:r = i
   ·rw [if_pos hr,if_pos hr]
   ·rw [if_neg hr,if_neg hr,if_neg (fun e => hr e.symm)]
  ·rw [if_neg hik]
   simp only [look,Bool.cond_eq_ite,nat_beq_eq]
   by_cases hir:i = r
   ·subst hir; simp [hik]
   ·simp only [if_neg hir]; exact ih
theorem look_upd_eq {α:Type} (h:List (Nat × α)) (k:Nat) (x:α) (hk:(look h k).isSome = true) (r:Nat):look (upd h k x) r = if r = k then some x else look h r := by
 induction h with
 | nil => simp [look] at hk
 | cons p h ih =>
  obtain ⟨i,v⟩ := p
  simp only [look,upd,Bool.cond_eq_ite,nat_beq_eq] at hk ⊢
  by_cases hik:i = k
  ·subst hik
   rw [if_pos rfl]
   simp only [look,Bool.cond_eq_ite,nat_beq_eq]
   by_cases hr:r = i
   ·subst hr; simp
   ·simp only [if_neg hr,if_neg (fun e => hr e.symm:¬ i = r)]
  ·rw [if_neg hik] at hk ⊢
   simp only [look,Bool.cond_eq_ite,nat_beq_eq]
   by_cases hir:i = r
   ·subst hir; simp [hik]
   ·simp only [if_neg hir]; exact ih hk
structure OkOut (s:St) (o:Out):Prop where
 wr:∀ q e,o.wr = some (q,e) → (s.hp q).isSome = true ∧ o.kill = none
 fr:∀ r ∈ o.fr,r < s.next
 new:∀ e,o.new = some e → o.fr = []
theorem okOut_spec {s:St} {o:Out} (h:okOut s o = true):OkOut s o := by
 unfold okOut at h
 simp only [Bool.and_eq_true,List.all_eq_true,Bool.or_eq_true,blt_iff] at h
 obtain ⟨⟨h1,h2⟩,h3⟩ := h
 refine ⟨fun q e he => ?_,h2,fun e he => ?_⟩
 ·simp only [he,Bool.and_eq_true] at h1
  exact ⟨h1.1,by simpa using h1.2⟩
 ·rcases h3 with h3 | h3
  ·simp [he] at h3
  ·simpa using h3
theorem apply_next_eq (s:St) (o:Out):(s.apply o).next = s.next+1 := by unfold St.apply; cases o.new <;> rfl
theorem apply_hp {s:St} {o:Out} (h:OkOut s o):(s.apply o).hp = hpOut s.hp s.next o := by
 have h1:look (match o.wr with | some (r,e) => upd (match o.kill with | some r => del s.heap r | none => s.heap) r e | none => (match o.kill with | some r => del s.heap r | none => s.heap)) =
   (match o.wr with | some (r,e) => upF (match o.kill with | some r => upF s.hp r none | none => s.hp) r (some e) | none => (match o.kill with | some r => upF s.hp r none | none => s.hp)) := by
  funext r
  cases hw:o.wr with
  | some p =>
   obtain ⟨q,e⟩ := p
   obtain ⟨h2,h3⟩ := h.wr q e hw
   simp only [h3]
   rw [look_upd_eq _ _ _ h2]
   rfl
  | none =>
   cases hk:o.kill with
   | none => rfl
   | some q => simp only [look_del_eq]; rfl
 unfold hpOut
 funext r
 unfold St.hp St.apply
 cases hn:o.new with
 | none => simp only []; exact congrFun h1 r
 | some e =>
  simp only [look,Bool.cond_eq_ite,nat_beq_eq,upF]
  by_cases hr:s.next = r
  ·subst hr; simp
  ·rw [if_neg hr,if_neg (fun e => hr e.symm)]; exact congrFun h1 r
theorem apply_fz {s:St} {o:Out} (h:OkOut s o) (r:Nat):(s.apply o).fz r = true ↔ s.fz r = true ∨ r ∈ o.fr := by
 unfold St.apply St.fz
 simp only [addFr_eq]
 cases hn:o.new with
 | some e => simp [h.new e hn]
 | none =>
  simp only [memB_append,Bool.or_eq_true,memB_iff,List.mem_filter,blt_iff]
  constructor
  ·rintro (h1 | h1)
   ·exact .inr h1.1
   ·exact .inl h1
  ·rintro (h1 | h1)
   ·exact .inr h1
   ·exact .inl ⟨h1,h.fr r h1⟩
theorem fzOut_iff {fz:Nat → Bool} {s:St} {o:Out} (h:OkOut s o) (r:Nat):fzOut fz o r = true ↔ fz r = true ∨ r ∈ o.fr := by
 unfold fzOut
 cases hn:o.new with
 | some e => simp [h.new e hn]
 | none => simp only [Bool.or_eq_true,memB_iff]; exact Or.comm
theorem mem_wrote {o:Out} {n r:Nat}:r ∈ o.wrote n ↔ ((∃ e,o.new = some e) ∧ r = n) ∨ (∃ e,o.wr = some (r,e)) ∨ o.kill = some r := by
 unfold Out.wrote
 cases o.new <;> cases o.kill <;> rcases o.wr with _ | ⟨q,e⟩ <;> simp [eq_comm]
theorem hpOut_out {hp:Nat → Option Ent} {n:Nat} {o:Out} {r:Nat} (h:r ∉ o.wrote n):hpOut hp n o r = hp r := by
 rw [mem_wrote,not_or,not_or] at h
 obtain ⟨h1,h2,h3⟩ := h
 unfold hpOut
 have hk:(match o.kill with | some r => upF hp r none | none => hp) r = hp r := by
  cases hk:o.kill with
  | none => rfl
  | some q => exact upF_other _ _ _ _ (fun e => h3 (by rw [hk,e]))
 have hw:(match o.wr with | some (r,e) => upF (match o.kill with | some r => upF hp r none | none => hp) r (some e) | none => (match o.kill with | some r => upF hp r none | none => hp)) r = hp r := by
  rcases hw:o.wr with _ | ⟨q,e⟩
  ·exact hk
  ·simp only []
   rw [upF_other _ _ _ _ (fun e' => h2 ⟨e,by rw [hw,e']⟩)]; exact hk
 cases hn:o.new with
 | none => exact hw
 | some e => simp only []; rw [upF_other _ _ _ _ (fun e' => h1 ⟨⟨e,hn⟩,e'⟩)]; exact hw
theorem hpOut_in {hp hp':Nat → Option Ent} {n:Nat} {o:Out} {r:Nat} (h:r ∈ o.wrote n):hpOut hp n o r = hpOut hp' n o r := by
 unfold hpOut
 by_cases hn:(∃ e,o.new = some e) ∧ r = n
 ·obtain ⟨⟨e,hn⟩,rfl⟩ := hn
  simp only [hn,upF_same]
 have hw:(match o.wr with | some (r,e) => upF (match o.kill with | some r => upF hp r none | none => hp) r (some e) | none => (match o.kill with | some r => upF hp r none | none => hp)) r =
   (match o.wr with | some (r,e) => upF (match o.kill with | some r => upF hp' r none | none => hp') r (some e) | none => (match o.kill with | some r => upF hp' r none | none => hp')) r := by
  by_cases hw:∃ e,o.wr = some (r,e)
  ·obtain ⟨e,hw⟩ := hw
   simp only [hw,upF_same]
  ·have hk:o.kill = some r := by
    rcases mem_wrote.1 h with h | h | h
    ·exact absurd h hn
    ·exact absurd h hw
    ·exact h
   rcases hw':o.wr with _ | ⟨q,e⟩
   ·simp only [hk,upF_same]
   ·have:r ≠ q := fun e' => hw ⟨e,by rw [hw',e']⟩
    simp only [hk]
    rw [upF_other _ _ _ _ this,upF_other _ _ _ _ this,upF_same,upF_same]
 cases hnn:o.new with
 | none => exact hw
 | some e =>
  simp only []
  have:r ≠ n := fun e' => hn ⟨⟨e,hnn⟩,e'⟩
  rw [upF_other _ _ _ _ this,upF_other _ _ _ _ this]; exact hw
theorem beforeM_keep:∀ (rest:List Oper) (acc:List Nat) (j:Nat),j < acc.length → (beforeM rest acc).getD j 0 = acc.getD j 0
 | [],acc,j,_ => rfl
 | o :: rest,acc,j,h => by
  simp only [beforeM]
  rw [beforeM_keep rest _ j (by simp; omega)]
  simp [List.getD_eq_getElem?_getD,List.getElem?_append_left h]
theorem fold_bit (acc:List Nat) (i:Nat):∀ (es:List Edge) (s:Nat),(es.foldl (fun s e => bif Region.binds .any e then s ||| 2 ^ e.on ||| acc.getD e.on 0 else s) s).testBit i = true →
  s.testBit i = true ∨ ∃ e ∈ es,Region.binds .any e = true ∧ (e.on = i ∨ (acc.getD e.on 0).testBit i = true)
 | [],s,h => .inl h
 | e :: es,s,h => by
  simp only [List.foldl_cons] at h
  rcases fold_bit acc i es _ h with h1 | ⟨e',h1,h2,h3⟩
  ·cases hb:Region.binds .any e with
   | false => rw [hb] at h1; exact .inl h1
   | true =>
    rw [hb] at h1
    simp only [cond_true,Nat.testBit_or,Bool.or_eq_true,Nat.testBit_two_pow,decide_eq_true_eq] at h1
    rcases h1 with (h1 | h1) | h1
    ·exact .inl h1
    ·exact .inr ⟨e,by simp,hb,.inl h1⟩
    ·exact .inr ⟨e,by simp,hb,.inr h1⟩
  ·exact .inr ⟨e',by simp [h1],h2,h3⟩
theorem beforeM_spec:∀ (rest:List Oper) (acc:List Nat) (k:Nat) (o:Oper) (i:Nat),rest[k]? = some o → ((beforeM rest acc).getD (acc.length + k) 0).testBit i = true →
  ∃ e ∈ o.after,Region.binds .any e = true ∧ (e.on = i ∨ (e.on < acc.length + k ∧ ((beforeM rest acc).getD e.on 0).testBit i = true))
 | [],acc,k,o,i,h,_ => by simp at h
 | o' :: rest,acc,0,o,i,h,hb => by
  simp only [List.getElem?_cons_zero,Option.some.injEq] at h
  subst h
  simp only [beforeM,Nat.add_zero] at hb ⊢
  rw [beforeM_keep rest _ acc.length (by simp)] at hb
  simp only [List.getD_eq_getElem?_getD,List.getElem?_concat_length,Option.getD_some] at hb
  simp only [← List.getD_eq_getElem?_getD] at hb
  rcases fold_bit acc i _ _ hb with h | ⟨e,h1,h2,h3⟩
  ·simp at h
  ·refine ⟨e,by simpa using h1,h2,?_⟩
   rcases h3 with h3 | h3
   ·exact .inl h3
   ·have hlt:e.on < acc.length := by
     rcases Nat.lt_or_ge e.on acc.length with hl | hl
     ·exact hl
     ·rw [List.getD_eq_getElem?_getD,List.getElem?_eq_none hl] at h3; simp at h3
    refine .inr ⟨hlt,?_⟩
    rw [beforeM_keep rest _ _ (by simp; omega)]
    rw [List.getD_eq_getElem?_getD,List.getElem?_append_left hlt,← List.getD_eq_getElem?_getD]; exact h3
 | o' :: rest,acc,k+1,o,i,h,hb => by
  simp only [List.getElem?_cons_succ] at h
  simp only [beforeM] at hb ⊢
  have hlen:acc.length + (k+1) = (acc ++ [o'.after.toList.foldl (fun s e => bif Region.binds .any e then s ||| 2 ^ e.on ||| acc.getD e.on 0 else s) 0]).length + k := by simp; omega
  rw [hlen] at hb ⊢
  exact beforeM_spec rest _ k o i h hb
def Pre (ops:List Oper) (i j:Nat):Prop := ((beforeM ops []).getD j 0).testBit i = true
theorem Pre.edge {ops:List Oper} {i j:Nat} {o:Oper} (h:Pre ops i j) (ho:ops[j]? = some o):∃ e ∈ o.after,Region.binds .any e = true ∧ (e.on = i ∨ (e.on < j ∧ Pre ops i e.on)) := by
 have := beforeM_spec ops [] j o i ho (by rw [List.length_nil,Nat.zero_add]; exact h)
 rw [List.length_nil,Nat.zero_add] at this
 exact this
theorem beforeM_len:∀ (rest:List Oper) (acc:List Nat),(beforeM rest acc).length = acc.length + rest.length
 | [],acc => by simp [beforeM]
 | o :: rest,acc => by simp only [beforeM,beforeM_len rest,List.length_append,List.length_cons,List.length_nil]; omega
theorem Pre.lt {ops:List Oper} {i j:Nat} (h:Pre ops i j):j < ops.length := by
 rcases Nat.lt_or_ge j ops.length with hl | hl
 ·exact hl
 ·unfold Pre at h
  rw [List.getD_eq_getElem?_getD,List.getElem?_eq_none (by rw [beforeM_len]; simpa using hl)] at h
  simp at h
def Closed (ops:List Oper) (L:Nat → Prop):Prop := ∀ (j:Nat) (o:Oper),ops[j]? = some o → L j → ∀ e ∈ o.after,Region.binds .any e = true → L e.on
theorem Closed.pre {ops:List Oper} {L:Nat → Prop} (h:Closed ops L):∀ (n j i:Nat),j < n → Pre ops i j → L j → L i
 | n+1,j,i,hj,hp,hl => by
  obtain ⟨o,ho⟩:∃ o,ops[j]? = some o := ⟨_,List.getElem?_eq_getElem hp.lt⟩
  obtain ⟨e,he,hb,h1⟩ := hp.edge ho
  have h2 := h j o ho hl e he hb
  rcases h1 with rfl | ⟨h3,h4⟩
  ·exact h2
  ·exact h.pre n e.on i (by omega) h4 h2
theorem Closed.ready {ops:List Oper} {L:Nat → Prop} (h:Closed ops L) {i k:Nat} {o:Oper} (ho:ops[k]? = some o) (hr:∀ e ∈ o.after,Region.binds .any e = true → L e.on) (hp:Pre ops i k):L i := by
 obtain ⟨e,he,hb,h1⟩ := hp.edge ho
 have h2 := hr e he hb
 rcases h1 with rfl | ⟨h3,h4⟩
 ·exact h2
 ·exact h.pre (e.on+1) e.on i (by omega) h4 h2
section
variable {V:Type} {C:Nat → Nat → V} {Wr:Nat → Nat → Prop} {N:Nat} {L:Nat → Prop} {X:Nat → V}
def Agree (C:Nat → Nat → V) (Wr:Nat → Nat → Prop) (N:Nat) (L:Nat → Prop) (X:Nat → V):Prop :=
 ∀ j,j ≤ N → ∀ t,(∀ i,i < j → Wr i t → L i) → (∀ i,j ≤ i → i < N → Wr i t → ¬ L i) → X t = C j t
theorem still (hC:∀ k,k < N → ∀ t,¬ Wr k t → C (k+1) t = C k t) {t:Nat} {j:Nat}:∀ d,j + d ≤ N → (∀ i,j ≤ i → i < j + d → ¬ Wr i t) → C (j + d) t = C j t
 | 0,_,_ => rfl
 | d+1,h,hw => by
  rw [← Nat.add_assoc,hC (j + d) (by omega) t (hw _ (by omega) (by omega))]
  exact still hC d (by omega) fun i h1 h2 => hw i h1 (by omega)
theorem Agree.start (hC:∀ k,k < N → ∀ t,¬ Wr k t → C (k+1) t = C k t) (hL:∀ i,i < N → ¬ L i):Agree C Wr N L (C 0) := fun j hj t h1 h2 => by
 have := still hC (j := 0) (t := t) j (by omega) fun i _ h3 hw => hL i (by omega) (h1 i (by omega) hw)
 rw [Nat.zero_add] at this; exact this.symm
theorem Agree.full (h:Agree C Wr N L X) (hL:∀ i,i < N → L i) (t:Nat):X t = C N t := h N (Nat.le_refl _) t (fun i hi _ => hL i hi) (fun i h1 h2 => by omega)
theorem Agree.step (hC:∀ k,k < N → ∀ t,¬ Wr k t → C (k+1) t = C k t) (h:Agree C Wr N L X) {k:Nat} (hk:k < N) (hkL:¬ L k) (hw:∀ t,Wr k t → ∀ i,k < i → i < N → Wr i t → ¬ L i) {X':Nat → V}
  (h1:∀ t,Wr k t → X' t = C (k+1) t) (h2:∀ t,¬ Wr k t → X' t = X t):Agree C Wr N (fun i => i = k ∨ L i) X' := fun j hj t ha hb => by
 by_cases hkt:Wr k t
 ·have hkj:k < j := by
   rcases Nat.lt_or_ge k j with hl | hl
   ·exact hl
   ·exact absurd (.inl rfl) (hb k hl hk hkt)
  rw [h1 t hkt]
  have := still hC (j := k+1) (t := t) (j - (k+1)) (by omega) fun i h3 h4 hwi => by
   have h5 := hw t hkt i (by omega) (by omega) hwi
   rcases ha i (by omega) hwi with h6 | h6
   ·omega
   ·exact h5 h6
  rw [show k+1 + (j - (k+1)) = j by omega] at this
  exact this.symm
 ·rw [h2 t hkt]
  refine h j hj t (fun i hi hwi => ?_) fun i h3 h4 hwi hl => hb i h3 h4 hwi (.inr hl)
  rcases ha i hi hwi with rfl | h6
  ·exact absurd hwi hkt
  ·exact h6
theorem Agree.use (h:Agree C Wr N L X) {k:Nat} (hk:k < N) (hkL:¬ L k) {t:Nat} (h1:∀ i,i < k → Wr i t → L i) (h2:∀ i,k < i → i < N → Wr i t → ¬ L i):X t = C k t :=
 h k (by omega) t h1 fun i h3 h4 hwi => by
  rcases Nat.lt_or_eq_of_le h3 with h5 | rfl
  ·exact h2 i h5 h4 hwi
  ·exact hkL
end
section
variable (P:Program) (env:Env) (G:Nat → Option PV)
structure StepAt (callF:CallF) (ops:List Oper) (o:Oper) (T:Tm) (s:St) (out:Option Out) (T':Tm) (s':St):Prop where
 skip:out = none → wantedP ops T o = some false ∧ T' = putT T o.dst undefP ∧ s' = s
 done:∀ r,out = some r → wantedP ops T o = some true ∧ drawOp P env G callF T s o.op = some r ∧ OkOut s r ∧ T' = putT T o.dst r.val ∧ s' = s.apply r
structure Trace (callF:CallF) (ops rest:List Oper) (j:Nat) (l:List Lg) (Ts:Nat → Tm) (Ss:Nat → St) (os:Nat → Option Out):Prop where
 step:∀ k o,rest[k]? = some o → StepAt P env G callF ops o (Ts k) (Ss k) (os k) (Ts (k+1)) (Ss (k+1))
 log:∀ k o r,rest[k]? = some o → os k = some r → (⟨j + k,touch (lkIn G (Ts k)) o.op ++ r.fr,r.wrote (Ss k).next⟩:Lg) ∈ l
end
section
variable {P:Program} {env:Env} {G:Nat → Option PV}
theorem drawOps_logs {callF:CallF} {ops:List Oper}:∀ (rest:List Oper) (j:Nat) (T:Tm) (s:St) (l:List Lg) (T':Tm) (s':St) (l':List Lg),drawOps P env G callF ops rest j T s l = some (T',s',l') → ∀ x ∈ l,x ∈ l'
 | [],j,T,s,l,T',s',l',h,x,hx => by simp only [drawOps,Option.some.injEq,Prod.mk.injEq] at h; obtain ⟨_,_,rfl⟩ := h; exact hx
 | o :: rest,j,T,s,l,T',s',l',h,x,hx => by
  simp only [drawOps] at h
  split at h
  ·split at h
   case h_2 => cases h
   rename_i out h1
   simp only [bif_some] at h
   exact drawOps_logs rest _ _ _ _ _ _ _ h.2 x (List.mem_cons_of_mem _ hx)
  ·exact drawOps_logs rest _ _ _ _ _ _ _ h x hx
  ·cases h
theorem drawOps_trace {callF:CallF} {ops:List Oper}:∀ (rest:List Oper) (j:Nat) (T:Tm) (s:St) (l:List Lg) (T':Tm) (s':St) (l':List Lg),drawOps P env G callF ops rest j T s l = some (T',s',l') →
  ∃ Ts Ss os,Trace P env G callF ops rest j l' Ts Ss os ∧ Ts 0 = T ∧ Ss 0 = s ∧ Ts rest.length = T' ∧ Ss rest.length = s'
 | [],j,T,s,l,T',s',l',h => by
  simp only [drawOps,Option.some.injEq,Prod.mk.injEq] at h
  obtain ⟨rfl,rfl,rfl⟩ := h
  exact ⟨fun _ => T,fun _ => s,fun _ => none,⟨fun k o h => by simp at h,fun k o r h => by simp at h⟩,rfl,rfl,rfl,rfl⟩
 | o :: rest,j,T,s,l,T',s',l',h => by
  have glue:∀ (T1:Tm) (s1:St) (l1:List Lg) (out:Option Out),drawOps P env G callF ops rest (j+1) T1 s1 l1 = some (T',s',l') → StepAt P env G callF ops o T s out T1 s1 →
    (∀ r,out = some r → (⟨j,touch (lkIn G T) o.op ++ r.fr,r.wrote s.next⟩:Lg) ∈ l') →
    ∃ Ts Ss os,Trace P env G callF ops (o :: rest) j l' Ts Ss os ∧ Ts 0 = T ∧ Ss 0 = s ∧ Ts (o :: rest).length = T' ∧ Ss (o :: rest).length = s' := by
   intro T1 s1 l1 out h1 h2 h3
   obtain ⟨Ts,Ss,os,ht,rfl,rfl,h4,h5⟩ := drawOps_trace rest _ _ _ _ _ _ _ h1
   refine ⟨fun k => match k with | 0 => T | k+1 => Ts k,fun k => match k with | 0 => s | k+1 => Ss k,fun k => match k with | 0 => out | k+1 => os k,⟨fun k o' ho => ?_,fun k o' r ho hr => ?_⟩,rfl,rfl,h4,h5⟩
   ·cases k with
    | zero => simp only [List.getElem?_cons_zero,Option.some.injEq] at ho; subst ho; exact h2
    | succ k => exact ht.step k o' (by simpa using ho)
   ·cases k with
    | zero => simp only [List.getElem?_cons_zero,Option.some.injEq] at ho; subst ho; exact h3 r hr
    | succ k =>
     have := ht.log k o' r (by simpa using ho) hr
     rw [show j + (k+1) = j+1 + k by omega]; exact this
  simp only [drawOps] at h
  split at h
  ·rename_i hw
   split at h
   case h_2 => cases h
   rename_i out h1
   simp only [bif_some] at h
   obtain ⟨h2,h3⟩ := h
   refine glue _ _ _ (some out) h3 ⟨fun e => by simp at e,fun r e => by cases e; exact ⟨hw,h1,okOut_spec h2,rfl,rfl⟩⟩ fun r e => ?_
   cases e
   exact drawOps_logs _ _ _ _ _ _ _ _ h3 _ (by simp)
  ·rename_i hw
   exact glue _ _ _ none h ⟨fun _ => ⟨hw,rfl,rfl⟩,fun r e => by simp at e⟩ fun r e => by simp at e
  ·cases h
end
theorem edgesOk_spec:∀ (ops:List Oper) (j:Nat),edgesOk ops j = true → ∀ k o,ops[k]? = some o → ∀ e ∈ o.after,Region.binds .any e = true → e.on < j + k
 | [],j,_,k,o,h => by simp at h
 | o' :: r,j,h,k,o,ho => by
  simp only [edgesOk,Bool.and_eq_true,List.all_eq_true] at h
  cases k with
  | zero =>
   simp only [List.getElem?_cons_zero,Option.some.injEq] at ho
   subst ho
   intro e he hb
   have := h.1 e (by simpa using he)
   simpa [hb,blt_iff] using this
  | succ k =>
   intro e he hb
   have := edgesOk_spec r (j+1) h.2 k o (by simpa using ho) e he hb
   omega
theorem bif_true_or {c x:Bool} (h:(bif c then x else true) = true) (hc:c = true):x = true := by subst hc; exact h
def SlotClash (ops:List Oper) (p o:Oper):Prop :=
 (∃ d,p.dst = some d ∧ (d ∈ looksOf ops o ∨ o.dst = some d)) ∨ (∃ d,o.dst = some d ∧ d ∈ looksOf ops p)
theorem slotsOk_spec {ops:List Oper} {m:List Nat}:∀ (rest:List Oper) (j:Nat),slotsOk ops m rest j = true → ops.drop j = rest → ∀ i k p o,i < k → j ≤ k → ops[i]? = some p → ops[k]? = some o → SlotClash ops p o → (m.getD k 0).testBit i = true
 | [],j,_,hd,i,k,p,o,hik,hjk,hp,ho,_ => by
  have := congrArg (fun l => l[k - j]?) hd
  simp only [List.getElem?_drop,List.getElem?_nil] at this
  rw [show j + (k - j) = k by omega,ho] at this
  cases this
 | o' :: r,j,h,hd,i,k,p,o,hik,hjk,hp,ho,hc => by
  simp only [slotsOk,Bool.and_eq_true,List.all_eq_true] at h
  rcases Nat.lt_or_eq_of_le hjk with hlt | rfl
  ·exact slotsOk_spec r (j+1) h.2 (by rw [← List.drop_drop,hd]; rfl) i k p o hik hlt hp ho hc
  ·have ho':o' = o := by
    have := congrArg (fun l => l[0]?) hd
    simp only [List.getElem?_drop,Nat.add_zero,List.getElem?_cons_zero] at this
    rw [ho] at this; exact (Option.some.inj this).symm
   subst ho'
   have hmem:(p,i) ∈ (ops.take j).zipIdx := by
    rw [List.mem_zipIdx_iff_getElem?]
    simp only []
    rw [List.getElem?_take,if_pos hik]; exact hp
   refine bif_true_or (h.1 _ hmem) ?_
   rcases hc with ⟨d,h1,h2⟩ | ⟨d,h1,h2⟩
   ·rw [Bool.or_eq_true]; left
    simp only [h1]
    rw [Bool.or_eq_true]
    rcases h2 with h2 | h2
    ·exact .inl ((memB_iff _ _).2 h2)
    ·right; simp only [h2]; exact nat_beq_eq.2 rfl
   ·rw [Bool.or_eq_true]; right
    simp only [h1]
    exact (memB_iff _ _).2 h2
theorem share_iff:∀ (a b:List Nat),share a b = true ↔ ∃ r,r ∈ a ∧ r ∈ b
 | [],b => by simp [share]
 | x :: a,b => by
  simp only [share,Bool.or_eq_true,memB_iff,share_iff a b,List.mem_cons]
  constructor
  ·rintro (h | ⟨r,h1,h2⟩)
   ·exact ⟨x,.inl rfl,h⟩
   ·exact ⟨r,.inr h1,h2⟩
  ·rintro ⟨r,rfl | h1,h2⟩
   ·exact .inl h2
   ·exact .inr ⟨r,h1,h2⟩
theorem logOk_spec {m:List Nat} {l:List Lg} (h:logOk m l = true) {x y:Lg} (hx:x ∈ l) (hy:y ∈ l) (hne:x.ix ≠ y.ix) {r:Nat} (h1:r ∈ x.wr) (h2:r ∈ y.rd ∨ r ∈ y.wr):inOrder m x.ix y.ix = true := by
 unfold logOk at h
 have h3 := List.all_eq_true.1 h x hx
 have he:x.wr.isEmpty = false := by cases hw:x.wr with
  | nil => rw [hw] at h1; cases h1
  | cons a b => rfl
 rw [he,cond_false] at h3
 have h4 := List.all_eq_true.1 h3 y hy
 have hb:Nat.beq x.ix y.ix = false := by
  cases hb:Nat.beq x.ix y.ix with
  | false => rfl
  | true => exact absurd (nat_beq_eq.1 hb) hne
 have hs:share x.wr (y.rd ++ y.wr) = true := (share_iff _ _).2 ⟨r,h1,by simpa using h2⟩
 rw [hb,cond_false,hs,cond_true] at h4
 exact h4
theorem inOrder_spec {ops:List Oper} {i j:Nat} (h:inOrder (beforeM ops []) i j = true):(i < j ∧ Pre ops i j) ∨ (j ≤ i ∧ Pre ops j i) := by
 unfold inOrder at h
 rw [Bool.cond_eq_ite] at h
 split at h
 ·rename_i hb; exact .inl ⟨blt_iff.1 hb,h⟩
 ·rename_i hb; exact .inr ⟨Nat.le_of_not_lt fun e => hb (blt_iff.2 e),h⟩
section
variable {P:Program} {G:Nat → Option PV} {B0:Nat} {w:World} {I:Nat → Prop} {M:Names} {hp hp':Nat → Option Ent} {fz fz':Nat → Bool} {n:Nat} {T T':Tm} {a:Act}
def drawOpH (P:Program) (env:Env) (G:Nat → Option PV) (callF:CallF) (T:Tm) (hp:Nat → Option Ent) (fz:Nat → Bool) (n:Nat) (op:Op):Option Out :=
 match callOf (lkIn G T) op with
 | some (f,args) => match envCall env hp f args with
  | some o => some o
  | none => apartCall callF hp n f args
 | none => evalOp P hp fz n (lkIn G T) op
theorem drawOp_eq {env:Env} {callF:CallF} {T:Tm} {s:St} {op:Op}:drawOp P env G callF T s op = drawOpH P env G callF T s.hp s.fz s.next op := rfl
theorem envCall_local {env:Env} {f:FuncId} {args:List PV} {o:Out} (h:envCall env hp f args = some o) (hr:∀ r ∈ o.fr,hp' r = hp r):envCall env hp' f args = some o := by
 unfold envCall at h ⊢
 split at h
 ·cases h
 rename_i F hF
 split at h
 case h_2 => cases h
 rename_i as l hre
 split at h
 case h_2 => cases h
 rename_i r hr'
 cases h
 rw [reifyL_local _ _ _ hre hr]
 simp only [hr']
def apartEnv (callF:CallF) (f:FuncId):Env := fun g => if g = f then some (fun as => match callF f as ⟨0,[],[]⟩ with
 | none => none
 | some (v,s) => match reify s.hp v with
  | some (v,_) => some v
  | none => none) else none
theorem apart_cases {callF:CallF} {f:FuncId} {args:List PV} {o:Out} (h:apartCall callF hp n f args = some o):envCall (apartEnv callF f) hp f args = some o ∨
  ∃ as v s e,reifyL hp args = some (as,[]) ∧ callF f as ⟨0,[],[]⟩ = some (v,s) ∧ ownRes s v = some e ∧ o = { val := .own n 0 e.es.length,new := some e } := by
 unfold apartCall at h
 split at h
 ·cases h
 rename_i as l hre
 split at h
 ·cases h
 rename_i v s hv
 split at h
 ·rename_i e he
  simp only [bif_some] at he
  obtain ⟨hl,he⟩ := he
  obtain rfl:l = [] := by simpa using hl
  cases h
  exact .inr ⟨as,v,s,e,hre,hv,he,rfl⟩
 ·rename_i he
  refine .inl ?_
  unfold envCall apartEnv
  simp only [if_true,hre,hv]
  split at h
  ·rename_i v2 l2 hr2
   simp only [hr2]
   exact h
  ·cases h
theorem sum_of_call {callF:CallF} (hC:CallOk P G callF) {f:FuncId} (hen:Enters P f) {F:Fn1} (hF:∀ as r,F as = some r → ∃ v s fl,callF f as ⟨0,[],[]⟩ = some (v,s) ∧ reify s.hp v = some (r,fl)):Sum P G f F := by
 refine ⟨hen,fun as r hFr w I xs hI hG ha => ?_⟩
 obtain ⟨v,s,fl,hv,hre⟩ := hF as r hFr
 obtain ⟨_,_,hcalls⟩ := hC f as ⟨0,[],[]⟩ v s hv
 have hs0:SRel G w.heap.size ⟨0,[],[]⟩ w I (fun _ => none) :=
  ⟨⟨fun r e he => by simp [St.hp,look] at he,fun r e l he => by simp [St.hp,look] at he,fun r e l he => by simp [St.hp,look] at he,fun r r' e e' l l' he => by simp [St.hp,look] at he,hI,hG,Nat.le_refl _⟩,
   fun r l hm => by simp at hm,fun r e he => by simp [St.hp,look] at he,fun r hr => by simp [St.fz,memB] at hr⟩
 refine (hcalls w.heap.size w I (fun _ => none) xs hs0 (ha.mono fun v x h => .pure h)).mono ?_
 rintro e w' ⟨x,I',M',rfl,hf,hs,hrep⟩
 have hfr := hs.rel.freeze fl
 have hp := (reify_sound hs.rel v _ fl hre fl (fun r hr => hr)).1 x hrep
 refine ⟨x,fun b => I b ∨ (w.heap.size ≤ b ∧ b < w'.heap.size),rfl,hf.below,fun b hb => .inl hb,fun b hb => ?_,hp.mono (fun _ _ => rfl) fun b hb => ?_⟩
 ·rcases hb with hb | hb
  ·exact ⟨Nat.lt_of_lt_of_le (hI b hb) hf.below.size,.inl hb⟩
  ·exact ⟨hb.2,.inr hb.1⟩
 ·have h1 := hfr.bnd b hb
  rcases hs.rel.addI_more hb with h2 | h2
  ·rcases hf.more b h2 with h3 | h3
   ·exact .inl h3
   ·exact .inr ⟨h3,h1⟩
  ·exact .inr ⟨h2,h1⟩
theorem ownRes_spec {s:St} {v:PV} {e:Ent} (h:ownRes s v = some e):∃ r,v = .own r 0 e.es.length ∧ s.hp r = some e ∧ 0 < e.sz ∧ PV.pureL e.es = true ∧ s.fz r = false := by
 unfold ownRes at h
 split at h
 ·rename_i r k
  split at h
  case h_2 => cases h
  rename_i e' he
  simp only [bif_some,Bool.and_eq_true,Bool.not_eq_true',blt_iff,nat_beq_eq,Option.some.injEq] at h
  obtain ⟨⟨⟨⟨h1,h2⟩,h3⟩,h4⟩,rfl⟩ := h
  exact ⟨r,by rw [h2],he,h1,h3,h4⟩
 ·cases h
theorem own_did {callF:CallF} (hC:CallOk P G callF) (hs:Rel G B0 hp fz w I M) (hf:M n = none) (hh:hp n = none) (hz:fz n = false) {f:FuncId} {args as:List PV} {xs:List Value} (ha:All2 (Rep w I M) args xs)
  (hre:reifyL hp args = some (as,[])) {v:PV} {s:St} (hv:callF f as ⟨0,[],[]⟩ = some (v,s)) {e:Ent} (he:ownRes s v = some e) :
  Enters P f ∧ Calls P f xs.toArray w (fun e1 w' => ∃ x I' M',e1 = .returned x ∧ Did G B0 (hpOut hp n { val := .own n 0 e.es.length,new := some e }) (fzOut fz { val := .own n 0 e.es.length,new := some e }) n w I M w' I' M' (.own n 0 e.es.length) x) := by
 obtain ⟨r,rfl,her,hsz,hpu,hfr⟩ := ownRes_spec he
 obtain ⟨hen,_,hcalls⟩ := hC f as ⟨0,[],[]⟩ _ s hv
 refine ⟨hen,?_⟩
 have hpure := reifyL_sound hs args as [] hre [] (fun r hr => hr) xs ha
 have hIa:∀ b,addI hp M I [] b → I b := fun b hb => by
  rcases hb with hb | ⟨q,hq,_⟩
  ·exact hb
  ·cases hq
 have hs0:SRel G w.heap.size ⟨0,[],[]⟩ w I (fun _ => none) :=
  ⟨⟨fun r e he => by simp [St.hp,look] at he,fun r e l he => by simp [St.hp,look] at he,fun r e l he => by simp [St.hp,look] at he,fun r r' e e' l l' he => by simp [St.hp,look] at he,hs.bnd,hs.glob,Nat.le_refl _⟩,
   fun r l hm => by simp at hm,fun r e he => by simp [St.hp,look] at he,fun r hr => by simp [St.fz,memB] at hr⟩
 refine (hcalls w.heap.size w I (fun _ => none) xs hs0 (hpure.mono fun v x h => .pure (h.mono (fun _ _ => rfl) hIa))).mono ?_
 rintro e1 w' ⟨x,I',M1,rfl,hfw,hs1,hrep⟩
 obtain ⟨cap,l,hm,c1,c2,c3,rfl⟩ := hrep.own_inv
 obtain ⟨l',hm',hE⟩ := hs1.rel.ent r e her
 rw [hm] at hm'; cases hm'
 obtain ⟨hlI,hlB⟩ := hs1.rel.live r e l her hm hfr
 have hkeep:∀ b,I b → w'.heap[b]? = w.heap[b]? := hfw.keep
 have hM:∀ q l',M q = some l' → upF M n (some l) q = some l' := fun q l' hq => by
  rw [upF_other _ _ _ _ (fun e2 => by subst e2; rw [hf] at hq; cases hq)]; exact hq
 have low:∀ q e l',hp q = some e → M q = some l' → l'.b < w.heap.size := fun q e l' h1 h2 => by
  obtain ⟨l2,h3,h4⟩ := hs.ent q e h1
  rw [h2] at h3; cases h3; exact h4.size_lt
 have hIlow:∀ b,I' b → b < w.heap.size → I b := fun b hb hlt => by
  rcases hfw.more b hb with h | h
  ·exact h
  ·omega
 have hE2:EntRep w' I' (upF M n (some l)) l ⟨e.sz,e.es⟩ := by
  refine ⟨hE.1,hE.2.1,.inl ?_⟩
  rcases hE.2.2 with ⟨h0,hu,c,elem,hc,hcs,hcl,hcv⟩ | ⟨hz0,_⟩ | ⟨hz0,_⟩
  ·refine ⟨h0,hu,c,elem,hc,hcs,hcl,fun k p hk => ?_⟩
   obtain ⟨y,h1,h2⟩ := hcv k p hk
   refine ⟨y,h1,.pure (h2.toPure ?_)⟩
   obtain ⟨e2,he1,he2⟩ := flat_split h0 hu hk
   have := pureL_get hpu he1
   cases e2 with
   | agg cs => exact pureL_get (vs := cs) (by simpa [PV.pureB] using this) he2
   | _ => first | (simp only [PV.cells,List.getElem?_singleton] at he2; split at he2 <;> first | (cases he2; exact this) | cases he2)
  ·have := hE.1; omega
  ·have := hE.1; omega
 have key:∀ q e' l',upF hp n (some e) q = some e' → upF M n (some l) q = some l' → (q = n ∧ e' = e ∧ l' = l) ∨ (q ≠ n ∧ hp q = some e' ∧ M q = some l') := fun q e' l' h1 h2 => by
  by_cases hq:q = n
  ·subst hq; rw [upF_same] at h1 h2; cases h1; cases h2; exact .inl ⟨rfl,rfl,rfl⟩
  ·rw [upF_other _ _ _ _ hq] at h1 h2; exact .inr ⟨hq,h1,h2⟩
 refine ⟨_,I',upF M n (some l),rfl,hfw.below.mono hs.base,hkeep,hfw.sub,fun b hb => (hfw.more b hb).imp id (fun h => Nat.le_trans hs.base h),fun q hq => upF_other _ _ _ _ hq,?_,?_⟩
 ·rw [fzOut_nil _ _ rfl]
  refine ⟨fun q e' he' => ?_,?_,?_,?_,hs1.rel.bnd,hs.glob.mono hkeep hfw.sub,Nat.le_trans hs.base hfw.below.size⟩
  ·by_cases hq:q = n
   ·subst hq
    have:e' = e := by simpa [hpOut,upF_same] using he'.symm
    subst this
    exact ⟨l,upF_same _ _ _,hE2⟩
   ·have he'':hp q = some e' := by simpa [hpOut,upF_other _ _ _ _ hq] using he'
    obtain ⟨l',h1,h2⟩ := hs.ent q e' he''
    exact ⟨l',hM q l' h1,h2.mono (hfw.below.block _ h2.size_lt) hkeep hfw.sub hM⟩
  ·intro q e' l' h1 h2 h3
   rcases key q e' l' (by simpa [hpOut] using h1) h2 with ⟨ra,ea,la⟩ | ⟨_,h1,h2⟩
   ·rw [la]; exact ⟨hlI,Nat.le_trans hs.base hlB⟩
   ·obtain ⟨g1,g2⟩ := hs.live q e' l' h1 h2 h3
    exact ⟨fun hb => g1 (hIlow _ hb (low q e' l' h1 h2)),g2⟩
  ·intro q e' l' h1 h2 h3
   rcases key q e' l' (by simpa [hpOut] using h1) h2 with ⟨ra,ea,la⟩ | ⟨_,h1,h2⟩
   ·rw [ra,hz] at h3; cases h3
   ·exact hfw.sub _ (hs.fro q e' l' h1 h2 h3)
  ·intro q q' e1 e2 l1 l2 h1 h2 h3 h4 h5 h6
   rcases key q e1 l1 (by simpa [hpOut] using h1) h3 with ⟨ra,ea,la⟩ | ⟨hr,g1,g3⟩ <;> rcases key q' e2 l2 (by simpa [hpOut] using h2) h4 with ⟨rb,eb,lb⟩ | ⟨hr',g2,g4⟩
   ·rw [ra,rb]
   ·have := low q' e2 l2 g2 g4
    rw [la] at h6; omega
   ·have := low q e1 l1 g1 g3
    rw [lb] at h6; omega
   ·exact hs.inj q q' e1 e2 l1 l2 g1 g2 g3 g4 h5 h6
 ·exact .own n 0 _ cap l (upF_same _ _ _) c1 c2 c3
theorem apart_ok {callF:CallF} (hC:CallOk P G callF) {f:FuncId} {args:List PV} {o:Out} (h:apartCall callF hp n f args = some o):EnvOk P G (apartEnv callF f) := by
 intro g F hF
 unfold apartEnv at hF
 split at hF
 ·rename_i hg
  subst hg
  cases hF
  have hen:Enters P g := by
   unfold apartCall at h
   split at h
   ·cases h
   split at h
   ·cases h
   rename_i v s hv
   exact (hC g _ _ v s hv).1
  refine sum_of_call hC hen fun as r hr => ?_
  split at hr
  ·cases hr
  rename_i v s hv
  split at hr
  case h_2 => cases hr
  rename_i v' fl hre
  cases hr
  exact ⟨v,s,fl,hv,hre⟩
 ·cases hF
theorem drawOpH_local {env:Env} {callF:CallF} {op:Op} {out:Out} (h:drawOpH P env G callF T hp fz n op = some out) (hl:∀ y ∈ op.operands,lkIn G T' y = lkIn G T y)
  (hr:∀ r ∈ touch (lkIn G T) op ++ out.fr,hp' r = hp r) (hz:∀ r ∈ out.wrote n,fz' r = fz r):drawOpH P env G callF T' hp' fz' n op = some out := by
 unfold drawOpH at h ⊢
 rw [callOf_congr hl]
 have hf:∀ r ∈ out.fr,hp' r = hp r := fun r h => hr r (by simp [h])
 split at h
 ·rename_i f args hc
  split at h
  ·rename_i o ho
   cases h
   rw [envCall_local ho hf]
  ·rename_i ho
   have hno:envCall env hp' f args = none := by
    unfold apartCall at h
    split at h
    ·cases h
    rename_i as l hre
    have hl:l = out.fr := by
     split at h
     ·cases h
     split at h
     ·rename_i e0 he0
      simp only [bif_some] at he0
      obtain ⟨hl0,_⟩ := he0
      obtain rfl:l = [] := by simpa using hl0
      cases h; rfl
     split at h
     ·cases h; rfl
     ·cases h
    subst hl
    unfold envCall at ho ⊢
    split at ho
    ·rfl
    ·rename_i F he
     simp only [hre] at ho ⊢
     rw [reifyL_local _ _ _ hre hf]
     simp only []
     split at ho
     ·cases ho
     ·rfl
   simp only [hno]
   unfold apartCall at h ⊢
   cases hre:reifyL hp args with
   | none => rw [hre] at h; cases h
   | some p =>
   obtain ⟨as,l⟩ := p
   rw [hre] at h
   dsimp only at h
   have hl:l = out.fr := by
    split at h
    ·cases h
    split at h
    ·rename_i e0 he0
     simp only [bif_some] at he0
     obtain ⟨hl0,_⟩ := he0
     obtain rfl:l = [] := by simpa using hl0
     cases h; rfl
    split at h
    ·cases h; rfl
    ·cases h
   rw [reifyL_local _ _ _ hre (by rw [hl]; exact hf)]
   exact h
 ·exact evalOp_local h hl hr hz
theorem envCall_did {env:Env} (hE:EnvOk P G env) (hs:Rel G B0 hp fz w I M) {f:FuncId} {args:List PV} {xs:List Value} (ha:All2 (Rep w I M) args xs) {out:Out} (h:envCall env hp f args = some out) :
  Enters P f ∧ Calls P f xs.toArray w (fun e w' => ∃ x I' M',e = .returned x ∧ Did G B0 (hpOut hp n out) (fzOut fz out) n w I M w' I' M' out.val x) := by
 unfold envCall at h
 split at h
 ·cases h
 rename_i F hF
 split at h
 case h_2 => cases h
 rename_i as l hre
 split at h
 case h_2 => cases h
 rename_i r hr
 cases h
 obtain ⟨hen,hsum⟩ := hE f F hF
 refine ⟨hen,?_⟩
 have hpure := reifyL_sound hs args as l hre l (fun r hr => hr) xs ha
 have hfr := hs.freeze l
 refine (hsum as r hr w _ xs hfr.bnd hfr.glob hpure).mono ?_
 rintro e w' ⟨x,I',rfl,hb,hsub,hbnd,hrep⟩
 have hkeep:∀ b,addI hp M I l b → w'.heap[b]? = w.heap[b]? := fun b hb' => hb.block b (hfr.bnd b hb')
 refine ⟨x,I',M,rfl,hb.mono hs.base,fun b hb' => hkeep b (.inl hb'),fun b hb' => hsub b (.inl hb'),fun b hb' => ?_,fun _ _ => rfl,?_,.pure hrep⟩
 ·rcases (hbnd b hb').2 with h6 | h6
  ·exact hs.addI_more h6
  ·exact .inr (Nat.le_trans hs.base h6)
 have low:∀ r e l',hp r = some e → M r = some l' → l'.b < w.heap.size := fun r e l' h1 h2 => by
  obtain ⟨l2,h3,h4⟩ := hs.ent r e h1
  rw [h2] at h3; cases h3; exact h4.size_lt
 refine ⟨fun r e he => ?_,?_,?_,hfr.inj,fun b hb' => (hbnd b hb').1,hfr.glob.mono hkeep hsub,Nat.le_trans hs.base hb.size⟩
 ·obtain ⟨l',h1,h2⟩ := hfr.ent r e he
  exact ⟨l',h1,h2.mono (hb.block _ h2.size_lt) hkeep hsub (fun _ _ h => h)⟩
 ·intro r e l' h1 h2 h3
  obtain ⟨h4,h5⟩ := hfr.live r e l' h1 h2 h3
  refine ⟨fun hb' => ?_,h5⟩
  have h1':hp r = some e := h1
  rcases (hbnd _ hb').2 with h6 | h6
  ·exact h4 h6
  ·have := low r e l' h1' h2; omega
 ·intro r e l' h1 h2 h3
  exact hsub _ (hfr.fro r e l' h1 h2 h3)
theorem lkIn_rep' (hs:Rel G B0 hp fz w I M) (hT:TRel w I M T a.tmps) (o:Operand):Rep w I M (lkIn G T o) (a.eval o) := by
 cases o with
 | tmp t => exact hT t
 | const v => exact rep_ofValue v
 | global g =>
  simp only [lkIn,Act.eval]
  cases hg:G g with
  | none => exact .top _
  | some e =>
   obtain ⟨h1,xs,h2,h3,_⟩ := hs.glob g e hg
   exact .pure (.eptr e 0 g 0 xs h1 h2 h3.1 h3.2)
 | func f => exact .pure (.func f [] [] rfl (fun k v x a => by simp at a))
theorem drawOpH_wp {env:Env} (hE:EnvOk P G env) {callF:CallF} (hC:CallOk P G callF) (hs:Rel G B0 hp fz w I M) (hf:M n = none) (hh:hp n = none) (hz:fz n = false) (hT:TRel w I M T a.tmps) {o:Oper} {out:Out}
  (h:drawOpH P env G callF T hp fz n o.op = some out) {next:Act → World → Prop} {Q:Exit → Act → World → Prop}
  (hn:∀ x w' I' M',Did G B0 (hpOut hp n out) (fzOut fz out) n w I M w' I' M' out.val x → next (a.put o.dst x) w'):o.wp P a w next Q := by
 have hlk := lkIn_rep' hs hT
 unfold drawOpH at h
 split at h
 ·rename_i f args hc
  have key:∀ env',EnvOk P G env' → envCall env' hp f args = some out → o.wp P a w next Q := by
   intro env' hE' hout
   cases hF:env' f with
   | none => unfold envCall at hout; simp [hF] at hout
   | some F =>
    have hen := (hE' f F hF).1
    obtain ⟨xs,hxs,hrun⟩ := callOf_run (P := P) hlk hc hen
    have := (envCall_did (n := n) hE' hs hxs hout).2
    unfold Oper.wp
    rw [hrun,Oper.upon_enter]
    refine this.mono ?_
    rintro e w' ⟨x,I',M',rfl,hd⟩
    exact hn x w' I' M' hd
  split at h
  ·rename_i o' hout
   cases h
   exact key env hE hout
  ·rcases apart_cases h with h' | ⟨as,v,s,e,h1,h2,h3,rfl⟩
   ·exact key _ (apart_ok hC h) h'
   ·have hen := (hC f as _ v s h2).1
    obtain ⟨xs,hxs,hrun⟩ := callOf_run (P := P) hlk hc hen
    have := (own_did hC hs hf hh hz hxs h1 h2 h3).2
    unfold Oper.wp
    rw [hrun,Oper.upon_enter]
    refine this.mono ?_
    rintro e1 w' ⟨x,I',M',rfl,hd⟩
    exact hn x w' I' M' hd
 ·obtain ⟨x,w',I',M',hrun,hd⟩ := evalOp_sound (P := P) hs hf hh hz hlk h
  have hgo := hn x w' I' M' hd
  unfold Oper.wp
  rcases hrun with hrun | ⟨hrun,rfl⟩
  ·rw [hrun,Oper.upon_value]; exact hgo
  ·rw [hrun,Oper.upon_skip]; exact hgo
end
section
variable {P:Program} {env:Env} {G:Nat → Option PV} {callF:CallF} {ops:List Oper} {l:List Lg} {Ts:Nat → Tm} {Ss:Nat → St} {os:Nat → Option Out}
theorem Trace.next_eq (ht:Trace P env G callF ops ops 0 l Ts Ss os) {k:Nat} (hk:k < ops.length):(Ss (k+1)).next = (Ss k).next + (if os k = none then 0 else 1) := by
 have h := ht.step k _ (List.getElem?_eq_getElem hk)
 cases ho:os k with
 | none => rw [(h.skip ho).2.2]; simp
 | some r => rw [(h.done r ho).2.2.2.2,apply_next_eq]; simp
theorem Trace.mono (ht:Trace P env G callF ops ops 0 l Ts Ss os) {i:Nat}:∀ d,i + d ≤ ops.length → (Ss i).next ≤ (Ss (i + d)).next
 | 0,_ => Nat.le_refl _
 | d+1,h => by
  have h1 := ht.mono (i := i) d (by omega)
  have h2 := ht.next_eq (k := i + d) (by omega)
  rw [← Nat.add_assoc,h2]; omega
theorem Trace.le (ht:Trace P env G callF ops ops 0 l Ts Ss os) {i j:Nat} (h:i ≤ j) (hj:j ≤ ops.length):(Ss i).next ≤ (Ss j).next := by
 have := ht.mono (i := i) (j - i) (by omega)
 rwa [show i + (j - i) = j by omega] at this
theorem Trace.lt (ht:Trace P env G callF ops ops 0 l Ts Ss os) {i j:Nat} (h:i < j) (hj:j ≤ ops.length) (ho:os i ≠ none):(Ss i).next < (Ss j).next := by
 have h1 := ht.next_eq (k := i) (by omega)
 rw [if_neg ho] at h1
 have := ht.le (i := i+1) (j := j) h hj
 omega
theorem Trace.frB (ht:Trace P env G callF ops ops 0 l Ts Ss os) {i:Nat} (hi:i < ops.length) {o:Out} (ho:os i = some o):OkOut (Ss i) o := ((ht.step i _ (List.getElem?_eq_getElem hi)).done o ho).2.2.1
theorem Trace.hC (ht:Trace P env G callF ops ops 0 l Ts Ss os):∀ k,k < ops.length → ∀ r,¬ (∃ o,os k = some o ∧ r ∈ o.wrote (Ss k).next) → (Ss (k+1)).hp r = (Ss k).hp r := by
 intro k hk r h
 have hst := ht.step k _ (List.getElem?_eq_getElem hk)
 cases ho:os k with
 | none => rw [(hst.skip ho).2.2]
 | some o =>
  obtain ⟨_,_,h1,_,h2⟩ := hst.done o ho
  rw [h2,apply_hp h1]
  exact hpOut_out fun hr => h ⟨o,ho,hr⟩
theorem Trace.tC (ht:Trace P env G callF ops ops 0 l Ts Ss os):∀ k,k < ops.length → ∀ t,¬ (∃ o,ops[k]? = some o ∧ o.dst = some t) → lookT (Ts (k+1)) t = lookT (Ts k) t := by
 intro k hk t h
 have hst := ht.step k _ (List.getElem?_eq_getElem hk)
 have hput:∀ v,lookT (putT (Ts k) ops[k].dst v) t = lookT (Ts k) t := fun v => by
  cases hd:ops[k].dst with
  | none => rfl
  | some d =>
   have:d ≠ t := fun e => h ⟨_,List.getElem?_eq_getElem hk,by rw [hd,e]⟩
   simp only [putT,lookT,Bool.cond_eq_ite,nat_beq_eq,if_neg this]
 cases ho:os k with
 | none => rw [(hst.skip ho).2.1]; exact hput _
 | some o => rw [(hst.done o ho).2.2.2.1]; exact hput _
theorem Trace.hpB (ht:Trace P env G callF ops ops 0 l Ts Ss os) (h0:∀ r e,(Ss 0).hp r = some e → r < (Ss 0).next):∀ k,k ≤ ops.length → ∀ r e,(Ss k).hp r = some e → r < (Ss k).next
 | 0,_,r,e,h => h0 r e h
 | k+1,hk,r,e,h => by
  have hst := ht.step k _ (List.getElem?_eq_getElem (show k < ops.length by omega))
  have ih := ht.hpB h0 k (by omega)
  cases ho:os k with
  | none => rw [(hst.skip ho).2.2] at h ⊢; exact ih r e h
  | some o =>
   obtain ⟨_,_,h1,_,h2⟩ := hst.done o ho
   rw [h2,apply_hp h1] at h
   rw [h2,apply_next_eq]
   by_cases hr:r ∈ o.wrote (Ss k).next
   ·rcases mem_wrote.1 hr with ⟨_,h3⟩ | ⟨e',h3⟩ | h3
    ·omega
    ·have := (h1.wr r e' h3).1
     obtain ⟨y,hy⟩ := Option.isSome_iff_exists.1 this
     have := ih r y hy; omega
    ·by_cases hn:(∃ e,o.new = some e) ∧ r = (Ss k).next
     ·omega
     ·by_cases hw:∃ e,o.wr = some (r,e)
      ·obtain ⟨e',hw⟩ := hw
       obtain ⟨y,hy⟩ := Option.isSome_iff_exists.1 (h1.wr r e' hw).1
       have := ih r y hy; omega
      ·exfalso
       have:hpOut (Ss k).hp (Ss k).next o r = none := by
        rw [hpOut_in (hp' := fun _ => none) hr]
        unfold hpOut
        have h4:(match o.wr with | some (r,e) => upF (match o.kill with | some r => upF (fun _ => none) r none | none => fun _ => none) r (some e) | none => (match o.kill with | some r => upF (fun _ => (none:Option Ent)) r none | none => fun _ => none)) r = none := by
         rcases hw':o.wr with _ | ⟨q,e'⟩
         ·simp only [h3,upF_same]
         ·have:r ≠ q := fun e'' => hw ⟨e',by rw [hw',e'']⟩
          simp only [h3]
          rw [upF_other _ _ _ _ this,upF_same]
        cases hnn:o.new with
        | none => exact h4
        | some e' =>
         simp only []
         have:r ≠ (Ss k).next := fun e'' => hn ⟨⟨e',hnn⟩,e''⟩
         rw [upF_other _ _ _ _ this]; exact h4
       rw [this] at h; cases h
   ·rw [hpOut_out hr] at h
    have := ih r e h; omega
theorem Trace.fzC (ht:Trace P env G callF ops ops 0 l Ts Ss os) (r:Nat):∀ k,k ≤ ops.length → ((Ss k).fz r = true ↔ (Ss 0).fz r = true ∨ ∃ i,i < k ∧ ∃ o,os i = some o ∧ r ∈ o.fr)
 | 0,_ => by simp
 | k+1,hk => by
  have hst := ht.step k _ (List.getElem?_eq_getElem (show k < ops.length by omega))
  have ih := ht.fzC r k (by omega)
  cases ho:os k with
  | none =>
   rw [(hst.skip ho).2.2,ih]
   constructor
   ·rintro (h | ⟨i,h1,h2⟩)
    ·exact .inl h
    ·exact .inr ⟨i,by omega,h2⟩
   ·rintro (h | ⟨i,h1,o,h2,h3⟩)
    ·exact .inl h
    ·by_cases hik:i = k
     ·subst hik; rw [ho] at h2; cases h2
     ·exact .inr ⟨i,by omega,o,h2,h3⟩
  | some o =>
   obtain ⟨_,_,h1,_,h2⟩ := hst.done o ho
   rw [h2,apply_fz h1,ih]
   constructor
   ·rintro ((h | ⟨i,h3,h4⟩) | h)
    ·exact .inl h
    ·exact .inr ⟨i,by omega,h4⟩
    ·exact .inr ⟨k,by omega,o,ho,h⟩
   ·rintro (h | ⟨i,h3,o',h4,h5⟩)
    ·exact .inl (.inl h)
    ·by_cases hik:i = k
     ·subst hik; rw [ho] at h4; cases h4; exact .inr h5
     ·exact .inl (.inr ⟨i,by omega,o',h4,h5⟩)
theorem Trace.fzB (ht:Trace P env G callF ops ops 0 l Ts Ss os) (h0:∀ r,(Ss 0).fz r = true → r < (Ss 0).next) {k:Nat} (hk:k ≤ ops.length) {r:Nat} (h:(Ss k).fz r = true):r < (Ss k).next := by
 rcases (ht.fzC r k hk).1 h with h | ⟨i,h1,o,h2,h3⟩
 ·exact Nat.lt_of_lt_of_le (h0 r h) (ht.le (Nat.zero_le _) hk)
 ·exact Nat.lt_of_lt_of_le ((ht.frB (by omega) h2).fr r h3) (ht.le (by omega) hk)
theorem Trace.clash (ht:Trace P env G callF ops ops 0 l Ts Ss os) (hl:logOk (beforeM ops []) l = true) {i k:Nat} (hi:i < ops.length) (hk:k < ops.length) (hik:i ≠ k) {oi ok:Out} (h1:os i = some oi) (h2:os k = some ok) {r:Nat} (hr:r ∈ oi.wrote (Ss i).next)
  (hr':r ∈ touch (lkIn G (Ts k)) ops[k].op ++ ok.fr ∨ r ∈ ok.wrote (Ss k).next):(i < k ∧ Pre ops i k) ∨ (k < i ∧ Pre ops k i) := by
 have a1 := ht.log i _ oi (List.getElem?_eq_getElem hi) h1
 have a2 := ht.log k _ ok (List.getElem?_eq_getElem hk) h2
 rw [Nat.zero_add] at a1 a2
 have := logOk_spec hl a1 a2 hik (r := r) hr hr'
 rcases inOrder_spec this with h | ⟨h,h'⟩
 ·exact .inl h
 ·exact .inr ⟨by simp only [] at h; omega,h'⟩
end
structure DInv (G:Nat → Option PV) (B0:Nat) (ops:List Oper) (Ts:Nat → Tm) (Ss:Nat → St) (os:Nat → Option Out) (n:Nat) (a0:Act) (w0:World) (I0:Nat → Prop) (M0:Names)
  (L:Nat → Prop) (a:Act) (w:World) (I:Nat → Prop) (M:Names) (T:Tm) (hp:Nat → Option Ent) (fz:Nat → Bool):Prop where
 closed:Closed ops L
 rel:Rel G B0 hp fz w I M
 trel:TRel w I M T a.tmps
 agT:Agree (fun k t => lookT (Ts k) t) (fun i t => ∃ o,ops[i]? = some o ∧ o.dst = some t) ops.length L (lookT T)
 agH:Agree (fun k r => (Ss k).hp r) (fun i r => ∃ o,os i = some o ∧ r ∈ o.wrote (Ss i).next) ops.length L hp
 fzI:∀ r,fz r = true ↔ (Ss 0).fz r = true ∨ ∃ i,i < ops.length ∧ L i ∧ ∃ o,os i = some o ∧ r ∈ o.fr
 names:∀ r l,M r = some l → r < (Ss 0).next ∨ ∃ i,i < ops.length ∧ L i ∧ os i ≠ none ∧ r = (Ss i).next
 fwd:Fwd B0 (Ss 0).next w0 I0 M0 w I M
 size:a.tmps.size = n
 defers:a.defers = a0.defers
section
variable {P:Program} {env:Env} {G:Nat → Option PV} {callF:CallF} {ops:List Oper} {l:List Lg} {Ts:Nat → Tm} {Ss:Nat → St} {os:Nat → Option Out} {B0 n:Nat}
 {a0:Act} {w0:World} {I0:Nat → Prop} {M0:Names} {L:Nat → Prop} {a:Act} {w:World} {I:Nat → Prop} {M:Names} {T:Tm} {hp:Nat → Option Ent} {fz:Nat → Bool}
theorem DInv.fin (hd:DInv G B0 ops Ts Ss os n a0 w0 I0 M0 L a w I M T hp fz) (ht:Trace P env G callF ops ops 0 l Ts Ss os) (h0:SRel G B0 (Ss 0) w0 I0 M0) (hL:∀ i,i < ops.length → L i) :
  SRel G B0 (Ss ops.length) w I M ∧ TRel w I M (Ts ops.length) a.tmps := by
 have e1:hp = (Ss ops.length).hp := funext fun r => hd.agH.full hL r
 have e2:fz = (Ss ops.length).fz := funext fun r => by
  rw [Bool.eq_iff_iff,hd.fzI,ht.fzC r _ (Nat.le_refl _)]
  constructor
  ·rintro (h | ⟨i,h1,_,h2⟩)
   ·exact .inl h
   ·exact .inr ⟨i,h1,h2⟩
  ·rintro (h | ⟨i,h1,h2⟩)
   ·exact .inl h
   ·exact .inr ⟨i,h1,hL i h1,h2⟩
 refine ⟨⟨by rw [← e1,← e2]; exact hd.rel,fun r l hm => ?_,ht.hpB h0.heap _ (Nat.le_refl _),fun r hr => ht.fzB h0.froz (Nat.le_refl _) hr⟩,fun t => ?_⟩
 ·rcases hd.names r l hm with h | ⟨i,h1,_,h2,rfl⟩
  ·exact Nat.lt_of_lt_of_le h (ht.le (Nat.zero_le _) (Nat.le_refl _))
  ·exact ht.lt h1 (Nat.le_refl _) h2
 ·have := hd.agT.full hL t
  rw [← this]; exact hd.trel t
theorem DInv.looks (hd:DInv G B0 ops Ts Ss os n a0 w0 I0 M0 L a w I M T hp fz) (hst:staticOk ops = true) {k:Nat} {o:Oper} (ho:ops[k]? = some o) (hkL:¬ L k) (hr:∀ e ∈ o.after,Region.binds .any e = true → L e.on) {t:Nat} (htl:t ∈ looksOf ops o) :
  lookT T t = lookT (Ts k) t := by
 have hk:k < ops.length := (List.getElem?_eq_some_iff.1 ho).1
 unfold staticOk at hst
 simp only [Bool.and_eq_true] at hst
 refine hd.agT.use hk hkL (fun i hi ⟨p,hp',hd'⟩ => ?_) fun i hi hiN ⟨p,hp',hd'⟩ hLi => ?_
 ·exact hd.closed.ready ho hr (slotsOk_spec ops 0 hst.2 rfl i k p o hi (Nat.zero_le _) hp' ho (.inl ⟨t,hd',.inl htl⟩))
 ·exact hkL (hd.closed.pre (i+1) i k (by omega) (slotsOk_spec ops 0 hst.2 rfl k i o p hi (Nat.zero_le _) ho hp' (.inr ⟨t,hd',htl⟩)) hLi)
theorem DInv.wanted (hd:DInv G B0 ops Ts Ss os n a0 w0 I0 M0 L a w I M T hp fz) (hst:staticOk ops = true) {k:Nat} {o:Oper} (ho:ops[k]? = some o) (hkL:¬ L k) (hr:∀ e ∈ o.after,Region.binds .any e = true → L e.on):wantedP ops T o = wantedP ops (Ts k) o := by
 unfold wantedP
 cases hg:o.guard with
 | none => rfl
 | some p =>
  obtain ⟨j,want⟩ := p
  simp only []
  cases hj:(ops[j]?).bind (·.dst) with
  | none => rfl
  | some d =>
   simp only []
   rw [hd.looks hst ho hkL hr (t := d) (by unfold looksOf; rw [hg]; simp [hj])]
theorem DInv.operands (hd:DInv G B0 ops Ts Ss os n a0 w0 I0 M0 L a w I M T hp fz) (hst:staticOk ops = true) {k:Nat} {o:Oper} (ho:ops[k]? = some o) (hkL:¬ L k) (hr:∀ e ∈ o.after,Region.binds .any e = true → L e.on):∀ y ∈ o.op.operands,lkIn G T y = lkIn G (Ts k) y := by
 intro y hy
 cases y with
 | tmp t =>
  simp only [lkIn]
  refine hd.looks hst ho hkL hr ?_
  unfold looksOf
  exact List.mem_append_left _ (List.mem_filterMap.2 ⟨.tmp t,by simpa using hy,rfl⟩)
 | const v => rfl
 | global g => rfl
 | func f => rfl
theorem Closed.add {k:Nat} {o:Oper} (h:Closed ops L) (ho:ops[k]? = some o) (hr:∀ e ∈ o.after,Region.binds .any e = true → L e.on):Closed ops (fun i => i = k ∨ L i) := by
 intro j o' ho' hj e he hb
 rcases hj with rfl | hj
 ·rw [ho] at ho'; cases ho'; exact .inr (hr e he hb)
 ·exact .inr (h j o' ho' hj e he hb)
theorem DInv.agT_step (hd:DInv G B0 ops Ts Ss os n a0 w0 I0 M0 L a w I M T hp fz) (ht:Trace P env G callF ops ops 0 l Ts Ss os) (hst:staticOk ops = true) {k:Nat} {o:Oper} (ho:ops[k]? = some o) (hkL:¬ L k) {v:PV} (hT:Ts (k+1) = putT (Ts k) o.dst v) :
  Agree (fun k t => lookT (Ts k) t) (fun i t => ∃ o,ops[i]? = some o ∧ o.dst = some t) ops.length (fun i => i = k ∨ L i) (lookT (putT T o.dst v)) := by
 have hk:k < ops.length := (List.getElem?_eq_some_iff.1 ho).1
 unfold staticOk at hst
 simp only [Bool.and_eq_true] at hst
 refine hd.agT.step ht.tC hk hkL (fun t ⟨o',h1,h2⟩ i hi hiN ⟨p,hp',hd'⟩ hLi => ?_) (fun t ⟨o',h1,h2⟩ => ?_) fun t h1 => ?_
 ·rw [ho] at h1; cases h1
  exact hkL (hd.closed.pre (i+1) i k (by omega) (slotsOk_spec ops 0 hst.2 rfl k i o p hi (Nat.zero_le _) ho hp' (.inl ⟨t,h2,.inr hd'⟩)) hLi)
 ·rw [ho] at h1; cases h1
  simp only [hT]
  rw [h2]
  simp only [putT,lookT,Nat.beq_refl,cond_true]
 ·cases hdst:o.dst with
  | none => rfl
  | some d =>
   have:d ≠ t := fun e => h1 ⟨o,ho,by rw [hdst,e]⟩
   simp only [putT,lookT,Bool.cond_eq_ite,nat_beq_eq,if_neg this]
theorem DInv.skip (hd:DInv G B0 ops Ts Ss os n a0 w0 I0 M0 L a w I M T hp fz) (ht:Trace P env G callF ops ops 0 l Ts Ss os) (hst:staticOk ops = true) (hdst:dstsOk n ops = true) {k:Nat} {o:Oper} (ho:ops[k]? = some o) (hkL:¬ L k) (hr:∀ e ∈ o.after,Region.binds .any e = true → L e.on)
  (hn:os k = none):wantedP ops T o = some false ∧ DInv G B0 ops Ts Ss os n a0 w0 I0 M0 (fun i => i = k ∨ L i) (a.put o.dst undef) w I M (putT T o.dst undefP) hp fz := by
 have hk:k < ops.length := (List.getElem?_eq_some_iff.1 ho).1
 obtain ⟨h1,h2,h3⟩ := (ht.step k o ho).skip hn
 have hdo:∀ d,o.dst = some d → d < n := fun d hd' => by
  have := List.all_eq_true.1 hdst o (List.mem_of_getElem? ho)
  simp only [hd',blt_iff] at this; exact this
 refine ⟨by rw [hd.wanted hst ho hkL hr]; exact h1,hd.closed.add ho hr,hd.rel,hd.trel.put undef_rep (fun d hd' => by rw [hd.size]; exact hdo d hd'),hd.agT_step ht hst ho hkL h2,?_,fun r => ?_,fun r l hm => ?_,hd.fwd,by rw [put_size]; exact hd.size,by rw [put_defers]; exact hd.defers⟩
 ·exact hd.agH.step ht.hC hk hkL (fun r ⟨o',h4,_⟩ => by rw [hn] at h4; cases h4) (fun r ⟨o',h4,_⟩ => by rw [hn] at h4; cases h4) fun r _ => rfl
 ·rw [hd.fzI]
  constructor
  ·rintro (h | ⟨i,h4,h5,h6⟩)
   ·exact .inl h
   ·exact .inr ⟨i,h4,.inr h5,h6⟩
  ·rintro (h | ⟨i,h4,rfl | h5,o',h6,h7⟩)
   ·exact .inl h
   ·rw [hn] at h6; cases h6
   ·exact .inr ⟨i,h4,h5,o',h6,h7⟩
 ·rcases hd.names r l hm with h | ⟨i,h4,h5,h6⟩
  ·exact .inl h
  ·exact .inr ⟨i,h4,.inr h5,h6⟩
theorem DInv.done (hd:DInv G B0 ops Ts Ss os n a0 w0 I0 M0 L a w I M T hp fz) (ht:Trace P env G callF ops ops 0 l Ts Ss os) (hst:staticOk ops = true) (hl:logOk (beforeM ops []) l = true) (hdst:dstsOk n ops = true) (h0:SRel G B0 (Ss 0) w0 I0 M0)
  (hE:EnvOk P G env) (hC:CallOk P G callF) {k:Nat} {o:Oper} (ho:ops[k]? = some o) (hkL:¬ L k) (hr:∀ e ∈ o.after,Region.binds .any e = true → L e.on) {out:Out}
  (hn:os k = some out) {next:Act → World → Prop} {Q:Exit → Act → World → Prop}
  (hq:∀ a' w' I' M' T' hp' fz',DInv G B0 ops Ts Ss os n a0 w0 I0 M0 (fun i => i = k ∨ L i) a' w' I' M' T' hp' fz' → next a' w'):wantedP ops T o = some true ∧ o.wp P a w next Q := by
 have hk:k < ops.length := (List.getElem?_eq_some_iff.1 ho).1
 have hok:ops[k] = o := (List.getElem?_eq_some_iff.1 ho).2
 obtain ⟨h1,h2,h3,h4,h5⟩ := (ht.step k o ho).done out hn
 have hdo:∀ d,o.dst = some d → d < n := fun d hd' => by
  have := List.all_eq_true.1 hdst o (List.mem_of_getElem? ho)
  simp only [hd',blt_iff] at this; exact this
 refine ⟨by rw [hd.wanted hst ho hkL hr]; exact h1,?_⟩
 have side:∀ i,i < ops.length → (i < k ∧ Pre ops i k) ∨ (k < i ∧ Pre ops k i) → (i < k ∧ L i) ∨ (k < i ∧ ¬ L i) := fun i hi h => by
  rcases h with ⟨h6,h7⟩ | ⟨h6,h7⟩
  ·exact .inl ⟨h6,hd.closed.ready ho hr h7⟩
  ·exact .inr ⟨h6,fun hLi => hkL (hd.closed.pre (i+1) i k (by omega) h7 hLi)⟩
 have hMk:M (Ss k).next = none := by
  cases hm:M (Ss k).next with
  | none => rfl
  | some lc =>
   exfalso
   rcases hd.names _ lc hm with h | ⟨i,h6,h7,h8,h9⟩
   ·have := ht.le (Nat.zero_le k) (by omega); omega
   ·rcases Nat.lt_trichotomy i k with hlt | rfl | hlt
    ·have := ht.lt hlt (by omega) h8; omega
    ·exact hkL h7
    ·have := ht.lt hlt (by omega) (by rw [hn]; simp); omega
 have hhk:hp (Ss k).next = none := by
  cases hm:hp (Ss k).next with
  | none => rfl
  | some e =>
   obtain ⟨lc,h6,_⟩ := hd.rel.ent _ e hm
   rw [hMk] at h6; cases h6
 have hheap:∀ r,r ∈ touch (lkIn G (Ts k)) o.op ++ out.fr ∨ r ∈ out.wrote (Ss k).next → hp r = (Ss k).hp r := fun r hrt => by
  have cl:∀ i,i < ops.length → i ≠ k → (∃ o,os i = some o ∧ r ∈ o.wrote (Ss i).next) → (i < k ∧ L i) ∨ (k < i ∧ ¬ L i) := fun i hi hik ⟨oi,hoi,hwi⟩ =>
   side i hi (ht.clash hl hi hk hik hoi hn hwi (by rw [hok]; exact hrt))
  refine hd.agH.use hk hkL (fun i hi hw => ?_) fun i hi hiN hw => ?_
  ·rcases cl i (by omega) (by omega) hw with h | h
   ·exact h.2
   ·omega
  ·rcases cl i hiN (by omega) hw with h | h
   ·omega
   ·exact h.2
 have hfz:∀ r,r ∈ out.wrote (Ss k).next → r ≠ (Ss k).next → fz r = (Ss k).fz r := fun r hw hne => by
  rw [Bool.eq_iff_iff,hd.fzI,ht.fzC r k (by omega)]
  have cl:∀ i,i < ops.length → i ≠ k → ∀ oi,os i = some oi → r ∈ oi.fr → (i < k ∧ L i) ∨ (k < i ∧ ¬ L i) := fun i hi hik oi hoi hfr => by
   refine side i hi ?_
   rcases ht.clash hl hk hi (Ne.symm hik) hn hoi hw (.inl (List.mem_append_right _ hfr)) with h | h
   ·exact .inr h
   ·exact .inl h
  constructor
  ·rintro (h | ⟨i,h6,h7,oi,h8,h9⟩)
   ·exact .inl h
   ·have hik:i ≠ k := fun e => hkL (e ▸ h7)
    rcases cl i h6 hik oi h8 h9 with h | h
    ·exact .inr ⟨i,h.1,oi,h8,h9⟩
    ·exact absurd h7 h.2
  ·rintro (h | ⟨i,h6,oi,h8,h9⟩)
   ·exact .inl h
   ·rcases cl i (by omega) (by omega) oi h8 h9 with h | h
    ·exact .inr ⟨i,by omega,h.2,oi,h8,h9⟩
    ·omega
 let fz1:Nat → Bool := fun r => if r = (Ss k).next then false else fz r
 have hrel1:Rel G B0 hp fz1 w I M := hd.rel.less fun r e he => ⟨he,by
  have:r ≠ (Ss k).next := fun e' => by rw [e',hhk] at he; cases he
  simp only [fz1,if_neg this]⟩
 have hfresh:(Ss k).fz (Ss k).next = false := by
  cases hz:(Ss k).fz (Ss k).next with
  | false => rfl
  | true => have := ht.fzB h0.froz (by omega) hz; omega
 rw [drawOp_eq] at h2
 have hrun:drawOpH P env G callF T hp fz1 (Ss k).next o.op = some out := drawOpH_local h2 (hd.operands hst ho hkL hr) (fun r hr' => hheap r (.inl hr')) fun r hr' => by
  by_cases he:r = (Ss k).next
  ·simp only [fz1,if_pos he]; rw [he]; exact hfresh.symm
  ·simp only [fz1,if_neg he]; exact hfz r hr' he
 refine drawOpH_wp hE hC hrel1 hMk hhk (by simp [fz1]) hd.trel hrun fun x w' I' M' hdid => ?_
 have hmm:∀ r lc,M r = some lc → M' r = some lc := fun r lc hm => by
  rw [hdid.names r (fun e => by rw [e,hMk] at hm; cases hm)]; exact hm
 refine hq _ w' I' M' (putT T o.dst out.val) (hpOut hp (Ss k).next out) (fzOut fz out) ⟨hd.closed.add ho hr,?_,?_,hd.agT_step ht hst ho hkL h4,?_,fun r => ?_,fun r lc hm => ?_,?_,by rw [put_size]; exact hd.size,by rw [put_defers]; exact hd.defers⟩
 ·refine hdid.rel.less fun r e he => ⟨he,?_⟩
  have key:r = (Ss k).next → fz r = false := fun e' => by
   have hnew:(Ss k).next ∈ out.wrote (Ss k).next := by
    rcases Classical.em ((Ss k).next ∈ out.wrote (Ss k).next) with hw | hw
    ·exact hw
    ·rw [e',hpOut_out hw,hhk] at he; cases he
   cases hz:fz r with
   | false => rfl
   | true =>
    exfalso
    rcases (hd.fzI r).1 hz with h | ⟨i,h6,h7,oi,h8,h9⟩
    ·have := h0.froz r h
     have := ht.le (Nat.zero_le k) (by omega); omega
    ·have hik:i ≠ k := fun e => hkL (e ▸ h7)
     rcases ht.clash hl hk h6 (Ne.symm hik) hn h8 hnew (.inl (List.mem_append_right _ (e' ▸ h9))) with h | h
     ·exact hkL (hd.closed.pre (i+1) i k (by omega) h.2 h7)
     ·have := (ht.frB h6 h8).fr r h9
      have := ht.le (Nat.le_of_lt h.1) (by omega); omega
  have he1:fz1 r = fz r := by
   by_cases e':r = (Ss k).next
   ·simp only [fz1,if_pos e']; exact (key e').symm
   ·simp only [fz1,if_neg e']
  unfold fzOut
  cases out.new with
  | some _ => exact he1.symm
  | none => simp only [he1]
 ·exact (show TRel w' I' M' T a.tmps from fun t => (hd.trel t).mono hdid.keep hdid.sub hmm).put hdid.val fun d hd' => by rw [hd.size]; exact hdo d hd'
 ·refine hd.agH.step ht.hC hk hkL (fun r ⟨o',h6,h7⟩ i hi hiN ⟨oi,hoi,hwi⟩ hLi => ?_) (fun r ⟨o',h6,h7⟩ => ?_) fun r h6 => ?_
  ·rw [hn] at h6; cases h6
   rcases ht.clash hl hiN hk (by omega) hoi hn hwi (.inr h7) with h | h
   ·omega
   ·exact hkL (hd.closed.pre (i+1) i k (by omega) h.2 hLi)
  ·rw [hn] at h6; cases h6
   simp only [h5,apply_hp h3]
   exact hpOut_in h7
  ·exact hpOut_out fun hw => h6 ⟨out,hn,hw⟩
 ·rw [fzOut_iff h3,hd.fzI]
  constructor
  ·rintro ((h | ⟨i,h6,h7,h8⟩) | h)
   ·exact .inl h
   ·exact .inr ⟨i,h6,.inr h7,h8⟩
   ·exact .inr ⟨k,hk,.inl rfl,out,hn,h⟩
  ·rintro (h | ⟨i,h6,rfl | h7,oi,h8,h9⟩)
   ·exact .inl (.inl h)
   ·rw [hn] at h8; cases h8; exact .inr h9
   ·exact .inl (.inr ⟨i,h6,h7,oi,h8,h9⟩)
 ·by_cases he:r = (Ss k).next
  ·exact .inr ⟨k,hk,.inl rfl,by rw [hn]; simp,he⟩
  ·rw [hdid.names r he] at hm
   rcases hd.names r lc hm with h | ⟨i,h6,h7,h8⟩
   ·exact .inl h
   ·exact .inr ⟨i,h6,.inr h7,h8⟩
 ·exact hd.fwd.trans (m := (Ss k).next) ⟨hdid.below,hdid.keep,hdid.sub,hdid.more,fun r hr' => hdid.names r (by omega)⟩ (ht.le (Nat.zero_le k) (by omega))
end
def unlisted (N:Nat) (listed:Array Bool):Nat := ((List.range N).filter fun i => !listed.getD i false).length
theorem filter_lt {p q:Nat → Bool} {k:Nat}:∀ (l:List Nat),(∀ i,q i = true → p i = true) → k ∈ l → p k = true → q k = false → (l.filter q).length < (l.filter p).length
 | [],_,hk,_,_ => by cases hk
 | x :: l,hpq,hk,h1,h2 => by
  have hle:∀ l:List Nat,(l.filter q).length ≤ (l.filter p).length := by
   intro l
   induction l with
   | nil => simp
   | cons y l ih =>
    simp only [List.filter_cons]
    cases hq:q y with
    | true => rw [hpq y hq]; simp; exact ih
    | false => cases p y <;> simp <;> omega
  rcases List.mem_cons.1 hk with rfl | hk
  ·simp only [List.filter_cons,h1,h2,if_true]
   have := hle l
   simp; omega
  ·have := filter_lt l hpq hk h1 h2
   simp only [List.filter_cons]
   cases hq:q x with
   | true => rw [hpq x hq]; simpa using this
   | false => cases p x <;> simp <;> omega
section
variable {P:Program} {env:Env} {G:Nat → Option PV} {callF:CallF} {opsA:Array Oper} {l:List Lg} {Ts:Nat → Tm} {Ss:Nat → St} {os:Nat → Option Out} {B0 n:Nat}
 {a0:Act} {w0:World} {I0:Nat → Prop} {M0:Names}
theorem ready_nil {listed:Array Bool} (he:edgesOk opsA.toList 0 = true) (hsz:listed.size = opsA.size) (h:Region.ready .any opsA listed = []):∀ i,i < opsA.size → listed.getD i false = true := by
 intro i
 induction i using Nat.strongRecOn with
 | _ i ih =>
  intro hi
  cases hg:listed.getD i false with
  | true => rfl
  | false =>
   exfalso
   have hmem:i ∈ Region.ready .any opsA listed := by
    rw [mem_ready]
    refine ⟨?_,opsA[i],by simp [hi],fun e he' hb => ?_⟩
    ·simp only [Array.getD_eq_getD_getElem?] at hg ⊢
     rw [Array.getElem?_eq_getElem (by omega)] at hg ⊢
     exact hg
    ·have := edgesOk_spec opsA.toList 0 he i opsA[i] (by simp [hi]) e he' hb
     exact ih e.on (by omega) (by omega)
   rw [h] at hmem; cases hmem
theorem drawn_wp (hE:EnvOk P G env) (hC:CallOk P G callF) (ht:Trace P env G callF opsA.toList opsA.toList 0 l Ts Ss os) (hst:staticOk opsA.toList = true) (hl:logOk (beforeM opsA.toList []) l = true) (hdst:dstsOk n opsA.toList = true) (h0:SRel G B0 (Ss 0) w0 I0 M0)
  {Q:Exit → Act → World → Prop}
  (hq:∀ a' w' I' M',a'.tmps.size = n → a'.defers = a0.defers → Fwd B0 (Ss 0).next w0 I0 M0 w' I' M' → SRel G B0 (Ss opsA.size) w' I' M' → TRel w' I' M' (Ts opsA.size) a'.tmps → Q .normal a' w') :
  ∀ (fuel:Nat) (listed:Array Bool) (a:Act) (w:World) (I:Nat → Prop) (M:Names) (T:Tm) (hp:Nat → Option Ent) (fz:Nat → Bool),listed.size = opsA.size →
   DInv G B0 opsA.toList Ts Ss os n a0 w0 I0 M0 (fun i => listed.getD i false = true) a w I M T hp fz → unlisted opsA.size listed ≤ fuel → wpAny P .any opsA Q fuel listed a w := by
 have hlen:opsA.toList.length = opsA.size := by simp
 have hedge:edgesOk opsA.toList 0 = true := by
  unfold staticOk at hst
  simp only [Bool.and_eq_true] at hst
  exact hst.1.2
 have fin:∀ (listed:Array Bool) (a:Act) (w:World) (I:Nat → Prop) (M:Names) (T:Tm) (hp:Nat → Option Ent) (fz:Nat → Bool),(∀ i,i < opsA.size → listed.getD i false = true) →
   DInv G B0 opsA.toList Ts Ss os n a0 w0 I0 M0 (fun i => listed.getD i false = true) a w I M T hp fz → Q .normal a w := by
  intro listed a w I M T hp fz hall hd
  obtain ⟨h1,h2⟩ := hd.fin ht h0 (fun i hi => hall i (by omega))
  rw [hlen] at h1 h2
  exact hq a w I M hd.size hd.defers hd.fwd h1 h2
 intro fuel
 induction fuel with
 | zero =>
  intro listed a w I M T hp fz hsz hd hu
  have hall:∀ i,i < opsA.size → listed.getD i false = true := fun i hi => by
   have h1:(List.range opsA.size).filter (fun i => !listed.getD i false) = [] := List.eq_nil_of_length_eq_zero (by unfold unlisted at hu; omega)
   rw [List.filter_eq_nil_iff] at h1
   have := h1 i (List.mem_range.2 hi)
   cases hg:listed.getD i false with
   | true => rfl
   | false => simp only [hg] at this; exact absurd rfl this
  refine ⟨?_,fin listed a w I M T hp fz hall hd⟩
  cases hr:Region.ready .any opsA listed with
  | nil => rfl
  | cons k ks =>
   exfalso
   have hm:k ∈ Region.ready .any opsA listed := by rw [hr]; simp
   obtain ⟨h1,o,ho,_⟩ := mem_ready.1 hm
   have hk:k < opsA.size := (Array.getElem?_eq_some_iff.1 ho).1
   have := hall k hk
   simp only [Array.getD_eq_getD_getElem?] at h1 this
   rw [Array.getElem?_eq_getElem (by omega)] at h1 this
   simp only [Option.getD_some] at h1 this
   rw [h1] at this; cases this
 | succ fuel ih =>
  intro listed a w I M T hp fz hsz hd hu
  refine ⟨fun hr => fin listed a w I M T hp fz (ready_nil hedge hsz hr) hd,fun k hk => ?_⟩
  obtain ⟨h1,o,ho,hready⟩ := mem_ready.1 hk
  have hks:k < opsA.size := (Array.getElem?_eq_some_iff.1 ho).1
  have hfalse:listed.getD k false = false := by
   simp only [Array.getD_eq_getD_getElem?] at h1 ⊢
   rw [Array.getElem?_eq_getElem (by omega)] at h1 ⊢
   exact h1
  have hkL:¬ (listed.getD k false = true) := by rw [hfalse]; simp
  have ho':opsA.toList[k]? = some o := by simpa using ho
  have hset:∀ i,(listed.setIfInBounds k true).getD i false = true ↔ i = k ∨ listed.getD i false = true := fun i => by
   by_cases hik:i = k
   ·subst hik
    have:i < listed.size := by omega
    simp [this]
   ·rw [getD_set_ne false (Ne.symm hik)]; simp [hik]
  have hLeq:(fun i => (listed.setIfInBounds k true).getD i false = true) = (fun i => i = k ∨ listed.getD i false = true) := funext fun i => propext (hset i)
  have hu':unlisted opsA.size (listed.setIfInBounds k true) ≤ fuel := by
   have:unlisted opsA.size (listed.setIfInBounds k true) < unlisted opsA.size listed := by
    refine filter_lt (k := k) _ (fun i hi => ?_) (List.mem_range.2 hks) (by rw [hfalse]; rfl) (by rw [(hset k).2 (.inl rfl)]; rfl)
    cases hg:listed.getD i false with
    | false => rfl
    | true => rw [(hset i).2 (.inr hg)] at hi; cases hi
   omega
  have go:∀ a' w' I' M' T' hp' fz',DInv G B0 opsA.toList Ts Ss os n a0 w0 I0 M0 (fun i => i = k ∨ listed.getD i false = true) a' w' I' M' T' hp' fz' → wpAny P .any opsA Q fuel (listed.setIfInBounds k true) a' w' := by
   intro a' w' I' M' T' hp' fz' hd'
   refine ih (listed.setIfInBounds k true) a' w' I' M' T' hp' fz' (by simp [hsz]) ?_ hu'
   rw [hLeq]; exact hd'
  unfold wpOp
  simp only [ho]
  cases hos:os k with
  | none =>
   obtain ⟨h2,h3⟩ := hd.skip ht hst hdst ho' hkL hready hos
   rw [wanted_sound hd.trel h2]
   simp only [Bool.false_eq_true,if_false]
   exact go _ _ _ _ _ _ _ h3
  | some out =>
   obtain ⟨h2,h3⟩ := hd.done (Q := Q) ht hst hl hdst h0 hE hC ho' hkL hready hos go
   rw [wanted_sound hd.trel h2]
   simp only [if_true]
   exact .inl h3
end
section
variable {P:Program} {G:Nat → Option PV} {B0:Nat}
theorem drawOps_next {env:Env} {callF:CallF} {ops:List Oper}:∀ (rest:List Oper) (j:Nat) (T:Tm) (s:St) (l:List Lg) (T':Tm) (s':St) (l':List Lg),drawOps P env G callF ops rest j T s l = some (T',s',l') → s.next ≤ s'.next
 | [],j,T,s,l,T',s',l',h => by simp only [drawOps,Option.some.injEq,Prod.mk.injEq] at h; obtain ⟨_,rfl,_⟩ := h; exact Nat.le_refl _
 | o :: rest,j,T,s,l,T',s',l',h => by
  simp only [drawOps] at h
  split at h
  ·split at h
   case h_2 => cases h
   rename_i out h1
   simp only [bif_some] at h
   replace h := h.2
   exact Nat.le_trans (apply_next s out) (drawOps_next rest _ _ _ _ _ _ _ h)
  ·exact drawOps_next rest _ _ _ _ _ _ _ h
  ·cases h
theorem drawOps_wp {env:Env} (hE:EnvOk P G env) {callF:CallF} (hC:CallOk P G callF) (hmix:P.follows .mixedOrders = true) {opsA:Array Oper} {n id:Nat} (hst:staticOk opsA.toList = true) (hd:dstsOk n opsA.toList = true)
  {T T':Tm} {s s':St} {l:List Lg} (h:drawOps P env G callF opsA.toList opsA.toList 0 T s [] = some (T',s',l)) (hl:logOk (beforeM opsA.toList []) l = true)
  {a:Act} {w:World} {I:Nat → Prop} {M:Names} (hn:a.tmps.size = n) (hs:SRel G B0 s w I M) (hT:TRel w I M T a.tmps) {Q:Exit → Act → World → Prop}
  (hq:∀ a' w' I' M',a'.tmps.size = n → a'.defers = a.defers → Fwd B0 s.next w I M w' I' M' → SRel G B0 s' w' I' M' → TRel w' I' M' T' a'.tmps → Q .normal a' w') :
  (Code.region id opsA true).wp P Q a w := by
 obtain ⟨Ts,Ss,os,ht,e1,e2,e3,e4⟩ := drawOps_trace _ _ _ _ _ _ _ _ h
 have hlen:opsA.toList.length = opsA.size := by simp
 rw [hlen] at e3 e4
 refine wp_region_any hmix (drawn_wp (a0 := a) (w0 := w) (I0 := I) (M0 := M) (B0 := B0) (n := n) hE hC ht hst hl hd (by rw [e2]; exact hs) (fun a' w' I' M' h1 h2 h3 h4 h5 => ?_) opsA.size _ a _ I M T s.hp s.fz (by simp) ?_ ?_)
 ·rw [e2] at h3; rw [e4] at h4; rw [e3] at h5
  exact hq a' w' I' M' h1 h2 h3 h4 h5
 ·have hno:∀ i,¬ ((Array.replicate opsA.size false).getD i false = true) := fun i => by
   simp only [Array.getD_eq_getD_getElem?,Array.getElem?_replicate]
   split <;> simp
  have hb:Below B0 w { w with drawn := w.drawn+1 } := ⟨rfl,rfl,rfl,Nat.le_refl _,fun _ _ => rfl⟩
  refine ⟨fun j o _ hj => absurd hj (hno j),?_,?_,?_,?_,fun r => ?_,fun r lc hm => ?_,⟨hb,fun _ _ => rfl,fun _ h => h,fun _ h => .inl h,fun _ _ => rfl⟩,hn,rfl⟩
  ·exact hs.rel.world rfl
  ·exact fun t => Rep.mono (w := w) (w' := { w with drawn := w.drawn+1 }) (fun _ _ => rfl) (fun _ h => h) (fun _ _ h => h) (hT t)
  ·have := Agree.start (C := fun k t => lookT (Ts k) t) ht.tC (L := fun i => (Array.replicate opsA.size false).getD i false = true) (fun i _ => hno i)
   simp only [e1] at this; exact this
  ·have := Agree.start (C := fun k r => (Ss k).hp r) ht.hC (L := fun i => (Array.replicate opsA.size false).getD i false = true) (fun i _ => hno i)
   simp only [e2] at this; exact this
  ·rw [e2]
   exact ⟨fun h => .inl h,fun h => by
    rcases h with h | ⟨i,_,h,_⟩
    ·exact h
    ·exact absurd h (hno i)⟩
  ·rw [e2]; exact .inl (hs.names r lc hm)
 ·unfold unlisted
  exact Nat.le_trans (List.length_filter_le _ _) (by simp)
theorem wantedP_more {init tail:List Oper} {T:Tm} {o:Oper} {b:Bool} (h:wantedP init T o = some b):wantedP (init ++ tail) T o = some b := by
 unfold wantedP at h ⊢
 split at h
 ·exact h
 ·rename_i j want hg
  cases hj:init[j]? with
  | none => rw [hj] at h; cases h
  | some x =>
   have hlt:j < init.length := (List.getElem?_eq_some_iff.1 hj).1
   rw [List.getElem?_append_left hlt,hj]
   rw [hj] at h
   exact h
theorem lastOk_spec {k:Nat} {ops:List Oper} (h:lastOk k ops = true):edgesOk ops 0 = true ∧ 0 < k ∧ k ≤ ops.length ∧ ∀ j,ops.length - k ≤ j → j < ops.length → ∀ i,i < j → Pre ops i j := by
 unfold lastOk at h
 simp only [Bool.and_eq_true,blt_iff,ble_iff] at h
 obtain ⟨⟨⟨h1,h2⟩,h3⟩,h4⟩ := h
 refine ⟨h1,h3,h4,fun j hj1 hj2 i hi => ?_⟩
 have := List.all_eq_true.1 h2 (ops.length - 1 - j) (List.mem_range.2 (by omega))
 rw [show ops.length - 1 - (ops.length - 1 - j) = j by omega] at this
 exact List.all_eq_true.1 this i (List.mem_range.2 hi)
theorem tail_any {opsA:Array Oper} {m0:Nat} (hedge:edgesOk opsA.toList 0 = true) (hpre:∀ j,m0 ≤ j → j < opsA.size → ∀ i,i < j → Pre opsA.toList i j) {Q:Exit → Act → World → Prop}:∀ (d m fuel:Nat) (listed:Array Bool) (a:Act) (w:World),m0 ≤ m → m + d = opsA.size → listed.size = opsA.size →
  (∀ i,i < m → listed.getD i false = true) → (∀ i,m ≤ i → listed.getD i false = false) → d ≤ fuel → wpOps P opsA Q (List.range' m d) a w → wpAny P .any opsA Q fuel listed a w
 | 0,m,fuel,listed,a,w,hm0,hmd,hsz,h1,h2,hf,hw => by
  have hnone:Region.ready .any opsA listed = [] := by
   apply List.eq_nil_iff_forall_not_mem.2
   intro i hi
   obtain ⟨h5,p,hp',_⟩ := mem_ready.1 hi
   have hi2:i < opsA.size := (Array.getElem?_eq_some_iff.1 hp').1
   have h6 := h1 i (by omega)
   simp only [Array.getD_eq_getD_getElem?] at h5 h6
   rw [Array.getElem?_eq_getElem (by omega)] at h5 h6
   simp only [Option.getD_some] at h5 h6
   rw [h5] at h6; cases h6
  have hK:Q .normal a w := by simpa [wpOps] using hw
  cases fuel with
  | zero => exact ⟨hnone,hK⟩
  | succ f => exact ⟨fun _ => hK,fun i hi => by rw [hnone] at hi; cases hi⟩
 | d+1,m,0,listed,a,w,hm0,hmd,hsz,h1,h2,hf,hw => by omega
 | d+1,m,fuel+1,listed,a,w,hm0,hmd,hsz,h1,h2,hf,hw => by
  refine ⟨fun hr => ?_,fun k hk => ?_⟩
  ·have := ready_nil hedge hsz hr m (by omega)
   rw [h2 m (Nat.le_refl _)] at this; cases this
  obtain ⟨h3,o,ho,hready⟩ := mem_ready.1 hk
  have hks:k < opsA.size := (Array.getElem?_eq_some_iff.1 ho).1
  have ho2:opsA.toList[k]? = some o := by simpa using ho
  have hfalse:listed.getD k false = false := by
   simp only [Array.getD_eq_getD_getElem?] at h3 ⊢
   rw [Array.getElem?_eq_getElem (by omega)] at h3 ⊢
   exact h3
  have hmk:m ≤ k := by
   rcases Nat.lt_or_ge k m with hlt | hge
   ·rw [h1 k hlt] at hfalse; cases hfalse
   ·exact hge
  have hcl:Closed opsA.toList (fun i => listed.getD i false = true) := fun j p hj hLj e he hb => by
   have hjm:j < m := by
    rcases Nat.lt_or_ge j m with hlt | hge
    ·exact hlt
    ·have hLj:listed.getD j false = true := hLj
     rw [h2 j hge] at hLj; cases hLj
   have := edgesOk_spec opsA.toList 0 hedge j p hj e he hb
   exact h1 e.on (by omega)
  have hkm:k = m := by
   rcases Nat.lt_or_eq_of_le hmk with hlt | h
   ·have:listed.getD m false = true := hcl.ready ho2 hready (hpre k (by omega) hks m hlt)
    rw [h2 m (Nat.le_refl _)] at this; cases this
   ·exact h.symm
  subst hkm
  rw [List.range'_succ,wpOps_cons] at hw
  refine wpOp_mono (fun a' w' hK => ?_) hw
  have hset:∀ i,(listed.setIfInBounds k true).getD i false = true ↔ i = k ∨ listed.getD i false = true := fun i => by
   by_cases hik:i = k
   ·subst hik
    have:i < listed.size := by omega
    simp [this]
   ·rw [getD_set_ne false (Ne.symm hik)]; simp [hik]
  refine tail_any hedge hpre d (k+1) fuel _ a' w' (by omega) (by omega) (by simp [hsz]) (fun i hi => (hset i).2 ?_) (fun i hi => ?_) (by omega) hK
  ·rcases Nat.lt_or_eq_of_le (Nat.le_of_lt_succ hi) with hlt | h
   ·exact .inr (h1 i hlt)
   ·exact .inl h
  ·rw [getD_set_ne false (by omega)]; exact h2 i (by omega)
theorem drawnLast_wp {env:Env} {callF:CallF} {opsA:Array Oper} {init tail:List Oper} {l:List Lg} {Ts:Nat → Tm} {Ss:Nat → St} {os:Nat → Option Out} {n:Nat} {a0:Act} {w0:World} {I0:Nat → Prop} {M0:Names}
  (hE:EnvOk P G env) (hC:CallOk P G callF) (hA:opsA.toList = init ++ tail) (hlo:lastOk tail.length opsA.toList = true) (ht:Trace P env G callF init init 0 l Ts Ss os) (hst:staticOk init = true) (hl:logOk (beforeM init []) l = true) (hdst:dstsOk n init = true) (h0:SRel G B0 (Ss 0) w0 I0 M0)
  {Q:Exit → Act → World → Prop}
  (hq:∀ a' w' I' M',a'.tmps.size = n → a'.defers = a0.defers → Fwd B0 (Ss 0).next w0 I0 M0 w' I' M' → SRel G B0 (Ss init.length) w' I' M' → TRel w' I' M' (Ts init.length) a'.tmps → wpOps P opsA Q (List.range' init.length tail.length) a' w') :
  ∀ (fuel:Nat) (listed:Array Bool) (a:Act) (w:World) (I:Nat → Prop) (M:Names) (T:Tm) (hp:Nat → Option Ent) (fz:Nat → Bool),listed.size = opsA.size → (∀ i,init.length ≤ i → listed.getD i false = false) →
   DInv G B0 init Ts Ss os n a0 w0 I0 M0 (fun i => listed.getD i false = true) a w I M T hp fz → unlisted opsA.size listed ≤ fuel → wpAny P .any opsA Q fuel listed a w := by
 obtain ⟨hedge,hk0,hkle,hpre0⟩ := lastOk_spec hlo
 have hlen:opsA.size = init.length + tail.length := by
  have:opsA.toList.length = opsA.size := by simp
  rw [← this,hA]; simp
 have hlen2:opsA.toList.length = opsA.size := by simp
 have hpre:∀ j,init.length ≤ j → j < opsA.size → ∀ i,i < j → Pre opsA.toList i j := fun j h1 h2 i hi => hpre0 j (by omega) (by omega) i hi
 intro fuel
 induction fuel with
 | zero =>
  intro listed a w I M T hp fz hsz hN hd hu
  exfalso
  have h1:(List.range opsA.size).filter (fun i => !listed.getD i false) = [] := List.eq_nil_of_length_eq_zero (by unfold unlisted at hu; omega)
  rw [List.filter_eq_nil_iff] at h1
  have := h1 init.length (List.mem_range.2 (by omega))
  rw [hN _ (Nat.le_refl _)] at this
  exact this rfl
 | succ fuel ih =>
  intro listed a w I M T hp fz hsz hN hd hu
  refine ⟨fun hr => ?_,fun k hk => ?_⟩
  ·have := ready_nil hedge hsz hr init.length (by omega)
   rw [hN _ (Nat.le_refl _)] at this; cases this
  obtain ⟨h1,o,ho,hready⟩ := mem_ready.1 hk
  have hks:k < opsA.size := (Array.getElem?_eq_some_iff.1 ho).1
  have ho2:opsA.toList[k]? = some o := by simpa using ho
  have hfalse:listed.getD k false = false := by
   simp only [Array.getD_eq_getD_getElem?] at h1 ⊢
   rw [Array.getElem?_eq_getElem (by omega)] at h1 ⊢
   exact h1
  have hkL:¬ (listed.getD k false = true) := by rw [hfalse]; simp
  have hset:∀ i,(listed.setIfInBounds k true).getD i false = true ↔ i = k ∨ listed.getD i false = true := fun i => by
   by_cases hik:i = k
   ·subst hik
    have:i < listed.size := by omega
    simp [this]
   ·rw [getD_set_ne false (Ne.symm hik)]; simp [hik]
  have hu':unlisted opsA.size (listed.setIfInBounds k true) ≤ fuel := by
   have:unlisted opsA.size (listed.setIfInBounds k true) < unlisted opsA.size listed := by
    refine filter_lt (k := k) _ (fun i hi => ?_) (List.mem_range.2 hks) (by rw [hfalse]; rfl) (by rw [(hset k).2 (.inl rfl)]; rfl)
    cases hg:listed.getD i false with
    | false => rfl
    | true => rw [(hset i).2 (.inr hg)] at hi; cases hi
   omega
  by_cases hkN:init.length ≤ k
  ·
   have hcl:Closed opsA.toList (fun i => listed.getD i false = true) := fun j p hj hLj e he hb => by
    rcases Nat.lt_or_ge j init.length with hlt | hge
    ·rw [hA,List.getElem?_append_left hlt] at hj
     exact hd.closed j p hj hLj e he hb
    ·have hLj:listed.getD j false = true := hLj
     rw [hN j hge] at hLj; cases hLj
   have hkk:k = init.length := by
    rcases Nat.lt_or_eq_of_le hkN with hlt | h
    ·have:listed.getD init.length false = true := hcl.ready ho2 hready (hpre k hkN hks init.length hlt)
     rw [hN _ (Nat.le_refl _)] at this; cases this
    ·exact h.symm
   subst hkk
   have hall:∀ i,i < init.length → listed.getD i false = true := fun i hi => hcl.ready ho2 hready (hpre _ (Nat.le_refl _) hks i hi)
   obtain ⟨h3,h4⟩ := hd.fin ht h0 hall
   have hw := hq a w I M hd.size hd.defers hd.fwd h3 h4
   obtain ⟨t,ht'⟩:∃ t,tail.length = t+1 := ⟨tail.length - 1,by omega⟩
   rw [ht',List.range'_succ,wpOps_cons] at hw
   refine wpOp_mono (fun a' w' hK => ?_) hw
   have hu2:t ≤ fuel := by
    have h5:unlisted opsA.size listed = tail.length := by
     have e:opsA.size = init.length + tail.length := hlen
     unfold unlisted
     rw [e,List.range_add,List.filter_append,List.length_append]
     have e1:(List.range init.length).filter (fun i => !listed.getD i false) = [] := by
      rw [List.filter_eq_nil_iff]
      intro i hi
      rw [hall i (List.mem_range.1 hi)]; simp
     have e2:((List.range tail.length).map (init.length + ·)).filter (fun i => !listed.getD i false) = (List.range tail.length).map (init.length + ·) := by
      rw [List.filter_eq_self]
      intro i hi
      obtain ⟨j,_,rfl⟩ := List.mem_map.1 hi
      rw [hN _ (Nat.le_add_right _ _)]; rfl
     rw [e1,e2]; simp
    omega
   refine tail_any hedge hpre t (init.length+1) fuel _ a' w' (by omega) (by omega) (by simp [hsz]) (fun i hi => (hset i).2 ?_) (fun i hi => ?_) hu2 hK
   ·rcases Nat.lt_or_eq_of_le (Nat.le_of_lt_succ hi) with hlt | h
    ·exact .inr (hall i hlt)
    ·exact .inl h
   ·rw [getD_set_ne false (by omega)]; exact hN i (by omega)
  ·have hklt:k < init.length := by omega
   have ho':init[k]? = some o := by rw [hA,List.getElem?_append_left hklt] at ho2; exact ho2
   have hLeq:(fun i => (listed.setIfInBounds k true).getD i false = true) = (fun i => i = k ∨ listed.getD i false = true) := funext fun i => propext (hset i)
   have hN':∀ i,init.length ≤ i → (listed.setIfInBounds k true).getD i false = false := fun i hi => by rw [getD_set_ne false (by omega)]; exact hN i hi
   have go:∀ a' w' I' M' T' hp' fz',DInv G B0 init Ts Ss os n a0 w0 I0 M0 (fun i => i = k ∨ listed.getD i false = true) a' w' I' M' T' hp' fz' → wpAny P .any opsA Q fuel (listed.setIfInBounds k true) a' w' := by
    intro a' w' I' M' T' hp' fz' hd'
    refine ih (listed.setIfInBounds k true) a' w' I' M' T' hp' fz' (by simp [hsz]) hN' ?_ hu'
    rw [hLeq]; exact hd'
   unfold wpOp
   simp only [ho]
   cases hos:os k with
   | none =>
    obtain ⟨h2,h3⟩ := hd.skip ht hst hdst ho' hkL hready hos
    rw [wanted_sound hd.trel (hA ▸ wantedP_more h2)]
    simp only [Bool.false_eq_true,if_false]
    exact go _ _ _ _ _ _ _ h3
   | some out =>
    obtain ⟨h2,h3⟩ := hd.done (Q := Q) ht hst hl hdst h0 hE hC ho' hkL hready hos go
    rw [wanted_sound hd.trel (hA ▸ wantedP_more h2)]
    simp only [if_true]
    exact .inl h3
theorem drawLast_wp {env:Env} (hE:EnvOk P G env) {callF:CallF} (hC:CallOk P G callF) (hmix:P.follows .mixedOrders = true) {opsA:Array Oper} {n id k:Nat} (hst:staticOk (opsA.toList.take (opsA.toList.length - k)) = true) (hlo:lastOk k opsA.toList = true) (hd:dstsOk n opsA.toList = true)
  {T T1 T':Tm} {s s1 s':St} {l:List Lg} (h:drawOps P env G callF (opsA.toList.take (opsA.toList.length - k)) (opsA.toList.take (opsA.toList.length - k)) 0 T s [] = some (T1,s1,l)) (hl:logOk (beforeM (opsA.toList.take (opsA.toList.length - k)) []) l = true)
  (h':seqOps P env G callF opsA.toList (opsA.toList.drop (opsA.toList.length - k)) T1 s1 = some (T',s'))
  {a:Act} {w:World} {I:Nat → Prop} {M:Names} (hn:a.tmps.size = n) (hs:SRel G B0 s w I M) (hT:TRel w I M T a.tmps) {Q:Exit → Act → World → Prop}
  (hq:∀ a' w' I' M',a'.tmps.size = n → a'.defers = a.defers → Fwd B0 s.next w I M w' I' M' → SRel G B0 s' w' I' M' → TRel w' I' M' T' a'.tmps → Q .normal a' w') :
  (Code.region id opsA true).wp P Q a w := by
 obtain ⟨Ts,Ss,os,ht,e1,e2,e3,e4⟩ := drawOps_trace _ _ _ _ _ _ _ _ h
 obtain ⟨_,hk0,hkle,_⟩ := lastOk_spec hlo
 obtain ⟨init,hinit⟩:∃ init,init = opsA.toList.take (opsA.toList.length - k) := ⟨_,rfl⟩
 obtain ⟨tail,htail⟩:∃ tail,tail = opsA.toList.drop (opsA.toList.length - k) := ⟨_,rfl⟩
 have hA:opsA.toList = init ++ tail := by rw [hinit,htail,List.take_append_drop]
 have htl:tail.length = k := by rw [htail,List.length_drop]; omega
 have hil:init.length = opsA.toList.length - k := by rw [hinit,List.length_take]; omega
 rw [← hinit] at ht hst hl e3 e4
 rw [← htl] at hlo
 have hdi:dstsOk n init = true := by
  unfold dstsOk at hd ⊢
  rw [hA,List.all_append,Bool.and_eq_true] at hd
  exact hd.1
 have hno:∀ i,¬ ((Array.replicate opsA.size false).getD i false = true) := fun i => by
  simp only [Array.getD_eq_getD_getElem?,Array.getElem?_replicate]
  split <;> simp
 refine wp_region_any hmix (drawnLast_wp (a0 := a) (w0 := w) (I0 := I) (M0 := M) (B0 := B0) (n := n) hE hC hA hlo ht hst hl hdi (by rw [e2]; exact hs) (fun a' w' I' M' h1 h2 h3 h4 h5 => ?_) opsA.size _ a _ I M T s.hp s.fz (by simp) (fun i _ => ?_) ?_ ?_)
 ·rw [e2] at h3; rw [e4] at h4; rw [e3] at h5
  rw [← htail] at h'
  exact seqOps_wp hE hC hd (Q := Q) tail init.length T1 s1 _ _ a' w' I' M' h' (by rw [hil,htail]) h1 h4 h5 fun a2 w2 I2 M2 g1 g2 g3 g4 g5 => hq a2 w2 I2 M2 g1 (g2.trans h2) (h3.trans g3 (drawOps_next _ _ _ _ _ _ _ _ h)) g4 g5
 ·simpa using hno i
 ·have hb:Below B0 w { w with drawn := w.drawn+1 } := ⟨rfl,rfl,rfl,Nat.le_refl _,fun _ _ => rfl⟩
  refine ⟨fun j o _ hj => absurd hj (hno j),?_,?_,?_,?_,fun r => ?_,fun r lc hm => ?_,⟨hb,fun _ _ => rfl,fun _ h => h,fun _ h => .inl h,fun _ _ => rfl⟩,hn,rfl⟩
  ·exact hs.rel.world rfl
  ·exact fun t => Rep.mono (w := w) (w' := { w with drawn := w.drawn+1 }) (fun _ _ => rfl) (fun _ h => h) (fun _ _ h => h) (hT t)
  ·have := Agree.start (C := fun k t => lookT (Ts k) t) ht.tC (L := fun i => (Array.replicate opsA.size false).getD i false = true) (fun i _ => hno i)
   simp only [e1] at this; exact this
  ·have := Agree.start (C := fun k r => (Ss k).hp r) ht.hC (L := fun i => (Array.replicate opsA.size false).getD i false = true) (fun i _ => hno i)
   simp only [e2] at this; exact this
  ·rw [e2]
   exact ⟨fun h => .inl h,fun h => by
    rcases h with h | ⟨i,_,h,_⟩
    ·exact h
    ·exact absurd h (hno i)⟩
  ·rw [e2]; exact .inl (hs.names r lc hm)
 ·unfold unlisted
  exact Nat.le_trans (List.length_filter_le _ _) (by simp)
end
def exOf:Ex → Exit
 | .normal => .normal
 | .exit id => .exit id
 | .ret => .ret
section
variable {P:Program} {G:Nat → Option PV} {B0:Nat}
def LW (P:Program) (c:Code) (Q:Exit → Act → World → Prop) (a:Act) (w:World):Prop :=
 ∀ (b:Frame) (k:List Item) (cs:List Frame),∃ e a' w',Q e a' w' ∧ Arrives P (lone (b.at a (.code c :: .inLoop c :: k)) cs w) b k cs e a' w'
theorem LW.wp {c:Code} {Q:Exit → Act → World → Prop} {a:Act} {w:World} (h:LW P c Q a w):(Code.loop c).wp P Q a w :=
 fun b k cs => let ⟨e,a',w',q,r⟩ := h b k cs; ⟨e,a',w',q,.of_steps (.one step_loop) r⟩
theorem LW.step {c:Code} {Q:Exit → Act → World → Prop} {a:Act} {w:World} (h:c.wp P (Exit.then (LW P c Q) Q) a w):LW P c Q a w := by
 intro b k cs
 obtain ⟨e,a₁,w₁,hq,harr⟩ := h b (.inLoop c :: k) cs
 cases e with
 | normal =>
  obtain ⟨e₂,a₂,w₂,hq₂,harr₂⟩ := hq b k cs
  exact ⟨e₂,a₂,w₂,hq₂,.of_steps (Steps.trans harr (.one step_inLoop)) harr₂⟩
 | exit id => exact ⟨_,a₁,w₁,hq,.pass (x := .inLoop c) rfl (fun _ _ => .inl (by simp)) harr⟩
 | goto l => exact ⟨_,a₁,w₁,hq,.pass (x := .inLoop c) rfl (fun _ _ => .inl (by simp)) harr⟩
 | ret => exact ⟨_,a₁,w₁,hq,.pass (x := .inLoop c) rfl (fun _ _ => .inl (by simp)) harr⟩
 | panic ch => exact ⟨_,a₁,w₁,hq,.pass (x := .inLoop c) rfl (fun _ _ => .inl (by simp)) harr⟩
 | outgrown => exact ⟨_,a₁,w₁,hq,.pass (x := .inLoop c) rfl (fun _ _ => .inl (by simp)) harr⟩
def CodeDid (G:Nat → Option PV) (B0 n:Nat) (cx:Cx) (T:Tm) (s:St) (ex:Ex) (T':Tm) (s':St) (K:(Exit → Act → World → Prop) → Act → World → Prop):Prop :=
 cx.base ≤ s'.next ∧ ∀ (a:Act) (w:World) (I:Nat → Prop) (M:Names) (Q:Exit → Act → World → Prop),a.tmps.size = n → SRel G B0 s w I M → TRel w I M T a.tmps →
  (∀ a' w' I' M',a'.tmps.size = n → a'.defers = a.defers → Fwd B0 cx.base w I M w' I' M' → SRel G B0 s' w' I' M' → TRel w' I' M' T' a'.tmps → Q (exOf ex) a' w') → K Q a w
def LoopOk (P:Program) (G:Nat → Option PV) (loopF:LoopF):Prop :=
 ∀ (B0 n:Nat) cx body T s ex T' s',loopF cx body T s = some (ex,T',s') → okCode n cx.ann body = true → cx.base ≤ s.next → CodeDid G B0 n cx T s ex T' s' (LW P body)
theorem evalCode_wp {env:Env} (hE:EnvOk P G env) {callF:CallF} (hC:CallOk P G callF) {loopF:LoopF} (hL:LoopOk P G loopF) (hmix:P.follows .mixedOrders = true) {n:Nat} {cx:Cx} :
  ∀ (c:Code) (T:Tm) (s:St) (ex:Ex) (T':Tm) (s':St),evalCode P env G callF loopF cx c T s = some (ex,T',s') → okCode n cx.ann c = true → cx.base ≤ s.next → CodeDid G B0 n cx T s ex T' s' (fun Q a w => c.wp P Q a w)
 | .skip,T,s,ex,T',s',h,_,hb => by
  simp only [evalCode,Option.some.injEq,Prod.mk.injEq] at h
  obtain ⟨rfl,rfl,rfl⟩ := h
  exact ⟨hb,fun a w I M Q hn hs hT hq => wp_skip (hq a w I M hn rfl (Fwd.refl _ _ _ _ _) hs hT)⟩
 | .label l,T,s,ex,T',s',h,_,hb => by
  simp only [evalCode,Option.some.injEq,Prod.mk.injEq] at h
  obtain ⟨rfl,rfl,rfl⟩ := h
  exact ⟨hb,fun a w I M Q hn hs hT hq => wp_label (hq a w I M hn rfl (Fwd.refl _ _ _ _ _) hs hT)⟩
 | .exit id,T,s,ex,T',s',h,_,hb => by
  simp only [evalCode,Option.some.injEq,Prod.mk.injEq] at h
  obtain ⟨rfl,rfl,rfl⟩ := h
  exact ⟨hb,fun a w I M Q hn hs hT hq => wp_exit (hq a w I M hn rfl (Fwd.refl _ _ _ _ _) hs hT)⟩
 | .ret,T,s,ex,T',s',h,_,hb => by
  simp only [evalCode,Option.some.injEq,Prod.mk.injEq] at h
  obtain ⟨rfl,rfl,rfl⟩ := h
  exact ⟨hb,fun a w I M Q hn hs hT hq => wp_ret (hq a w I M hn rfl (Fwd.refl _ _ _ _ _) hs hT)⟩
 | .region id ops draw,T,s,ex,T',s',h,hok,hb => by
  simp only [evalCode] at h
  split at h
  case h_2 => cases h
  rename_i T1 s1 h1
  cases h
  simp only [okCode,Bool.and_eq_true] at hok
  obtain ⟨hd,hok⟩ := hok
  unfold evalRegion at h1
  cases draw with
  | true =>
   simp only [cond_true] at h1 hok
   split at h1
   case h_2 => cases h1
   rename_i m hm
   cases hlast:look cx.ann.lasts id with
   | some k =>
    simp only [hlast] at h1
    split at h1
    case h_2 => cases h1
    rename_i T2 s2 l h2
    simp only [bif_some] at h1
    obtain ⟨hl,h3⟩ := h1
    simp only [hm,hlast,Bool.and_eq_true,beq_iff_eq] at hok
    obtain ⟨⟨hst,rfl⟩,hlo⟩ := hok
    refine ⟨Nat.le_trans hb (Nat.le_trans (drawOps_next _ _ _ _ _ _ _ _ h2) (seqOps_next hC _ _ _ _ _ h3)),fun a w I M Q hn hs hT hq => ?_⟩
    exact (drawLast_wp hE hC hmix hst hlo hd h2 hl h3 hn hs hT fun a' w' I' M' h3 h4 h5 h6 h7 => hq a' w' I' M' h3 h4 (h5.mono hb) h6 h7)
   | none =>
   simp only [hlast] at h1
   split at h1
   case h_2 => cases h1
   rename_i T2 s2 l h2
   simp only [bif_some,Option.some.injEq,Prod.mk.injEq] at h1
   obtain ⟨hl,rfl,rfl⟩ := h1
   simp only [hm,hlast,Bool.and_eq_true,beq_iff_eq] at hok
   obtain ⟨hst,rfl⟩ := hok
   refine ⟨?_,fun a w I M Q hn hs hT hq => ?_⟩
   ·exact Nat.le_trans hb (drawOps_next _ _ _ _ _ _ _ _ h2)
   ·exact (drawOps_wp hE hC hmix hst hd h2 hl hn hs hT fun a' w' I' M' h3 h4 h5 h6 h7 => hq a' w' I' M' h3 h4 (h5.mono hb) h6 h7)
  | false =>
   simp only [cond_false] at h1
   split at h1
   case h_2 => cases h1
   rename_i T2 s2 h2
   cases h1
   refine ⟨Nat.le_trans hb (seqOps_next hC _ _ _ _ _ h2),fun a w I M Q hn hs hT hq => ?_⟩
   refine wp_region ?_
   have := seqOps_wp hE hC hd (Q := Q) ops.toList 0 T s _ _ a w I M h2 rfl hn hs hT fun a' w' I' M' h3 h4 h5 h6 h7 => hq a' w' I' M' h3 h4 (h5.mono hb) h6 h7
   rw [List.range_eq_range']
   simpa using this
 | .seq x y,T,s,ex,T',s',h,hok,hb => by
  simp only [evalCode] at h
  simp only [okCode,Bool.and_eq_true] at hok
  split at h
  ·rename_i T1 s1 h1
   obtain ⟨hb1,p1⟩ := evalCode_wp hE hC hL hmix x T s _ _ _ h1 hok.1 hb
   obtain ⟨hb2,p2⟩ := evalCode_wp hE hC hL hmix y T1 s1 _ _ _ h hok.2 hb1
   refine ⟨hb2,fun a w I M Q hn hs hT hq => wp_seq (p1 a w I M _ hn hs hT fun a' w' I' M' h3 h4 h5 h6 h7 => ?_)⟩
   exact p2 a' w' I' M' Q h3 h6 h7 fun a2 w2 I2 M2 g3 g4 g5 g6 g7 => hq a2 w2 I2 M2 g3 (g4.trans h4) (h5.trans g5 (Nat.le_refl _)) g6 g7
  ·rename_i r hr
   have key:∀ ex T' s',evalCode P env G callF loopF cx x T s = some (ex,T',s') → ex ≠ .normal := fun ex T' s' he e => by
    subst e; exact hr T' s' he
   have hne := key ex T' s' h
   obtain ⟨hb1,p1⟩ := evalCode_wp hE hC hL hmix x T s _ _ _ h hok.1 hb
   refine ⟨hb1,fun a w I M Q hn hs hT hq => wp_seq (p1 a w I M _ hn hs hT fun a' w' I' M' h3 h4 h5 h6 h7 => ?_)⟩
   have := hq a' w' I' M' h3 h4 h5 h6 h7
   cases ex with
   | normal => exact absurd rfl hne
   | exit id => exact this
   | ret => exact this
 | .cond c x y,T,s,ex,T',s',h,hok,hb => by
  simp only [evalCode] at h
  simp only [okCode,Bool.and_eq_true] at hok
  split at h
  ·rename_i hc
   obtain ⟨hb1,p1⟩ := evalCode_wp hE hC hL hmix x T s _ _ _ h hok.1 hb
   refine ⟨hb1,fun a w I M Q hn hs hT hq => wp_cond_true ?_ (p1 a w I M Q hn hs hT hq)⟩
   have := lkIn_rep hs hT c
   rw [hc] at this
   exact this.bool_inv
  ·rename_i hc
   obtain ⟨hb1,p1⟩ := evalCode_wp hE hC hL hmix y T s _ _ _ h hok.2 hb
   refine ⟨hb1,fun a w I M Q hn hs hT hq => wp_cond_false ?_ (p1 a w I M Q hn hs hT hq)⟩
   have := lkIn_rep hs hT c
   rw [hc] at this
   exact this.bool_inv
  ·cases h
 | .block id b,T,s,ex,T',s',h,hok,hb => by
  simp only [evalCode] at h
  simp only [okCode] at hok
  split at h
  ·rename_i id' T1 s1 h1
   obtain ⟨hb1,p1⟩ := evalCode_wp hE hC hL hmix b T s _ _ _ h1 hok hb
   simp only [Bool.cond_eq_ite,nat_beq_eq] at h
   split at h
   ·rename_i hid
    cases h
    refine ⟨hb1,fun a w I M Q hn hs hT hq => wp_block (p1 a w I M _ hn hs hT fun a' w' I' M' h3 h4 h5 h6 h7 => ?_)⟩
    have := hq a' w' I' M' h3 h4 h5 h6 h7
    simpa [exOf,Exit.inBlock,hid] using this
   ·rename_i hid
    cases h
    refine ⟨hb1,fun a w I M Q hn hs hT hq => wp_block (p1 a w I M _ hn hs hT fun a' w' I' M' h3 h4 h5 h6 h7 => ?_)⟩
    have := hq a' w' I' M' h3 h4 h5 h6 h7
    simpa [exOf,Exit.inBlock,hid] using this
  ·rename_i r hr
   obtain ⟨hb1,p1⟩ := evalCode_wp hE hC hL hmix b T s _ _ _ h hok hb
   refine ⟨hb1,fun a w I M Q hn hs hT hq => wp_block (p1 a w I M _ hn hs hT fun a' w' I' M' h3 h4 h5 h6 h7 => ?_)⟩
   have := hq a' w' I' M' h3 h4 h5 h6 h7
   cases ex with
   | normal => exact this
   | exit id' => exact absurd h (hr id' T' s')
   | ret => exact this
 | .loop b,T,s,ex,T',s',h,hok,hb => by
  simp only [evalCode] at h
  simp only [okCode] at hok
  obtain ⟨hb1,p1⟩ := hL B0 n cx b T s ex T' s' h hok hb
  exact ⟨hb1,fun a w I M Q hn hs hT hq => (p1 a w I M Q hn hs hT hq).wp⟩
 | .scope b,T,s,ex,T',s',h,hok,hb => by
  simp only [evalCode] at h
  simp only [okCode] at hok
  obtain ⟨hb1,p1⟩ := evalCode_wp hE hC hL hmix b T s _ _ _ h hok hb
  refine ⟨hb1,fun a w I M Q hn hs hT hq => wp_scope_straight (p1 a w I M _ hn hs hT fun a' w' I' M' h3 h4 h5 h6 h7 => ?_)⟩
  have := hq a' w' I' M' h3 h4 h5 h6 h7
  cases ex <;> exact this
 | .goto l,T,s,ex,T',s',h,_,hb => by simp [evalCode] at h
 | .rangeFunc f ps x y,T,s,ex,T',s',h,_,hb => by simp [evalCode] at h
 | .refuse why,T,s,ex,T',s',h,_,hb => by simp [evalCode] at h
theorem loadAddr {t:TypeId} {xa x:Value} {w:World} (h:(Instr.loadAt t xa).run P w = .ok x w):(do loadVar t (← asAddr xa):Sem Value).run P w = .ok x w := by
 unfold Instr.loadAt at h
 cases xa <;> first
  | (simp [Instr.sureAddr,Result.andThen] at h; done)
  | skip
 rename_i o
 cases o with
 | none => simp [Instr.sureAddr,Result.andThen] at h
 | some a => simpa [Instr.sureAddr,asAddr,Result.andThen] using h
theorem results_sound {s:St} {w:World} {I:Nat → Prop} {M:Names} {T:Tm} {tmps:Array Value} (hs:SRel G B0 s w I M) (hT:TRel w I M T tmps):∀ (rs:List ResultVar) (vs:List PV),resultsP P s T rs = some vs →
  ∃ xs:List Value,(rs.mapM (fun | .tmp t => pure (tmps.getD t undef) | .cell a t => do loadVar t (← asAddr (tmps.getD a undef)):ResultVar → Sem Value)).run P w = .ok xs w ∧ All2 (Rep w I M) vs xs
 | [],vs,h => by
  simp only [resultsP,Option.some.injEq] at h
  subst h
  exact ⟨[],by simp,.nil⟩
 | .tmp t :: r,vs,h => by
  simp only [resultsP] at h
  split at h
  case h_2 => cases h
  rename_i us hu
  cases h
  obtain ⟨xs,h1,h2⟩ := results_sound hs hT r us hu
  exact ⟨_ :: xs,by simp only [List.mapM_cons,Sem.run_bind,Sem.run_pure,Result.andThen_ok,h1],.cons (hT t) h2⟩
 | .cell a t :: r,vs,h => by
  simp only [resultsP] at h
  split at h
  case h_2 => cases h
  rename_i v us hv hu
  cases h
  obtain ⟨xs,h1,h2⟩ := results_sound hs hT r us hu
  obtain ⟨x,h3,h4⟩ := loadOp_sound (P := P) hs.rel (hT a) hv
  have h5 := loadAddr h3
  refine ⟨x :: xs,?_,.cons h4 h2⟩
  simp only [List.mapM_cons,Sem.run_bind] at h5 ⊢
  simp only [h5,h1,Result.andThen_ok,Sem.run_pure]
end
def AnnOk (P:Program) (A:FuncId → Option Ann):Prop :=
 ∀ f ann, A f = some ann → ∃ fn c, P.funcs[f]? = some fn ∧ fn.body = some c ∧ fn.name ≠ "runtime.NumGoroutine" ∧ okCode fn.ntmps ann c = true
section
variable {P:Program} {G:Nat → Option PV}
theorem lookT_start (keep:List Nat) (args:List PV) (t:Nat):lookT (startT keep args) t = .top ∨ lookT (startT keep args) t = args.getD t undefP := by
 induction keep with
 | nil => exact .inl rfl
 | cons i keep ih =>
  simp only [startT,List.map_cons,lookT,Bool.cond_eq_ite,nat_beq_eq]
  by_cases h:i = t
  ·rw [if_pos h]; subst h; exact .inr rfl
  ·rw [if_neg h]; exact ih
theorem startT_rel {w:World} {I:Nat → Prop} {M:Names} {keep:List Nat} {args:List PV} {xs:List Value} (ha:All2 (Rep w I M) args xs) (n:Nat) :
  TRel w I M (startT keep args) (xs.toArray ++ Array.replicate (n - xs.toArray.size) undef) := by
 intro t
 rcases lookT_start keep args t with e | e <;> rw [e]
 ·exact .top _
 ·by_cases h:t < args.length
  ·have hx:t < xs.length := by have := ha.1; omega
   have e1:args.getD t undefP = args[t] := by simp [List.getD,h]
   have e2:(xs.toArray ++ Array.replicate (n - xs.toArray.size) undef).getD t undef = xs[t] := by
    simp [Array.getD_eq_getD_getElem?,Array.getElem?_append_left,hx]
   rw [e1,e2]
   exact ha.2 t _ _ (List.getElem?_eq_getElem h) (List.getElem?_eq_getElem hx)
  ·have hx:¬ t < xs.length := by have := ha.1; omega
   have e1:args.getD t undefP = undefP := by simp [List.getD,h]
   have e2:(xs.toArray ++ Array.replicate (n - xs.toArray.size) undef).getD t undef = undef := by
    simp only [Array.getD_eq_getD_getElem?]
    rw [Array.getElem?_append_right (by simp; omega)]
    cases hg:(Array.replicate (n - xs.toArray.size) undef)[t - xs.toArray.size]? with
    | none => rfl
    | some y =>
     have := Array.mem_of_getElem? hg
     simp at this
     rw [this.2]; rfl
   rw [e1,e2]
   exact undef_rep
theorem one_rep {w:World} {I:Nat → Prop} {M:Names} {vs:List PV} {xs:List Value} (h:All2 (Rep w I M) vs xs):Rep w I M (oneP vs) (if h:xs.toArray.size = 1 then xs.toArray[0] else .tuple xs.toArray) := by
 match vs,xs,h with
 | [],xs,h => rw [h.nil_inv]; simp only [oneP]; exact .tuple [] [] rfl (fun k v x a => by simp at a)
 | [v],xs,h =>
  obtain ⟨x,ys,rfl,h1,h2⟩ := h.cons_inv
  rw [h2.nil_inv]
  simpa [oneP] using h1
 | v :: u :: vs,xs,h =>
  have hl := h.1
  have:¬ xs.toArray.size = 1 := by simp at hl ⊢; omega
  rw [dif_neg this]
  exact .tuple _ _ h.1 h.2
theorem callWith_ok {env:Env} (hE:EnvOk P G env) {A:FuncId → Option Ann} (hA:AnnOk P A) (hmix:P.follows .mixedOrders = true) {e:Evs} (hC:CallOk P G e.call) (hL:LoopOk P G e.loop):CallOk P G (callWith P env G A e) := by
 intro f args st v st' h
 unfold callWith at h
 split at h
 case h_2 => cases h
 rename_i ann fn hann hfn
 obtain ⟨fn',c,hf,hb,hname,hok⟩ := hA f ann hann
 rw [hfn] at hf; cases hf
 simp only [hb,bif_some,ble_iff] at h
 obtain ⟨hle,h⟩ := h
 split at h
 ·cases h
 ·rename_i ex T s hnex hev
  split at h
  case h_2 => cases h
  rename_i vs hvs
  cases h
  have hne:∀ id,ex ≠ .exit id := fun id e => hnex id e
  refine ⟨⟨fn,hfn,by simp [hb],hname⟩,?_,fun B0 w I M xs hs ha => ?_⟩
  ·exact (evalCode_wp (B0 := 0) hE hC hL hmix c _ _ _ _ _ hev hok (Nat.le_refl _)).1
  ·obtain ⟨hnext,hwp⟩ := evalCode_wp (B0 := B0) hE hC hL hmix c _ _ _ _ _ hev hok (Nat.le_refl _)
   refine calls_of_wp hfn hb (hwp _ w I M _ ?_ hs (startT_rel ha fn.ntmps) fun a' w' I' M' h3 h4 h5 h6 h7 => ?_)
   ·have := ha.1; simp; omega
   ·have hd:a'.defers = [] := h4
    obtain ⟨ys,hrun,hys⟩ := results_sound (P := P) h6 h7 fn.results.toList vs hvs
    have hres:(results fn a'.tmps).run P w' = .ok (if h:ys.toArray.size = 1 then ys.toArray[0] else .tuple ys.toArray) w' := by
     unfold results
     rw [Array.mapM_eq_mapM_toList]
     simp only [Sem.run_bind,Sem.run_map,Sem.run_pure]
     erw [hrun]
     rfl
    have hpost:∃ v,(results fn a'.tmps).run P w' = .ok v w' ∧ ∃ x I' M',Ending.returned v = .returned x ∧ Fwd B0 st.next w I M w' I' M' ∧ SRel G B0 st' w' I' M' ∧ Rep w' I' M' (oneP vs) x :=
     ⟨_,hres,_,I',M',rfl,h5,h6,one_rep hys⟩
    cases ex with
    | normal => exact ⟨hd,hpost⟩
    | ret => exact ⟨hd,hpost⟩
    | exit id => exact absurd rfl (hne id)
 ·cases h
theorem loopWith_ok {env:Env} (hE:EnvOk P G env) (hmix:P.follows .mixedOrders = true) {e:Evs} (hC:CallOk P G e.call) (hL:LoopOk P G e.loop):LoopOk P G (loopWith P env G e) := by
 intro B0 n cx body T s ex T' s' h hok hb
 unfold loopWith at h
 have hbase:cx.base ≤ (gc cx body T s).2.next := gc_next cx body T s hb
 split at h
 rename_i T1 s1 hgc
 have eT:T1 = (gc cx body T s).1 := by rw [hgc]
 have eS:s1 = (gc cx body T s).2 := by rw [hgc]
 subst eT; subst eS
 split at h
 ·rename_i T2 s2 h2
  obtain ⟨hb2,p2⟩ := evalCode_wp (B0 := B0) hE hC hL hmix body _ _ _ _ _ h2 hok hbase
  obtain ⟨hb3,p3⟩ := hL B0 n cx body T2 s2 ex T' s' h hok hb2
  refine ⟨hb3,fun a w I M Q hn hs hT hq => ?_⟩
  obtain ⟨M1,g1,g2,g3,_⟩ := gc_sound hs hT cx body hb
  have hf1:Fwd B0 cx.base w I M w I M1 := ⟨Below.refl _ _,fun _ _ => rfl,fun _ h => h,fun _ h => .inl h,g3⟩
  refine LW.step (p2 a w I M1 _ hn g1 g2 fun a' w' I' M' h3 h4 h5 h6 h7 => ?_)
  exact p3 a' w' I' M' Q h3 h6 h7 fun a2 w2 I2 M2 k3 k4 k5 k6 k7 => hq a2 w2 I2 M2 k3 (k4.trans h4) ((hf1.trans h5 (Nat.le_refl _)).trans k5 (Nat.le_refl _)) k6 k7
 ·rename_i hr
  have hne:ex ≠ .normal := fun e => by subst e; exact hr T' s' h
  obtain ⟨hb2,p2⟩ := evalCode_wp (B0 := B0) hE hC hL hmix body _ _ _ _ _ h hok hbase
  refine ⟨hb2,fun a w I M Q hn hs hT hq => ?_⟩
  obtain ⟨M1,g1,g2,g3,_⟩ := gc_sound hs hT cx body hb
  have hf1:Fwd B0 cx.base w I M w I M1 := ⟨Below.refl _ _,fun _ _ => rfl,fun _ h => h,fun _ h => .inl h,g3⟩
  refine LW.step (p2 a w I M1 _ hn g1 g2 fun a' w' I' M' h3 h4 h5 h6 h7 => ?_)
  have := hq a' w' I' M' h3 h4 (hf1.trans h5 (Nat.le_refl _)) h6 h7
  cases ex with
  | normal => exact absurd rfl hne
  | exit id => exact this
  | ret => exact this
theorem evalN_ok {env:Env} (hE:EnvOk P G env) {A:FuncId → Option Ann} (hA:AnnOk P A) (hmix:P.follows .mixedOrders = true):∀ n,CallOk P G (evalN P env G A n).call ∧ LoopOk P G (evalN P env G A n).loop
 | 0 => ⟨fun _ _ _ _ _ h => by simp [evalN] at h,fun _ _ _ _ _ _ _ _ _ h => by simp [evalN] at h⟩
 | n+1 => by
  obtain ⟨hC,hL⟩ := evalN_ok hE hA hmix n
  exact ⟨fun f args st v st' h => callWith_ok hE hA hmix hC hL f args st v st' h,fun B0 k cx body T s ex T' s' h => loopWith_ok hE hmix hC hL B0 k cx body T s ex T' s' h⟩
theorem evalSum_sound {env:Env} (hE:EnvOk P G env) {A:FuncId → Option Ann} (hA:AnnOk P A) (hmix:P.follows .mixedOrders = true) {f:FuncId} {F:Fn1} (hen:Enters P f)
  (h:∀ as r,F as = some r → ∃ n,evalSum P env G A n f as = some r):Sum P G f F := by
 refine ⟨hen,fun as r hF w I xs hI hG ha => ?_⟩
 obtain ⟨n,hn⟩ := h as r hF
 unfold evalSum at hn
 split at hn
 case h_2 => cases hn
 rename_i v s hv
 split at hn
 case h_2 => cases hn
 rename_i v' fl hre
 cases hn
 obtain ⟨_,_,hcalls⟩ := (evalN_ok hE hA hmix n).1 f as ⟨0,[],[]⟩ v s hv
 have hs0:SRel G w.heap.size ⟨0,[],[]⟩ w I (fun _ => none) :=
  ⟨⟨fun r e he => by simp [St.hp,look] at he,fun r e l he => by simp [St.hp,look] at he,fun r e l he => by simp [St.hp,look] at he,fun r r' e e' l l' he => by simp [St.hp,look] at he,hI,hG,Nat.le_refl _⟩,
   fun r l hm => by simp at hm,fun r e he => by simp [St.hp,look] at he,fun r hr => by simp [St.fz,memB] at hr⟩
 refine (hcalls w.heap.size w I (fun _ => none) xs hs0 (ha.mono fun v x h => .pure h)).mono ?_
 rintro e w' ⟨x,I',M',rfl,hf,hs,hrep⟩
 have hfr := hs.rel.freeze fl
 have hp := (reify_sound hs.rel v _ fl hre fl (fun r hr => hr)).1 x hrep
 refine ⟨x,fun b => I b ∨ (w.heap.size ≤ b ∧ b < w'.heap.size),rfl,hf.below,fun b hb => .inl hb,fun b hb => ?_,hp.mono (fun _ _ => rfl) fun b hb => ?_⟩
 ·rcases hb with hb | hb
  ·exact ⟨Nat.lt_of_lt_of_le (hI b hb) hf.below.size,.inl hb⟩
  ·exact ⟨hb.2,.inr hb.1⟩
 ·have h1 := hfr.bnd b hb
  rcases hs.rel.addI_more hb with h2 | h2
  ·rcases hf.more b h2 with h3 | h3
   ·exact .inl h3
   ·exact .inr ⟨h3,h1⟩
  ·exact .inr ⟨h2,h1⟩
end
end Go.Pi
