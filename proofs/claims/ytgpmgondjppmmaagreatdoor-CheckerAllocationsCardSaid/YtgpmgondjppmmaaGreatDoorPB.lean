/- The machine on symbols: the law's copies. No condition. -/
import Derived.Test.YtgpmgondjppmmaaGreatDoorPC
set_option linter.unnecessarySimpa false
set_option linter.unusedSectionVars false
set_option linter.unusedSimpArgs false
set_option linter.unusedVariables false
set_option maxHeartbeats 4000000
set_option maxRecDepth 100000
namespace Go.Proofs.Tryz
open Go Go.Pi Go.Num Go.Lin Go.Alc
variable [Hole] {G:Nat → Option PV}
def agreesR:CRel | [.int _ a,.int _ b],r => r = .bool ((a == 0 && b == 0) || (a == 27 && b != 0)) | _,_ => False
theorem agrees_ok (a b:Int) (ha:a = 0 ∨ a = 27):Gives prog G 15 [.int .i64 a,.int .i64 b] (agreesR [.int .i64 a,.int .i64 b]) := by
 refine gives (S := []) (by kernel_rfl) (by kernel_rfl) (callW_of ann15 func15 rfl (by kernel_rfl) ?_)
 rcases ha with rfl | rfl
 ·by_cases hb:b = 0
  ·subst hb
   simp [run_draw,tb]
   exact outK_pure rfl rfl
  ·have h1:(b == 0) = false := by simpa using hb
   have h2:(b != 0) = true := by simpa using hb
   simp [run_draw,tb,h1,h2]
   exact outK_pure rfl (by simp [agreesR,h1])
 ·by_cases hb:b = 0
  ·subst hb
   simp [run_draw,tb]
   exact outK_pure rfl rfl
  ·have h1:(b == 0) = false := by simpa using hb
   have h2:(b != 0) = true := by simpa using hb
   simp [run_draw,tb,h1,h2]
   exact outK_pure rfl (by simp [agreesR,h2])
theorem cloneB_own {S:Specs} {es:List PV} (h0:es ≠ []) (he:∀ w ∈ es,IsBd w) (hn:es.length ≤ 68719476736):CallW prog (specEnv prog G S) G A1 12 [.slice es] ⟨0,[],[]⟩ fun v s2 => ∃ e,ownRes s2 v = some e ∧ e = ⟨4,es⟩ := by
 obtain ⟨a,l,rfl⟩:∃ a l',es = a :: l' := by cases es with | nil => exact absurd rfl h0 | cons a l => exact ⟨a,l,rfl⟩
 have hu:(a :: l).all (fun e => decide (e.cells.length = 4) && e.cells.all PV.cellOk) = true := by
  rw [List.all_eq_true]
  intro v hv
  obtain ⟨fx,x,q,du,rfl,h1,h2,_⟩ := he v hv
  obtain ⟨c1,_⟩ := h1.cell
  obtain ⟨c2,_⟩ := h2.cell
  simp [c1,c2]
 have hp:PV.pureL (a :: l) = true := (pureL_iff _).2 fun w hw => (he w hw).pure
 simp only [List.length_cons] at hn
 refine callW_of ann12 func12 rfl (by kernel_rfl) ?_
 have mk:(2 * (l.length+1)+1000) * 64 ≤ 140737488355328 := by omega
 simp [run_draw,tb,eqSnil und38,guardS,buildSliceOp,putParts,repeatP,PV.pureL,uniform,appendOp,appended,elems,mk,hu]
 simp [ownRes,hp]
theorem cloneB_nil {S:Specs}:CallW prog (specEnv prog G S) G A1 12 [.nil] ⟨0,[],[]⟩ fun v s2 => ownRes s2 v = none ∧ ∃ r fl,reify s2.hp v = some (r,fl) ∧ r = .nil := by
 refine callW_of ann12 func12 rfl (by kernel_rfl) ?_
 simp [run_draw,tb,eqNnil und38,guardN]
 exact ⟨rfl,_,reify_pure rfl⟩
theorem cloneN_one {S:Specs} (l:List UInt8) (e0:Ent):CallW prog (specEnv prog G S) G A1 41 [.slice [.str (ba l)]] ⟨3,[(0,e0)],[]⟩ fun v s' => v = .own 8 0 1 ∧ ∃ H',s' = ⟨10,H',[]⟩ ∧ Go.Pi.look H' 8 = some ⟨1,[.str (ba l)]⟩ ∧ Go.Pi.look H' 0 = some e0 := by
 refine callW_of ann41 func41 rfl (by kernel_rfl) ?_
 simp [run_draw,tb,eqSnil und47,guardS,buildSliceOp,putParts,repeatP,PV.pureL,PV.pureB,uniform,appendOp,appended,elems]
 rfl
theorem cloneN_nil {S:Specs} (e0:Ent):CallW prog (specEnv prog G S) G A1 41 [.nil] ⟨3,[(0,e0)],[]⟩ fun v s' => v = .nil ∧ ∃ k',s' = ⟨k',[(0,e0)],[]⟩ := by
 refine callW_of ann41 func41 rfl (by kernel_rfl) ?_
 simp [run_draw,tb,eqNnil und47,guardN]
def putR:CRel | [_,_],r => Lst IsStr r ∧ (els r).length ≤ 1 | _,_ => False
theorem put_ok {v:PV} (hv:v = .nil ∨ ∃ l,v = .slice [.str (ba l)]) (a b:Nat) (t:List UInt8) (hb:b < 256):Gives prog G 14 [v,.agg [.int .u8 a,.int .u8 b,.str (ba t)]] (putR [v,.agg [.int .u8 a,.int .u8 b,.str (ba t)]]) := by
 refine gives_q fun Q hQ => ?_
 have wb:IntKind.i64.wrap (b:Int) = (b:Int) := w_i64 (by omega)
 have tm:(b:Int).tmod 1 = 0 := by simp
 refine gives (S := []) (by kernel_rfl) (by kernel_rfl) (callW_of ann14 func14 rfl (by kernel_rfl) ?_)
 rcases hv with rfl | ⟨l,rfl⟩
 ·simp [run_draw,tb]
  refine callK_run rfl (callW_to (cloneN_nil _) fun v s' hp => ?_)
  obtain ⟨rfl,k',rfl⟩ := hp
  simp [run_draw,tb]
  exact outK_pure rfl (hQ _ ⟨.inl rfl,by simp [els]⟩)
 ·simp [run_draw,tb]
  refine callK_run rfl (callW_to (cloneN_one l _) fun v s' hp => ?_)
  obtain ⟨rfl,H',rfl,g8,g0⟩ := hp
  have lus:∀ E,Go.Pi.look (Go.Pi.upd H' 8 E) 8 = some E := fun E => look_upd_same g8
  simp [run_draw,tb,g0,g8,wb,tm,lus]
  refine ⟨by decide +kernel,?_⟩
  refine ⟨.slice [.str (ba t)],[8],?_,hQ _ ⟨.inr ⟨_,rfl,fun w hw => by simp at hw; exact ⟨t,hw⟩⟩,by simp [els]⟩⟩
  unfold reify
  show reifyW _ (reifyN _ 5) _ = _
  exact reifyW_own (d := 4) (lus _) rfl (by decide) (fun w hw => by simp at hw; rw [hw]; rfl)
section
variable {hp:Nat → Option Ent} {j n i:Nat} {es:List PV}
theorem sl_pre (h:hp j = some ⟨4,es⟩) (hn:es.length = n) (hi:i ≤ n):sliceOp prog hp 38 (.own j 0 n) none (some (.int .i64 (i:Int))) = some { val := .own j 0 i } := by
 simp [sliceOp,lowOf,natOf,und38,sliceOf,size49,highOf,ble_lit,beq_lit,blt_lit,h,hi]
theorem sl_suf (h:hp j = some ⟨4,es⟩) (hn:es.length = n) (hi:i < n):sliceOp prog hp 38 (.own j 0 n) (some (.int .i64 ((i:Int)+1))) none = some { val := if i+1 = n then .slice [] else .own j (i+1) (n - (i+1)) } := by
 have h1:i+1 ≤ n := hi
 have e:((i:Int)+1) = ((i+1:Nat):Int) := by omega
 rw [e]
 by_cases h2:i+1 = n
 ·simp [sliceOp,lowOf,natOf,und38,sliceOf,size49,highOf,ble_lit,beq_lit,blt_lit,h,h1,h2,show 0 < n by omega]
 ·simp [sliceOp,lowOf,natOf,und38,sliceOf,size49,highOf,ble_lit,beq_lit,blt_lit,h,h1,h2]
theorem sl_end (h:hp j = some ⟨4,es⟩) (hn:es.length = n) (h0:0 < n):sliceOp prog hp 38 (.own j 0 (n - 1)) (some (.int .i64 ((n - 1:Nat):Int))) (some (.int .i64 (n:Int))) = some { val := .own j (n - 1) 1 } := by
 have h2:¬ n - 1 = n := by omega
 have h3:n - (n - 1) = 1 := by omega
 simp [sliceOp,lowOf,natOf,und38,sliceOf,size49,highOf,ble_lit,beq_lit,blt_lit,h,hn,h2,h3]
theorem sl_3 (h:hp j = some ⟨4,es⟩) (hn:es.length = n) (hi:i < n):∃ v,slice3Op prog hp 38 (.own j 0 n) (some (.int .i64 (i:Int))) (.int .i64 ((i:Int)+1)) (.int .i64 (n:Int)) = some { val := v } := by
 have h1:i+1 ≤ n := hi
 have e:((i:Int)+1) = ((i+1:Nat):Int) := by omega
 rw [e]
 by_cases h2:i+1 = n
 ·exact ⟨.ownF j i 1,by simp [slice3Op,lowOf,natOf,und38,size49,ble_lit,beq_lit,blt_lit,h,h1,h2,hn,hi,show n - i = 1 by omega,show i ≤ n by omega]⟩
 ·exact ⟨.own j i 1,by simp [slice3Op,lowOf,natOf,und38,size49,ble_lit,beq_lit,blt_lit,h,h1,h2,hn,hi]⟩
theorem app_in {fz:Nat → Bool} {fr:Nat} (h:hp j = some ⟨4,es⟩) (hf:fz j = false) (hn:es.length = n) (hi:i < n) (hm:n ≤ 68719476736) (hb:∀ w ∈ es,IsBd w):appendOp prog hp fz fr (some 38) (some 38) (.own j 0 i) (if i+1 = n then .slice [] else .own j (i+1) (n - (i+1))) = some { val := .own j 0 (n - 1),wr := some (j,⟨4,es.take i ++ es.drop (i+1) ++ es.drop (n - 1)⟩) } := by
 have hu:∀ l:List PV,(∀ w ∈ l,w ∈ es) → l.all (fun e => decide (e.cells.length = 4) && e.cells.all PV.cellOk) = true := fun l hl => by
  rw [List.all_eq_true]
  intro v hv
  obtain ⟨fx,x,q,du,rfl,h1,h2,_⟩ := hb v (hl v hv)
  obtain ⟨c1,_⟩ := h1.cell
  obtain ⟨c2,_⟩ := h2.cell
  simp [c1,c2]
 by_cases h2:i+1 = n
 ·have e1:es.drop (i+1) = [] := List.drop_eq_nil_of_le (by omega)
  have e2:n - 1 = i := by omega
  have mk:(2 * i+1000) * 64 ≤ 140737488355328 := by omega
  have m1:i ≤ n := by omega
  simp [appendOp,appended,elems,uniform,h,hn,hf,ble_lit,beq_lit,blt_lit,mk,h2,e1,e2,m1]
  rw [List.drop_eq_nil_of_le (show es.length ≤ n by omega),List.nil_append,List.take_append_drop]
 ·have e3:(es.drop (i+1)).take (n - (i+1)) = es.drop (i+1) := List.take_of_length_le (by simp [hn])
  have e4:(es.drop (i+1)).length = n - (i+1) := by simp [hn]
  have e5:i + (n - (i+1)) = n - 1 := by omega
  have e6:i+1 + (n - (i+1)) ≤ n := by omega
  have mk:(2 * (n - 1)+1000) * 64 ≤ 140737488355328 := by omega
  have m1:i ≤ n := by omega
  have m2:n - 1 ≤ n := by omega
  have hu2 := hu (es.drop (i+1)) (fun w hw => List.mem_of_mem_drop hw)
  simp only [if_neg h2]
  simp [appendOp,appended,elems,uniform,h,hn,hf,ble_lit,beq_lit,blt_lit,mk,h2,e3,e4,e5,e6,m1,m2,hu2]
theorem cl_ok {fz:Nat → Bool} (h:hp j = some ⟨4,es⟩) (hf:fz j = false) (hn:es.length = n) (h0:0 < n):clearOp prog hp fz (some 38) (.own j (n - 1) 1) = some { val := .tuple [],wr := some (j,⟨4,es.take (n - 1) ++ [.agg [.nil,.int .i64 0,.int .i64 0,.nil]]⟩) } := by
 have e1:n - 1+1 = n := by omega
 have e2:n - 1+1 ≤ n := by omega
 simp [clearOp,h,hn,hf,ble_lit,beq_lit,blt_lit,e1,repeatP]
end
theorem del_ok {S:Specs} {es:List PV} {j k i:Nat} {H:List (Nat × Ent)} {Z:List Nat} (hl:Go.Pi.look H j = some ⟨4,es⟩) (hi:i < es.length) (hz:j ∉ Z) (hn:es.length ≤ 68719476736) (hb:∀ w ∈ es,IsBd w) (hlt:∀ p ∈ H,p.1 < k) (hZ:∀ q ∈ Z,q < k):CallW prog (specEnv prog G S) G A1 13 [.own j 0 es.length,.int .i64 (i:Int),.int .i64 ((i:Int)+1)] ⟨k,H,Z⟩ fun v s' => v = .own j 0 (es.length - 1) ∧ ∃ k' H',s' = ⟨k',H',Z⟩ ∧ k ≤ k' ∧ (∀ p ∈ H',p.1 < k') ∧ (∃ x,Go.Pi.look H' j = some ⟨4,es.take i ++ es.drop (i+1) ++ [x]⟩) ∧ (∀ q,q < k → q ≠ j → Go.Pi.look H' q = Go.Pi.look H q) := by
 obtain ⟨n,hnn⟩:∃ n,n = es.length := ⟨_,rfl⟩
 rw [← hnn] at hi hn ⊢
 have mz := memB_no hz
 have s1 := sl_pre (i := i) hl hnn.symm (by omega)
 have s2 := sl_suf (i := i) hl hnn.symm hi
 obtain ⟨v3,s3⟩ := sl_3 (i := i) hl hnn.symm hi
 have ap := fun fr => app_in (fz := memB Z) (fr := fr) hl mz hnn.symm hi hn hb
 have hne:((i:Int) == (i:Int)+1) = false := by simp only [beq_eq_false_iff_ne,ne_eq]; omega
 refine callW_of ann13 func13 rfl (by kernel_rfl) ?_
 simp [tb,s3,hne]
 rw [run_draw]
 have hjk:j < k := look_lt hlt hl
 have lu:∀ E,Go.Pi.look (Go.Pi.upd H j E) j = some E := fun E => look_upd_same hl
 have len2:(es.take i ++ (es.drop (i+1) ++ es.drop (n - 1))).length = n := by simp [← hnn]; omega
 have tk:(es.take i ++ (es.drop (i+1) ++ es.drop (n - 1))).take (n - 1) = es.take i ++ es.drop (i+1) := by
  rw [← List.append_assoc]
  rw [List.take_append_of_le_length (by simp [← hnn]; omega)]
  exact List.take_of_length_le (by simp [← hnn]; omega)
 have s4 := sl_end (lu ⟨4,es.take i ++ (es.drop (i+1) ++ es.drop (n - 1))⟩) len2 (by omega)
 have c4 := cl_ok (fz := memB Z) (lu ⟨4,es.take i ++ (es.drop (i+1) ++ es.drop (n - 1))⟩) mz len2 (by omega)
 rw [tk] at c4
 simp [tb,s1,s2,ap,s4,c4,lu,hl]
 refine ⟨logOk_free (by simp [okTri,tri,tb]),?_⟩
 refine ⟨_,_,⟨rfl,rfl⟩,by omega,fun x e hx => ?_,⟨_,look_upd_same (lu _)⟩,fun q hq hne => ?_⟩
 ·exact lt_mono (upd_lt (upd_lt hlt)) (by omega) (x,e) hx
 ·rw [look_upd_ne (Ne.symm hne),look_upd_ne (Ne.symm hne)]
end Go.Proofs.Tryz
