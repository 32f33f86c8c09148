/- The machine on symbols: integers, division. No condition. -/
import Derived.Test.YtgpmgondjppmmaaGreatDoorM1
import Derived.Test.YtgpmgondjppmmaaGreatDoorN1
set_option linter.unnecessarySimpa false
set_option linter.unusedSectionVars false
set_option linter.unusedSimpArgs false
set_option linter.unusedVariables false
set_option maxHeartbeats 4000000
set_option maxRecDepth 100000
namespace Go.Proofs.Tryz
open Go Go.Pi Go.Num
variable [Hole] {G:Nat → Option PV}
theorem or_side' {r d:Int} {i w:Nat} (hr:0 ≤ r) (hd:0 ≤ d) (hdi:d < 2 ^ i) (hs:r * 2 ^ i + d < 2 ^ w):orI w d (r * 2 ^ i) = r * 2 ^ i + d := by
 have:orI w d (r * 2 ^ i) = orI w (r * 2 ^ i) d := by unfold orI; rw [BitVec.or_comm]
 rw [this,or_side hr hd hdi hs]
theorem pow2_pos (s:Nat):(0:Int) < 2 ^ s := Int.pow_pos (by decide)
theorem pow2_split {s:Nat} (hs:s ≤ 32):(2:Int) ^ s * 2 ^ (32 - s) = 4294967296 := by
 rw [← Int.pow_add,show s + (32 - s) = 32 by omega]; rfl
theorem up_parts {d:Int} {s:Nat} (hs:s < 32) (hd:0 ≤ d ∧ d < 4294967296):∃ L h,IntKind.u32.wrap (d * 2 ^ s) = L * 2 ^ s ∧ (d * 2 ^ s).fdiv 4294967296 = h ∧ d * 2 ^ s = L * 2 ^ s + 4294967296 * h ∧ 0 ≤ L ∧ L < 2 ^ (32 - s) ∧ 0 ≤ h ∧ h < 2 ^ s ∧ d * 2 ^ s < 18446744073709551616 ∧ 0 ≤ d * 2 ^ s := by
 have p0 := pow2_pos s
 have q0 := pow2_pos (32 - s)
 have hpq := pow2_split (s := s) (by omega)
 have hp:(2:Int) ^ s ≤ 2147483648 := by
  have h1:(2:Int) ^ (32 - s) = 2 * 2 ^ (31 - s) := by rw [show 32 - s = (31 - s)+1 by omega,Int.pow_succ]; omega
  have h2 := pow2_pos (31 - s)
  have h3:(2:Int) ^ s * 2 ^ (31 - s) = 2147483648 := by rw [← Int.pow_add,show s + (31 - s) = 31 by omega]; rfl
  have h4:(2:Int) ^ s * 1 ≤ 2 ^ s * 2 ^ (31 - s) := Int.mul_le_mul_of_nonneg_left (by omega) (by omega)
  omega
 have e1:d = 2 ^ (32 - s) * (d / 2 ^ (32 - s)) + d % 2 ^ (32 - s) := (Int.mul_ediv_add_emod d _).symm
 have m0 := Int.emod_nonneg d (show (2:Int) ^ (32 - s) ≠ 0 by omega)
 have m1 := Int.emod_lt_of_pos d q0
 have d0:0 ≤ d / 2 ^ (32 - s) := Int.ediv_nonneg hd.1 (by omega)
 have d1:d / 2 ^ (32 - s) < 2 ^ s := Int.ediv_lt_of_lt_mul q0 (by rw [hpq]; omega)
 have e2:d * 2 ^ s = (d % 2 ^ (32 - s)) * 2 ^ s + 4294967296 * (d / 2 ^ (32 - s)) := by
  conv => lhs; rw [e1]
  rw [← hpq]; grind
 have l0:0 ≤ (d % 2 ^ (32 - s)) * 2 ^ s := Int.mul_nonneg m0 (by omega)
 have l1:(d % 2 ^ (32 - s)) * 2 ^ s < 4294967296 := by
  have:(d % 2 ^ (32 - s)+1) * 2 ^ s ≤ 2 ^ (32 - s) * 2 ^ s := Int.mul_le_mul_of_nonneg_right (by omega) (by omega)
  rw [Int.mul_comm (2 ^ (32 - s)),hpq] at this
  have h5:(d % 2 ^ (32 - s)+1) * 2 ^ s = (d % 2 ^ (32 - s)) * 2 ^ s + 2 ^ s := by grind
  omega
 refine ⟨d % 2 ^ (32 - s),d / 2 ^ (32 - s),?_,?_,e2,m0,m1,d0,d1,?_,Int.mul_nonneg hd.1 (by omega)⟩
 ·rw [IntKind.wrap_u32,e2]; omega
 ·rw [Int.fdiv_eq_ediv_of_nonneg _ (by decide),e2]; omega
 ·omega
def raisedI (va:PV) (a:List Int) (s:Nat) (H:List (Nat × Ent)) (Z:List Nat) (n0:Nat):Nat → List PV → St → Prop := fun m vs st => ∃ (j i:Nat) (h:Int) (w:List Int) (k:Nat) (es:List PV),vs = [.int .i64 (i:Int),.own j 0 (a.length+1),.int .i64 (s:Int),.int .i64 a.length,va] ∧ i + m = a.length ∧
 w.length = i ∧ Dig w ∧ 0 ≤ h ∧ h < 2 ^ s ∧ val w + pw i * h = val (a.take i) * 2 ^ s ∧ es = U ((w ++ [h]) ++ List.replicate (a.length - i) 0) ∧ n0 ≤ j ∧ j < k ∧ st = ⟨k,(j,⟨1,es⟩) :: H,Z⟩
def raisedQ (a:List Int) (s:Nat) (H:List (Nat × Ent)) (Z:List Nat) (n0:Nat):PV → St → Prop := fun v st => ∃ j k ds,v = .own j 0 (a.length+1) ∧ st = ⟨k,(j,⟨1,U ds⟩) :: H,Z⟩ ∧ n0 ≤ j ∧ j < k ∧ ds.length = a.length+1 ∧ Dig ds ∧ val ds = val a * 2 ^ s
theorem raised_ok {S:Specs} (va:PV) (a:List Int) (s:Nat) (ha:IsMag va a) (da:Dig a) (la:a.length < 900000) (hs:s < 32) (n0:Nat) (H:List (Nat × Ent)) (Z:List Nat) (hZ:∀ q,n0 ≤ q → memB Z q = false) :
  CallW prog (specEnv prog G S) G A1 195 [va,.int .i64 s] ⟨n0,H,Z⟩ (raisedQ a s H Z n0) := by
 refine callW_of ann195 func195 rfl (by kernel_rfl) ?_
 have h1 := ha.len
 have w1:IntKind.i64.wrap ((a.length:Int)+1) = ((a.length+1:Nat):Int) := w_i64 (by omega)
 have cap:(a.length+1) * 4 ≤ 140737488355328 := by omega
 have cap2:a.length+1 < 9223372036854775808 := by omega
 simp [run_draw,logOk,h1,w1,makeSliceOp,cap,cap2,U_rep]
 refine loopK_of (raisedI va a s H Z n0) rfl rfl ?step a.length _ _ ?init
 case init =>
  refine ⟨_,0,0,[],_,U (List.replicate (a.length+1) 0),rfl,by omega,rfl,fun _ h => (by cases h),by omega,pow2_pos s,by simp [val],by simp [List.replicate_succ],?_,?_,rfl⟩
  ·omega
  ·omega
 case step =>
 rintro m vs st ⟨j,i,h,w,k,es,rfl,him,hw,dw,hh0,hh1,hv,hes,hnj,hjk,rfl⟩
 have zj := hZ j hnj
 rcases Nat.eq_zero_or_pos m with h0 | h0
 ·have hi:i = a.length := by omega
  subst hi
  simp [run_draw,logOk,h1]
  rw [Nat.sub_self,List.replicate_zero,List.append_nil] at hes
  have hp:(2:Int) ^ s ≤ 4294967296 := by
   have := pow2_split (s := s) (by omega)
   have h4:(2:Int) ^ s * 1 ≤ 2 ^ s * 2 ^ (32 - s) := Int.mul_le_mul_of_nonneg_left (by have := pow2_pos (32 - s); omega) (by have := pow2_pos s; omega)
   omega
  refine ⟨j,_,w ++ [h],rfl,by rw [hes],hnj,by omega,by simp [hw],dw.join (Dig.one (by omega)),?_⟩
  rw [val_snoc,hw,hv,List.take_length]
 ·have hi:i < a.length := by omega
  have ea := ha.at (show 0 < a.length by omega)
  subst ea
  have hii:(i:Int) < a.length := by omega
  have ga := U_get hi
  have ra := da.get hi
  obtain ⟨L,g,k1,k2,k3,k4,k5,k6,k7,k8,k9⟩ := up_parts hs ra
  have wa:IntKind.u64.wrap a[i] = a[i] := w_u64 (by omega)
  have wd:IntKind.u64.wrap (a[i] * 2 ^ s) = a[i] * 2 ^ s := w_u64 (by omega)
  have wi:IntKind.i64.wrap ((i:Int)+1) = ((i+1:Nat):Int) := w_i64 (by omega)
  have ms:min s 32 = s := by omega
  have ms2:min s 64 = s := by omega
  have hpq := pow2_split (s := s) (by omega)
  have hL:L * 2 ^ s + h < 4294967296 := by
   have:(L+1) * 2 ^ s ≤ 2 ^ (32 - s) * 2 ^ s := Int.mul_le_mul_of_nonneg_right (by omega) (by have := pow2_pos s; omega)
   rw [Int.mul_comm (2 ^ (32 - s)),hpq] at this
   have h5:(L+1) * 2 ^ s = L * 2 ^ s + 2 ^ s := by grind
   omega
  have hL0:0 ≤ L * 2 ^ s := Int.mul_nonneg k4 (by have := pow2_pos s; omega)
  have hor := or_side' (r := L) (d := h) (i := s) (w := 32) k4 hh0 hh1 (by simpa using hL)
  obtain ⟨t,ht⟩:∃ z,z = L * 2 ^ s + h := ⟨_,rfl⟩
  rw [← ht] at hor
  have wt:IntKind.u32.wrap t = t := w_u32 (by omega)
  have hp:(2:Int) ^ s ≤ 4294967296 := by
   have h4:(2:Int) ^ s * 1 ≤ 2 ^ s * 2 ^ (32 - s) := Int.mul_le_mul_of_nonneg_left (by have := pow2_pos (32 - s); omega) (by have := pow2_pos s; omega)
   omega
  have wg:IntKind.u32.wrap g = g := w_u32 (by omega)
  have g0:es[i]? = some (.int .u32 h) := by rw [hes]; simp [U,hw,List.getElem?_append_left]
  have g1:(es.set i (.int .u32 t))[i+1]? = some (.int .u32 0) := by
   rw [List.getElem?_set_ne (by omega),hes]
   simp [U,hw,List.getElem?_append_right,List.getElem?_replicate]
   omega
  have hset:(es.set i (.int .u32 t)).set (i+1) (.int .u32 g) = U (((w ++ [t]) ++ [g]) ++ List.replicate (a.length - (i+1)) 0) := by
   rw [hes,U_set,U_set]
   congr 1
   rw [show a.length - i = (a.length - (i+1))+1 by omega,List.replicate_succ]
   subst hw
   simp
  obtain ⟨es2,hes2⟩:∃ e,e = U (((w ++ [t]) ++ [g]) ++ List.replicate (a.length - (i+1)) 0) := ⟨_,rfl⟩
  rw [← hes2] at hset
  obtain ⟨es1,hes1⟩:∃ e,e = es.set i (.int .u32 t) := ⟨_,rfl⟩
  rw [← hes1] at g1 hset
  have hset1 := hes1.symm
  have l1:i < a.length+1 := by omega
  have s0:¬ (s:Int) < 0 := by omega
  simp [run_draw,logOk,h1,hii,ga,wa,wd,wi,ms,ms2,k1,k2,hor,wt,wg,g0,hset1,g1,hset,l1,zj,s0,hi]
  refine ⟨by decide,a.length - (i+1),by omega,j,i+1,g,w ++ [t],_,_,rfl,by omega,by simp [hw],dw.join (Dig.one (by omega)),k6,k7,?_,hes2,hnj,?_,rfl⟩
  ·rw [val_snoc,hw,val_take_succ hi,show pw (i+1) = 4294967296 * pw i from rfl]
   grind
  ·omega
def trimQ (H:List (Nat × Ent)) (Z:List Nat) (n0:Nat) (Q:PV → Prop):PV → St → Prop := fun v st => ∃ k,st = ⟨k,H,Z⟩ ∧ n0 ≤ k ∧ Q v
def trimOI (j:Nat) (ds L:List Int) (H:List (Nat × Ent)) (Z:List Nat) (n0:Nat):Nat → List PV → St → Prop := fun m vs s => ∃ k,vs = [.own j 0 m] ∧ m ≤ ds.length ∧ trimL (ds.take m) = L ∧ n0 ≤ k ∧ s = ⟨k,H,Z⟩
theorem trim_own {S:Specs} (hS:specEnv prog G S 146 = none) (j n:Nat) (ds:List Int) (hl:ds.length < 1000000) (n0:Nat) (H:List (Nat × Ent)) (Z:List Nat) (hH:Go.Pi.look H j = some ⟨1,U ds⟩) (hn:ds.length = n) :
  CallW prog (specEnv prog G S) G A1 146 [.own j 0 n] ⟨n0,H,Z⟩ (trimQ H Z n0 (fun v => v = .own j 0 (trimL ds).length)) := by
 refine callW_of ann146 func146 rfl (by kernel_rfl) ?_
 simp [run_draw]
 refine loopK_of (trimOI j ds (trimL ds) H Z n0) rfl rfl ?step n _ _ ?init
 case init => exact ⟨_,rfl,by omega,by rw [take_all _ _ (by omega)],by omega,rfl⟩
 case step =>
 rintro m vs s ⟨k,rfl,hm,ht,hk,rfl⟩
 rcases m with _ | m
 ·simp [run_draw,lenPV]
  refine ⟨_,rfl,by omega,?_⟩
  rw [← ht]; simp [trimL]
 ·have hi:m < ds.length := by omega
  have w:IntKind.i64.wrap ((m:Int)) = m := w_i64 (by omega)
  have g:(U ds)[m]? = some (.int .u32 ds[m]) := U_get hi
  simp [run_draw,indexAddrOp,lenPV,w,g,hH]
  refine condK_of _ _ _ _ _ _ (fun hd => ?_) (fun hd => ?_)
  ·have hd:ds[m] = 0 := by simpa using hd
   simp [run_draw,w,sliceOp,sliceOf,lowOf,highOf,lenPV,hH]
   refine ⟨m,by omega,_,rfl,by omega,?_,by omega,rfl⟩
   rw [← ht,List.take_succ_eq_append_getElem hi,hd,trimL_zero]
  ·have hd:ds[m] ≠ 0 := by simpa using hd
   simp [run_draw]
   refine ⟨_,rfl,by omega,?_⟩
   rw [← ht,List.take_succ_eq_append_getElem hi,trimL_pos _ hd]
   simp
   omega
def trimPI (L:List Int) (H:List (Nat × Ent)) (Z:List Nat) (n0:Nat):Nat → List PV → St → Prop := fun m vs s => ∃ v ds k,vs = [v] ∧ IsMag v ds ∧ ds.length = m ∧ m < 1000000 ∧ trimL ds = L ∧ n0 ≤ k ∧ s = ⟨k,H,Z⟩
theorem trim_pure {S:Specs} (v:PV) (ds:List Int) (hv:IsMag v ds) (hl:ds.length < 1000000) (n0:Nat) (H:List (Nat × Ent)) (Z:List Nat) :
  CallW prog (specEnv prog G S) G A1 146 [v] ⟨n0,H,Z⟩ (trimQ H Z n0 (fun r => IsMag r (trimL ds))) := by
 refine callW_of ann146 func146 rfl (by kernel_rfl) ?_
 simp [run_draw]
 refine loopK_of (trimPI (trimL ds) H Z n0) rfl rfl ?step ds.length _ _ ?init
 case init => exact ⟨v,ds,_,rfl,hv,rfl,hl,rfl,by omega,rfl⟩
 case step =>
 rintro m vs s ⟨v,es,k,rfl,hv,hm,hl,ht,hk,rfl⟩
 have h1 := hv.len
 rcases List.eq_nil_or_concat es with rfl | ⟨l,d,rfl⟩
 ·simp [run_draw,h1]
  exact ⟨_,rfl,by omega,by rw [← ht]; exact hv⟩
 ·have h2 := hv.ne (by simp)
  subst h2
  rw [List.concat_eq_append] at *
  have hm:l.length+1 = m := by simpa using hm
  have w:IntKind.i64.wrap (l.length:Int) = l.length := w_i64 (by omega)
  have g:(U (l ++ [d]))[l.length]? = some (.int .u32 d) := by simp [U]
  have n1:(U (l ++ [d])).length = l.length+1 := by simp [U]
  simp [run_draw,indexAddrOp,h1,w,g]
  refine condK_of _ _ _ _ _ _ (fun hd => ?_) (fun hd => ?_)
  ·have hd:d = 0 := by simpa using hd
   subst hd
   simp [run_draw,h1,w,sliceOp,sliceOf,lowOf,highOf,n1,U_all']
   refine ⟨l.length,by omega,_,l,_,rfl,?_,rfl,by omega,by rw [← ht,trimL_zero],by omega,rfl⟩
   rw [show (U (l ++ [0])).take l.length = U l by simp [U]]
   exact IsMag.slice l
  ·have hd:d ≠ 0 := by simpa using hd
   simp [run_draw]
   exact ⟨_,rfl,by omega,by rw [← ht,trimL_pos _ hd]; exact IsMag.slice _⟩
theorem uniform_nil (n:Nat):uniform n [] = true := rfl
theorem U_uniform (ds:List Int):uniform 1 (U ds) = true := by
 induction ds with
 | nil => rfl
 | cons d ds ih => simp only [uniform,U_cons,List.all_cons,PV.cells] at ih ⊢; simpa [PV.cellOk] using ih
theorem down_parts {x y:Int} {s:Nat} (hs:s < 32) (hx:0 ≤ x ∧ x < 4294967296) (hy:0 ≤ y ∧ y < 4294967296):∃ h L,x.fdiv (2 ^ s) = h ∧ IntKind.u32.wrap ((y * 4294967296).fdiv (2 ^ s)) = L * 2 ^ (32 - s) ∧ 0 ≤ h ∧ h < 2 ^ (32 - s) ∧ L = y % 2 ^ s ∧ 0 ≤ L ∧ L < 2 ^ s ∧ x = h * 2 ^ s + x % 2 ^ s := by
 have p0 := pow2_pos s
 have q0 := pow2_pos (32 - s)
 have hpq := pow2_split (s := s) (by omega)
 have e1 := Int.mul_ediv_add_emod x (2 ^ s)
 refine ⟨x / 2 ^ s,y % 2 ^ s,Int.fdiv_eq_ediv_of_nonneg _ (by omega),?_,Int.ediv_nonneg hx.1 (by omega),Int.ediv_lt_of_lt_mul p0 (by rw [Int.mul_comm,hpq]; omega),rfl,Int.emod_nonneg _ (by omega),Int.emod_lt_of_pos _ p0,by grind⟩
 rw [Int.fdiv_eq_ediv_of_nonneg _ (by omega),← hpq]
 have e2:y * (2 ^ s * 2 ^ (32 - s)) / 2 ^ s = y * 2 ^ (32 - s) := by
  rw [show y * ((2:Int) ^ s * 2 ^ (32 - s)) = 2 ^ s * (y * 2 ^ (32 - s)) by grind]
  exact Int.mul_ediv_cancel_left _ (by omega)
 rw [e2,IntKind.wrap_u32]
 have e3 := Int.mul_ediv_add_emod y (2 ^ s)
 have e4:y * 2 ^ (32 - s) = (y % 2 ^ s) * 2 ^ (32 - s) + 4294967296 * (y / 2 ^ s) := by
  conv => lhs; rw [← e3]
  rw [← hpq]; grind
 have l0:0 ≤ (y % 2 ^ s) * 2 ^ (32 - s) := Int.mul_nonneg (Int.emod_nonneg _ (by omega)) (by omega)
 have l1:(y % 2 ^ s) * 2 ^ (32 - s) < 4294967296 := by
  have h1 := Int.emod_lt_of_pos y p0
  have:(y % 2 ^ s+1) * 2 ^ (32 - s) ≤ 2 ^ s * 2 ^ (32 - s) := Int.mul_le_mul_of_nonneg_right (by omega) (by omega)
  rw [hpq] at this
  have h5:(y % 2 ^ s+1) * 2 ^ (32 - s) = (y % 2 ^ s) * 2 ^ (32 - s) + 2 ^ (32 - s) := by grind
  omega
 rw [e4]; omega
def low (a:List Int) (s:Nat) (i:Nat):Int := (a.getD i 0) % 2 ^ s
def lowI (mj la:Nat) (a:List Int) (s:Nat) (H:List (Nat × Ent)) (Z:List Nat) (n0:Nat):Nat → List PV → St → Prop := fun m vs st => ∃ (j i:Nat) (w:List Int) (k:Nat) (es:List PV),vs = [.int .i64 (i:Int),.own j 0 a.length,.int .i64 (s:Int),.own mj 0 la,.int .i64 a.length] ∧ i + m = a.length ∧
 w.length = i ∧ Dig w ∧ val w * 2 ^ s + low a s 0 = val (a.take i) + pw i * low a s i ∧ es = U (w ++ a.drop i) ∧ n0 ≤ j ∧ j < k ∧ st = ⟨k,(j,⟨1,es⟩) :: H,Z⟩
def cloneQ (a:List Int) (H:List (Nat × Ent)) (Z:List Nat) (n0:Nat):PV → St → Prop := fun v st => ∃ j k,v = .own j 0 a.length ∧ st = ⟨k,(j,⟨1,U a⟩) :: H,Z⟩ ∧ n0 ≤ j ∧ j < k
theorem clone_own {S:Specs} (mj:Nat) (ds a:List Int) (la:ds.length < 900000) (n0:Nat) (H:List (Nat × Ent)) (Z:List Nat) (hF:Fresh n0 H Z)
  (hH:Go.Pi.look H mj = some ⟨1,U ds⟩) (ha:a = ds.take a.length):CallW prog (specEnv prog G S) G A1 218 [.own mj 0 a.length] ⟨n0,H,Z⟩ (cloneQ a H Z n0) := by
 have hal:a.length ≤ ds.length := by have h := congrArg List.length ha; rw [List.length_take] at h; omega
 have hm := hF.look hH
 refine callW_of ann218 func218 rfl (by kernel_rfl) ?_
 have ap:(2 * a.length+1000) * 4 ≤ 140737488355328 := by omega
 have ua:uniform 1 (U a) = true := U_uniform a
 have ta:(U ds).take a.length = U a := by rw [U_take,← ha]
 have z5 := hF.memB (q := n0+1+1+1) (by omega)
 have d5 := hF.del (q := n0+1+1+1) (by omega)
 have m5:¬ n0+1+1+1 = mj := by omega
 rcases List.eq_nil_or_concat a with rfl | ⟨l,d,rfl⟩
 ·simp [run_draw,logOk,guardB,eqPV,buildSliceOp,putParts,repeatP,uniform_nil,PV.pureL,appendOp,appended,elems,hH,z5,m5,U_nil]
  exact ⟨_,_,rfl,rfl,by omega,by omega⟩
 ·rw [List.concat_eq_append] at *
  have ull:(U (l ++ [d])).length = l.length+1 := by simp [U]
  have hle:l.length+1 ≤ ds.length := by simpa using hal
  have ap2:(2 * (l.length+1)+1000) * 4 ≤ 140737488355328 := by simpa using ap
  rw [show (l ++ [d]).length = l.length+1 by simp] at ta
  have u1:(U ds).length = ds.length := U_len ds
  simp [run_draw,logOk,guardB,eqPV,buildSliceOp,putParts,repeatP,uniform_nil,PV.pureL,appendOp,appended,elems,hH,z5,m5,ta,ull,u1,hle,ua,ap2,del,d5]
  exact ⟨_,_,by simp,rfl,by omega,by omega⟩
def lowQ (a:List Int) (s:Nat) (H:List (Nat × Ent)) (Z:List Nat) (n0:Nat):PV → St → Prop := fun v st => ∃ j k ds,v = .own j 0 (trimL ds).length ∧ st = ⟨k,(j,⟨1,U ds⟩) :: H,Z⟩ ∧ n0 ≤ j ∧ j < k ∧ Dig ds ∧ ds.length = a.length ∧ val ds = val a / 2 ^ s
theorem getD_at {a:List Int} {i:Nat} (h:i < a.length):a.getD i 0 = a[i] := by simp [List.getD,h]
theorem getD_out {a:List Int} {i:Nat} (h:a.length ≤ i):a.getD i 0 = 0 := by simp [List.getD,h]
theorem lowered_own {S:Specs} (hS:specEnv prog G S 146 = none) (hS2:specEnv prog G S 218 = none) (mj:Nat) (ds a:List Int) (s:Nat) (da:Dig ds) (la:ds.length < 900000) (hs:s < 32) (n0:Nat) (H:List (Nat × Ent)) (Z:List Nat) (hF:Fresh n0 H Z)
  (hH:Go.Pi.look H mj = some ⟨1,U ds⟩) (ha:a = ds.take a.length):CallW prog (specEnv prog G S) G A1 197 [.own mj 0 a.length,.int .i64 s] ⟨n0,H,Z⟩ (lowQ a s H Z n0) := by
 have hal:a.length ≤ ds.length := by have h := congrArg List.length ha; rw [List.length_take] at h; omega
 have dga:Dig a := by rw [ha]; exact da.take _
 have hm := hF.look hH
 refine callW_of ann197 func197 rfl (by kernel_rfl) ?_
 simp [run_draw,logOk,lenPV]
 refine callK_run hS2 ((clone_own mj ds a la _ H Z (hF.mono (by omega)) hH ha).mono fun v st h => ?_)
 obtain ⟨j0,k0,rfl,rfl,hj0,hk0⟩ := h
 simp [run_draw,logOk,lenPV]
 refine loopK_of (lowI mj a.length a s H Z n0) rfl rfl ?step a.length _ _ ?init
 case init => exact ⟨j0,0,[],_,_,rfl,by omega,rfl,fun _ h => (by cases h),by simp [val,pw],by simp,by omega,by omega,rfl⟩
 case step =>
 rintro m vs st ⟨j,i,w,k,es,rfl,him,hw,dw,hv,hes,hnj,hjk,rfl⟩
 have zj := hF.memB hnj
 rcases Nat.eq_zero_or_pos m with h0 | h0
 ·have hi:i = a.length := by omega
  subst hi
  simp [run_draw,logOk,lenPV]
  rw [List.drop_length,List.append_nil] at hes
  subst hes
  refine callK_run hS ((trim_own hS j a.length w (by omega) _ _ _ (by simp [Go.Pi.look,beq_lit]) hw).mono fun v st h => ?_)
  obtain ⟨k2,rfl,hk2,rfl⟩ := h
  simp [run_draw,logOk,lenPV]
  refine ⟨j,_,w,rfl,rfl,hnj,by omega,dw,hw,?_⟩
  have e1:low a s a.length = 0 := by unfold low; rw [getD_out (Nat.le_refl _)]; simp
  rw [e1,Int.mul_zero,Int.add_zero,List.take_length] at hv
  have p0 := pow2_pos s
  have l0:0 ≤ low a s 0 := Int.emod_nonneg _ (by omega)
  have l1:low a s 0 < 2 ^ s := Int.emod_lt_of_pos _ p0
  rw [← hv,Int.mul_comm,Int.mul_add_ediv_left _ _ (by omega),Int.ediv_eq_zero_of_lt l0 l1,Int.add_zero]
 ·have hi:i < a.length := by omega
  have hii:(i:Int) < a.length := by omega
  have ra := dga.get hi
  have ga:es[i]? = some (.int .u32 a[i]) := by rw [hes]; simp [U,hw,List.getElem?_append_right,hi]
  have wi:IntKind.i64.wrap ((i:Int)+1) = ((i+1:Nat):Int) := w_i64 (by omega)
  have ms:min s 32 = s := by omega
  have ms2:min s 64 = s := by omega
  have s0:¬ (s:Int) < 0 := by omega
  have hjm:¬ j = mj := by omega
  have hmj:¬ mj = j := by omega
  have hpq := pow2_split (s := s) (by omega)
  have ea:low a s i = a[i] % 2 ^ s := by unfold low; rw [getD_at hi]
  rcases Nat.lt_or_ge (i+1) a.length with h1 | h1
  ·have hii1:(i:Int)+1 < a.length := by omega
   have hid:i+1 < ds.length := by omega
   have gb:(U ds)[i+1]? = some (.int .u32 a[i+1]) := by
    have:ds[i+1] = a[i+1] := by
     have h := List.getElem_of_eq ha h1
     rw [List.getElem_take] at h
     exact h.symm
    rw [U_get hid,this]
   have rb := dga.get h1
   obtain ⟨h,L,k1,k2,k3,k4,k5,k6,k7,k8⟩ := down_parts hs ra rb
   have wb:IntKind.u64.wrap a[i+1] = a[i+1] := w_u64 (by omega)
   have wc:IntKind.u64.wrap (a[i+1] * 4294967296) = a[i+1] * 4294967296 := w_u64 (by omega)
   have hL:L * 2 ^ (32 - s) + h < 4294967296 := by
    have:(L+1) * 2 ^ (32 - s) ≤ 2 ^ s * 2 ^ (32 - s) := Int.mul_le_mul_of_nonneg_right (by omega) (by have := pow2_pos (32 - s); omega)
    rw [hpq] at this
    have h5:(L+1) * 2 ^ (32 - s) = L * 2 ^ (32 - s) + 2 ^ (32 - s) := by grind
    omega
   have hL0:0 ≤ L * 2 ^ (32 - s) := Int.mul_nonneg k6 (by have := pow2_pos (32 - s); omega)
   have hor := or_side' (r := L) (d := h) (i := 32 - s) (w := 32) k6 k3 k4 (by simpa using hL)
   obtain ⟨t,ht⟩:∃ z,z = L * 2 ^ (32 - s) + h := ⟨_,rfl⟩
   rw [← ht] at hor
   have wt:IntKind.u32.wrap t = t := w_u32 (by omega)
   have eb:low a s (i+1) = L := by unfold low; rw [getD_at h1,k5]
   obtain ⟨es1,hes1⟩:∃ e,e = es.set i (.int .u32 h) := ⟨_,rfl⟩
   have g1:es1[i]? = some (.int .u32 h) := by rw [hes1,List.getElem?_set_self (by rw [hes]; simp [U,hw]; omega)]
   have hset1 := hes1.symm
   have hset:es1.set i (.int .u32 t) = U ((w ++ [t]) ++ a.drop (i+1)) := by
    rw [hes1,List.set_set,hes,U_set]
    congr 1
    subst hw
    rw [List.drop_eq_getElem_cons hi,List.set_append_right _ _ (Nat.le_refl _),Nat.sub_self,List.set_cons_zero,List.append_assoc]
    rfl
   obtain ⟨es2,hes2⟩:∃ e,e = U ((w ++ [t]) ++ a.drop (i+1)) := ⟨_,rfl⟩
   rw [← hes2] at hset
   simp [run_draw,logOk,lenPV,hii,hii1,ga,gb,hH,hjm,hmj,wb,wc,wi,ms,ms2,k1,k2,hor,wt,hset1,g1,hset,zj,s0,hi,h1]
   refine ⟨by decide,a.length - (i+1),by omega,j,i+1,w ++ [t],_,_,rfl,by omega,by simp [hw],dw.join (Dig.one (by omega)),?_,hes2,hnj,by omega,rfl⟩
   rw [val_snoc,hw,val_take_succ hi,eb,show pw (i+1) = 4294967296 * pw i from rfl,← hpq]
   rw [ea] at hv
   grind
  ·have hii1:¬ (i:Int)+1 < a.length := by omega
   obtain ⟨h,L,k1,k2,k3,k4,k5,k6,k7,k8⟩ := down_parts (y := 0) hs ra (by omega)
   have hb:h < 4294967296 := by
    have:(1:Int) * 2 ^ (32 - s) ≤ 2 ^ s * 2 ^ (32 - s) := Int.mul_le_mul_of_nonneg_right (by have := pow2_pos s; omega) (by have := pow2_pos (32 - s); omega)
    omega
   have eb:low a s (i+1) = 0 := by unfold low; rw [getD_out h1]; simp
   have hset:es.set i (.int .u32 h) = U ((w ++ [h]) ++ a.drop (i+1)) := by
    rw [hes,U_set]
    congr 1
    subst hw
    rw [List.drop_eq_getElem_cons hi,List.set_append_right _ _ (Nat.le_refl _),Nat.sub_self,List.set_cons_zero,List.append_assoc]
    rfl
   obtain ⟨es2,hes2⟩:∃ e,e = U ((w ++ [h]) ++ a.drop (i+1)) := ⟨_,rfl⟩
   rw [← hes2] at hset
   simp [run_draw,logOk,lenPV,hii,hii1,ga,hH,hjm,hmj,wi,ms,ms2,k1,hset,zj,s0,hi]
   refine ⟨a.length - (i+1),by omega,j,i+1,w ++ [h],_,_,rfl,by omega,by simp [hw],dw.join (Dig.one (by omega)),?_,hes2,hnj,by omega,rfl⟩
   rw [val_snoc,hw,val_take_succ hi,eb]
   rw [ea] at hv
   grind
theorem look_upd_same {j:Nat} {e e0:Ent}:∀ {H:List (Nat × Ent)},Go.Pi.look H j = some e0 → Go.Pi.look (upd H j e) j = some e
 | [],h => by cases h
 | (i,x) :: H,h => by
  simp only [Go.Pi.look,beq_lit] at h
  simp only [upd,beq_lit]
  by_cases hi:i = j
  ·simp [hi,Go.Pi.look,beq_lit]
  ·simp only [hi,decide_false,cond_false,Go.Pi.look,beq_lit] at h ⊢
   exact look_upd_same h
theorem look_upd_ne {j l:Nat} {e:Ent} (hne:j ≠ l):∀ {H:List (Nat × Ent)},Go.Pi.look (upd H j e) l = Go.Pi.look H l
 | [] => rfl
 | (i,x) :: H => by
  simp only [upd,beq_lit,Bool.cond_eq_ite,decide_eq_true_eq]
  by_cases hi:i = j
  ·subst hi
   simp [Go.Pi.look,beq_lit,hne]
  ·rw [if_neg hi]
   simp only [Go.Pi.look,beq_lit]
   rw [look_upd_ne hne]
theorem upd_upd {j:Nat} {e e':Ent}:∀ {H:List (Nat × Ent)},upd (upd H j e) j e' = upd H j e'
 | [] => rfl
 | (i,x) :: H => by
  simp only [upd,beq_lit]
  by_cases hi:i = j
  ·simp [hi,upd,beq_lit]
  ·simp [hi,upd,beq_lit,upd_upd]
theorem upd_self {j:Nat} {e:Ent}:∀ {H:List (Nat × Ent)},Go.Pi.look H j = some e → upd H j e = H
 | [],_ => rfl
 | (i,x) :: H,h => by
  simp only [Go.Pi.look,beq_lit] at h
  simp only [upd,beq_lit]
  by_cases hi:i = j
  ·simp [hi] at h ⊢; exact h.symm
  ·simp only [hi,decide_false,cond_false] at h ⊢
   rw [upd_self h]
theorem seg_get {P w E:List Int} {lo i:Nat} (hP:P.length = lo) (hw:w.length = i) (hi:i < E.length):(U (P ++ (w ++ E.drop i)))[lo + i]? = some (.int .u32 E[i]) := by
 subst hP; subst hw
 rw [List.drop_eq_getElem_cons hi]
 simp [U,List.getElem?_append_right]
theorem seg_set {P w E:List Int} {lo i:Nat} (hP:P.length = lo) (hw:w.length = i) (hi:i < E.length) (d:Int):(U (P ++ (w ++ E.drop i))).set (lo + i) (.int .u32 d) = U (P ++ ((w ++ [d]) ++ E.drop (i+1))) := by
 subst hP; subst hw
 rw [U_set,List.drop_eq_getElem_cons hi,List.set_append_right _ _ (by omega),Nat.add_sub_cancel_left,List.set_append_right _ _ (Nat.le_refl _),Nat.sub_self,List.set_cons_zero,List.append_assoc w]
 rfl
theorem or64 {r d:Int} (hr:0 ≤ r ∧ r < 4294967296) (hd:0 ≤ d ∧ d < 4294967296):orI 64 (r * 4294967296) d = r * 4294967296 + d := by
 have h1:r * 4294967296 + d < 18446744073709551616 := by omega
 have := or_side (r := r) (d := d) (i := 32) (w := 64) hr.1 hd.1 (by simpa using hd.2) (by simpa using h1)
 simpa using this
structure Box (p:Prop):Prop where
 out:p
structure Trial (U V v1 v2 u2 hi q r:Int):Prop where
 split:hi = q * v1 + r
 q0:0 ≤ q
 r0:0 ≤ r
 r1:r < 4294967296 + v1
 low:U < (q+1) * V
 top:q ≤ 4294967296 ∨ (q = 4294967297 ∧ r < v1)
def trialI (un n lo uj vj:Nat) (UU V v1 v2 u2 hi:Int) (H:List (Nat × Ent)) (Z:List Nat) (n0:Nat):Nat → List PV → St → Prop := fun m vs st => ∃ (q r:Int) (k:Nat),vs = [.int .u64 r,.int .u64 q,.int .i64 (n:Int),.own vj 0 n,.own uj lo un] ∧ Trial UU V v1 v2 u2 hi q r ∧ m = (8589934592 - r).toNat ∧ n0 ≤ k ∧ st = ⟨k,H,Z⟩
def trialX (un n lo uj vj:Nat) (UU V:Int) (H:List (Nat × Ent)) (Z:List Nat) (n0:Nat):Tm → St → Prop := fun T st => ∃ (q:Int) (k:Nat),lookT T 0 = .own uj lo un ∧ lookT T 1 = .own vj 0 n ∧ lookT T 5 = .int .i64 (n:Int) ∧ lookT T 7 = .int .u64 q ∧ 0 ≤ q ∧ q ≤ 4294967296 ∧ (q - 1) * V ≤ UU ∧ UU < (q+1) * V ∧ n0 ≤ k ∧ st = ⟨k,H,Z⟩
def subI (un n lo uj vj:Nat) (P E v:List Int) (q:Int) (H:List (Nat × Ent)) (Z:List Nat) (n0:Nat):Nat → List PV → St → Prop := fun m vs st => ∃ (i:Nat) (c b:Int) (w:List Int) (k:Nat) (es:List PV),vs = [.int .i64 (i:Int),.int .u64 c,.own uj lo un,.int .i64 (n:Int),.int .i64 b,.int .u64 q,.own vj 0 n,.int .i64 (n:Int),.own vj 0 n] ∧ i + m = n ∧
 w.length = i ∧ Dig w ∧ 0 ≤ c ∧ c < 4294967296 ∧ 0 ≤ b ∧ b ≤ 1 ∧ val w = val (E.take i) - q * val (v.take i) + pw i * (b + c) ∧ es = U (P ++ (w ++ E.drop i)) ∧ n0 ≤ k ∧ st = ⟨k,upd H uj ⟨1,es⟩,Z⟩
def addI (un n lo uj vj:Nat) (P E v:List Int) (q:Int) (H:List (Nat × Ent)) (Z:List Nat) (n0:Nat):Nat → List PV → St → Prop := fun m vs st => ∃ (i:Nat) (c:Int) (w:List Int) (k:Nat) (es:List PV),vs = [.int .i64 (i:Int),.int .u64 c,.own uj lo un,.int .i64 (n:Int),.own vj 0 n,.int .i64 (n:Int),.int .u64 q] ∧ i + m = n ∧
 w.length = i ∧ Dig w ∧ 0 ≤ c ∧ c ≤ 1 ∧ val w = val (E.take i) + val (v.take i) - pw i * c ∧ es = U (P ++ (w ++ E.drop i)) ∧ n0 ≤ k ∧ st = ⟨k,upd H uj ⟨1,es⟩,Z⟩
def digitQ (n uj:Nat) (P E:List Int) (UU V:Int) (H:List (Nat × Ent)) (Z:List Nat) (n0:Nat):PV → St → Prop := fun v st => v = .int .u32 (UU / V) ∧ ∃ k w,n0 ≤ k ∧ st = ⟨k,upd H uj ⟨1,U (P ++ (w ++ E.drop (n+1)))⟩,Z⟩ ∧ w.length = n+1 ∧ Dig w ∧ val w = UU % V
theorem div_of {U V t:Int} (h1:t * V ≤ U) (h2:U < (t+1) * V) (hV:0 < V):U / V = t ∧ U % V = U - t * V := by
 have e:U / V = t := by
  apply Int.le_antisymm
  ·exact Int.lt_add_one_iff.1 ((Int.ediv_lt_iff_lt_mul hV).2 h2)
  ·exact (Int.le_ediv_iff_mul_le hV).2 h1
 refine ⟨e,?_⟩
 have := Int.mul_ediv_add_emod U V
 rw [e] at this
 have := Int.mul_comm V t
 omega
theorem digit_own {S:Specs} (uj vj lo n q:Nat) (D P E dv v:List Int) (hn:n = q + 2) (hD:D = P ++ E) (hP:P.length = lo) (hE:n+1 ≤ E.length) (dE:Dig E) (hv:v = dv.take n) (hvl:v.length = n) (ddv:Dig dv) (hle:D.length < 1000000)
  (hne:uj ≠ vj) (hnorm:2147483648 ≤ v.getD (q+1) 0) (hlt:val (E.take (n+1)) < 4294967296 * val v) (n0:Nat) (H:List (Nat × Ent)) (Z:List Nat) (hz:memB Z uj = false)
  (hH:Go.Pi.look H uj = some ⟨1,U D⟩) (hV:Go.Pi.look H vj = some ⟨1,U dv⟩) :
  CallW prog (specEnv prog G S) G A1 196 [.own uj lo (n+1),.own vj 0 n] ⟨n0,H,Z⟩ (digitQ n uj P E (val (E.take (n+1))) (val v) H Z n0) := by
 have dv':Dig v := by rw [hv]; exact ddv.take _
 have hdl:n ≤ dv.length := by have h := congrArg List.length hv; rw [List.length_take,hvl] at h; omega
 have hPE:lo + E.length < 1000000 := by rw [hD,List.length_append] at hle; omega
 have gv:∀ i,(h:i < n) → (U dv)[i]? = some (.int .u32 (v[i]'(by omega))) := by
  intro i h
  have hi:i < dv.length := by omega
  have e:v[i]'(by omega) = dv[i] := by
   have := List.getElem_of_eq hv (show i < v.length by omega)
   rw [List.getElem_take] at this
   exact this
  rw [U_get hi,e]
 have gu:∀ i,(h:i < E.length) → (U D)[lo + i]? = some (.int .u32 E[i]) := by
  intro i h
  rw [hD]; subst hP
  simp [U,List.getElem?_append_right,h]
 have hn1:v.getD (q+1) 0 = v[q+1]'(by omega) := getD_at (by omega)
 rw [hn1] at hnorm
 obtain ⟨v1,hv1⟩:∃ z,z = v[q+1]'(by omega) := ⟨_,rfl⟩
 obtain ⟨v2,hv2⟩:∃ z,z = v[q]'(by omega) := ⟨_,rfl⟩
 obtain ⟨u0,hu0⟩:∃ z,z = E[n]'(by omega) := ⟨_,rfl⟩
 obtain ⟨u1,hu1⟩:∃ z,z = E[q+1]'(by omega) := ⟨_,rfl⟩
 obtain ⟨u2,hu2⟩:∃ z,z = E[q]'(by omega) := ⟨_,rfl⟩
 have rv1 := dv'.get (show q+1 < v.length by omega)
 have rv2 := dv'.get (show q < v.length by omega)
 have ru0 := dE.get (show n < E.length by omega)
 have ru1 := dE.get (show q+1 < E.length by omega)
 have ru2 := dE.get (show q < E.length by omega)
 have gv1 := gv (q+1) (by omega)
 have gv2 := gv q (by omega)
 have gu0 := gu n (by omega)
 have gu1 := gu (q+1) (by omega)
 have gu2 := gu q (by omega)
 rw [← hv1] at rv1 gv1 hnorm
 rw [← hv2] at rv2 gv2
 rw [← hu0] at ru0 gu0
 rw [← hu1] at ru1 gu1
 rw [← hu2] at ru2 gu2
 obtain ⟨ul,vl,hUU,ul0,ul1,hVV,vl0,vl1⟩ := top_digits (u := E.take (n+1)) (v := v) (n := q) (by rw [List.length_take]; omega) (by omega) (dE.take _) dv'
 have pq := pw_pos q
 obtain ⟨UU,hUUd⟩:∃ z,z = val (E.take (n+1)) := ⟨_,rfl⟩
 obtain ⟨V,hVd⟩:∃ z,z = val v := ⟨_,rfl⟩
 rw [← hUUd] at hUU hlt ⊢
 rw [← hVd] at hVV hlt ⊢
 obtain ⟨hi,hhi⟩:∃ z,z = u0 * 4294967296 + u1 := ⟨_,rfl⟩
 have hUU':UU = (hi * 4294967296 + u2) * pw q + ul := by
  rw [hUU,hhi,hu0,hu1,hu2]
  simp only [List.getElem_take]
  subst hn
  rfl
 have hVV':V = (v1 * 4294967296 + v2) * pw q + vl := by rw [hVV,hv1,hv2]
 have hi0:0 ≤ hi := by omega
 have Vpos:0 < V := by
  rw [hVV']
  have:1 * pw q ≤ (v1 * 4294967296 + v2) * pw q := Int.mul_le_mul_of_nonneg_right (by omega) (by omega)
  omega
 have U0:0 ≤ UU := by rw [hUUd]; exact val_nonneg (dE.take _)
 have hiB:hi < 4294967296 * (v1+1) := by
  have h1:hi * 4294967296 * pw q ≤ UU := by
   rw [hUU']
   have:hi * 4294967296 * pw q ≤ (hi * 4294967296 + u2) * pw q := Int.mul_le_mul_of_nonneg_right (by omega) (by omega)
   omega
  have h2:V < (v1+1) * 4294967296 * pw q := by
   rw [hVV']
   have:(v1 * 4294967296 + v2+1) * pw q ≤ (v1+1) * 4294967296 * pw q := Int.mul_le_mul_of_nonneg_right (by omega) (by omega)
   have e:(v1 * 4294967296 + v2+1) * pw q = (v1 * 4294967296 + v2) * pw q + pw q := by grind
   omega
  have h3:hi * (4294967296 * pw q) < 4294967296 * (v1+1) * (4294967296 * pw q) := by grind
  exact Int.lt_of_mul_lt_mul_right h3 (by omega)
 obtain ⟨q0,hq0⟩:∃ z,z = hi / v1 := ⟨_,rfl⟩
 obtain ⟨r0,hr0⟩:∃ z,z = hi % v1 := ⟨_,rfl⟩
 have hqr:v1 * q0 + r0 = hi := by rw [hq0,hr0]; exact Int.mul_ediv_add_emod hi v1
 have r00:0 ≤ r0 := by rw [hr0]; exact Int.emod_nonneg _ (by omega)
 have r01:r0 < v1 := by rw [hr0]; exact Int.emod_lt_of_pos _ (by omega)
 have q00:0 ≤ q0 := by rw [hq0]; exact Int.ediv_nonneg hi0 (by omega)
 have q01:q0 ≤ 4294967297 := by
  apply Classical.byContradiction
  intro hc
  have h1:v1 * 4294967298 ≤ v1 * q0 := Int.mul_le_mul_of_nonneg_left (by omega) (by omega)
  omega
 have lowFirst:UU < (q0+1) * V := by
  have h1:(hi+1) * 4294967296 ≤ (q0+1) * v1 * 4294967296 := by
   have e:(q0+1) * v1 = v1 * q0 + v1 := by grind
   rw [e]; omega
  have h2:(q0+1) * ((v1 * 4294967296) * pw q) ≤ (q0+1) * V := by
   refine Int.mul_le_mul_of_nonneg_left ?_ (by omega)
   rw [hVV']
   have:(v1 * 4294967296) * pw q ≤ (v1 * 4294967296 + v2) * pw q := Int.mul_le_mul_of_nonneg_right (by omega) (by omega)
   omega
  have h3:((hi+1) * 4294967296) * pw q ≤ ((q0+1) * v1 * 4294967296) * pw q := Int.mul_le_mul_of_nonneg_right h1 (by omega)
  have h4:UU < ((hi+1) * 4294967296) * pw q := by
   rw [hUU']
   have:(hi * 4294967296 + u2+1) * pw q ≤ ((hi+1) * 4294967296) * pw q := Int.mul_le_mul_of_nonneg_right (by omega) (by omega)
   have e:(hi * 4294967296 + u2+1) * pw q = (hi * 4294967296 + u2) * pw q + pw q := by grind
   omega
  grind
 refine callW_of ann196 func196 rfl (by kernel_rfl) ?_
 have wn1:IntKind.i64.wrap ((n:Int) - 1) = ((q+1:Nat):Int) := by rw [w_i64 (by omega)]; omega
 have wn2:IntKind.i64.wrap ((n:Int) - 2) = ((q:Nat):Int) := by rw [w_i64 (by omega)]; omega
 have wu0:IntKind.u64.wrap u0 = u0 := w_u64 (by omega)
 have wu1:IntKind.u64.wrap u1 = u1 := w_u64 (by omega)
 have wu2:IntKind.u64.wrap u2 = u2 := w_u64 (by omega)
 have wv1:IntKind.u64.wrap v1 = v1 := w_u64 (by omega)
 have wv2:IntKind.u64.wrap v2 = v2 := w_u64 (by omega)
 have wsh:IntKind.u64.wrap (u0 * 4294967296) = u0 * 4294967296 := w_u64 (by omega)
 have hor:orI 64 (u0 * 4294967296) u1 = hi := by rw [hhi]; exact or64 ru0 ru1
 have whi:IntKind.u64.wrap hi = hi := w_u64 (by omega)
 have v1z:(v1 == 0) = false := by simp only [beq_eq_false_iff_ne,ne_eq]; omega
 have td:IntKind.u64.wrap (hi.tdiv v1) = q0 := by rw [Int.tdiv_eq_ediv_of_nonneg hi0,← hq0]; exact w_u64 (by omega)
 have tm:hi.tmod v1 = r0 := by rw [Int.tmod_eq_emod_of_nonneg hi0,hr0]
 have hq1n:q+1 < n := by omega
 have hqn:q < n := by omega
 have hq1n1:q+1 < n+1 := by omega
 have hqn1:q < n+1 := by omega
 simp [run_draw,logOk,lenPV,hH,hV,gu0,gu1,gv1,wn1,wu0,wu1,wv1,wsh,hor,whi,v1z,td,tm,hq1n,hq1n1]
 refine loopK_exit (trialI (n+1) n lo uj vj UU V v1 v2 u2 hi H Z n0) 0 (trialX (n+1) n lo uj vj UU V H Z n0) rfl rfl ?step ?cont (8589934592 - r0).toNat _ _ ?init
 case init =>
  refine ⟨q0,r0,_,rfl,⟨by rw [← hqr,Int.mul_comm],q00,r00,by omega,lowFirst,?_⟩,rfl,by omega,rfl⟩
  rcases Int.lt_or_le 4294967296 q0 with h | h
  ·exact .inr ⟨by omega,r01⟩
  ·exact .inl h
 case step =>
  clear gv gu hUU hVV hdl hPE hn1 hUUd hVd hiB hqr r00 r01 q00 q01 lowFirst wu0 wu1 wsh hor whi v1z td tm hq0 hr0 ru0 ru1 gu0 gu1 hhi hv1 hv2 hu0 hu1 hu2 hP hE hvl hle
  rintro m vs st ⟨qq,r,k,rfl,tr,hm,hk,rfl⟩
  have tsplit := tr.split
  have tq0 := tr.q0
  have tr0 := tr.r0
  have tr1 := tr.r1
  have tlow := tr.low
  have ttop := tr.top
  have wrv:IntKind.u64.wrap (r + v1) = r + v1 := w_u64 (by omega)
  have next:Box (0 < qq → UU < qq * V → r < 4294967296 → ∃ m',m' < m ∧ Trial UU V v1 v2 u2 hi (qq - 1) (r + v1) ∧ m' = (8589934592 - (r + v1)).toNat) := by
   refine ⟨fun h1 h2 h3 => ?_⟩
   exact ⟨_,by omega,⟨by rw [tsplit]; grind,by omega,by omega,by omega,by rw [show qq - 1+1 = qq by omega]; exact h2,.inl (by omega)⟩,rfl⟩
  have after:Box (qq ≤ 4294967296 → (4294967296 ≤ r ∨ qq * v2 ≤ r * 4294967296 + u2) → (qq - 1) * V ≤ UU) := .mk fun h1 h2 =>
   trial_end (p := pw q) (vl := vl) (ul := ul) pq hVV' vl0 vl1 rv2.1 rv2.2 (by omega) hUU' ul0 ru2.1 hi0 tsplit tq0 h1 h2
  rcases Int.lt_or_le r 4294967296 with hr | hr
  ·have hrb:decide (r < 4294967296) = true := by simpa using hr
   rcases Int.lt_or_le qq 4294967296 with hqB | hqB
   ·have hqb:decide (qq ≥ 4294967296) = false := by simp; omega
    have hmul := mul_small (x := qq) (y := v2) (by omega) rv2
    obtain ⟨M,hM⟩:∃ z,z = qq * v2 := ⟨_,rfl⟩
    rw [← hM] at hmul after
    have wM:IntKind.u64.wrap (qq * v2) = M := by rw [← hM]; exact w_u64 (by omega)
    have wr:IntKind.u64.wrap (r * 4294967296) = r * 4294967296 := w_u64 (by omega)
    obtain ⟨R,hR⟩:∃ z,z = r * 4294967296 + u2 := ⟨_,rfl⟩
    have horr:orI 64 (r * 4294967296) u2 = R := by rw [hR]; exact or64 ⟨tr0,hr⟩ ru2
    rw [← hR] at after
    have wR:IntKind.u64.wrap R = R := w_u64 (by omega)
    rcases Int.lt_or_le R M with hMR | hMR
    ·have hgt:decide (M > R) = true := by simpa using hMR
     have q1:0 < qq := by
      rcases Int.lt_or_le 0 qq with h | h
      ·exact h
      ·have:qq = 0 := by omega
       rw [this] at hM
       simp at hM
       omega
     have wq:IntKind.u64.wrap (qq - 1) = qq - 1 := w_u64 (by omega)
     obtain ⟨m',g1,g2,g3⟩ := next.out q1 (trial_low (p := pw q) (vlow := vl) (ulow := ul) pq hVV' vl0 hUU' ul1 tsplit (by rw [← hM,← hR]; exact hMR) tq0) hr
     simp [run_draw,logOk,lenPV,hH,hV,hrb,hqb,wM,wr,horr,wR,hgt,gv1,gv2,gu2,wn1,wn2,wv1,wv2,wu2,wrv,wq,hq1n,hqn,hqn1]
     first | exact ⟨by decide,m',g1,_,_,_,rfl,g2,g3,by omega,rfl⟩ | exact ⟨m',g1,_,_,_,rfl,g2,g3,by omega,rfl⟩
    ·have hgt:decide (M > R) = false := by simpa using hMR
     have aft := after.out (by omega) (.inr hMR)
     simp [run_draw,logOk,lenPV,hH,hV,hrb,hqb,wM,wr,horr,wR,hgt,gv1,gv2,gu2,wn1,wn2,wv1,wv2,wu2,wrv,hq1n,hqn,hqn1]
     first | exact ⟨by decide,_,_,rfl,rfl,rfl,rfl,tq0,by omega,aft,tlow,by omega,rfl⟩ | exact ⟨_,_,rfl,rfl,rfl,rfl,tq0,by omega,aft,tlow,by omega,rfl⟩
   ·have hqb:decide (qq ≥ 4294967296) = true := by simpa using hqB
    have wq:IntKind.u64.wrap (qq - 1) = qq - 1 := w_u64 (by omega)
    have hbig:UU < qq * V := by
     have:4294967296 * V ≤ qq * V := Int.mul_le_mul_of_nonneg_right hqB (by omega)
     omega
    obtain ⟨m',g1,g2,g3⟩ := next.out (by omega) hbig hr
    simp [run_draw,logOk,lenPV,hH,hV,hrb,hqb,gv1,gv2,gu2,wn1,wn2,wv1,wv2,wu2,wrv,wq,hq1n,hqn,hqn1]
    first | exact ⟨by decide,m',g1,_,_,_,rfl,g2,g3,by omega,rfl⟩ | exact ⟨m',g1,_,_,_,rfl,g2,g3,by omega,rfl⟩
  ·have hrb:decide (r < 4294967296) = false := by simpa using hr
   have hq4:qq ≤ 4294967296 := by omega
   have aft := after.out hq4 (.inl hr)
   have hr':¬ r < 4294967296 := by omega
   simp [run_draw,logOk,lenPV,hH,hV,hrb,hr',wn1,wn2]
   first | exact ⟨by decide,_,_,rfl,rfl,rfl,rfl,tq0,hq4,aft,tlow,by omega,rfl⟩ | exact ⟨_,_,rfl,rfl,rfl,rfl,tq0,hq4,aft,tlow,by omega,rfl⟩
 case cont =>
  clear hUU hVV hn1 hiB hqr r00 r01 q00 q01 lowFirst wu0 wu1 wu2 wv1 wv2 wsh hor whi v1z td tm hq0 hr0 ru1 ru2 gu1 gu2 gv1 gv2 hhi hv1 hv2 hu1 hu2 rv1 rv2 hUU' hVV' ul0 ul1 vl0 vl1 hi0 hnorm hqn hq1n hqn1 hq1n1 wn1 wn2
  rintro T st ⟨qq,k,h0,h1,h5,h7,tq0,hq4,aft,tlow,hk,rfl⟩
  have lu:∀ es,Go.Pi.look (upd H uj ⟨1,es⟩) uj = some ⟨1,es⟩ := fun es => look_upd_same hH
  have lv:∀ es,Go.Pi.look (upd H uj ⟨1,es⟩) vj = some ⟨1,U dv⟩ := fun es => by rw [look_upd_ne hne,hV]
  simp [run_draw,logOk,lenPV,hH,hV,h0,h1,h5,h7]
  refine loopK_of (subI (n+1) n lo uj vj P E v qq H Z n0) rfl rfl ?step2 n _ _ ?init2
  case init2 => exact ⟨0,0,0,[],k+1+1+1+1+1,U D,by simp [lookT,Nat.beq,lkIn,Go.Pi.look,beq_lit,h0,h1,h5,h7],by omega,rfl,fun _ h => (by cases h),by omega,by omega,by omega,by omega,by simp [val],by simp [hD],by omega,by rw [upd_self hH]⟩
  case step2 =>
  clear h0 h1 h5 h7
  rintro m vs st ⟨i,c,b,w,k,es,rfl,him,hw,dw,hc0,hc1,hb0,hb1,hv1,hes,hk,rfl⟩
  have lu' := lu es
  have lv' := lv es
  have hul:(U D).length = D.length := U_len D
  rcases Nat.eq_zero_or_pos m with h0 | h0
  ·obtain rfl:i = n := by omega
   have hi1:i < i+1 := by omega
   have gui := seg_get (w := w) (E := E) hP hw (show i < E.length by omega)
   have sui := seg_set (w := w) (E := E) hP hw (show i < E.length by omega)
   rw [← hes,← hu0] at gui
   rw [← hes] at sui
   have wu:IntKind.i64.wrap u0 = u0 := w_i64 (by omega)
   have wc:IntKind.i64.wrap c = c := w_i64 (by omega)
   have wt1:IntKind.i64.wrap (u0 - b) = u0 - b := w_i64 (by omega)
   have wt2:IntKind.i64.wrap (u0 - b - c) = u0 - b - c := w_i64 (by omega)
   obtain ⟨t,ht⟩:∃ z,z = u0 - b - c := ⟨_,rfl⟩
   rw [← ht] at wt2
   obtain ⟨d,hd⟩:∃ z,z = IntKind.u32.wrap t := ⟨_,rfl⟩
   have hdm:d = t % 4294967296 := by rw [hd,IntKind.wrap_u32]
   have sd := sui d
   obtain ⟨es2,hes2⟩:∃ z,z = U (P ++ ((w ++ [d]) ++ E.drop (i+1))) := ⟨_,rfl⟩
   rw [← hes2] at sd
   have pi0 := pw_pos i
   have vw0 := val_nonneg dw
   have vw1 := val_lt dw
   rw [hw] at vw1
   have hX:val w + pw i * t = UU - qq * V := by
    have e1 := val_take_succ (ds := E) (i := i) (by omega)
    rw [← hUUd,← hu0] at e1
    rw [List.take_of_length_le (l := v) (by omega),← hVd] at hv1
    rw [ht]
    grind
   have VB:V < pw i := by rw [hVd,← hvl]; exact val_lt dv'
   have hlow:UU - qq * V < V := by grind
   have hhigh : -V ≤ UU - qq * V := by grind
   rcases Int.lt_or_le t 0 with hneg | hneg
   ·have tb:decide (t ≥ 0) = false := by simpa using hneg
    simp [run_draw,logOk,lenPV,lu',lv',wu,wc,wt1,wt2,hi1,gui,← ht,← hd,sd,tb,hz,upd_upd]
    have t1:t = -1 := by
     apply Classical.byContradiction
     intro hc
     have:pw i * t ≤ pw i * (-2) := Int.mul_le_mul_of_nonneg_left (by omega) (by omega)
     omega
    have dv1:d = 4294967295 := by rw [hdm,t1]; rfl
    rw [t1] at hX
    have q1:0 < qq := by
     rcases Int.lt_or_le 0 qq with h | h
     ·exact h
     ·have:qq = 0 := by omega
      rw [this,Int.zero_mul] at hX
      omega
    obtain ⟨E2,hE2⟩:∃ E2,E2 = (w ++ [d]) ++ E.drop (i+1) := ⟨_,rfl⟩
    rw [← hE2] at hes2
    have E2l:E2.length = E.length := by rw [hE2]; simp [hw]; omega
    have dE2:Dig E2 := by rw [hE2]; exact (dw.join (Dig.one (by omega))).join (dE.drop _)
    have E2t:E2.take i = w := by rw [hE2,List.append_assoc,List.take_append_of_le_length (by omega),List.take_of_length_le (by omega)]
    have E2d:E2.drop (i+1) = E.drop (i+1) := by rw [hE2,List.drop_append_of_le_length (by simp [hw])]; simp [hw]
    have E2n:E2[i]? = some d := by rw [hE2]; simp [← hw]
    have E2n':E2[i]'(by omega) = d := by
     have := List.getElem?_eq_getElem (show i < E2.length by omega)
     rw [E2n] at this
     exact (Option.some.inj this).symm
    refine loopK_of (addI (i+1) i lo uj vj P E2 v qq H Z n0) rfl rfl ?step3 i _ _ ?init3
    case init3 => exact ⟨0,0,[],_,_,rfl,by omega,rfl,fun _ h => (by cases h),by omega,by omega,by simp [val],by simpa using hes2,by omega,rfl⟩
    case step3 =>
    clear lu' lv' gui sui wu wc wt1 wt2 hdm sd ru0 gu0 gu hv1 hes dw hw tb
    clear hk hul
    rintro m vs st ⟨l,c,w2,k,es,rfl,him,hw2,dw2,hc0,hc1,hv2,hes,hk,rfl⟩
    have lu' := lu es
    have lv' := lv es
    rcases Nat.eq_zero_or_pos m with h0 | h0
    ·obtain rfl:l = i := by omega
     have gui := seg_get (w := w2) (E := E2) hP hw2 (show l < E2.length by omega)
     have sui := seg_set (w := w2) (E := E2) hP hw2 (show l < E2.length by omega)
     rw [← hes,E2n'] at gui
     rw [← hes] at sui
     have vw0 := val_nonneg dw2
     have vw1 := val_lt dw2
     rw [hw2] at vw1
     rw [E2t,List.take_of_length_le (l := v) (by omega),← hVd] at hv2
     have c1:c = 1 := by
      rcases Int.lt_or_le c 1 with h | h
      ·have:c = 0 := by omega
       rw [this,Int.mul_zero] at hv2
       omega
      ·omega
     rw [c1] at hv2 ⊢
     have w1:IntKind.u32.wrap 1 = 1 := rfl
     have w2':IntKind.u32.wrap (d+1) = 0 := by rw [dv1]; rfl
     have s0 := sui 0
     have wq:IntKind.u64.wrap (qq - 1) = qq - 1 := w_u64 (by omega)
     have wq2:IntKind.u32.wrap (qq - 1) = qq - 1 := w_u32 (by omega)
     have e3:(qq - 1) * V = qq * V - V := by grind
     obtain ⟨e1,e2⟩ := div_of (U := UU) (V := V) (t := qq - 1) aft (by rw [show qq - 1+1 = qq by omega]; omega) Vpos
     obtain ⟨es3,hes3⟩:∃ z,z = U (P ++ ((w2 ++ [0]) ++ E2.drop (l+1))) := ⟨_,rfl⟩
     rw [← hes3] at s0
     simp [run_draw,logOk,lenPV,lu',lv',hi1,gui,w1,w2',s0,hz,upd_upd,wq,wq2]
     refine ⟨by rw [e1],_,w2 ++ [0],?_,by rw [hes3,E2d],by simp [hw2],dw2.join (Dig.one (by omega)),?_⟩
     ·omega
     ·rw [val_snoc,e2,e3,Int.mul_zero]; omega
    ·have hl:l < i := by omega
     have hl1:l < i+1 := by omega
     have hll:(l:Int) < i := by omega
     have gvl := gv l hl
     have rvl := dv'.get (show l < v.length by omega)
     have rel := dE2.get (show l < E2.length by omega)
     have gui := seg_get (w := w2) (E := E2) hP hw2 (show l < E2.length by omega)
     have sui := seg_set (w := w2) (E := E2) hP hw2 (show l < E2.length by omega)
     obtain ⟨vl,hvl'⟩:∃ z,z = v[l]'(by omega) := ⟨_,rfl⟩
     obtain ⟨el,hel⟩:∃ z,z = E2[l]'(by omega) := ⟨_,rfl⟩
     rw [← hes,← hel] at gui
     rw [← hes] at sui
     rw [← hvl'] at gvl rvl
     rw [← hel] at rel
     have wvl:IntKind.u64.wrap vl = vl := w_u64 (by omega)
     have wel:IntKind.u64.wrap el = el := w_u64 (by omega)
     have ws:IntKind.u64.wrap (el + vl) = el + vl := w_u64 (by omega)
     have ws2:IntKind.u64.wrap (c + (el + vl)) = c + (el + vl) := w_u64 (by omega)
     obtain ⟨l1,g1,k1,k2,k3,k4,k5⟩ := halves (s := c + (el + vl)) (by omega)
     have wi:IntKind.i64.wrap ((l:Int)+1) = ((l+1:Nat):Int) := w_i64 (by omega)
     have sd := sui l1
     obtain ⟨es3,hes3⟩:∃ z,z = U (P ++ ((w2 ++ [l1]) ++ E2.drop (l+1))) := ⟨_,rfl⟩
     rw [← hes3] at sd
     have nx := addback_step (show l < E2.length by omega) (show l < v.length by omega) hw2 hv2 (c + (el + vl)) l1 g1 (by rw [hel,hvl']) k3
     simp [run_draw,logOk,lenPV,lu',lv',hll,gvl,wvl,wel,ws,ws2,k1,k2,wi,hl,hl1,gui,sd,hz,upd_upd]
     exact ⟨m - 1,by omega,l+1,g1,w2 ++ [l1],_,es3,rfl,by omega,by simp [hw2],dw2.join (Dig.one k4),by omega,by omega,nx,hes3,by omega,rfl⟩
   ·have tb:decide (t ≥ 0) = true := by simpa using hneg
    have t0:t = 0 := by
     apply Classical.byContradiction
     intro hc
     have:pw i * 1 ≤ pw i * t := Int.mul_le_mul_of_nonneg_left (by omega) (by omega)
     omega
    have d0:d = 0 := by rw [hdm,t0]; rfl
    rw [t0,Int.mul_zero,Int.add_zero] at hX
    obtain ⟨e1,e2⟩ := div_of (U := UU) (V := V) (t := qq) (by omega) tlow Vpos
    have q32:qq < 4294967296 := by
     rw [← e1]
     exact Int.ediv_lt_of_lt_mul Vpos hlt
    have wq:IntKind.u32.wrap qq = qq := w_u32 (by omega)
    simp [run_draw,logOk,lenPV,lu',lv',wu,wc,wt1,wt2,hi1,gui,← ht,← hd,sd,tb,hz,upd_upd,wq]
    refine ⟨by rw [e1],_,w ++ [d],?_,by rw [hes2],by simp [hw],dw.join (Dig.one (by omega)),?_⟩
    ·omega
    ·rw [val_snoc,d0,e2]; omega
  ·have hi:i < n := by omega
   have hi1:i < n+1 := by omega
   have hii:(i:Int) < n := by omega
   have gvi := gv i hi
   have rvi := dv'.get (show i < v.length by omega)
   have rei := dE.get (show i < E.length by omega)
   have gui := seg_get (w := w) (E := E) hP hw (show i < E.length by omega)
   have sui := seg_set (w := w) (E := E) hP hw (show i < E.length by omega)
   obtain ⟨vi,hvi⟩:∃ z,z = v[i]'(by omega) := ⟨_,rfl⟩
   obtain ⟨ei,hei⟩:∃ z,z = E[i]'(by omega) := ⟨_,rfl⟩
   rw [← hes,← hei] at gui
   rw [← hes] at sui
   rw [← hvi] at gvi rvi
   rw [← hei] at rei
   have mprod:0 ≤ qq * vi ∧ qq * vi ≤ 18446744069414584320 := by
    have a1 := Int.mul_nonneg tq0 rvi.1
    have a2:qq * vi ≤ 4294967296 * 4294967295 := Int.mul_le_mul hq4 (by omega) rvi.1 (by omega)
    omega
   obtain ⟨M,hM⟩:∃ z,z = qq * vi := ⟨_,rfl⟩
   rw [← hM] at mprod
   have wvi:IntKind.u64.wrap vi = vi := w_u64 (by omega)
   have wM:IntKind.u64.wrap (qq * vi) = M := by rw [← hM]; exact w_u64 (by omega)
   have wc:IntKind.u64.wrap (c + M) = c + M := w_u64 (by omega)
   obtain ⟨l1,g1,k1,k2,k3,k4,k5⟩ := halves (s := c + M) (by omega)
   have we:IntKind.i64.wrap ei = ei := w_i64 (by omega)
   have wl:IntKind.i64.wrap l1 = l1 := w_i64 (by omega)
   have wt1:IntKind.i64.wrap (ei - b) = ei - b := w_i64 (by omega)
   have wt2:IntKind.i64.wrap (ei - b - l1) = ei - b - l1 := w_i64 (by omega)
   have wi:IntKind.i64.wrap ((i:Int)+1) = ((i+1:Nat):Int) := w_i64 (by omega)
   obtain ⟨t,ht⟩:∃ z,z = ei - b - l1 := ⟨_,rfl⟩
   rw [← ht] at wt2
   obtain ⟨d,hd⟩:∃ z,z = IntKind.u32.wrap t := ⟨_,rfl⟩
   have hdm:d = t % 4294967296 := by rw [hd,IntKind.wrap_u32]
   have sd := sui d
   obtain ⟨es2,hes2⟩:∃ z,z = U (P ++ ((w ++ [d]) ++ E.drop (i+1))) := ⟨_,rfl⟩
   rw [← hes2] at sd
   have next:Box (∀ b1:Int,t = d - 4294967296 * b1 → val (w ++ [d]) = val (E.take (i+1)) - qq * val (v.take (i+1)) + pw (i+1) * (b1 + g1)) := .mk fun b1 hb =>
    submul_step (q := qq) (c := c) (b := b) (show i < E.length by omega) (show i < v.length by omega) hw hv1 (c + M) l1 g1 t d b1 (by rw [hM,hvi]) k3 (by rw [ht,hei]) hb
   have d0:0 ≤ d := by omega
   have d1:d < 4294967296 := by omega
   rcases Int.lt_or_le t 0 with hneg | hneg
   ·have tb:decide (t < 0) = true := by simpa using hneg
    have nx := next.out 1 (by omega)
    clear next
    simp [run_draw,logOk,lenPV,lu',lv',hii,gvi,wvi,wM,wc,k1,k2,we,wl,wt1,wt2,wi,hi,hi1,gui,← ht,← hd,sd,tb,hz,upd_upd]
    exact ⟨m - 1,by omega,i+1,g1,1,w ++ [d],_,es2,rfl,by omega,by simp [hw],dw.join (Dig.one ⟨d0,d1⟩),by omega,by omega,by omega,by omega,nx,hes2,by omega,rfl⟩
   ·have tb:decide (t < 0) = false := by simpa using hneg
    have nx := next.out 0 (by omega)
    clear next
    simp [run_draw,logOk,lenPV,lu',lv',hii,gvi,wvi,wM,wc,k1,k2,we,wl,wt1,wt2,wi,hi,hi1,gui,← ht,← hd,sd,tb,hz,upd_upd]
    exact ⟨m - 1,by omega,i+1,g1,0,w ++ [d],_,es2,rfl,by omega,by simp [hw],dw.join (Dig.one ⟨d0,d1⟩),by omega,by omega,by omega,by omega,nx,hes2,by omega,rfl⟩
def len32R:CRel | [.int _ x],r => ∃ n:Nat,r = .int .i64 n ∧ n ≤ 32 ∧ x < 2 ^ n ∧ 2 ^ n ≤ 2 * x | _,_ => False
def lzR:CRel | [.int _ x],r => ∃ s:Nat,r = .int .i64 s ∧ s < 32 ∧ 2147483648 ≤ x * 2 ^ s ∧ x * 2 ^ s < 4294967296 | _,_ => False
theorem tab_all:∀ y:Fin 256,0 < y.val → ∃ n:Fin 9,(#[0,1,2,2,3,3,3,3,4,4,4,4,4,4,4,4,5,5,5,5,5,5,5,5,5,5,5,5,5,5,5,5,6,6,6,6,6,6,6,6,6,6,6,6,6,6,6,6,6,6,6,6,6,6,6,6,6,6,6,6,6,6,6,6,7,7,7,7,7,7,7,7,7,7,7,7,7,7,7,7,7,7,7,7,7,7,7,7,7,7,7,7,7,7,7,7,7,7,7,7,7,7,7,7,7,7,7,7,7,7,7,7,7,7,7,7,7,7,7,7,7,7,7,7,7,7,7,7,8,8,8,8,8,8,8,8,8,8,8,8,8,8,8,8,8,8,8,8,8,8,8,8,8,8,8,8,8,8,8,8,8,8,8,8,8,8,8,8,8,8,8,8,8,8,8,8,8,8,8,8,8,8,8,8,8,8,8,8,8,8,8,8,8,8,8,8,8,8,8,8,8,8,8,8,8,8,8,8,8,8,8,8,8,8,8,8,8,8,8,8,8,8,8,8,8,8,8,8,8,8,8,8,8,8,8,8,8,8,8,8,8,8,8,8,8,8,8,8,8,8,8,8,8,8,8,8]:Array UInt8).toList[y.val]? = some (UInt8.ofNat n.val) ∧ y.val < 2 ^ n.val ∧ 2 ^ n.val ≤ 2 * y.val := by decide +kernel
theorem index_of (L:Array UInt8) (hL:∀ y:Fin 256,0 < y.val → ∃ n:Fin 9,L.toList[y.val]? = some (UInt8.ofNat n.val) ∧ y.val < 2 ^ n.val ∧ 2 ^ n.val ≤ 2 * y.val) (y:Int) (h:0 < y ∧ y < 256):∃ n:Nat,n ≤ 8 ∧ indexOp prog 9 (.str ⟨L⟩) (.int .u8 y) = some (.int .u8 n) ∧ y < 2 ^ n ∧ 2 ^ n ≤ 2 * y := by
 obtain ⟨k,rfl⟩ := Int.eq_ofNat_of_zero_le (show 0 ≤ y by omega)
 obtain ⟨n,h1,h2,h3⟩ := hL ⟨k,by omega⟩ (by show 0 < k; omega)
 refine ⟨n.val,by omega,?_,by exact_mod_cast h2,by exact_mod_cast h3⟩
 have hu:(UInt8.ofNat n.val).toNat = n.val := by simp; omega
 simp only [indexOp,natOf_int,und9,h1,hu]
theorem index_tab (y:Int) (h:0 < y ∧ y < 256):∃ n:Nat,n ≤ 8 ∧ indexOp prog 9 (.str ⟨#[0,1,2,2,3,3,3,3,4,4,4,4,4,4,4,4,5,5,5,5,5,5,5,5,5,5,5,5,5,5,5,5,6,6,6,6,6,6,6,6,6,6,6,6,6,6,6,6,6,6,6,6,6,6,6,6,6,6,6,6,6,6,6,6,7,7,7,7,7,7,7,7,7,7,7,7,7,7,7,7,7,7,7,7,7,7,7,7,7,7,7,7,7,7,7,7,7,7,7,7,7,7,7,7,7,7,7,7,7,7,7,7,7,7,7,7,7,7,7,7,7,7,7,7,7,7,7,7,8,8,8,8,8,8,8,8,8,8,8,8,8,8,8,8,8,8,8,8,8,8,8,8,8,8,8,8,8,8,8,8,8,8,8,8,8,8,8,8,8,8,8,8,8,8,8,8,8,8,8,8,8,8,8,8,8,8,8,8,8,8,8,8,8,8,8,8,8,8,8,8,8,8,8,8,8,8,8,8,8,8,8,8,8,8,8,8,8,8,8,8,8,8,8,8,8,8,8,8,8,8,8,8,8,8,8,8,8,8,8,8,8,8,8,8,8,8,8,8,8,8,8,8,8,8,8,8]⟩) (.int .u8 y) = some (.int .u8 n) ∧ y < 2 ^ n ∧ 2 ^ n ≤ 2 * y := index_of _ tab_all y h
theorem len32_ok (x:Int) (hx:0 < x ∧ x < 4294967296):Gives prog G 217 [.int .u32 x] (len32R [.int .u32 x]) := by
 refine gives (S := []) (by kernel_rfl) (by kernel_rfl) (callW_of ann217 func217 rfl (by kernel_rfl) ?_)
 have fd:∀ y:Int,y.fdiv 256 = y / 256 := fun y => Int.fdiv_eq_ediv_of_nonneg _ (by omega)
 have fe:∀ y:Int,y.fdiv 65536 = y / 65536 := fun y => Int.fdiv_eq_ediv_of_nonneg _ (by omega)
 have shift:∀ (y z:Int) (n s:Nat) (B:Int),z = y / B → B = 2 ^ s → 0 < B → z < 2 ^ n → 2 ^ n ≤ 2 * z → y < 2 ^ (n + s) ∧ 2 ^ (n + s) ≤ 2 * y := by
  intro y z n s B hz hB hB0 k1 k2
  rw [Int.pow_add,← hB]
  have e1 := Int.mul_ediv_add_emod y B
  rw [← hz] at e1
  have e2 := Int.emod_lt_of_pos y hB0
  have e3 := Int.emod_nonneg y (show B ≠ 0 by omega)
  have e4:(z+1) * B ≤ 2 ^ n * B := Int.mul_le_mul_of_nonneg_right (by omega) (by omega)
  have e5:2 ^ n * B ≤ (2 * z) * B := Int.mul_le_mul_of_nonneg_right k2 (by omega)
  constructor
  ·grind
  ·grind
 have wb:∀ y:Int,0 < y ∧ y < 256 → IntKind.u8.wrap y = y := fun y h => by rw [IntKind.wrap_u8]; omega
 have wn:∀ n:Nat,n ≤ 8 → IntKind.i64.wrap (n:Int) = n := fun n h => w_i64 (by omega)
 have wa:∀ n:Nat,n ≤ 8 → IntKind.i64.wrap (0 + (n:Int)) = ((n + 0:Nat):Int) := fun n h => by rw [w_i64 (by omega)]; omega
 have wa8:∀ n:Nat,n ≤ 8 → IntKind.i64.wrap (8 + (n:Int)) = ((n + 8:Nat):Int) := fun n h => by rw [w_i64 (by omega)]; omega
 have wa16:∀ n:Nat,n ≤ 8 → IntKind.i64.wrap (16 + (n:Int)) = ((n+16:Nat):Int) := fun n h => by rw [w_i64 (by omega)]; omega
 have wa24:∀ n:Nat,n ≤ 8 → IntKind.i64.wrap (24 + (n:Int)) = ((n + 24:Nat):Int) := fun n h => by rw [w_i64 (by omega)]; omega
 have w24:IntKind.i64.wrap 24 = 24 := rfl
 have w16:IntKind.i64.wrap 16 = 16 := rfl
 have w8:IntKind.i64.wrap 8 = 8 := rfl
 have w0:IntKind.i64.wrap 0 = 0 := rfl
 by_cases h1:65536 ≤ x
 ·have b1:decide (x ≥ 65536) = true := by simpa using h1
  by_cases h2:16777216 ≤ x
  ·have b2:decide (256 ≤ x / 65536) = true := by simp; omega
   have b3:256 ≤ x / 65536 := by omega
   have e2:x / 65536 / 256 = x / 16777216 := by omega
   obtain ⟨n,k0,k1,k2,k3⟩ := index_tab (x / 16777216) (by omega)
   obtain ⟨r1,r2⟩ := shift x _ n 24 16777216 rfl rfl (by decide) k2 k3
   simp [run_draw,logOk,b1,h1,b2,b3,fe,fd,e2,w24,wb _ (show 0 < x / 16777216 ∧ x / 16777216 < 256 by omega),k1,wn _ k0,wa24 _ k0]
   exact outK_pure rfl ⟨n + 24,rfl,Nat.le_trans (Nat.add_le_add_right k0 24) (by decide),r1,r2⟩
  ·have b2:decide (256 ≤ x / 65536) = false := by simp; omega
   have b3:¬ 256 ≤ x / 65536 := by omega
   obtain ⟨n,k0,k1,k2,k3⟩ := index_tab (x / 65536) (by omega)
   obtain ⟨r1,r2⟩ := shift x _ n 16 65536 rfl rfl (by decide) k2 k3
   simp [run_draw,logOk,b1,h1,b2,b3,fe,w16,wb _ (show 0 < x / 65536 ∧ x / 65536 < 256 by omega),k1,wn _ k0,wa16 _ k0]
   exact outK_pure rfl ⟨n+16,rfl,Nat.le_trans (Nat.add_le_add_right k0 16) (by decide),r1,r2⟩
 ·have b1:decide (x ≥ 65536) = false := by simpa using h1
  by_cases h2:256 ≤ x
  ·have b2:decide (x ≥ 256) = true := by simpa using h2
   obtain ⟨n,k0,k1,k2,k3⟩ := index_tab (x / 256) (by omega)
   obtain ⟨r1,r2⟩ := shift x _ n 8 256 rfl rfl (by decide) k2 k3
   simp [run_draw,logOk,b1,h1,b2,h2,fd,w8,wb _ (show 0 < x / 256 ∧ x / 256 < 256 by omega),k1,wn _ k0,wa8 _ k0]
   exact outK_pure rfl ⟨n + 8,rfl,Nat.le_trans (Nat.add_le_add_right k0 8) (by decide),r1,r2⟩
  ·have b2:decide (x ≥ 256) = false := by simpa using h2
   obtain ⟨n,k0,k1,k2,k3⟩ := index_tab x (by omega)
   simp [run_draw,logOk,b1,h1,b2,h2,w0,wb _ (show 0 < x ∧ x < 256 by omega),k1,wn _ k0,wa _ k0]
   exact outK_pure rfl ⟨_,rfl,by omega,k2,k3⟩
theorem pow2_pos' (s:Nat):(0:Int) < 2 ^ s := Int.pow_pos (by decide)
theorem lz_ok (x:Int) (hx:0 < x ∧ x < 4294967296):Gives prog G 194 [.int .u32 x] (lzR [.int .u32 x]) := by
 refine gives (S := [(217,len32R)]) (by kernel_rfl) (by kernel_rfl) (callW_of ann194 func194 rfl (by kernel_rfl) ?_)
 simp [run_draw,logOk]
 refine callK_pure rfl rfl (len32_ok x hx) fun r hr => ?_
 obtain ⟨n,rfl,hn,h1,h2⟩ := hr
 have w:IntKind.i64.wrap (32 - (n:Int)) = ((32 - n:Nat):Int) := by rw [w_i64 (by omega)]; omega
 simp [run_draw,logOk,w]
 refine outK_pure rfl ⟨32 - n,rfl,?_,?_,?_⟩
 ·rcases n with _ | n
  ·simp at h1; omega
  ·omega
 ·have p := pow2_pos' (32 - n)
  have e:(2:Int) ^ n * 2 ^ (32 - n) = 4294967296 := by rw [← Int.pow_add,show n + (32 - n) = 32 by omega]; rfl
  have:2 ^ n * 2 ^ (32 - n) ≤ 2 * x * 2 ^ (32 - n) := Int.mul_le_mul_of_nonneg_right h2 (by omega)
  rw [e,Int.mul_assoc] at this
  omega
 ·have p := pow2_pos' (32 - n)
  have e:(2:Int) ^ n * 2 ^ (32 - n) = 4294967296 := by rw [← Int.pow_add,show n + (32 - n) = 32 by omega]; rfl
  have := Int.mul_lt_mul_of_pos_right h1 p
  omega
theorem reifyW_ownU {hp:Nat → Option Ent} {r lo len d:Nat} {ds:List Int} (h:hp r = some ⟨1,U ds⟩) (hl:lo + len ≤ ds.length):reifyW hp (reifyN hp (d+1)) (.own r lo len) = some (.slice (U ((ds.drop lo).take len)),[r]) := by
 have hm:∀ (sub:PV → Option (PV × List Nat)) (es:List Int),(∀ n,sub (.int .u32 n) = some (.int .u32 n,[])) → mapR sub (U es) = some (U es,[]) := by
  intro sub es hs
  induction es with
  | nil => rfl
  | cons d es ih => simp only [U_cons,mapR,hs,ih,List.append_nil]
 simp only [reifyW,h]
 rw [U_drop,U_take,hm _ _ fun n => by simp [reifyN,reifyW,PV.pureB]]
 simp [U_len,ble_lit,blt_lit,hl]
theorem IsMag.reifyW {hp:Nat → Option Ent} {sub:PV → Option (PV × List Nat)} {v:PV} {ds:List Int} (h:IsMag v ds):reifyW hp sub v = some (v,[]) := by
 have hp := h.pure
 rcases h with ⟨rfl,_⟩ | rfl <;> simp [Pi.reifyW,hp]
theorem reify_pair {hp:Nat → Option Ent} {u v u' v':PV} {l m:List Nat} (hv:v.pureB = false) (h1:reifyW hp (reifyN hp 5) u = some (u',l)) (h2:reifyW hp (reifyN hp 5) v = some (v',m)):reify hp (.tuple [u,v]) = some (.tuple [u',v'],l ++ m) := by
 have:(PV.tuple [u,v]).pureB = false := by simp [PV.pureB,PV.pureL,hv]
 unfold reify
 rw [this]
 show reifyW hp (reifyN hp 5) (.tuple [u,v]) = _
 simp only [Pi.reifyW,reifyWL,h1,h2,List.append_nil]
def divI (A V:Int) (a:List Int) (s n j1 j2 j3:Nat) (dv:List Int):Nat → List PV → St → Prop := fun m vs st => ∃ (D q:List Int) (k:Nat),vs = [.int .i64 ((m:Int) - 1),.own j2 0 n,.own j3 0 (a.length - n+1),.own j1 0 (a.length+1),.int .i64 s] ∧ m ≤ a.length - n+1 ∧
 DivInv A V a.length (a.length - n) D q m ∧ j3 < k ∧ st = ⟨k,[(j3,⟨1,U q⟩),(j2,⟨1,U dv⟩),(j1,⟨1,U D⟩)],[]⟩
theorem divide_ok (va vb:PV) (a b:List Int) (ha:IsMag va a) (hb:IsMag vb b) (na:Norm a) (nb:Norm b) (hb0:b ≠ []) (la:a.length < 800000) (lb:b.length < 800000):Gives prog G 176 [va,vb] (divideR [va,vb]) := by
 have e:divideR [va,vb] = fun r => ∃ q x,∃ ds es,r = .tuple [q,x] ∧ IsMag q ds ∧ Norm ds ∧ IsMag x es ∧ Norm es ∧ val ds = val a / val b ∧ val es = val a % val b := by funext r; simp only [divideR,mg_eq ha,mg_eq hb]
 have hlen:val b ≤ val a → b.length ≤ a.length := by
  intro hle
  rcases Nat.lt_or_ge a.length b.length with h | h
  ·have := val_short na.dig nb.dig nb.top h; omega
  ·exact h
 have b0:0 < val b := norm_pos nb hb0
 have a0 := val_nonneg na.dig
 refine gives (S := [(144,orderR),(111,shortR),(194,lzR)]) (by kernel_rfl) (by kernel_rfl) (callW_of ann176 func176 rfl (by kernel_rfl) ?_)
 have fin:∀ {v r l s},reify s.hp v = some (r,l) → (∃ q x,∃ ds es,r = .tuple [q,x] ∧ IsMag q ds ∧ Norm ds ∧ IsMag x es ∧ Norm es ∧ val ds = val a / val b ∧ val es = val a % val b) → outK (divideR [va,vb]) v s := fun h h2 => ⟨_,_,h,by rw [e]; exact h2⟩
 clear e
 have h1 := ha.len
 have h2 := hb.len
 simp [run_draw,logOk]
 refine callK_pure rfl (by simp [PV.pureL,ha.pure,hb.pure]) (order_ok va vb a b ha hb na nb (by omega) (by omega)) fun r hr => ?_
 simp only [orderR,mg_eq ha,mg_eq hb] at hr
 rcases Int.lt_or_le (val a) (val b) with hlt | hle
 ·rw [cmpI_lt hlt] at hr
  subst hr
  simp [run_draw,logOk]
  exact fin (reify_pure (by simp [PV.pureB,PV.pureL,ha.pure])) ⟨_,_,[],a,rfl,IsMag.nil,norm_nil,ha,na,by rw [Int.ediv_eq_zero_of_lt a0 hlt]; rfl,by rw [Int.emod_eq_of_lt a0 hlt]⟩
 have hc:¬ cmpI (val a) (val b) < 0 := by unfold cmpI; split <;> (try split) <;> omega
 have hl := hlen hle
 subst hr
 have hbn := hb.ne hb0
 subst hbn
 by_cases hb1:b.length = 1
 ·obtain ⟨d,rfl⟩ := List.length_eq_one_iff.1 hb1
  have hd := nb.dig d (by simp)
  have vd:val [d] = d := by simp [val]
  rw [vd] at b0
  have d1:(U [d]).length = 1 := rfl
  have gd:∀ h:0 < (U [d]).length,(U [d])[0]'h = .int .u32 d := fun _ => rfl
  simp [run_draw,logOk,hc,lenPV,d1,gd]
  have dp:0 < d := by omega
  refine callK_pure rfl (by simp [PV.pureL,PV.pureB,ha.pure]) (short_ok va a d ha na.dig (by omega) ⟨dp,hd.2⟩) fun r hr => ?_
  simp only [shortR,mg_eq ha] at hr
  obtain ⟨q,ds,rfl,hq,nq,vq⟩ := hr
  obtain ⟨m,hm⟩:∃ m,m = val a % d := ⟨_,rfl⟩
  have m0:0 ≤ m := by rw [hm]; exact Int.emod_nonneg _ (by omega)
  have m1:m < d := by rw [hm]; exact Int.emod_lt_of_pos _ dp
  rw [← hm]
  simp [run_draw,logOk,lenPV,buildSliceOp,putParts,repeatP,uniform,PV.pureL,PV.pureB]
  refine callK_run rfl ((trim_pure _ [m] (IsMag.slice [m]) (by simp) _ _ _).mono fun v st h => ?_)
  obtain ⟨k3,rfl,hk3,hv⟩ := h
  simp [run_draw,logOk]
  exact fin (reify_pure (by simp [PV.pureB,PV.pureL,hq.pure,hv.pure])) ⟨_,_,ds,trimL [m],rfl,hq,nq,hv,norm_trim (Dig.one (by omega)),by rw [vd]; exact vq,by rw [val_trim,vd,hm]; simp [val]⟩
 ·have hb2:2 ≤ b.length := by
   have := List.length_pos_iff.2 hb0
   omega
  obtain ⟨p,hp⟩:∃ p,b.length = p + 2 := ⟨b.length - 2,by omega⟩
  have han := ha.at (i := 0) (by omega)
  subst han
  obtain ⟨t,ht⟩:∃ t,t = b[p+1]'(by omega) := ⟨_,rfl⟩
  have rt := nb.dig.get (show p+1 < b.length by omega)
  rw [← ht] at rt
  have t0:0 < t := by
   rcases List.eq_nil_or_concat b with rfl | ⟨l,d,rfl⟩
   ·exact absurd rfl hb0
   ·rw [List.concat_eq_append] at *
    have := nb.top l d rfl
    have hl2:l.length = p+1 := by simpa using hp
    have:t = d := by rw [ht]; simp [← hl2]
    omega
  have gt:(U b)[p+1]? = some (.int .u32 t) := by rw [U_get (by omega),ht]
  have w1:IntKind.i64.wrap ((b.length:Int) - 1) = ((p+1:Nat):Int) := by rw [w_i64 (by omega)]; omega
  have hb1':((b.length:Int) == 1) = false := by simp; omega
  have u1:(U b).length = b.length := U_len b
  have u2:(U a).length = a.length := U_len a
  simp [run_draw,logOk,hc,lenPV,u1,u2,hb1,hb1',w1,gt]
  refine callK_pure rfl rfl (lz_ok t ⟨t0,rt.2⟩) fun r hr => ?_
  obtain ⟨s,rfl,hs,s1,s2⟩ := hr
  simp [run_draw,logOk]
  refine callK_run rfl ((raised_ok (.slice (U a)) a s ha na.dig (by omega) hs _ _ _ (fun _ _ => rfl)).mono fun v st h => ?_)
  obtain ⟨j1,k1,du,rfl,rfl,hj1,hk1,dul,ddu,hdu⟩ := h
  simp [run_draw,logOk]
  refine callK_run rfl ((raised_ok (.slice (U b)) b s hb nb.dig (by omega) hs _ _ _ (fun _ _ => rfl)).mono fun v st h => ?_)
  obtain ⟨j2,k2,dv,rfl,rfl,hj2,hk2,dvl,ddv,hdv⟩ := h
  simp [run_draw,logOk]
  refine callK_run rfl ((trim_own rfl j2 (b.length+1) dv (by omega) _ _ _ (by simp [Go.Pi.look,beq_lit]) dvl).mono fun v st h => ?_)
  obtain ⟨k3,rfl,hk3,rfl⟩ := h
  obtain ⟨n1,n2,n3,n4,n5,n6,n7⟩ := norm_divisor nb.dig hp hs (by rw [← ht]; exact s1) (by rw [← ht]; exact s2) ddv hdv
  obtain ⟨M,hM⟩:∃ M,M = a.length - b.length := ⟨_,rfl⟩
  obtain ⟨n,hn⟩:∃ n,n = b.length := ⟨_,rfl⟩
  have wd:IntKind.i64.wrap ((a.length:Int) - b.length) = (M:Int) := by rw [w_i64 (by omega)]; omega
  have wd1:IntKind.i64.wrap ((M:Int)+1) = ((M+1:Nat):Int) := w_i64 (by omega)
  have wd2:IntKind.i64.wrap ((M:Int)+1 - 1) = (M:Int) := by rw [w_i64 (by omega)]; omega
  have wd3:IntKind.i64.wrap (M:Int) = (M:Int) := w_i64 (by omega)
  have mk:(M+1) * 4 ≤ 140737488355328 := by omega
  have mk2:M+1 < 9223372036854775808 := by omega
  rw [n1,← hp]
  simp [run_draw,logOk,lenPV,u1,u2,wd,wd1,wd2,wd3,mk,mk2,U_rep]
  rw [← hn]
  generalize hj3:k3+1+1+1+1+1+1+1+1 = j3
  refine loopK_of (divI (val a * 2 ^ s) (val b * 2 ^ s) a s n j1 j2 j3 dv) rfl rfl ?step (M+1) _ _ ?init
  case init =>
   refine ⟨du,List.replicate (M+1) 0,_,?_,by omega,?_,?_,rfl⟩
   ·simp [lookT,Nat.beq,lkIn,Go.Pi.look,beq_lit,hM,hn]
   ·rw [hM,hn]
    exact DivInv.start hl (by omega) dul ddu (by simp) (fun x hx => by rw [List.eq_of_mem_replicate hx]; decide) hdu (s := 2 ^ s) (by rw [Int.mul_comm]; exact Int.mul_lt_mul_of_pos_left (val_lt na.dig) (pow2_pos s)) (by rw [show b.length - 1 = p+1 by omega]; exact n6)
   ·omega
  case step =>
  rintro m vs st ⟨D,q,k,rfl,hm,inv,hk,rfl⟩
  have dl := inv.dl
  have ql := inv.ql
  have lk1:Go.Pi.look [(j3,⟨1,U q⟩),(j2,⟨1,U dv⟩),(j1,(⟨1,U D⟩:Ent))] j1 = some ⟨1,U D⟩ := by
   have e1:¬ j3 = j1 := by omega
   have e2:¬ j2 = j1 := by omega
   simp [Go.Pi.look,beq_lit,e1,e2]
  have lk2:Go.Pi.look [(j3,⟨1,U q⟩),(j2,⟨1,U dv⟩),(j1,(⟨1,U D⟩:Ent))] j2 = some ⟨1,U dv⟩ := by
   have e1:¬ j3 = j2 := by omega
   simp [Go.Pi.look,beq_lit,e1]
  have lk3:Go.Pi.look [(j3,⟨1,U q⟩),(j2,⟨1,U dv⟩),(j1,(⟨1,U D⟩:Ent))] j3 = some ⟨1,U q⟩ := by
   simp [Go.Pi.look,beq_lit]
  rcases m with _ | j
  ·simp [run_draw,logOk,lenPV]
   refine callK_run rfl ((trim_own rfl j3 (a.length - n+1) q (by omega) _ _ _ lk3 ql).mono fun v st h => ?_)
   obtain ⟨k4,rfl,hk4,rfl⟩ := h
   simp [run_draw,logOk]
   refine callK_run rfl ((trim_own rfl j1 (a.length+1) D (by omega) _ _ _ lk1 dl).mono fun v st h => ?_)
   obtain ⟨k5,rfl,hk5,rfl⟩ := h
   simp [run_draw,logOk]
   have fr:∀ z,k5 ≤ z → Fresh z [(j3,⟨1,U q⟩),(j2,⟨1,U dv⟩),(j1,(⟨1,U D⟩:Ent))] [] := fun z hz => ⟨fun p hp => by
    simp at hp
    rcases hp with rfl | rfl | rfl <;> simp <;> omega,fun _ h => (by cases h)⟩
   refine callK_run rfl ((lowered_own rfl rfl j1 D (trimL D) s inv.dd (by omega) hs _ _ _ (fr _ (by omega)) lk1 (trim_take D)).mono fun v st h => ?_)
   obtain ⟨j4,k6,es,rfl,rfl,hj4,hk6,des,les,ves⟩ := h
   simp [run_draw,logOk]
   obtain ⟨f1,f2⟩ := inv.done
   obtain ⟨g1,g2⟩ := scaled_div (val a) (val b) (2 ^ s) (pow2_pos s) b0
   rw [val_trim,f2,g2] at ves
   rw [g1] at f1
   have e4:¬ j4 = j3 := by omega
   refine fin (reify_pair rfl (reifyW_ownU (ds := q) (by simp [St.hp,Go.Pi.look,beq_lit,e4]) (by have := trim_len q; omega)) (reifyW_ownU (ds := es) (by simp [St.hp,Go.Pi.look,beq_lit]) (by have := trim_len es; omega))) ⟨_,_,trimL q,trimL es,rfl,?_,norm_trim inv.dq,?_,norm_trim des,by rw [val_trim]; exact f1,by rw [val_trim]; exact ves⟩
   ·rw [List.drop_zero,← trim_take]; exact IsMag.slice _
   ·rw [List.drop_zero,← trim_take]; exact IsMag.slice _
  ·have wi1:IntKind.i64.wrap ((j:Int) + n) = (j:Int) + n := w_i64 (by omega)
   have wi2:IntKind.i64.wrap ((j:Int) + n+1) = (j:Int) + n+1 := w_i64 (by omega)
   have wi3:IntKind.i64.wrap ((j:Int) - 1) = (j:Int) - 1 := w_i64 (by omega)
   have uD:(U D).length = a.length+1 := by rw [U_len,dl]
   have sl1:j + n+1 ≤ a.length+1 := by omega
   have e31:¬ j3 = j1 := by omega
   have e21:¬ j2 = j1 := by omega
   have e32:¬ j3 = j2 := by omega
   have e12:j1 ≠ j2 := by omega
   have s2:j ≤ j + n+1 := by omega
   have s3:¬ j = j + n+1 := by omega
   have s4:j + n+1 - j = n+1 := by omega
   simp [run_draw,logOk,lenPV,sliceOp,sliceOf,lowOf,highOf,e31,e21,e32,wi1,wi2,wi3,uD,sl1,s2,s3,s4]
   have hnp:n = p + 2 := by omega
   have inv' := inv.ask (n := n) (by omega) (by omega) (by rw [hnp]; exact n5)
   obtain ⟨q1,q2,q3,q4⟩ := inv'
   refine callK_run rfl ((digit_own (S := [(144,orderR),(111,shortR),(194,lzR)]) j1 j2 j n p D (D.take j) (D.drop j) dv (trimL dv) hnp (by rw [List.take_append_drop]) (by rw [List.length_take]; omega) q3 (inv.dd.drop j) (by rw [hnp]; exact n3) (by rw [n1]; omega) ddv (by omega) e12 n2 (by rw [n4]; exact q1) _ _ _ rfl lk1 lk2).mono fun v st h => ?_)
   obtain ⟨rfl,k4,w,hk4,rfl,wl,dw,vw⟩ := h
   have sql:j < q.length := by omega
   have sq2:j < a.length - n+1 := by omega
   have gq:∀ h:j < (U q).length,(U q)[j]'h = .int .u32 (q[j]'sql) := fun h => by simp [U]
   rw [n4] at vw ⊢
   have st' := inv.step (n := n) (by omega) (by omega) (by rw [hnp]; exact n5) n7 wl dw vw
   rw [List.drop_drop] at st'
   simp [run_draw,logOk,lenPV,e31,e21,e32,wi1,wi2,wi3,uD,sq2,U_set,U_len,sql,gq]
   exact ⟨j,by omega,_,_,k4+1+1+1+1+1,rfl,by omega,st',by omega,rfl⟩
def divModR:CRel | [a,b],r => ∃ q x,r = .tuple [q,x,.int .i64 0] ∧ IsInt q (it a / it b) ∧ IsInt x (it a % it b) | _,_ => False
theorem sub_ok (v w:PV) (x y:Int) (hv:IsInt v x) (hw:IsInt w y) (fx:Fits x 400000) (fy:Fits y 400000):Gives prog G 177 [v,w] (subR [v,w]) := by
 have fin:∀ {r:PV} {s:St},IsInt r (x - y) → outK (subR [v,w]) r s := fun h => outK_pure h.pure (by simp only [subR,it_eq hv,it_eq hw]; exact h)
 have fy':Fits (-y) 400000 := by unfold Fits at *; rw [Int.natAbs_neg]; exact fy
 have pv := hv.pure
 have pww := hw.pure
 have hv' := hv
 have hw' := hw
 obtain ⟨ba,va,a,rfl,ia⟩ := hv'
 obtain ⟨bb,vb,b,rfl,ib⟩ := hw'
 refine gives (S := [(131,negR),(128,addR)]) (by kernel_rfl) (by kernel_rfl) (callW_of ann177 func177 rfl (by kernel_rfl) ?_)
 simp [run_draw,logOk,ia.mag.cellOk,ib.mag.cellOk]
 refine dcallK_pure (R := negR) rfl (by simp [PV.pureL,pww]) (neg_ok _ y hw) fun r hr => ?_
 simp only [negR,it_eq hw] at hr
 simp [run_draw,logOk,ia.mag.cellOk,ib.mag.cellOk]
 refine dcallK_pure (R := addR) rfl (by simp [PV.pureL,pv,hr.pure]) (add_ok _ r x (-y) hv hr fx fy') fun r2 hr2 => ?_
 simp only [addR,it_eq hv,it_eq hr] at hr2
 have hr2' := hr2
 have hr' := hr
 obtain ⟨bc,vc,c,rfl,ic⟩ := hr
 obtain ⟨br,mr,dr,rfl,ir⟩ := hr2
 simp [run_draw,logOk,ia.mag.cellOk,ib.mag.cellOk,ir.mag.cellOk,ia.mag.ids,ib.mag.ids,ic.mag.ids]
 exact fin (by rw [Int.sub_eq_add_neg]; exact hr2')
theorem floor_down (A b:Int) (hb:0 < b):(A % b = 0 → -A / b = -(A / b) ∧ -A % b = 0) ∧ (A % b ≠ 0 → -A / b = -(A / b) - 1 ∧ -A % b = -(A % b) + b) := by
 have e := Int.mul_ediv_add_emod A b
 have m0 := Int.emod_nonneg A (show b ≠ 0 by omega)
 have m1 := Int.emod_lt_of_pos A hb
 have key:∀ t x:Int,0 ≤ x → x < b → -A = t * b + x → -A / b = t ∧ -A % b = x := by
  intro t x h0 h1 h
  rw [h,Int.mul_comm t b,Int.add_comm]
  exact ⟨by rw [Int.add_mul_ediv_left _ _ (by omega),Int.ediv_eq_zero_of_lt h0 h1]; omega,by rw [Int.add_mul_emod_self_left,Int.emod_eq_of_lt h0 h1]⟩
 obtain ⟨q,hq⟩:∃ q,q = A / b := ⟨_,rfl⟩
 obtain ⟨m,hm⟩:∃ m,m = A % b := ⟨_,rfl⟩
 rw [← hq,← hm] at e
 rw [← hm] at m0 m1
 rw [← hq,← hm]
 clear hq hm
 constructor
 ·intro h
  refine key _ _ (by omega) (by omega) ?_
  rw [Int.neg_mul,Int.mul_comm q b]; omega
 ·intro h
  refine key _ _ (by omega) (by omega) ?_
  rw [Int.sub_mul,Int.neg_mul,Int.mul_comm q b]; omega
theorem divMod_ok (v w:PV) (x y:Int) (hv:IsInt v x) (hw:IsInt w y) (fx:Fits x 400000) (fy:Fits y 399999) (y0:0 < y):Gives prog G 145 [v,w] (divModR [v,w]) := by
 have fin:∀ {q r:PV} {s:St},IsInt q (x / y) → IsInt r (x % y) → outK (divModR [v,w]) (.tuple [q,r,.int .i64 0]) s := fun h h' => outK_pure (by simp [PV.pureB,PV.pureL,h.pure,h'.pure]) (by simp only [divModR,it_eq hv,it_eq hw]; exact ⟨_,_,rfl,h,h'⟩)
 have pv := hv.pure
 have pww := hw.pure
 have hv' := hv
 have hw' := hw
 obtain ⟨ba,va,a,rfl,ia⟩ := hv'
 obtain ⟨bb,vb,b,rfl,ib⟩ := hw'
 have la := ia.len fx
 have lb := ib.len fy
 have hba := ia.neg_iff
 have hbb:bb = false := by rw [ib.neg_iff]; simp; omega
 subst hbb
 have b0:b ≠ [] := fun h => by have := ib.zero_iff.2 h; omega
 have hx := ia.val
 have hy:y = val b := by simpa using ib.val
 have vb0:0 < val b := by omega
 have va0 := val_nonneg ia.norm.dig
 refine gives (S := [(109,signR),(176,divideR),(108,signedR),(74,fromR),(177,subR),(128,addR)]) (by kernel_rfl) (by kernel_rfl) (callW_of ann145 func145 rfl (by kernel_rfl) ?_)
 simp [run_draw,logOk,ia.mag.cellOk,ib.mag.cellOk]
 refine callK_pure (R := signR) rfl (by simp [PV.pureL,pww]) (sign_ok _ y hw) fun r hr => ?_
 simp only [signR,it_eq hw,Int.sign_eq_one_of_pos y0] at hr
 subst hr
 simp [run_draw,logOk,ia.mag.cellOk,ib.mag.cellOk]
 refine callK_pure (R := divideR) rfl (by simp [PV.pureL,ia.mag.pure,ib.mag.pure]) (divide_ok va vb a b ia.mag ib.mag ia.norm ib.norm b0 (by omega) (by omega)) fun r hr => ?_
 simp only [divideR,mg_eq ia.mag,mg_eq ib.mag] at hr
 obtain ⟨q0,r0,ds,es,rfl,hq0,nds,hr0,nes,vds,ves⟩ := hr
 have q1:0 ≤ val ds := val_nonneg nds.dig
 have q2:val ds ≤ val a := by rw [vds]; exact Int.ediv_le_self _ va0
 have r1:0 ≤ val es := val_nonneg nes.dig
 have r2:val es < val b := by rw [ves]; exact Int.emod_lt_of_pos _ vb0
 have lds:ds.length < 1000000 := by
  have:ds.length ≤ a.length := norm_len nds (Int.lt_of_le_of_lt q2 (val_lt ia.norm.dig))
  omega
 have les:es.length < 1000000 := by
  have:es.length ≤ b.length := norm_len nes (Int.lt_trans r2 (val_lt ib.norm.dig))
  omega
 simp [run_draw,logOk,ia.mag.cellOk,ib.mag.cellOk,eqPV]
 refine dcallK_pure (R := signedR) rfl (by simp [PV.pureL,PV.pureB,hq0.pure]) (signed_g hq0 nds.dig lds) fun r1 hr1 => ?_
 simp only [signedR,mg_eq hq0] at hr1
 have hr1' := hr1
 obtain ⟨b1,m1,d1,rfl,i1⟩ := hr1
 simp [run_draw,logOk,ia.mag.cellOk,ib.mag.cellOk,eqPV,i1.mag.cellOk]
 refine dcallK_pure (R := signedR) rfl (by simp [PV.pureL,PV.pureB,hr0.pure]) (signed_g hr0 nes.dig les) fun r2 hr2 => ?_
 simp only [signedR,mg_eq hr0] at hr2
 have hr2' := hr2
 obtain ⟨b2,m2,d2,rfl,i2⟩ := hr2
 simp [run_draw,logOk,ia.mag.cellOk,ib.mag.cellOk,eqPV,i1.mag.cellOk,i2.mag.cellOk,hq0.ids,hr0.ids,i1.mag.ids,i2.mag.ids]
 refine callK_pure (R := signR) rfl (by simp [PV.pureL,hr2'.pure]) (sign_ok _ _ hr2') fun r hr => ?_
 simp only [signR,it_eq hr2'] at hr
 obtain ⟨f1,f2⟩ := floor_down (val a) y y0
 rw [← hy] at vds ves r2
 have hb2 := i2.neg_iff
 have go:val es = 0 ∨ ba = false → IsInt (.agg [.bool b1,m1]) (x / y) ∧ IsInt (.agg [.bool b2,m2]) (x % y) := by
  intro h
  have e1:sg ba (val ds) = x / y := by
   rw [vds,hx]
   rcases h with h | h
   ·cases ba
    ·simp [sg]
    ·simp [sg]; exact (f1 (by omega)).1.symm
   ·subst h; simp [sg]
  have e2:sg ba (val es) = x % y := by
   rw [hx]
   rcases h with h | h
   ·rw [h]
    cases ba
    ·simp [sg]; omega
    ·simp [sg]; exact (f1 (by omega)).2.symm
   ·subst h; simp [sg]; omega
  exact ⟨by rw [← e1]; exact hr1',by rw [← e2]; exact hr2'⟩
 by_cases hz:val es = 0
 ·have hs:(sg ba (val es)).sign = 0 := by rw [hz]; cases ba <;> rfl
  rw [hs] at hr
  subst hr
  simp [run_draw,logOk,ia.mag.cellOk,ib.mag.cellOk,eqPV,i1.mag.cellOk,i2.mag.cellOk,i1.mag.ids,i2.mag.ids]
  exact ⟨by decide,fin (go (.inl hz)).1 (go (.inl hz)).2⟩
 ·cases ba with
  | false =>
   have hs:(sg false (val es)).sign = 1 := Int.sign_eq_one_of_pos (by simp [sg]; omega)
   rw [hs] at hr
   subst hr
   have hb:b2 = false := by rw [hb2]; simp [sg]; omega
   subst hb
   simp [run_draw,logOk,ia.mag.cellOk,ib.mag.cellOk,eqPV,i1.mag.cellOk,i2.mag.cellOk,i1.mag.ids,i2.mag.ids]
   exact ⟨by decide,fin (go (.inr rfl)).1 (go (.inr rfl)).2⟩
  | true =>
   have hs:(sg true (val es)).sign = -1 := Int.sign_eq_neg_one_of_neg (by simp [sg]; omega)
   rw [hs] at hr
   subst hr
   have hb:b2 = true := by rw [hb2]; simp [sg]; omega
   subst hb
   obtain ⟨g1,g2⟩ := f2 (by omega)
   have hxv:x = -val a := by simpa using hx
   simp [run_draw,logOk,ia.mag.cellOk,ib.mag.cellOk,eqPV,i1.mag.cellOk,i2.mag.cellOk,i1.mag.ids,i2.mag.ids]
   refine dcallK_pure (R := fromR) rfl rfl (from_ok 1 (by omega)) fun r3 hr3 => ?_
   simp only [fromR] at hr3
   have fq:Fits (sg true (val ds)) 400000 := by
    unfold Fits at fx ⊢
    refine Int.lt_of_le_of_lt ?_ fx
    rw [hxv]; simp only [sg,if_true]; omega
   have fr:Fits (sg true (val es)) 400000 := by
    unfold Fits at fy ⊢
    refine Int.lt_of_lt_of_le ?_ (pw_mono (show 399999 ≤ 400000 by omega))
    refine Int.lt_of_le_of_lt ?_ fy
    simp only [sg,if_true]; omega
   have f1':Fits 1 400000 := by
    unfold Fits
    exact Int.lt_of_lt_of_le (show ((1:Int).natAbs:Int) < pw 1 by decide) (pw_mono (show 1 ≤ 400000 by omega))
   have fy':Fits y 400000 := Int.lt_of_lt_of_le fy (pw_mono (show 399999 ≤ 400000 by omega))
   simp [run_draw,logOk,ia.mag.cellOk,ib.mag.cellOk,eqPV,i1.mag.cellOk,i2.mag.cellOk,i1.mag.ids,i2.mag.ids]
   refine dcallK_pure (R := subR) rfl (by simp [PV.pureL,hr1'.pure,hr3.pure]) (sub_ok _ r3 _ 1 hr1' hr3 fq f1') fun r4 hr4 => ?_
   simp only [subR,it_eq hr1',it_eq hr3] at hr4
   simp [run_draw,logOk,ia.mag.cellOk,ib.mag.cellOk,eqPV,i1.mag.cellOk,i2.mag.cellOk,i1.mag.ids,i2.mag.ids]
   refine dcallK_pure (R := addR) rfl (by simp [PV.pureL,hr2'.pure,pww]) (add_ok _ _ _ y hr2' hw fr fy') fun r5 hr5 => ?_
   simp only [addR,it_eq hr2',it_eq hw] at hr5
   have hr4' := hr4
   have hr5' := hr5
   have hr3' := hr3
   obtain ⟨b3,m3,d3,rfl,i3⟩ := hr3
   obtain ⟨b4,m4,d4,rfl,i4⟩ := hr4
   obtain ⟨b5,m5,d5,rfl,i5⟩ := hr5
   simp [run_draw,logOk,ia.mag.cellOk,ib.mag.cellOk,eqPV,i1.mag.cellOk,i2.mag.cellOk,i1.mag.ids,i2.mag.ids,i3.mag.ids,i4.mag.cellOk,i5.mag.cellOk,i4.mag.ids,i5.mag.ids,ib.mag.ids]
   refine ⟨by decide,by decide,fin ?_ ?_⟩
   ·rw [hxv,g1,← vds]; simpa [sg] using hr4'
   ·rw [hxv,g2,← ves]; simpa [sg] using hr5'
def gcdI (N:Nat) (H:List (Nat × Ent)):Nat → List PV → St → Prop := fun m vs st => ∃ (vx vy:PV) (xs ys:List Int) (k:Nat),vs = [vy,vx,.ptr 2 0 0] ∧ IsMag vx xs ∧ IsMag vy ys ∧ Norm xs ∧ Norm ys ∧ xs.length < 800000 ∧ ys.length < 800000 ∧ Nat.gcd (val xs).toNat (val ys).toNat = N ∧ m = (val ys).toNat ∧ st = ⟨k,H,[]⟩
theorem gcd_ok (v w:PV) (x y:Int) (hv:IsInt v x) (hw:IsInt w y) (fx:Fits x 700000) (fy:Fits y 700000):Gives prog G 143 [v,w] (gcdR [v,w]) := by
 have fin:∀ {r:PV} {s:St},IsInt r (Nat.gcd x.natAbs y.natAbs) → outK (gcdR [v,w]) r s := fun h => outK_pure h.pure (by simp only [gcdR,it_eq hv,it_eq hw]; exact h)
 have hv' := hv
 have hw' := hw
 obtain ⟨ba,va,a,rfl,ia⟩ := hv'
 obtain ⟨bb,vb,b,rfl,ib⟩ := hw'
 have la := ia.len fx
 have lb := ib.len fy
 refine gives (S := [(176,divideR)]) (by kernel_rfl) (by kernel_rfl) (callW_of ann143 func143 rfl (by kernel_rfl) ?_)
 simp [run_draw,logOk,ia.mag.cellOk,ib.mag.cellOk]
 refine loopK_of (gcdI (Nat.gcd x.natAbs y.natAbs) [(2,⟨2,[.agg [.bool false,.nil]]⟩),(1,⟨2,[.agg [.bool bb,vb]]⟩),(0,⟨2,[.agg [.bool ba,va]]⟩)]) rfl rfl ?step (val b).toNat _ _ ?init
 case init =>
  refine ⟨va,vb,a,b,_,rfl,ia.mag,ib.mag,ia.norm,ib.norm,by omega,by omega,?_,rfl,rfl⟩
  rw [← ia.natAbs,← ib.natAbs,Int.toNat_natCast,Int.toNat_natCast]
 case step =>
 rintro m vs st ⟨vx,vy,xs,ys,k,rfl,hx,hy,nx,ny,lx,ly,hg,hm,rfl⟩
 have h1 := hy.len
 by_cases h0:ys = []
 ·subst h0
  have x0 := val_nonneg nx.dig
  simp [run_draw,logOk,h1,hx.cellOk,hx.cells,hx.isTop,ia.mag.cellOk,ib.mag.cellOk]
  refine fin ⟨false,vx,xs,rfl,hx,nx,?_,fun h => (by cases h)⟩
  have:(val []).toNat = 0 := rfl
  rw [← hg,this,Nat.gcd_zero_right]
  simp; omega
 ·have hp:0 < ys.length := List.length_pos_iff.2 h0
  have y0:0 < val ys := norm_pos ny h0
  have x0 := val_nonneg nx.dig
  simp [run_draw,logOk,h1,hp]
  refine callK_pure (R := divideR) rfl (by simp [PV.pureL,hx.pure,hy.pure]) (divide_ok vx vy xs ys hx hy nx ny h0 lx ly) fun r hr => ?_
  simp only [divideR,mg_eq hx,mg_eq hy] at hr
  obtain ⟨q0,r0,ds,es,rfl,hq0,nds,hr0,nes,vds,ves⟩ := hr
  simp [run_draw,logOk]
  have r1:0 ≤ val es := val_nonneg nes.dig
  have r2:val es < val ys := by rw [ves]; exact Int.emod_lt_of_pos _ y0
  refine ⟨(val es).toNat,by omega,vy,r0,ys,es,_,rfl,hy,hr0,ny,nes,ly,?_,?_,rfl,rfl⟩
  ·have:es.length ≤ ys.length := norm_len nes (Int.lt_trans r2 (val_lt ny.dig))
   omega
  ·rw [← hg,ves,Int.toNat_emod x0 (by omega),Nat.gcd_comm (val xs).toNat,Nat.gcd_rec (val ys).toNat (val xs).toNat]
   exact Nat.gcd_comm _ _
end Go.Proofs.Tryz
