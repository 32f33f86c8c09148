/- The machine on symbols: names, dimensions, widths. No condition. -/
import Derived.Test.YtgpmgondjppmmaaGreatDoorP9
import Derived.Laws.RangeAny
import Derived.Laws.RangeString
set_option linter.unnecessarySimpa false
set_option linter.unusedSectionVars false
set_option linter.unusedSimpArgs false
set_option linter.unusedVariables false
set_option maxHeartbeats 4000000
set_option maxRecDepth 100000
namespace Go.Proofs.Tryz
open Go Go.Pi Go.Num Go.Lin Go.Alc
variable [Hole] {G:Nat → Option PV}
attribute [local simp] slice3Op clearOp
theorem width_pos (s:ByteArray) (pos:Nat) (h:pos < s.size):1 ≤ (Utf8.decode s pos).2 := by
 by_cases ha:(s[pos]'h).toNat < 128
 ·rw [decode_ascii s pos h ha]
  exact Nat.le_refl _
 ·exact (decode_high s pos h (by omega)).2
def anyB:CRel | _,r => ∃ b,r = .bool b
def anyI:CRel | _,r => ∃ k,r = .int .i64 k
theorem graph_ok (c:Int):Gives prog G 98 [.int .i32 c] (anyB [.int .i32 c]) := by
 refine gives (S := []) (by kernel_rfl) (by kernel_rfl) (callW_of ann98 func98 rfl (by kernel_rfl) ?_)
 by_cases h1:c < 33
 ·simp [run_draw,tb,h1]
  exact outK_pure rfl ⟨_,rfl⟩
 ·simp [run_draw,tb,h1]
  exact outK_pure rfl ⟨_,rfl⟩
theorem eqB (a b:Bool):eqPV prog 50 4 (.bool a) (.bool b) = some (a == b) := by simp [eqPV,und4]
def ixI (s:ByteArray):Nat → List PV → St → Prop := fun n vs st => ∃ (pos k:Nat) (H:List (Nat × Ent)),vs = [.ptr 2 0 0,.func 98 [],.bool true] ∧ s.size ≤ pos + n ∧ Go.Pi.look H 2 = some ⟨0,[.str s,.int .i64 (Int.ofNat pos)]⟩ ∧ 2 < k ∧ (∀ p ∈ H,p.1 < k) ∧ st = ⟨k,H,[]⟩
theorem index_ok (s:ByteArray):Gives prog G 161 [.str s,.func 98 [],.bool true] (anyI [.str s,.func 98 [],.bool true]) := by
 refine gives (S := [(98,anyB)]) (by kernel_rfl) (by kernel_rfl) (callW_of ann161 func161 rfl (by kernel_rfl) ?_)
 simp [run_draw,tb]
 refine loopK_of (ixI s) rfl rfl ?step s.size _ _ ?init
 case init => exact ⟨0,_,_,rfl,by omega,rfl,by omega,by simp,rfl⟩
 case step =>
 rintro n vs st ⟨pos,k,H,rfl,hn,l2,hk,hlt,rfl⟩
 by_cases hp:pos < s.size
 ·have hw := width_pos s pos hp
  have lus:∀ E,Go.Pi.look (Go.Pi.upd H 2 E) 2 = some E := fun E => look_upd_same l2
  simp [-Int.ofNat_eq_natCast,run_draw,tb,l2,hp]
  refine callK_pure rfl rfl (graph_ok _) fun y hy => ?_
  obtain ⟨b,rfl⟩ := hy
  cases b with
  | true =>
   simp [-Int.ofNat_eq_natCast,run_draw,tb,eqB]
   exact outK_pure rfl ⟨_,rfl⟩
  | false =>
   simp [-Int.ofNat_eq_natCast,run_draw,tb,eqB]
   exact ⟨n - 1,by omega,_,_,_,rfl,by omega,lus _,by omega,upd_lt (lt_mono hlt (by omega)),rfl⟩
 ·simp [-Int.ofNat_eq_natCast,run_draw,tb,l2,hp]
  exact outK_pure rfl ⟨_,rfl⟩
theorem index1_ok (s:ByteArray):Gives prog G 133 [.str s,.func 98 []] (anyI [.str s,.func 98 []]) := by
 refine gives (S := [(161,anyI)]) (by kernel_rfl) (by kernel_rfl) (callW_of ann133 func133 rfl (by kernel_rfl) ?_)
 simp [run_draw,tb]
 refine callK_pure rfl rfl (index_ok s) fun y hy => ?_
 obtain ⟨b,rfl⟩ := hy
 simp [run_draw,tb]
 exact outK_pure rfl ⟨_,rfl⟩
theorem contains_ok (s:ByteArray):Gives prog G 97 [.str s,.func 98 []] (anyB [.str s,.func 98 []]) := by
 refine gives (S := [(133,anyI)]) (by kernel_rfl) (by kernel_rfl) (callW_of ann97 func97 rfl (by kernel_rfl) ?_)
 simp [run_draw,tb]
 refine callK_pure rfl rfl (index1_ok s) fun y hy => ?_
 obtain ⟨b,rfl⟩ := hy
 simp [run_draw,tb]
 exact outK_pure rfl ⟨_,rfl⟩
theorem isName_ok (s:ByteArray):Gives prog G 60 [.str s] (anyB [.str s]) := by
 refine gives (S := [(97,anyB)]) (by kernel_rfl) (by kernel_rfl) (callW_of ann60 func60 rfl (by kernel_rfl) ?_)
 by_cases h1:0 < s.size
 ·by_cases h2:s.size ≤ 40
  ·have h2':(s.size:Int) ≤ 40 := by omega
   simp [run_draw,tb,h1,h2,h2']
   refine callK_pure rfl rfl (contains_ok s) fun y hy => ?_
   obtain ⟨b,rfl⟩ := hy
   simp [run_draw,tb]
   exact outK_pure rfl ⟨_,rfl⟩
  ·have h2':¬ (s.size:Int) ≤ 40 := by omega
   simp [run_draw,tb,h1,h2,h2']
   exact outK_pure rfl ⟨_,rfl⟩
 ·have h1':s.size = 0 := by omega
  simp [run_draw,tb,h1']
  exact outK_pure rfl ⟨_,rfl⟩
def idI (v cb:PV) (Inv:Nat → List (Nat × Ent) → Prop) (Z:List Nat):Nat → List PV → St → Prop := fun n vs st => ∃ (i k:Nat) (H:List (Nat × Ent)),vs = [.int .i64 (i:Int),.int .i64 ((els v).length:Int),cb,v] ∧ i + n = (els v).length ∧ Inv k H ∧ st = ⟨k,H,Z⟩
theorem indexD_ok {S:Specs} {f:FuncId} {caps:List PV} {Inv:Nat → List (Nat × Ent) → Prop} (he:specEnv prog G S f = none) {Z:List Nat} (hI:∀ k H,Inv k H → Inv (k+1) H) (hC:∀ (w:PV) (k:Nat) (H:List (Nat × Ent)),IsDim w → Inv k H → CallW prog (specEnv prog G S) G A1 f (w :: caps) ⟨k,H,Z⟩ (fun v s' => ∃ b k' H',v = .bool b ∧ s' = ⟨k',H',Z⟩ ∧ Inv k' H'))
  {v:PV} (hv:Lst IsDim v) (hl:(els v).length ≤ maxLen) (k:Nat) (H:List (Nat × Ent)) (h:Inv k H):CallW prog (specEnv prog G S) G A1 63 [v,.func f caps] ⟨k,H,Z⟩ (fun v s' => ∃ i k' H',v = .int .i64 i ∧ s' = ⟨k',H',Z⟩ ∧ Inv k' H') := by
 have lv := hv.len
 have hm:maxLen ≤ 9223372036854775807 := by decide
 refine callW_of ann63 func63 rfl (by kernel_rfl) ?_
 simp [run_draw,tb,lv]
 refine loopK_of (idI v (.func f caps) Inv Z) rfl rfl ?step (els v).length _ _ ?init
 case init => exact ⟨0,_,_,rfl,by omega,hI _ _ (hI _ _ (hI _ _ (hI _ _ h))),rfl⟩
 case step =>
 rintro n vs st ⟨i,k2,H2,rfl,hin,h2,rfl⟩
 rcases Nat.eq_zero_or_pos n with hn0 | hn0
 ·have hi0:i = (els v).length := by omega
  subst hi0
  simp [run_draw,tb]
  exact ⟨_,_,⟨rfl,rfl⟩,hI _ _ (hI _ _ h2)⟩
 ·have hi0:i < (els v).length := by omega
  have hii:(i:Int) < (els v).length := by omega
  have wi:IntKind.i64.wrap ((i:Int)+1) = ((i+1:Nat):Int) := w_i64 (by omega)
  obtain ⟨es,w,rfl,f1,hw⟩ := hv.at hi0
  have hw0 := hw
  obtain ⟨l,a,b,c,rfl,_⟩ := hw
  have f1' := getE f1
  simp only [els_slice] at hii hi0 lv hin ⊢
  simp [run_draw,tb,hii,hi0,f1,f1']
  refine callK_run he (callW_to (hC _ _ _ hw0 (by
   repeat (first | exact h2 | apply hI))) fun v s' hp => ?_)
  obtain ⟨b,k3,H3,rfl,rfl,h3⟩ := hp
  cases b with
  | true =>
   simp [run_draw,tb]
   exact ⟨_,_,⟨rfl,rfl⟩,hI _ _ (hI _ _ h3)⟩
  | false =>
   simp [run_draw,tb,wi]
   exact ⟨n - 1,by omega,i+1,_,_,by rfl,by simp only [els_slice]; omega,hI _ _ (hI _ _ h3),rfl⟩
def InvS (s:ByteArray) (k:Nat) (H:List (Nat × Ent)):Prop := (∀ p ∈ H,p.1 < k) ∧ Go.Pi.look H 0 = some ⟨1,[.str s]⟩
def findR:CRel | _,r => ∃ k b,r = .tuple [.int .i64 k,.bool b]
theorem find_ok {v:PV} (hv:Lst IsDim v) (hl:(els v).length ≤ maxLen) (s:ByteArray):Gives prog G 62 [v,.str s] (findR [v,.str s]) := by
 obtain ⟨v1,v2,v3,v4,v5⟩ := hv.cell
 refine gives (S := []) (by kernel_rfl) (by kernel_rfl) (callW_of ann62 func62 rfl (by kernel_rfl) ?_)
 simp [run_draw,tb]
 refine callK_run rfl (callW_to (indexD_ok (Inv := InvS s) rfl (fun k H h => ⟨lt_mono h.1 (by omega),h.2⟩) (fun w k H hw hi => ?cb) hv hl _ _ ?init) fun v s' hp => ?_)
 case init => exact ⟨by simp,rfl⟩
 case cb =>
  obtain ⟨h1,h2⟩ := hi
  have h3 := look_lt h1 h2
  obtain ⟨l,a,b,c,rfl,_⟩ := hw
  refine callW_of ann99 func99 rfl (by kernel_rfl) ?_
  simp [run_draw,tb,h2,strBin,ne12 (show 0 < k by omega)]
  exact ⟨(Classical.em _).symm,_,_,⟨rfl,rfl⟩,cons_lt h1 (by omega) (by omega),(look_cons_ne (by omega)).trans h2⟩
 ·obtain ⟨i,k',H',rfl,rfl,_⟩ := hp
  simp [run_draw,tb]
  exact outK_pure rfl ⟨_,_,rfl⟩
theorem slice_upto {hp:Nat → Option Ent} {es:List PV} (he:∀ w ∈ es,IsDim w) {i:Nat} (hi:i ≤ es.length):sliceOp prog hp 22 (.slice es) none (some (.int .i64 (i:Int))) = some { val := .slice (es.take i) } := by
 have e:es.all (fun e => decide (e.cells.length = 4)) = true := by
  rw [List.all_eq_true]
  intro v hv
  obtain ⟨l,a,b,c,rfl,_⟩ := he v hv
  rfl
 simp [sliceOp,lowOf,natOf,und22,sliceOf,size91,highOf,ble_lit,beq_lit,e,hi]
def dcheckR:CRel | [d],r => ∃ e,r = .int .i64 e ∧ (e = 0 → Lst DimOk d ∧ (els d).length ≤ 64) | _,_ => False
def dcI (d:PV):Nat → List PV → St → Prop := fun n vs st => ∃ (i k:Nat) (H:List (Nat × Ent)),vs = [.int .i64 (i:Int),.int .i64 ((els d).length:Int),d,d] ∧ i + n = (els d).length ∧ (∀ j x,j < i → (els d)[j]? = some x → DimOk x) ∧ (∀ p ∈ H,p.1 < k) ∧ st = ⟨k,H,[]⟩
theorem dcheck_ok {d:PV} (hd:Lst IsDim d) (hl:(els d).length ≤ maxLen):Gives prog G 24 [d] (dcheckR [d]) := by
 have ld := hd.len
 refine gives_q fun Q hQ => ?_
 have no:∀ {e:Int} {s:St},e ≠ 0 → outK Q (.int .i64 e) s := fun he => outK_pure rfl (hQ _ ⟨_,rfl,fun h => absurd h he⟩)
 refine gives (S := [(60,anyB),(61,farR),(62,findR)]) (by kernel_rfl) (by kernel_rfl) (callW_of ann24 func24 rfl (by kernel_rfl) ?_)
 by_cases h8:64 < (els d).length
 ·have h8':(64:Int) < (els d).length := by omega
  simp [run_draw,tb,ld,h8']
  exact no (e := 6) (by decide)
 have h8':¬ (64:Int) < (els d).length := by omega
 simp [run_draw,tb,ld,h8']
 refine loopK_of (dcI d) rfl rfl ?step (els d).length _ _ ?init
 case init => exact ⟨0,_,_,rfl,by omega,fun j x h => absurd h (Nat.not_lt_zero j),by simp,rfl⟩
 case step =>
 rintro n vs st ⟨i,k,H,rfl,hin,hall,hlt,rfl⟩
 rcases Nat.eq_zero_or_pos n with hn0 | hn0
 ·have hi0:i = (els d).length := by omega
  subst hi0
  simp [run_draw,tb]
  refine outK_pure rfl (hQ _ ⟨0,rfl,fun _ => ⟨?_,by omega⟩⟩)
  rcases hd with rfl | ⟨es,rfl,hes⟩
  ·exact .inl rfl
  ·refine .inr ⟨es,rfl,fun x hx => ?_⟩
   obtain ⟨j,hj,rfl⟩ := List.getElem_of_mem hx
   exact hall j _ hj (List.getElem?_eq_getElem hj)
 ·have hi0:i < (els d).length := by omega
  have hii:(i:Int) < (els d).length := by omega
  have wi:IntKind.i64.wrap ((i:Int)+1) = ((i+1:Nat):Int) := w_i64 (by omega)
  obtain ⟨es,x,rfl,f1,l,a,b,c,rfl,hll⟩ := hd.at hi0
  have hes:∀ w ∈ es,IsDim w := hd.all
  have f1' := getE f1
  simp only [els_slice] at hii hi0 ld hall hl h8 h8' hin ⊢
  have hsl := fun hp => slice_upto (hp := hp) hes (i := i) (by omega)
  simp [run_draw,tb,hii,hi0,f1,f1']
  refine callK_pure rfl rfl (isName_ok _) fun y hy => ?_
  obtain ⟨q,rfl⟩ := hy
  cases q with
  | false =>
   simp [run_draw,tb]
   exact no (e := 11) (by decide)
  | true =>
   simp [run_draw,tb]
   refine callK_pure rfl rfl (far_ok a) fun y hy => ?_
   simp only [farR] at hy
   subst hy
   obtain ⟨A,hA⟩:∃ A,A = (decide (1073741824 < a) || decide (a < -1073741824)) := ⟨_,rfl⟩
   rw [← hA]
   cases A with
   | true =>
    simp [run_draw,tb]
    exact no (e := 2) (by decide)
   | false =>
    simp [run_draw,tb]
    refine callK_pure rfl rfl (far_ok b) fun y hy => ?_
    simp only [farR] at hy
    subst hy
    obtain ⟨B,hB⟩:∃ B,B = (decide (1073741824 < b) || decide (b < -1073741824)) := ⟨_,rfl⟩
    rw [← hB]
    cases B with
    | true =>
     simp [run_draw,tb]
     exact no (e := 2) (by decide)
    | false =>
     simp [run_draw,tb]
     refine callK_pure rfl rfl (far_ok c) fun y hy => ?_
     simp only [farR] at hy
     subst hy
     obtain ⟨C,hC⟩:∃ C,C = (decide (1073741824 < c) || decide (c < -1073741824)) := ⟨_,rfl⟩
     rw [← hC]
     cases C with
     | true =>
      simp [run_draw,tb]
      exact no (e := 2) (by decide)
     | false =>
      by_cases c3:c < b
      ·simp [run_draw,tb,c3]
       exact no (e := 8) (by decide)
      ·simp [run_draw,tb,c3,hsl]
       refine dcallK_pure rfl rfl (find_ok (.inr ⟨_,rfl,fun w hw => hes w (List.mem_of_mem_take hw)⟩) (by simp only [els_slice,List.length_take]; omega) _) fun y hy => ?_
       obtain ⟨z,q,rfl⟩ := hy
       simp [run_draw,tb]
       refine ⟨logOk_free (by simp [okTri,tri,tb]),?_⟩
       cases q with
       | true =>
        simp [run_draw,tb]
        exact no (e := 9) (by decide)
       | false =>
        simp [run_draw,tb,wi]
        have hA' := hA.symm
        simp only [Bool.or_eq_false_iff,decide_eq_false_iff_not] at hA'
        refine ⟨n - 1,by omega,i+1,_,_,by rfl,by simp only [els_slice]; omega,fun j x hj hx => ?_,cons_lt hlt (by omega) (by omega),rfl⟩
        rcases lt_succ_cases hj with h7 | rfl
        ·exact hall j x h7 hx
        ·simp only [els_slice] at hx
         rw [f1] at hx
         cases hx
         exact ⟨l,a,b,c,rfl,by omega,by omega⟩
def InvN (k:Nat) (H:List (Nat × Ent)):Prop := ∀ p ∈ H,p.1 < k
theorem tolD_ok {v:PV} (hv:Lst IsDim v) (hl:(els v).length ≤ maxLen):Gives prog G 25 [v,.func 26 []] (anyB [v,.func 26 []]) := by
 obtain ⟨v1,v2,v3,v4,v5⟩ := hv.cell
 refine gives (S := []) (by kernel_rfl) (by kernel_rfl) (callW_of ann25 func25 rfl (by kernel_rfl) ?_)
 simp [run_draw,tb]
 refine callK_run rfl (callW_to (indexD_ok (Inv := InvN) rfl (fun k H h => lt_mono h (by omega)) (fun w k H hw hi => ?cb) hv hl _ _ ?init) fun v s' hp => ?_)
 case init => exact fun p hp => by simp at hp
 case cb =>
  obtain ⟨l,a,b,c,rfl,_⟩ := hw
  refine callW_of ann26 func26 rfl (by kernel_rfl) ?_
  by_cases h1:b = 0
  ·subst h1
   simp [run_draw,tb]
   refine ⟨Classical.em _,_,_,⟨rfl,rfl⟩,cons_lt hi (by omega) (by omega)⟩
  ·have h1a:(b != 0) = true := by simpa using h1
   have h1b:(b == 0) = false := by simpa using h1
   simp [run_draw,tb,h1a,h1b]
   refine ⟨_,_,⟨rfl,rfl⟩,cons_lt hi (by omega) (by omega)⟩
 ·obtain ⟨i,k',H',rfl,rfl,_⟩ := hp
  simp [run_draw,tb]
  exact outK_pure rfl ⟨_,rfl⟩
def lkI (v cb:PV):Nat → List PV → St → Prop := fun n vs st => ∃ (i k:Nat) (H:List (Nat × Ent)),vs = [.int .i64 (i:Int),.int .i64 ((els v).length:Int),cb,v] ∧ i + n = (els v).length ∧ st = ⟨k,H,[]⟩
theorem widecb_ok {w:PV} (hw:Lst IsOpt w):Gives prog G 7 [w] (anyB [w]) := by
 have lw := hw.len
 refine gives (S := []) (by kernel_rfl) (by kernel_rfl) (callW_of ann7 func7 rfl (by kernel_rfl) ?_)
 simp [run_draw,tb,lw]
 exact outK_pure rfl ⟨_,rfl⟩
theorem wideix_ok {v:PV} (hv:Lst (Lst IsOpt) v) (hl:(els v).length ≤ maxLen):Gives prog G 23 [v,.func 7 []] (anyI [v,.func 7 []]) := by
 have lv := hv.len
 have hm:maxLen ≤ 9223372036854775807 := by decide
 refine gives (S := [(7,anyB)]) (by kernel_rfl) (by kernel_rfl) (callW_of ann23 func23 rfl (by kernel_rfl) ?_)
 simp [run_draw,tb,lv]
 refine loopK_of (lkI v (.func 7 [])) rfl rfl ?step (els v).length _ _ ?init
 case init => exact ⟨0,_,_,rfl,by omega,rfl⟩
 case step =>
 rintro n vs st ⟨i,k2,H2,rfl,hin,rfl⟩
 rcases Nat.eq_zero_or_pos n with hn0 | hn0
 ·have hi0:i = (els v).length := by omega
  subst hi0
  simp [run_draw,tb]
  exact outK_pure rfl ⟨_,rfl⟩
 ·have hi0:i < (els v).length := by omega
  have hii:(i:Int) < (els v).length := by omega
  have wi:IntKind.i64.wrap ((i:Int)+1) = ((i+1:Nat):Int) := w_i64 (by omega)
  obtain ⟨es,w,rfl,f1,hw⟩ := hv.at hi0
  have f1' := getE f1
  obtain ⟨w1,w2,w3,w4,w5⟩ := hw.cell
  simp only [els_slice] at hii hi0 lv hin ⊢
  simp [run_draw,tb,hii,hi0,f1,f1',w1,w2,w3]
  refine callK_pure rfl (by simp [PV.pureL,w5]) (widecb_ok hw) fun y hy => ?_
  obtain ⟨b,rfl⟩ := hy
  cases b with
  | true =>
   simp [run_draw,tb]
   exact outK_pure rfl ⟨_,rfl⟩
  | false =>
   simp [run_draw,tb,wi]
   exact ⟨n - 1,by omega,i+1,_,_,by rfl,by simp only [els_slice]; omega,rfl⟩
theorem wideco_ok {v:PV} (hv:Lst (Lst IsOpt) v) (hl:(els v).length ≤ maxLen):Gives prog G 6 [v,.func 7 []] (anyB [v,.func 7 []]) := by
 obtain ⟨v1,v2,v3,v4,v5⟩ := hv.cell
 refine gives (S := [(23,anyI)]) (by kernel_rfl) (by kernel_rfl) (callW_of ann6 func6 rfl (by kernel_rfl) ?_)
 simp [run_draw,tb]
 refine callK_pure rfl (by simp [PV.pureL,PV.pureB,v5]) (wideix_ok hv hl) fun y hy => ?_
 obtain ⟨i,rfl⟩ := hy
 simp [run_draw,tb]
 exact outK_pure rfl ⟨_,rfl⟩
theorem shrtcb_ok {w:PV} (hw:IsStr w):Gives prog G 22 [w] (anyB [w]) := by
 obtain ⟨l,rfl⟩ := hw
 refine gives (S := []) (by kernel_rfl) (by kernel_rfl) (callW_of ann22 func22 rfl (by kernel_rfl) ?_)
 simp [run_draw,tb]
 exact outK_pure rfl ⟨_,rfl⟩
theorem shrtix_ok {v:PV} (hv:Lst IsStr v) (hl:(els v).length ≤ maxLen):Gives prog G 59 [v,.func 22 []] (anyI [v,.func 22 []]) := by
 have lv := hv.len
 have hm:maxLen ≤ 9223372036854775807 := by decide
 refine gives (S := [(22,anyB)]) (by kernel_rfl) (by kernel_rfl) (callW_of ann59 func59 rfl (by kernel_rfl) ?_)
 simp [run_draw,tb,lv]
 refine loopK_of (lkI v (.func 22 [])) rfl rfl ?step (els v).length _ _ ?init
 case init => exact ⟨0,_,_,rfl,by omega,rfl⟩
 case step =>
 rintro n vs st ⟨i,k2,H2,rfl,hin,rfl⟩
 rcases Nat.eq_zero_or_pos n with hn0 | hn0
 ·have hi0:i = (els v).length := by omega
  subst hi0
  simp [run_draw,tb]
  exact outK_pure rfl ⟨_,rfl⟩
 ·have hi0:i < (els v).length := by omega
  have hii:(i:Int) < (els v).length := by omega
  have wi:IntKind.i64.wrap ((i:Int)+1) = ((i+1:Nat):Int) := w_i64 (by omega)
  obtain ⟨es,w,rfl,f1,hw⟩ := hv.at hi0
  have f1' := getE f1
  obtain ⟨l,rfl⟩ := hw
  have w1:(PV.str (ba l)).cellOk = true := rfl
  have w2:(PV.str (ba l)).cells = [.str (ba l)] := rfl
  have w3:(PV.str (ba l)).isTop = false := rfl
  have w5:(PV.str (ba l)).pureB = true := rfl
  have hw:IsStr (.str (ba l)) := ⟨l,rfl⟩
  simp only [els_slice] at hii hi0 lv hin ⊢
  simp [run_draw,tb,hii,hi0,f1,f1',w1,w2,w3]
  refine callK_pure rfl (by simp [PV.pureL,w5]) (shrtcb_ok hw) fun y hy => ?_
  obtain ⟨b,rfl⟩ := hy
  cases b with
  | true =>
   simp [run_draw,tb]
   exact outK_pure rfl ⟨_,rfl⟩
  | false =>
   simp [run_draw,tb,wi]
   exact ⟨n - 1,by omega,i+1,_,_,by rfl,by simp only [els_slice]; omega,rfl⟩
theorem shrtco_ok {v:PV} (hv:Lst IsStr v) (hl:(els v).length ≤ maxLen):Gives prog G 21 [v,.func 22 []] (anyB [v,.func 22 []]) := by
 obtain ⟨v1,v2,v3,v4,v5⟩ := hv.cell
 refine gives (S := [(59,anyI)]) (by kernel_rfl) (by kernel_rfl) (callW_of ann21 func21 rfl (by kernel_rfl) ?_)
 simp [run_draw,tb]
 refine callK_pure rfl (by simp [PV.pureL,PV.pureB,v5]) (shrtix_ok hv hl) fun y hy => ?_
 obtain ⟨i,rfl⟩ := hy
 simp [run_draw,tb]
 exact outK_pure rfl ⟨_,rfl⟩
theorem lawShort_ok {v:PV} (hv:Lst IsStr v) (hl:(els v).length ≤ maxLen):Gives prog G 5 [v] (anyB [v]) := by
 obtain ⟨v1,v2,v3,v4,v5⟩ := hv.cell
 refine gives (S := [(21,anyB)]) (by kernel_rfl) (by kernel_rfl) (callW_of ann5 func5 rfl (by kernel_rfl) ?_)
 simp [run_draw,tb]
 refine callK_pure rfl (by simp [PV.pureL,PV.pureB,v5]) (shrtco_ok hv hl) fun y hy => ?_
 obtain ⟨b,rfl⟩ := hy
 simp [run_draw,tb]
 exact outK_pure rfl ⟨_,rfl⟩
end Go.Proofs.Tryz
