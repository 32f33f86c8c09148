/- Expressions walked through: a function that a loop calls. No condition. -/
import Derived.RangeFuncNested
import Derived.RangeFuncBound
import Derived.RangeFuncCalls
import Derived.RangeFuncLeaves
import Derived.Shelf.Abstract
import Derived.Shelf.RegionOpen
import Derived.WalkKit
import Derived.OwnWalkIn
import Derived.TacticsInMore
import Derived.LoopNIn
import Derived.LoopIn
import Derived.Test.YtgpmgondjppmmaaGreatDoorProg
set_option linter.unusedSectionVars false
set_option linter.unusedSimpArgs false
set_option linter.unusedVariables false
set_option maxHeartbeats 1000000
namespace Go.Proofs.Tryz
open Go Go.RowKit Go.Shelf
attribute [local go_sem] Oper.semAt_some
def Abd {α:Type} (B:Nat) (J:List α → World → Prop):Prop := ∀ pre W W',J pre W → Below B W W' → J pre W'
structure Keeps2 (S:Nat → Prop) (B:Nat) (W W':World):Prop where
 os:W'.os = W.os
 tape:W'.tape = W.tape
 output:W'.output = W.output
 size:W.heap.size ≤ W'.heap.size
 block:∀ k,k < W.heap.size → (S k ∨ B ≤ k) → W'.heap[k]? = W.heap[k]?
theorem Keeps2.trans {S:Nat → Prop} {B:Nat} {X Y Z:World} (h:Keeps2 S B X Y) (k:Keeps2 S B Y Z):Keeps2 S B X Z :=
 ⟨k.os.trans h.os,k.tape.trans h.tape,k.output.trans h.output,Nat.le_trans h.size k.size,fun i hi hs => (k.block i (Nat.lt_of_lt_of_le hi h.size) hs).trans (h.block i hi hs)⟩
theorem Keeps2.of_below {S:Nat → Prop} {B:Nat} {X Y:World} (h:Below X.heap.size X Y):Keeps2 S B X Y := ⟨h.os,h.tape,h.output,h.size,fun k hk _ => h.block k hk⟩
theorem putObj_size (W:World) (l:Nat) (o:Obj):(W.putObj l o).heap.size = W.heap.size := by simp [World.putObj]
theorem Keeps2.put {S:Nat → Prop} {B:Nat} (W:World) (l:Nat) (o:Obj) (h1:¬ S l) (h2:l < B):Keeps2 S B W (W.putObj l o) :=
 ⟨rfl,rfl,rfl,by rw [putObj_size]; exact Nat.le_refl _,fun k _ hk => World.putObj_heap_other (fun e => by subst e; exact hk.elim (fun h => h1 h) (fun h => by omega))⟩
theorem below_put {B:Nat} (W:World) (l:Nat) (o:Obj) (h:B ≤ l):Below B W (W.putObj l o) :=
 ⟨rfl,rfl,rfl,by rw [putObj_size]; exact Nat.le_refl _,fun k hk => World.putObj_heap_other (by omega)⟩
def ItOk {α:Type} (F:Fence) (P:Program) (g:Nat) (lb:Array Value) (encs:α → Array Value) (S:Nat → Prop) (xs:List α) (W:World):Prop :=
 ∀ (n l:Nat) (J Jx:List α → World → Prop),Abd W.heap.size J → Abd W.heap.size Jx →
  (∀ m pre x W1,pre ++ [x] <+: xs → J pre W1 → W.heap.size ≤ W1.heap.size → YieldAt F m P l (encs x) W1 fun e W' =>
   (e = .returned (.bool true) ∧ J (pre ++ [x]) W' ∧ Keeps2 S W.heap.size W1 W') ∨ (e = .returned (.bool false) ∧ Jx (pre ++ [x]) W' ∧ Keeps2 S W.heap.size W1 W')) →
  J [] W →
  CallsIn F n P g (#[.func (.yield l) #[] #[]] ++ lb) W fun e W' => (∃ v,e = .returned v) ∧ (J xs W' ∨ ∃ pre,pre <+: xs ∧ Jx pre W')
def oneP2 {α:Type} (S:Nat → Prop) (B:Nat) (I Ix:List α → World → Prop) (xs:List α) (W:World):Exit → Act → World → Prop
 | .normal,_,W' => I xs W' ∧ Keeps2 S B W W'
 | .ret,_,W' => Ix xs W' ∧ Keeps2 S B W W'
 | _,_,_ => False
abbrev markD (D:Nat):Deferred := { target := .collected D,args := #[] }
theorem range_one {α:Type} {F:Fence} {n:Nat} {P:Program} {g:Operand} {ps:Array Tmp} {assign body:Code} {Q:Exit → Act → World → Prop} {a:Act} {w:World}
  (hro:F.round = none) (hd:F.depth = none) {gf:Nat} {lb:Array Value} (hg:a.eval g = .func (.func gf) #[] lb) (hFg:F.fn gf) (eg:∀ args w,(callFunc gf args).run P w = .ok (.enter gf args) w)
  {encs:α → Array Value} {S:Nat → Prop} {xs:List α} (hit:∀ W1,Below w.heap.size w W1 → ItOk F P gf lb encs S xs W1) (hS:∀ k,S k → k < w.heap.size) (hps:∀ x,(encs x).size = ps.size)
  (I Ix:List α → World → Prop) (hI:Abd w.heap.size I) (hIx:Abd w.heap.size Ix) (h0:I [] w) (Ax:Nat → α → Act → World → Prop) (hAx:∀ l x a' W o,Ax l x a' W → Ax l x a' (W.putObj l o))
  (hassign:∀ (m l:Nat) (x:α) (W:World) (K:Act → World → Prop),l < W.heap.size → (∀ a' W',Below W.heap.size W W' → Ax l x a' W' → K a' W') →
   assign.wpIn (F.inRound l) m P (Exit.then K (fun _ _ _ => False)) { tmps := (ps.zip (encs x)).foldl (fun t (p,v) => t.setIfInBounds p v) a.tmps,defers := [] } W)
  (hbody:∀ (m l:Nat) (pre:List α) (x:α) (a':Act) (W:World),w.heap.size ≤ l → l < W.heap.size → pre ++ [x] <+: xs → I pre W → Ax l x a' W → body.wpIn (F.inRound l) m P (oneP2 S w.heap.size I Ix (pre ++ [x]) W) a' W)
  (hdone:∀ (D:Nat) (W:World),w.heap.size ≤ D → I xs W → W.heap[D]? = some (.deferred (some [])) → Q .normal { a with defers := markD D :: a.defers } W)
  (hstop:∀ (D:Nat) (pre:List α) (W:World),w.heap.size ≤ D → pre <+: xs → Ix pre W → W.heap[D]? = some (.deferred (some [])) → Q .ret { a with defers := markD D :: a.defers } W) :
  (Code.rangeFunc g ps assign body).wpIn F n P Q a w := by
 refine wpIn_rangeFunc ?_
 intro fn hfn
 rw [hro]
 obtain ⟨rc,hrc⟩:∃ rc:LoopState → Option Code → Loop,rc = fun st pe => { state := st,pending := pe,fn,tmps := a.tmps,params := ps,assign,body,defers := w.heap.size } := ⟨_,rfl⟩
 obtain ⟨D,hD⟩:∃ D,D = w.heap.size := ⟨_,rfl⟩
 obtain ⟨l,hl⟩:∃ l,l = w.heap.size+1 := ⟨_,rfl⟩
 obtain ⟨W1,hW1⟩:∃ W1,(w.alloc (.deferred (some []))).alloc (.loop (rc .ready none)) = W1 := ⟨_,rfl⟩
 have hL1:W1.heap[l]? = some (.loop (rc .ready none)) := by
  rw [← hW1,hl]
  have := World.alloc_heap_new (w.alloc (.deferred (some []))) (.loop (rc .ready none))
  rwa [World.size_alloc] at this
 have hK1:W1.heap[D]? = some (.deferred (some [])) := by
  rw [← hW1,hD]
  exact (Below.heap_alloc _ _ _ (by simp)).trans (World.alloc_heap_new w _)
 have hB1:Below w.heap.size w W1 := by
  rw [← hW1]
  exact ((Below.refl _ w).alloc (Nat.le_refl _) _).alloc (by simp) _
 have hs1:W1.heap.size = w.heap.size + 2 := by rw [← hW1]; simp
 refine ⟨l,[markD D],W1,{ target := .fn (.func gf) lb,args := #[.func (.yield l) #[] #[]] },W1,gf,#[.func (.yield l) #[] #[]] ++ lb,W1,?_,?_,?_,?_,(fun h => by rw [hd] at h; cases h),?_⟩
 ·rw [← hW1,hrc,hl,hD]; exact run_enterLoop_outer _ _ _ _ _
 ·simp only [resolve,hg]
  simp [go_sem]
 ·intro f' hf'
  simp [Target.leads] at hf'
  subst hf'
  exact hFg
 ·simp [invoke,go_sem,eg]
 ·refine (hit W1 hB1 (n - 1) l (fun pre W => I pre W ∧ W.heap[l]? = some (.loop (rc .ready none)) ∧ W.heap[D]? = some (.deferred (some [])))
   (fun pre W => Ix pre W ∧ W.heap[l]? = some (.loop (rc .done (some .ret))) ∧ W.heap[D]? = some (.deferred (some [])))
   (fun pre X Y hj hb => ⟨hI pre X Y hj.1 (hb.mono (by omega)),(hb.block l (by omega)).trans hj.2.1,(hb.block D (by omega)).trans hj.2.2⟩)
   (fun pre X Y hj hb => ⟨hIx pre X Y hj.1 (hb.mono (by omega)),(hb.block l (by omega)).trans hj.2.1,(hb.block D (by omega)).trans hj.2.2⟩) ?_ ⟨hI [] w W1 h0 hB1,hL1,hK1⟩).mono ?_
  ·
   rintro m pre x W hpre ⟨hi,hlW,hkW⟩ hsz
   have hy := run_yield (P := P) (args := encs x) hlW (by rw [hrc]; exact hps x)
   rw [hrc] at hy
   refine ⟨fn,_,assign,body,hy,roundIn_of_wpIn hfn (hassign m l x W _ (by omega) ?_)⟩
   intro a1 Wa hBa hax
   have hla:Wa.heap[l]? = some (.loop (rc .ready none)) := (hBa.block l (by omega)).trans hlW
   have hka:Wa.heap[D]? = some (.deferred (some [])) := (hBa.block D (by omega)).trans hkW
   have hsa := hBa.size
   have hia:I pre Wa := hI pre W Wa hi (hBa.mono (by omega))
   refine ⟨_,run_beginRound hla (by rw [hrc]),?_⟩
   obtain ⟨Wb,hWb⟩:∃ Wb,Wb = Wa.putObj l (.loop { rc .ready none with state := .busy }) := ⟨_,rfl⟩
   rw [← hWb]
   have hlb:Wb.heap[l]? = some (.loop { rc .ready none with state := .busy }) := by rw [hWb]; exact World.putObj_heap_same (by omega)
   have hkb:Wb.heap[D]? = some (.deferred (some [])) := by rw [hWb]; exact (World.putObj_heap_other (by omega)).trans hka
   have hsb:Wb.heap.size = Wa.heap.size := by rw [hWb]; exact putObj_size _ _ _
   have hnS:¬ S l := fun h => by have := hS l h; omega
   have k1:Keeps2 S W1.heap.size W Wb := (Keeps2.of_below hBa).trans (by rw [hWb]; exact Keeps2.put _ _ _ hnS (by omega))
   refine wpIn_mono (hbody m l pre x a1 Wb (by omega) (by omega) hpre (hI pre Wa Wb hia (by rw [hWb]; exact below_put _ _ _ (by omega))) (by rw [hWb]; exact hAx _ _ _ _ _ hax)) ?_
   have fin:∀ (jump:Option Code) (W3:World),Keeps2 S w.heap.size Wb W3 →
     (Instr.endRound l jump).run P W3 = .ok (.bool jump.isNone) (W3.putObj l (.loop (rc (if jump.isNone then .ready else .done) jump))) ∧
     (W3.putObj l (.loop (rc (if jump.isNone then .ready else .done) jump))).heap[l]? = some (.loop (rc (if jump.isNone then .ready else .done) jump)) ∧
     (W3.putObj l (.loop (rc (if jump.isNone then .ready else .done) jump))).heap[D]? = some (.deferred (some [])) ∧
     Keeps2 S W1.heap.size W (W3.putObj l (.loop (rc (if jump.isNone then .ready else .done) jump))) := fun jump W3 hk3 => by
    have hl3 := (hk3.block l (by omega) (.inr (by omega))).trans hlb
    have hd3 := (hk3.block D (by omega) (.inr (by omega))).trans hkb
    have hs3 := hk3.size
    have := run_endRound (P := P) jump hl3
    rw [hrc] at this ⊢
    refine ⟨this,World.putObj_heap_same (by omega),(World.putObj_heap_other (by omega)).trans hd3,?_⟩
    refine (k1.trans ⟨hk3.os,hk3.tape,hk3.output,hk3.size,fun k hk h => hk3.block k hk (h.imp id (by omega))⟩).trans (Keeps2.put _ _ _ hnS (by omega))
   rintro e a3 W3 hp
   cases e with
   | normal =>
    obtain ⟨hi3,hk3⟩ := hp
    obtain ⟨f1,f2,f3,f4⟩ := fin none W3 hk3
    exact ⟨_,_,f1,.inl ⟨rfl,⟨hI _ _ _ hi3 (below_put _ _ _ (by omega)),f2,f3⟩,f4⟩⟩
   | ret =>
    obtain ⟨hi3,hk3⟩ := hp
    obtain ⟨f1,f2,f3,f4⟩ := fin (some .ret) W3 hk3
    exact ⟨_,_,f1,.inr ⟨rfl,⟨hIx _ _ _ hi3 (below_put _ _ _ (by omega)),f2,f3⟩,f4⟩⟩
   | exit id => exact hp.elim
   | goto t => exact hp.elim
   | panic ch => exact hp.elim
   | outgrown => exact hp.elim
  ·
   rintro e W2 ⟨⟨v,rfl⟩,(⟨hi,h1,h2⟩ | ⟨pre,hpre,hi,h1,h2⟩)⟩
   ·exact ⟨none,_,by have := run_endLoop (P := P) h1 (by rw [hrc]; simp); rw [hrc] at this; exact this,hdone D _ (by omega) (hI _ _ _ hi (below_put _ _ _ (by omega))) ((World.putObj_heap_other (by omega)).trans h2)⟩
   ·exact ⟨some .ret,_,by have := run_endLoop (P := P) h1 (by rw [hrc]; simp); rw [hrc] at this; exact this,wpIn_ret (hstop D pre _ (by omega) hpre (hIx _ _ _ hi (below_put _ _ _ (by omega))) ((World.putObj_heap_other (by omega)).trans h2))⟩
theorem leaves_marks {F:Fence} {n:Nat} {P:Program} {fn:Func} {tmps:Array Value} {R:Ending → World → Prop} {B:Nat} {J:World → Prop} (hJ:∀ W W',J W → Below B W W' → J W')
  (hR:∀ W,J W → ∃ v,(results fn tmps).run P W = .ok v W ∧ R (.returned v) W):∀ (Ds:List Nat) (W:World),(∀ D ∈ Ds,B ≤ D ∧ W.heap[D]? = some (.deferred (some []))) → Ds.Nodup → J W → LeavesInM F n P fn tmps R (Ds.map markD) .returning W
 | [],W,_,_,hj => hR W hj
 | D :: Ds,W,h,hn,hj => by
  obtain ⟨h1,h2⟩ := h D (List.mem_cons_self ..)
  rw [List.nodup_cons] at hn
  refine ⟨by simp,.inl ⟨D,_,rfl,run_takeDeferred h2,leaves_marks hJ hR Ds _ (fun E hE => ?_) hn.2 (hJ _ _ hj (below_put _ _ _ h1))⟩⟩
  obtain ⟨h3,h4⟩ := h E (List.mem_cons_of_mem _ hE)
  exact ⟨h3,(World.putObj_heap_other (fun e => hn.1 (by rw [← e]; exact hE))).trans h4⟩
theorem nodes_in (F:Fence) (n:Nat) (h5:F.fn 100) (hro:F.round = none) (cs:Array Value) (lv:Int) (w:World) :
  CallsIn F n prog 100 #[.agg cs,.int .i64 lv] w fun e w' => e = .returned (.func (.func 134) #[] #[.pointer (some ⟨w.heap.size+1,0,none⟩),.pointer (some ⟨w.heap.size,0,none⟩)]) ∧ w' = (w.alloc (.cells cs 100)).alloc (.cells #[.int .i64 lv] 3) := by
 refine callsIn_of_wp func100 rfl h5 ?_ hro
 simp only [ntmps100,List.size_toArray,List.length_cons,List.length_nil,Nat.reduceAdd,Nat.reduceSub,Array.replicate_succ,Array.replicate_zero,List.push_toArray,List.append_toArray,List.nil_append,List.cons_append]
 gi_wp2
 go_ret
 exact ⟨rfl,rfl⟩
end Go.Proofs.Tryz
