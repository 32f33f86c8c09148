/- Expressions walked through: every node of an expression. No condition. -/
import Derived.Test.YtgpmgondjppmmaaGreatDoorU1
import Derived.Test.YtgpmgondjppmmaaGreatDoorQ5
set_option linter.unnecessarySimpa false
set_option linter.unusedSectionVars false
set_option linter.unusedSimpArgs false
set_option linter.unusedVariables false
set_option maxHeartbeats 2000000
set_option maxRecDepth 100000
namespace Go.Proofs.Tryz
open Go Go.RowKit Go.Shelf
attribute [local go_sem] Oper.semAt_some
structure EV where
 op:Int
 c:ByteArray
 tp:Option Addr
 tn:Nat
 tc:Nat
 fc:ByteArray
 rp:Option Addr
 rn:Nat
 rc:Nat
abbrev EV.cs (v:EV):Array Value := #[.int .i64 v.op,.string v.c,.slice v.tp v.tn v.tc,.string v.fc,.slice v.rp v.rn v.rc]
abbrev Nd := Int × Go.Pi.PV × EV
abbrev encN (t:Nd):Array Value := #[.int .i64 t.1,.agg t.2.2.cs]
def leftN (N:Nat):Value → Nat
 | .int _ i => N - i.toNat
 | _ => 0
theorem left_lt (N i:Nat) (h:i < N):leftN N (.int .i64 ((i+1:Nat):Int)) < leftN N (.int .i64 (i:Int)) := by
 simp only [leftN,Int.toNat_natCast]
 omega
theorem cells_block {W:World} {b:Nat} {cs:Array Value} {t:TypeId} (h:W.heap[b]? = some (.cells cs t (0,0))) (k:Nat):W.cell? ⟨b,k,none⟩ = cs[k]? := by simp [World.cell?,h]
theorem flat_succ {α:Type} (ys:Nat → List α) (i:Nat):(List.range (i+1)).flatMap ys = (List.range i).flatMap ys ++ ys i := by rw [List.range_succ]; simp
theorem flat_to {α:Type} (ys:Nat → List α) {i N:Nat} (h:i < N):∃ t,(List.range i).flatMap ys ++ (ys i ++ t) = (List.range N).flatMap ys := by
 induction N with
 | zero => omega
 | succ N ih =>
  rw [flat_succ]
  rcases Nat.lt_or_ge i N with h2 | h2
  ·obtain ⟨t,ht⟩ := ih h2
   exact ⟨t ++ ys N,by rw [← ht]; simp⟩
  ·obtain rfl:i = N := by omega
   exact ⟨[],by simp⟩
theorem it_step (F:Fence) (hd:F.depth = none) (hro:F.round = none) (hF:∀ f,F.fn f) {lv op:Int} {c fc:ByteArray} {tp:Option Addr} {tn tc:Nat} {ap:Option Addr} {N cap:Nat} {S:Nat → Prop} {bx bl:Nat} {W:World} (hNm:N ≤ maxLen) (hS:∀ k,S k → k < W.heap.size) (hSx:S bx) (hSl:S bl)
  (hx:W.heap[bx]? = some (.cells #[.int .i64 op,.string c,(.slice tp tn tc),.string fc,(.slice ap N cap)] 100 (0,0))) (hl:W.heap[bl]? = some (.cells #[.int .i64 lv] 3 (0,0))) (ys:Nat → List Nd)
  (hel:∀ i,i < N → ∃ (b o:Nat) (op':Int) (c':ByteArray) (tp':Option Addr) (tn' tc':Nat) (fc':ByteArray) (rp':Option Addr) (rn' rc':Nat),ap = some ⟨b,o,none⟩ ∧ S b ∧ W.cell? ⟨b,o + i * 5,none⟩ = some (.int .i64 op') ∧ W.cell? ⟨b,o + i * 5+1,none⟩ = some (.string c') ∧ W.cell? ⟨b,o + i * 5 + 2,none⟩ = some (.slice tp' tn' tc') ∧ W.cell? ⟨b,o + i * 5 + 3,none⟩ = some (.string fc') ∧ W.cell? ⟨b,o + i * 5 + 4,none⟩ = some (.slice rp' rn' rc') ∧
   ∀ (W':World) (bx' bl':Nat),W.heap.size ≤ bx' → W.heap.size ≤ bl' → W'.heap[bx']? = some (.cells #[.int .i64 op',.string c',.slice tp' tn' tc',.string fc',.slice rp' rn' rc'] 100 (0,0)) → W'.heap[bl']? = some (.cells #[.int .i64 (wrap64 (lv+1))] 3 (0,0)) → (∀ k,S k → W'.heap[k]? = W.heap[k]?) → ItOk F prog 134 #[.pointer (some ⟨bl',0,none⟩),.pointer (some ⟨bx',0,none⟩)] encN (fun k => S k ∨ k = bx' ∨ k = bl') (ys i) W')
  (xs:List Nd) (hxs:xs = (List.range N).flatMap ys) (x0:Go.Pi.PV) (n l:Nat) (J Jx:List Nd → World → Prop) (hJ:Abd W.heap.size J) (hJx:Abd W.heap.size Jx)
  (hY:∀ m pre x W1,pre ++ [x] <+: ((lv,x0,⟨op,c,tp,tn,tc,fc,ap,N,cap⟩) :: xs) → J pre W1 → W.heap.size ≤ W1.heap.size → YieldAt F m prog l (encN x) W1 fun e W' =>
   (e = .returned (.bool true) ∧ J (pre ++ [x]) W' ∧ Keeps2 S W.heap.size W1 W') ∨ (e = .returned (.bool false) ∧ Jx (pre ++ [x]) W' ∧ Keeps2 S W.heap.size W1 W'))
  (h0:J [] W) :
  CallsIn F n prog 134 (#[.func (.yield l) #[] #[]] ++ #[.pointer (some ⟨bl,0,none⟩),.pointer (some ⟨bx,0,none⟩)]) W fun e W' => (∃ v,e = .returned v) ∧ (J ((lv,x0,⟨op,c,tp,tn,tc,fc,ap,N,cap⟩) :: xs) W' ∨ ∃ pre,pre <+: ((lv,x0,⟨op,c,tp,tn,tc,fc,ap,N,cap⟩) :: xs) ∧ Jx pre W') := by
 subst hxs
 have cl := cells_block hl 0
 have hlx:bx < W.heap.size := (Array.getElem?_eq_some_iff.1 hx).1
 have hll:bl < W.heap.size := (Array.getElem?_eq_some_iff.1 hl).1
 refine callsIn_of_wp_marks func134 rfl (hF _) ?_ hro
 simp only [ntmps134,List.size_toArray,List.length_cons,List.length_nil,Nat.reduceAdd,Nat.reduceSub,Array.replicate_succ,Array.replicate_zero,List.push_toArray,List.append_toArray,List.nil_append,List.cons_append]
 obtain ⟨W1,hW1⟩:∃ W1,W1 = W.alloc (.cells #[.func (.yield l) #[] #[]] 270) := ⟨_,rfl⟩
 have hB1:Below W.heap.size W W1 := by rw [hW1]; exact (Below.refl _ W).alloc (Nat.le_refl _) _
 have hx1 := (hB1.block bx hlx).trans hx
 have hl1 := (hB1.block bl hll).trans hl
 have cx0 := cells_block hx1 0
 have cx1 := cells_block hx1 1
 have cx2 := cells_block hx1 2
 have cx3 := cells_block hx1 3
 have cx4 := cells_block hx1 4
 have cl0 := cells_block hl1 0
 have cy := Boxed.new W 270 (.func (.yield l) #[] #[])
 rw [← hW1] at cy
 have cyc := cy.cell
 obtain ⟨fn,tmps,assign,body,hy,hR⟩ := hY (n - 1) [] (lv,x0,⟨op,c,tp,tn,tc,fc,ap,N,cap⟩) W1 (List.prefix_iff_eq_append.2 rfl) (hJ _ _ _ h0 hB1) hB1.size
 simp only [encN,EV.cs] at hy
 subst hW1
 gi_wp2
 refine hR.mono ?_
 clear hR hy
 generalize W.alloc (.cells #[.func (.yield l) #[] #[]] 270) = W1 at *
 rintro e W2 (⟨rfl,hj2,hk2⟩ | ⟨rfl,hj2,_⟩)
 case inr =>
  gi_wp2
  refine leaves_marks (B := W.heap.size) (J := Jx ([] ++ [(lv,x0,⟨op,c,tp,tn,tc,fc,ap,N,cap⟩)])) (hJx _) (fun W' hj => ⟨_,results_none rfl _ _ _,⟨_,rfl⟩,.inr ⟨_,List.prefix_iff_eq_append.2 rfl,hj⟩⟩) [] W2 (by simp) (by simp) hj2
 have hs1 := hB1.size
 have hx2 := (hk2.block bx (by omega) (.inl hSx)).trans hx1
 have hl2 := (hk2.block bl (by omega) (.inl hSl)).trans hl1
 have hy2 := (hk2.block W.heap.size (by have := cy.lt; omega) (.inr (Nat.le_refl _))).trans cy
 have dx0 := cells_block hx2 0
 have dx1 := cells_block hx2 1
 have dx2 := cells_block hx2 2
 have dx3 := cells_block hx2 3
 have dx4 := cells_block hx2 4
 clear cx0 cx1 cx2 cx3 cx4 cl0 cyc
 gi_wp2
 refine wpIn_loop (fun a' w' => ∃ (i:Nat) (u5 u17 u18 u19 u20 u21 u22 u23 u31:Value) (Ds:List Nat),a' = { tmps := #[.func (.yield l) #[] #[],.pointer (some ⟨bl,0,none⟩),.pointer (some ⟨bx,0,none⟩),.pointer (some ⟨W.heap.size,0,none⟩),undef,u5,undef,undef,.func (.yield l) #[] #[],.int .i64 lv,.agg #[.int .i64 op,.string c,(.slice tp tn tc),.string fc,.slice ap N cap],.bool true,.bool false,.pointer (some ⟨bx,4,none⟩),.slice ap N cap,.int .i64 (N:Int),.int .i64 (i:Int),u17,u18,u19,u20,u21,u22,u23,undef,undef,undef,undef,undef,undef,undef,u31],defers := Ds.map markD } ∧
  i ≤ N ∧ J ((lv,x0,⟨op,c,tp,tn,tc,fc,ap,N,cap⟩) :: (List.range i).flatMap ys) w' ∧ (∀ k,S k → w'.heap[k]? = W.heap[k]?) ∧ Boxed w' W.heap.size 270 (.func (.yield l) #[] #[]) ∧ (∀ D ∈ Ds,W.heap.size ≤ D ∧ w'.heap[D]? = some (.deferred (some []))) ∧ Ds.Nodup)
  (fun a' _ => leftN N (a'.tmps.getD 16 undef)) ?start ?round
 case start =>
  exact ⟨0,undef,undef,undef,undef,undef,undef,undef,undef,undef,[],rfl,by omega,by simpa using hj2,fun k hk => (hk2.block k (by have := hS k hk; omega) (.inl hk)).trans (hB1.block k (hS k hk)),hy2,by simp,by simp⟩
 case round =>
 rintro a' w' ⟨i,u5,u17,u18,u19,u20,u21,u22,u23,u31,Ds,rfl,hiN,hj,hs,hb,hDs,hnd⟩
 rcases Nat.lt_or_ge i N with hi | hi
 case inr =>
  have hi':¬ (i:Int) < N := by omega
  gi_wp2
  obtain rfl:i = N := by omega
  refine leaves_marks (B := W.heap.size) (J := J ((lv,x0,⟨op,c,tp,tn,tc,fc,ap,i,cap⟩) :: (List.range i).flatMap ys)) (hJ _) (fun W' hj => ⟨_,results_none rfl _ _ _,⟨_,rfl⟩,.inl hj⟩) Ds w' hDs hnd hj
 have hi':(i:Int) < N := by omega
 obtain ⟨b,o,op',c',tp',tn',tc',fc',rp',rn',rc',rfl,hSb,e0,e1,e2,e3,e4,hit⟩ := hel i hi
 have hcell:∀ k,w'.cell? ⟨b,k,none⟩ = W.cell? ⟨b,k,none⟩ := fun k => World.cell?_of_block (hs b hSb)
 have q0 := (hcell (o + i * 5)).trans e0
 have q1 := (hcell (o + i * 5+1)).trans e1
 have q2 := (hcell (o + i * 5 + 2)).trans e2
 have q3 := (hcell (o + i * 5 + 3)).trans e3
 have q4 := (hcell (o + i * 5 + 4)).trans e4
 have ql:w'.cell? ⟨bl,0,none⟩ = some (.int .i64 lv) := (World.cell?_of_block (hs bl hSl)).trans cl
 clear hcell e0 e1 e2 e3 e4
 have hbl':bl < w'.heap.size := by have := hb.lt; omega
 have ql':(w'.alloc (.cells #[.int .i64 op',.string c',.slice tp' tn' tc',.string fc',.slice rp' rn' rc'] 100)).cell? ⟨bl,0,none⟩ = some (.int .i64 lv) := (World.cell?_of_block (Below.heap_alloc w' _ bl hbl')).trans ql
 clear ql
 gi_wp2_with (gi_at_call 100; refine (nodes_in F (n - 1) (hF _) hro _ _ _).mono ?_; rintro e w2 ⟨rfl,rfl⟩)
 obtain ⟨W0,hW0⟩:∃ W0,W0 = ((w'.alloc (.cells #[.int .i64 op',.string c',.slice tp' tn' tc',.string fc',.slice rp' rn' rc'] 100)).alloc (.cells #[.int .i64 op',.string c',.slice tp' tn' tc',.string fc',.slice rp' rn' rc'] 100)).alloc (.cells #[.int .i64 (wrap64 (lv+1))] 3) := ⟨_,rfl⟩
 have hz0:W0.heap.size = w'.heap.size + 3 := by rw [hW0]; simp
 have hB0:Below w'.heap.size w' W0 := by rw [hW0]; exact (((Below.refl _ w').alloc (Nat.le_refl _) _).alloc (by simp) _).alloc (by simp; omega) _
 have hbx:W0.heap[w'.heap.size+1]? = some (.cells #[.int .i64 op',.string c',.slice tp' tn' tc',.string fc',.slice rp' rn' rc'] 100 (0,0)) := by
  rw [hW0]
  refine (Below.heap_alloc _ _ _ (by simp)).trans ?_
  have := World.alloc_heap_new (w'.alloc (.cells #[.int .i64 op',.string c',.slice tp' tn' tc',.string fc',.slice rp' rn' rc'] 100)) (.cells #[.int .i64 op',.string c',.slice tp' tn' tc',.string fc',.slice rp' rn' rc'] 100)
  rwa [World.size_alloc] at this
 have hbl:W0.heap[w'.heap.size+1+1]? = some (.cells #[.int .i64 (wrap64 (lv+1))] 3 (0,0)) := by
  rw [hW0]
  have := World.alloc_heap_new ((w'.alloc (.cells #[.int .i64 op',.string c',.slice tp' tn' tc',.string fc',.slice rp' rn' rc'] 100)).alloc (.cells #[.int .i64 op',.string c',.slice tp' tn' tc',.string fc',.slice rp' rn' rc'] 100)) (.cells #[.int .i64 (wrap64 (lv+1))] 3)
  rwa [World.size_alloc,World.size_alloc] at this
 rw [← hW0]
 clear hW0 ql' q0 q1 q2 q3 q4
 have hbz := hb.lt
 have hDz:∀ D ∈ Ds,D < w'.heap.size := fun D hD => (Array.getElem?_eq_some_iff.1 (hDs D hD).2).1
 refine range_one hro hd (gf := 134) (lb := #[.pointer (some ⟨w'.heap.size+1+1,0,none⟩),.pointer (some ⟨w'.heap.size+1,0,none⟩)]) rfl (hF _) (enters_of func134 (by kernel_rfl) rfl) (encs := encN) (S := fun k => S k ∨ k = w'.heap.size+1 ∨ k = w'.heap.size+1+1) (xs := ys i)
  (fun W1 hW => hit W1 _ _ (by omega) (by omega) ((hW.block _ (by omega)).trans hbx) ((hW.block _ (by omega)).trans hbl) (fun k hk => (hW.block k (by have := hS k hk; omega)).trans ((hB0.block k (by have := hS k hk; omega)).trans (hs k hk))))
  (fun k hk => by rcases hk with hk | hk | hk; (have := hS k hk; omega); omega; omega) (fun _ => rfl)
  (fun pre Z => J (((lv,x0,⟨op,c,tp,tn,tc,fc,some ⟨b,o,none⟩,N,cap⟩) :: (List.range i).flatMap ys) ++ pre) Z ∧ (∀ k,S k → Z.heap[k]? = W.heap[k]?) ∧ Boxed Z W.heap.size 270 (.func (.yield l) #[] #[]) ∧ ∀ D ∈ Ds,Z.heap[D]? = some (.deferred (some [])))
  (fun pre Z => Jx (((lv,x0,⟨op,c,tp,tn,tc,fc,some ⟨b,o,none⟩,N,cap⟩) :: (List.range i).flatMap ys) ++ pre) Z ∧ ∀ D ∈ Ds,Z.heap[D]? = some (.deferred (some [])))
  (fun pre X Y h hb2 => ⟨hJ _ _ _ h.1 (hb2.mono (by omega)),fun k hk => (hb2.block k (by have := hS k hk; omega)).trans (h.2.1 k hk),(hb2.block _ (by omega)).trans h.2.2.1,fun D hD => (hb2.block D (by have := hDz D hD; omega)).trans (h.2.2.2 D hD)⟩)
  (fun pre X Y h hb2 => ⟨hJx _ _ _ h.1 (hb2.mono (by omega)),fun D hD => (hb2.block D (by have := hDz D hD; omega)).trans (h.2 D hD)⟩)
  ⟨by rw [List.append_nil]; exact hJ _ _ _ hj (hB0.mono (by omega)),fun k hk => (hB0.block k (by have := hS k hk; omega)).trans (hs k hk),(hB0.block _ (by omega)).trans hb,fun D hD => (hB0.block D (hDz D hD)).trans (hDs D hD).2⟩
  (fun l2 x a' Z => ∃ bb,l2 < bb ∧ Z.heap[bb]? = some (.cells x.2.2.cs 100 (0,0)) ∧ a' = { tmps := #[.func (.yield l) #[] #[],.pointer (some ⟨bl,0,none⟩),.pointer (some ⟨bx,0,none⟩),.pointer (some ⟨W.heap.size,0,none⟩),undef,.pointer (some ⟨w'.heap.size,0,none⟩),.int .i64 x.1,.pointer (some ⟨bb,0,none⟩),.func (.yield l) #[] #[],.int .i64 lv,.agg #[.int .i64 op,.string c,.slice tp tn tc,.string fc,.slice (some ⟨b,o,none⟩) N cap],.bool true,.bool false,.pointer (some ⟨bx,4,none⟩),.slice (some ⟨b,o,none⟩) N cap,.int .i64 (N:Int),.int .i64 (i:Int),.bool true,.pointer (some ⟨b,o + i * 5,none⟩),.agg #[.int .i64 op',.string c',.slice tp' tn' tc',.string fc',.slice rp' rn' rc'],.agg #[.int .i64 op',.string c',.slice tp' tn' tc',.string fc',.slice rp' rn' rc'],.int .i64 lv,.int .i64 (wrap64 (lv+1)),.func (.func 134) #[] #[.pointer (some ⟨w'.heap.size+1+1,0,none⟩),.pointer (some ⟨w'.heap.size+1,0,none⟩)],.int .i64 x.1,.agg x.2.2.cs,undef,undef,undef,undef,undef,u31],defers := [] })
  (fun l2 x a' Z ob h => by obtain ⟨bb,e1,e2,e3⟩ := h; exact ⟨bb,e1,(World.putObj_heap_other (by omega)).trans e2,e3⟩)
  ?assign ?body ?done ?stop
 case assign =>
  rintro m l2 ⟨xl,xp,xe⟩ Z K hlt hK
  obtain ⟨op2,c2,tp2,tn2,tc2,fc2,rp2,rn2,rc2⟩ := xe
  gi_wp2
  exact hK _ _ ((Below.refl _ Z).alloc (Nat.le_refl _) _) ⟨Z.heap.size,hlt,World.alloc_heap_new Z _,rfl⟩
 case body =>
  rintro m l2 pre ⟨xl,xp,xe⟩ a' Z hl1' hl2' hpre ⟨z1,z2,z3,z4⟩ ⟨bb,e1,e2,rfl⟩
  obtain ⟨op2,c2,tp2,tn2,tc2,fc2,rp2,rn2,rc2⟩ := xe
  dsimp only [EV.cs] at e2 ⊢
  have d0 := cells_block e2 0
  have d1 := cells_block e2 1
  have d2 := cells_block e2 2
  have d3 := cells_block e2 3
  have d4 := cells_block e2 4
  have dy := z3.cell
  have hp2:((lv,x0,(⟨op,c,tp,tn,tc,fc,some ⟨b,o,none⟩,N,cap⟩:EV)) :: (List.range i).flatMap ys) ++ pre ++ [(xl,xp,(⟨op2,c2,tp2,tn2,tc2,fc2,rp2,rn2,rc2⟩:EV))] <+: (lv,x0,(⟨op,c,tp,tn,tc,fc,some ⟨b,o,none⟩,N,cap⟩:EV)) :: (List.range N).flatMap ys := by
   obtain ⟨t1,ht1⟩ := hpre
   obtain ⟨t2,ht2⟩ := flat_to ys hi
   refine ⟨t1 ++ t2,?_⟩
   rw [← ht2,← ht1]
   simp
  have hzs:W.heap.size ≤ Z.heap.size := by omega
  obtain ⟨fn,tmps,assign,body,hy,hR⟩ := hY (m - 1) _ _ Z hp2 z1 hzs
  simp only [encN,EV.cs] at hy
  gi_wp2
  refine RoundIn.mono (F := F.inRound l2) hR ?_
  clear hR hy
  rintro e Z2 (⟨rfl,hj3,hk3⟩ | ⟨rfl,hj3,hk3⟩)
  ·gi_wp2
   refine ⟨⟨by rw [← List.append_assoc]; exact hj3,fun k hk => (hk3.block k (by have := hS k hk; omega) (.inl hk)).trans (z2 k hk),(hk3.block _ (by omega) (.inr (Nat.le_refl _))).trans z3,fun D hD => (hk3.block D (by have := hDz D hD; omega) (.inr (hDs D hD).1)).trans (z4 D hD)⟩,hk3.os,hk3.tape,hk3.output,hk3.size,fun k hk h => hk3.block k hk ?_⟩
   rcases h with (h | h | h) | h
   ·exact .inl h
   ·exact .inr (by omega)
   ·exact .inr (by omega)
   ·exact .inr (by omega)
  ·gi_wp2
   refine ⟨⟨by rw [← List.append_assoc]; exact hj3,fun D hD => (hk3.block D (by have := hDz D hD; omega) (.inr (hDs D hD).1)).trans (z4 D hD)⟩,hk3.os,hk3.tape,hk3.output,hk3.size,fun k hk h => hk3.block k hk ?_⟩
   rcases h with (h | h | h) | h
   ·exact .inl h
   ·exact .inr (by omega)
   ·exact .inr (by omega)
   ·exact .inr (by omega)
 case done =>
  rintro D Z hD ⟨z1,z2,z3,z4⟩ hk
  have hw:wrap64 ((i:Int)+1) = ((i+1:Nat):Int) := IntWalk.wrap64_in _ (by unfold maxLen at hNm; omega)
  gi_wp2
  rw [hw]
  clear hw
  refine ⟨⟨i+1,.pointer (some ⟨w'.heap.size,0,none⟩),.bool true,.pointer (some ⟨b,o + i * 5,none⟩),.agg #[.int .i64 op',.string c',.slice tp' tn' tc',.string fc',.slice rp' rn' rc'],.agg #[.int .i64 op',.string c',.slice tp' tn' tc',.string fc',.slice rp' rn' rc'],.int .i64 lv,.int .i64 (wrap64 (lv+1)),.func (.func 134) #[] #[.pointer (some ⟨w'.heap.size+1+1,0,none⟩),.pointer (some ⟨w'.heap.size+1,0,none⟩)],.int .i64 ((i+1:Nat):Int),D :: Ds,?eq,?le,?j,z2,z3,?ds,?nd⟩,?lt⟩
  case lt => exact left_lt N i hi
  case eq => rfl
  case le => exact hi
  case j => rw [flat_succ]; exact z1
  case ds =>
   intro E hE
   rcases List.mem_cons.1 hE with rfl | hE
   ·exact ⟨Nat.le_trans (Nat.le_of_lt hbz) (Nat.le_trans hB0.size hD),hk⟩
   ·exact ⟨(hDs E hE).1,z4 E hE⟩
  case nd =>
   rw [List.nodup_cons]
   exact ⟨fun h => Nat.lt_irrefl _ (Nat.lt_of_lt_of_le (hDz D h) (Nat.le_trans hB0.size hD)),hnd⟩
 case stop =>
  rintro D pre Z hD hpre ⟨z1,z2⟩ hk
  gi_wp2
  refine leaves_marks (B := W.heap.size) (Ds := D :: Ds) (J := Jx (((lv,x0,⟨op,c,tp,tn,tc,fc,some ⟨b,o,none⟩,N,cap⟩) :: (List.range i).flatMap ys) ++ pre)) (hJx _) (fun W' hj => ⟨_,results_none rfl _ _ _,⟨_,rfl⟩,.inr ⟨_,?_,hj⟩⟩) Z (fun E hE => ?_) ?_ z1
  ·rcases List.mem_cons.1 hE with rfl | hE
   ·exact ⟨by omega,hk⟩
   ·exact ⟨(hDs E hE).1,z2 E hE⟩
  ·rw [List.nodup_cons]
   exact ⟨fun h => by have := hDz D h; omega,hnd⟩
  ·obtain ⟨t1,ht1⟩ := hpre
   obtain ⟨t2,ht2⟩ := flat_to ys hi
   refine ⟨t1 ++ t2,?_⟩
   rw [← ht2,← ht1]
   simp
end Go.Proofs.Tryz
namespace Go.Proofs.Tryz
open Go Go.RowKit Go.Shelf Go.Pi
variable [Hole]
def argsV:PV → PV
 | .agg [_,_,_,_,ar] => ar
 | _ => .nil
def preo:Nat → Int → PV → List (Int × PV)
 | 0,_,_ => []
 | d+1,lv,x => (lv,x) :: (els (argsV x)).flatMap (preo d (wrap64 (lv+1)))
theorem sl_form {w:World} {I:Nat → Prop} {v:PV} {x:Value} (h:PRep w I v x) (hv:v = .nil ∨ ∃ es,v = .slice es):∃ p c,x = .slice p (els v).length c := by
 rcases hv with rfl | ⟨es,rfl⟩
 ·cases h; exact ⟨none,0,rfl⟩
 ·cases h with
  | empty a c => exact ⟨a,c,rfl⟩
  | slice es sz b o cap xs h0 hu hI hc hx hl h => exact ⟨_,cap,rfl⟩
theorem ex_form {w:World} {I:Nat → Prop} {op:Int} {c fc:List UInt8} {ts ar:PV} {v:Value} (h:PRep w I (.agg [.int .i64 op,.str (ba c),ts,.str (ba fc),ar]) v) (hts:ts = .nil ∨ ∃ es,ts = .slice es) (har:ar = .nil ∨ ∃ es,ar = .slice es) :
  ∃ tp tc rp rc,v = .agg (EV.cs ⟨op,ba c,tp,(els ts).length,tc,ba fc,rp,(els ar).length,rc⟩) ∧ PRep w I ar (.slice rp (els ar).length rc) := by
 cases h with
 | agg cs xs hl h =>
  obtain ⟨a,b,c',d,e,rfl⟩:∃ a b c d e,xs = [a,b,c,d,e] := by
   match xs,hl with
   | [a,b,c,d,e],_ => exact ⟨a,b,c,d,e,rfl⟩
  have h0 := h 0 _ _ rfl rfl
  have h1 := h 1 _ _ rfl rfl
  have h2 := h 2 _ _ rfl rfl
  have h3 := h 3 _ _ rfl rfl
  have h4 := h 4 _ _ rfl rfl
  obtain ⟨tp,tc,rfl⟩ := sl_form h2 hts
  obtain ⟨rp,rc,rfl⟩ := sl_form h4 har
  cases h0
  cases h1
  cases h3
  exact ⟨tp,tc,rp,rc,rfl,h4⟩
theorem exp_form {d:Nat} {x:PV} (h:IsExp d x):∃ d' op c ts fc ar,d = d'+1 ∧ x = .agg [.int .i64 op,.str (ba c),ts,.str (ba fc),ar] ∧ c.length ≤ maxLen ∧ fc.length ≤ maxLen ∧ Lst IsTerm ts ∧ Lst (IsExp d') ar ∧ (els ar).length ≤ maxLen := by
 cases d with
 | zero => exact h.elim
 | succ d' =>
  obtain ⟨op,c,ts,fc,ar,h1,h2⟩ := h
  exact ⟨d',op,c,ts,fc,ar,rfl,h1,h2⟩
theorem flat_range {α β:Type} (l:List α) (f:α → List β) (g:Nat → List β) (h:∀ i (hi:i < l.length),g i = f l[i]):(List.range l.length).flatMap g = l.flatMap f := by
 rw [List.flatMap_def,List.flatMap_def]
 congr 1
 refine List.ext_getElem (by simp) fun i h1 h2 => ?_
 simp only [List.length_map,List.length_range] at h1
 simp [h i h1]
def ItAt (w0:World) (I:Nat → Prop) (lv:Int) (e:EV) (xs:List Nd):Prop :=
 ∀ (W:World) (bx bl:Nat) (S:Nat → Prop),(∀ k,I k → S k) → S bx → S bl → (∀ k,S k → k < W.heap.size) → (∀ k,I k → W.heap[k]? = w0.heap[k]?) → W.heap[bx]? = some (.cells e.cs 100 (0,0)) → W.heap[bl]? = some (.cells #[.int .i64 lv] 3 (0,0)) →
  ItOk Fence.wide prog 134 #[.pointer (some ⟨bl,0,none⟩),.pointer (some ⟨bx,0,none⟩)] encN S xs W
theorem it_tree {w0:World} {I:Nat → Prop}:∀ (d:Nat) (lv:Int) (x:PV) (v:Value),IsExp d x → PRep w0 I x v →
  ∃ (e:EV) (xs:List Nd),v = .agg e.cs ∧ xs.map (fun t => (t.1,t.2.1)) = preo d lv x ∧ (∀ t ∈ xs,PRep w0 I t.2.1 (.agg t.2.2.cs) ∧ ∃ d',IsExp d' t.2.1) ∧ ItAt w0 I lv e xs
 | 0,lv,x,v,h,_ => h.elim
 | d+1,lv,x,v,h,hp => by
  have hx0 := h
  obtain ⟨op,c,ts,fc,ar,rfl,hc,hfc,hts,har,hal⟩ := h
  have hp0 := hp
  obtain ⟨tp,tc,rp,rc,rfl,hpa⟩ := ex_form hp hts.form har.form
  have el:∀ i,∃ (ys:List Nd),i < (els ar).length → ∃ (b o:Nat) (e:EV) (xe:PV),rp = some ⟨b,o,none⟩ ∧ I b ∧ (els ar)[i]? = some xe ∧ (∀ j y,e.cs[j]? = some y → w0.cell? ⟨b,o + i * 5 + j,none⟩ = some y) ∧ ys.map (fun t => (t.1,t.2.1)) = preo d (wrap64 (lv+1)) xe ∧ (∀ t ∈ ys,PRep w0 I t.2.1 (.agg t.2.2.cs) ∧ ∃ d',IsExp d' t.2.1) ∧ ItAt w0 I (wrap64 (lv+1)) e ys := by
   intro i
   by_cases hi:i < (els ar).length
   case neg => exact ⟨[],fun h => absurd h hi⟩
   obtain ⟨es,xe,rfl,g1,g2⟩ := har.at hi
   generalize hrn:(els (PV.slice es)).length = rn at hpa
   cases hpa with
   | empty a c =>
    simp [els_slice] at hi
   | slice es sz b o cap xs h0 hu hI hcp hx hl hrep =>
    have hsz:sz = 5 := by
     rw [← hu xe (List.mem_of_getElem? g1)]
     obtain ⟨_,op',c',ts',fc',ar',_,e1,_⟩ := exp_form g2
     rw [e1]
     rfl
    subst hsz
    obtain ⟨_,op',c',ts',fc',ar',_,e1,_⟩ := exp_form g2
    have cell:∀ j y,xe.cells[j]? = some y → ∃ z,xs[i * 5 + j]? = some z ∧ PRep w0 I y z := fun j y hj => by
     have hf := flat_get hu g1 hj
     have hlt:i * 5 + j < xs.length := by rw [hl]; exact (List.getElem?_eq_some_iff.1 hf).1
     exact ⟨_,List.getElem?_eq_getElem hlt,hrep _ _ _ hf (List.getElem?_eq_getElem hlt)⟩
    subst e1
    obtain ⟨z0,y0,r0⟩ := cell 0 _ rfl
    obtain ⟨z1,y1,r1⟩ := cell 1 _ rfl
    obtain ⟨z2,y2,r2⟩ := cell 2 _ rfl
    obtain ⟨z3,y3,r3⟩ := cell 3 _ rfl
    obtain ⟨z4,y4,r4⟩ := cell 4 _ rfl
    have hv:PRep w0 I (.agg [.int .i64 op',.str (ba c'),ts',.str (ba fc'),ar']) (.agg [z0,z1,z2,z3,z4].toArray) := by
     refine .agg _ _ rfl fun k a b ha hb => ?_
     match k,ha,hb with
     | 0,ha,hb => cases ha; cases hb; exact r0
     | 1,ha,hb => cases ha; cases hb; exact r1
     | 2,ha,hb => cases ha; cases hb; exact r2
     | 3,ha,hb => cases ha; cases hb; exact r3
     | 4,ha,hb => cases ha; cases hb; exact r4
    obtain ⟨e,ys,he,hm,hall,hit⟩ := it_tree d (wrap64 (lv+1)) _ _ g2 hv
    refine ⟨ys,fun _ => ⟨b,o,e,_,rfl,hI,g1,fun j y hj => ?_,hm,hall,hit⟩⟩
    have hcs:e.cs = [z0,z1,z2,z3,z4].toArray := by simpa using he.symm
    rw [hcs] at hj
    have:xs[i * 5 + j]? = some y := by
     match j,hj with
     | 0,hj => cases hj; exact y0
     | 1,hj => cases hj; exact y1
     | 2,hj => cases hj; exact y2
     | 3,hj => cases hj; exact y3
     | 4,hj => cases hj; exact y4
    have := hx _ _ this
    rwa [← Nat.add_assoc] at this
  obtain ⟨ys,hys⟩ := Classical.axiomOfChoice el
  obtain ⟨e0,he0⟩:∃ e0:EV,e0 = ⟨op,ba c,tp,(els ts).length,tc,ba fc,rp,(els ar).length,rc⟩ := ⟨_,rfl⟩
  refine ⟨e0,(lv,.agg [.int .i64 op,.str (ba c),ts,.str (ba fc),ar],e0) :: (List.range (els ar).length).flatMap ys,by rw [he0],?_,?_,?_⟩
  ·rw [List.map_cons,List.map_flatMap]
   show _ :: _ = (lv,_) :: (els ar).flatMap (preo d (wrap64 (lv+1)))
   congr 1
   refine flat_range _ _ _ fun i hi => ?_
   obtain ⟨b,o,e,xe,_,_,g1,_,hm,_⟩ := hys i hi
   rw [List.getElem?_eq_getElem hi] at g1
   cases g1
   exact hm
  ·intro t ht
   rcases List.mem_cons.1 ht with rfl | ht
   ·exact ⟨by rw [he0]; exact hp0,d+1,hx0⟩
   ·obtain ⟨i,hi,ht⟩ := List.mem_flatMap.1 ht
    obtain ⟨b,o,e,xe,_,_,_,_,_,hall,_⟩ := hys i (List.mem_range.1 hi)
    exact hall t ht
  ·intro W bx bl S hIS hSx hSl hSz hk hx hl n l J Jx hJ hJx hY h0
   subst he0
   refine it_step Fence.wide rfl rfl (fun _ => trivial) hal hSz hSx hSl hx hl ys (fun i hi => ?_) _ rfl _ n l J Jx hJ hJx hY h0
   obtain ⟨b,o,e,xe,e1,hb,g1,hc5,hm,hall,hit⟩ := hys i hi
   have hcell:∀ k,W.cell? ⟨b,k,none⟩ = w0.cell? ⟨b,k,none⟩ := fun k => World.cell?_of_block (hk b hb)
   obtain ⟨op',c',tp',tn',tc',fc',rp',rn',rc'⟩ := e
   refine ⟨b,o,op',c',tp',tn',tc',fc',rp',rn',rc',e1,hIS b hb,(hcell _).trans (hc5 0 _ rfl),(hcell _).trans (hc5 1 _ rfl),(hcell _).trans (hc5 2 _ rfl),(hcell _).trans (hc5 3 _ rfl),(hcell _).trans (hc5 4 _ rfl),fun W' bx' bl' h1 h2 h3 h4 h5 => ?_⟩
   refine hit W' bx' bl' _ (fun k hk => .inl (hIS k hk)) (.inr (.inl rfl)) (.inr (.inr rfl)) (fun k hk => ?_) (fun k hk' => (h5 k (hIS k hk')).trans (hk k hk')) h3 h4
   rcases hk with hk | rfl | rfl
   ·have := h5 k hk
    rw [Array.getElem?_eq_getElem (hSz k hk)] at this
    exact (Array.getElem?_eq_some_iff.1 this).1
   ·exact (Array.getElem?_eq_some_iff.1 h3).1
   ·exact (Array.getElem?_eq_some_iff.1 h4).1
end Go.Proofs.Tryz
namespace Go.Proofs.Tryz
open Go Go.RowKit Go.Shelf Go.Pi
variable [Hole] {G:Nat → Option PV}
attribute [local go_sem] Oper.semAt_some
def nodeC (n:Nat) (x:PV) (e:Int):Prop := ∃ op c ts fc ar,x = .agg [.int .i64 op,.str (ba c),ts,.str (ba fc),ar] ∧ (e = 0 → op = 0 → (els ar).length = 0 ∧ FormSaid n c ts)
open Classical in
noncomputable def nodeE (G:Nat → Option PV) (n:Nat) (x:PV):Int := if h:∃ e:Int,Pi.Sum prog G 101 (oneRow [x,.int .i64 (n:Int)] (.int .i64 e)) ∧ nodeC n x e then h.choose else 0
theorem nodeE_ok (rl:ReadLib G) (lib:LongLib G) {n:Nat} (hn:n ≤ 64) {d:Nat} {x:PV} (hx:IsExp d x):Pi.Sum prog G 101 (oneRow [x,.int .i64 (n:Int)] (.int .i64 (nodeE G n x))) ∧ nodeC n x (nodeE G n x) := by
 have h:∃ e:Int,Pi.Sum prog G 101 (oneRow [x,.int .i64 (n:Int)] (.int .i64 e)) ∧ nodeC n x e := by
  obtain ⟨d',op,c,ts,fc,ar,_,rfl,hc,hfc,hts,har,_⟩ := exp_form hx
  obtain ⟨r,⟨e,rfl,he⟩,hs⟩ := node_ok rl lib hn hc hfc hts (har.mono fun _ _ => trivial)
  exact ⟨e,hs,op,c,ts,fc,ar,rfl,he⟩
 unfold nodeE
 rw [dif_pos h]
 exact h.choose_spec
noncomputable def ckL (G:Nat → Option PV) (n:Nat):Nat → List (Int × PV) → Int
 | _,[] => 0
 | c,(lv,x) :: r => if c = 64 then 6 else if 8 < lv then 15 else if nodeE G n x ≠ 0 then nodeE G n x else ckL G n (c+1) r
def passL (G:Nat → Option PV) (n:Nat):Nat → List (Int × PV) → Prop
 | _,[] => True
 | c,(lv,x) :: r => c ≠ 64 ∧ ¬ 8 < lv ∧ nodeE G n x = 0 ∧ passL G n (c+1) r
theorem ckL_app {n:Nat}:∀ {c:Nat} {l:List (Int × PV)} (r:List (Int × PV)),passL G n c l → ckL G n c (l ++ r) = ckL G n (c + l.length) r
 | c,[],r,_ => rfl
 | c,(lv,x) :: l,r,h => by
  obtain ⟨h1,h2,h3,h4⟩ := h
  rw [List.cons_append,ckL,if_neg h1,if_neg h2,if_neg (by simp [h3]),ckL_app r h4,List.length_cons]
  congr 1
  omega
theorem passL_app {n:Nat}:∀ {c:Nat} {l:List (Int × PV)} {lv:Int} {x:PV},passL G n c l → c + l.length ≠ 64 → ¬ 8 < lv → nodeE G n x = 0 → passL G n c (l ++ [(lv,x)])
 | c,[],lv,x,_,h1,h2,h3 => ⟨by simpa using h1,h2,h3,trivial⟩
 | c,(lv',x') :: l,lv,x,h,h1,h2,h3 => by
  obtain ⟨g1,g2,g3,g4⟩ := h
  exact ⟨g1,g2,g3,passL_app g4 (by simp only [List.length_cons] at h1; omega) h2 h3⟩
theorem passL_len {n:Nat}:∀ {c:Nat} {l:List (Int × PV)},passL G n c l → c ≤ 64 → c + l.length ≤ 64
 | c,[],_,h => by simpa using h
 | c,(lv,x) :: l,h,hc => by
  have := passL_len h.2.2.2 (by have := h.1; omega)
  simp only [List.length_cons]
  omega
abbrev prj (l:List Nd):List (Int × PV) := l.map fun t => (t.1,t.2.1)
theorem allocs_below:∀ (os:List Obj) (w:World),Below w.heap.size w (os.foldl World.alloc w) ∧ (os.foldl World.alloc w).heap.size = w.heap.size + os.length
 | [],w => ⟨Below.refl _ _,rfl⟩
 | o :: os,w => by
  obtain ⟨h1,h2⟩ := allocs_below os (w.alloc o)
  refine ⟨((Below.refl _ w).alloc (Nat.le_refl _) o).trans (h1.mono (by simp)),?_⟩
  rw [List.foldl_cons,h2]
  simp only [World.size_alloc,List.length_cons]
  omega
theorem allocs_at:∀ (os:List Obj) (w:World) (k:Nat) (o:Obj),os[k]? = some o → (os.foldl World.alloc w).heap[w.heap.size + k]? = some o
 | [],_,_,_,h => by simp at h
 | o' :: os,w,0,_,h => by
  cases h
  rw [List.foldl_cons,Nat.add_zero,(allocs_below os (w.alloc o')).1.block _ (by simp)]
  exact World.alloc_heap_new w o'
 | o' :: os,w,k+1,o,h => by
  have := allocs_at os (w.alloc o') k o h
  rw [World.size_alloc] at this
  rw [List.foldl_cons,show w.heap.size + (k+1) = w.heap.size+1 + k by omega]
  exact this
theorem checkExpr_calls (rl:ReadLib G) (lib:LongLib G) {n:Nat} (hn:n ≤ 64) {d:Nat} {x:PV} (hx:IsExp d x) {w:World} {I:Nat → Prop} {v:Value} (hI:∀ b,I b → b < w.heap.size) (hG:GlobOk G w I) (hv:PRep w I x v) :
  Calls prog 65 #[v,.int .i64 (n:Int)] w fun e w' => e = .returned (.int .i64 (ckL G n 0 (preo d 1 x))) ∧ Below w.heap.size w w' := by
 obtain ⟨ev,xs,rfl,hmap,hall,hit⟩ := it_tree d 1 x v hx hv
 refine (callsIn_wide (n := 0)).1 ?_
 refine callsIn_of_wp_marks func65 rfl trivial ?_ rfl
 simp only [ntmps65,List.size_toArray,List.length_cons,List.length_nil,Nat.reduceAdd,Nat.reduceSub,Array.replicate_succ,Array.replicate_zero,List.push_toArray,List.append_toArray,List.nil_append,List.cons_append]
 rw [← hmap]
 clear hmap
 obtain ⟨op,c,tp,tn,tc,fc,rp,rn,rc⟩ := ev
 dsimp only [EV.cs]
 have hn0:¬ (n:Int) < 0 := by omega
 have hn1:¬ (64:Int) < n := by omega
 gi_wp2
 refine ⟨trivial,rfl,?_⟩
 refine (nodes_in Fence.wide 0 trivial rfl _ _ _).mono ?_
 rintro e w2 ⟨rfl,rfl⟩
 gi_wp2
 obtain ⟨W0,hW0⟩:∃ W0,W0 = (((((w.alloc (.cells #[.int .i64 op,.string c,.slice tp tn tc,.string fc,.slice rp rn rc] 100)).alloc (.cells #[.int .i64 (n:Int)] 3)).alloc (.cells #[.int .i64 0] 35)).alloc (.cells #[.int .i64 0] 3)).alloc (.cells #[.int .i64 op,.string c,.slice tp tn tc,.string fc,.slice rp rn rc] 100)).alloc (.cells #[.int .i64 1] 3) := ⟨_,rfl⟩
 have hW0':W0 = [Obj.cells #[.int .i64 op,.string c,.slice tp tn tc,.string fc,.slice rp rn rc] 100,.cells #[.int .i64 (n:Int)] 3,.cells #[.int .i64 0] 35,.cells #[.int .i64 0] 3,.cells #[.int .i64 op,.string c,.slice tp tn tc,.string fc,.slice rp rn rc] 100,.cells #[.int .i64 1] 3].foldl World.alloc w := hW0
 rw [← hW0]
 clear hW0
 obtain ⟨hB0,hz0⟩ := allocs_below [Obj.cells #[.int .i64 op,.string c,.slice tp tn tc,.string fc,.slice rp rn rc] 100,.cells #[.int .i64 (n:Int)] 3,.cells #[.int .i64 0] 35,.cells #[.int .i64 0] 3,.cells #[.int .i64 op,.string c,.slice tp tn tc,.string fc,.slice rp rn rc] 100,.cells #[.int .i64 1] 3] w
 have bk := allocs_at [Obj.cells #[.int .i64 op,.string c,.slice tp tn tc,.string fc,.slice rp rn rc] 100,.cells #[.int .i64 (n:Int)] 3,.cells #[.int .i64 0] 35,.cells #[.int .i64 0] 3,.cells #[.int .i64 op,.string c,.slice tp tn tc,.string fc,.slice rp rn rc] 100,.cells #[.int .i64 1] 3] w
 rw [← hW0'] at hB0 hz0 bk
 clear hW0'
 have b1 := bk 1 _ rfl
 have b2 := bk 2 _ rfl
 have b3 := bk 3 _ rfl
 have b4 := bk 4 _ rfl
 have b5 := bk 5 _ rfl
 clear bk
 simp only [List.length_cons,List.length_nil,Nat.reduceAdd] at hz0
 refine range_one rfl rfl (gf := 134) (lb := #[.pointer (some ⟨w.heap.size + 5,0,none⟩),.pointer (some ⟨w.heap.size + 4,0,none⟩)]) rfl trivial (enters_of func134 (by kernel_rfl) rfl) (encs := encN) (S := fun k => I k ∨ k = w.heap.size + 4 ∨ k = w.heap.size + 5) (xs := xs)
  (fun W1 hW => hit W1 _ _ _ (fun k hk => .inl hk) (.inr (.inl rfl)) (.inr (.inr rfl)) (fun k hk => by have := hW.size; rcases hk with hk | hk | hk; (have := hI k hk; omega); omega; omega) (fun k hk => (hW.block k (by have := hI k hk; omega)).trans (hB0.block k (hI k hk))) ((hW.block _ (by omega)).trans b4) ((hW.block _ (by omega)).trans b5))
  (fun k hk => by rcases hk with hk | hk | hk; (have := hI k hk; omega); omega; omega) (fun _ => rfl)
  (fun pre Z => Below w.heap.size w Z ∧ passL G n 0 (prj pre) ∧ Z.heap[w.heap.size+1]? = some (.cells #[.int .i64 (n:Int)] 3 (0,0)) ∧ (∃ z,Z.heap[w.heap.size + 2]? = some (.cells #[.int .i64 z] 35 (0,0))) ∧ Z.heap[w.heap.size + 3]? = some (.cells #[.int .i64 (pre.length:Int)] 3 (0,0)))
  (fun pre Z => Below w.heap.size w Z ∧ ∃ e,Z.heap[w.heap.size + 2]? = some (.cells #[.int .i64 e] 35 (0,0)) ∧ ∀ r,ckL G n 0 (prj pre ++ r) = e)
  (fun pre X Y h hb2 => ⟨h.1.trans (hb2.mono (by omega)),h.2.1,(hb2.block _ (by omega)).trans h.2.2.1,by obtain ⟨z,hz⟩ := h.2.2.2.1; exact ⟨z,(hb2.block _ (by omega)).trans hz⟩,(hb2.block _ (by omega)).trans h.2.2.2.2⟩)
  (fun pre X Y h hb2 => ⟨h.1.trans (hb2.mono (by omega)),by obtain ⟨e,h1,h2⟩ := h.2; exact ⟨e,(hb2.block _ (by omega)).trans h1,h2⟩⟩)
  ⟨hB0,trivial,b1,⟨0,b2⟩,b3⟩
  (fun l2 x a' Z => ∃ bb,l2 < bb ∧ Z.heap[bb]? = some (.cells x.2.2.cs 100 (0,0)) ∧ a' = { tmps := #[.agg #[.int .i64 op,.string c,.slice tp tn tc,.string fc,.slice rp rn rc],.int .i64 (n:Int),.pointer (some ⟨w.heap.size,0,none⟩),.pointer (some ⟨w.heap.size+1,0,none⟩),.pointer (some ⟨w.heap.size+1+1,0,none⟩),.pointer (some ⟨w.heap.size+1+1+1,0,none⟩),.int .i64 x.1,.pointer (some ⟨bb,0,none⟩),undef,.int .i64 (n:Int),.bool false,.bool false,.int .i64 (n:Int),.bool false,.bool false,.agg #[.int .i64 op,.string c,.slice tp tn tc,.string fc,.slice rp rn rc],.func (.func 134) #[] #[.pointer (some ⟨w.heap.size + 5,0,none⟩),.pointer (some ⟨w.heap.size + 4,0,none⟩)],.int .i64 x.1,.agg x.2.2.cs,undef,undef,undef,undef,undef,undef,undef,undef,undef,undef,undef,undef],defers := [] })
  (fun l2 x a' Z ob h => by obtain ⟨bb,e1,e2,e3⟩ := h; exact ⟨bb,e1,(World.putObj_heap_other (by omega)).trans e2,e3⟩)
  ?assign ?body ?done ?stop
 case assign =>
  rintro m l2 ⟨xl,xp,xe⟩ Z K hlt hK
  obtain ⟨op2,c2,tp2,tn2,tc2,fc2,rp2,rn2,rc2⟩ := xe
  gi_wp2
  exact hK _ _ ((Below.refl _ Z).alloc (Nat.le_refl _) _) ⟨Z.heap.size,hlt,World.alloc_heap_new Z _,rfl⟩
 case body =>
  rintro m l2 pre ⟨xl,xp,xe⟩ a' Z hl1 hl2 hpre ⟨hB,hp,c1,⟨z,c2⟩,c3⟩ ⟨bb,e1,e2,rfl⟩
  have hmem:(xl,xp,xe) ∈ xs := hpre.subset (List.mem_append_right _ (List.mem_singleton.2 rfl))
  obtain ⟨hrep,d',hexp⟩ := hall _ hmem
  have hnode := nodeE_ok (G := G) rl lib hn hexp
  obtain ⟨op2,c2',tp2,tn2,tc2,fc2,rp2,rn2,rc2⟩ := xe
  dsimp only [EV.cs] at e2 hrep ⊢
  have x1:Boxed Z (w.heap.size+1) 3 (.int .i64 (n:Int)) := c1
  have x2:Boxed Z (w.heap.size+1+1) 35 (.int .i64 z) := c2
  have x3:Boxed Z (w.heap.size+1+1+1) 3 (.int .i64 (pre.length:Int)) := c3
  have q1 := x1.cell
  have q2 := x2.cell
  have f2 := x2.frozen
  have q3 := x3.cell
  have f3 := x3.frozen
  have d0 := cells_block e2 0
  have d1 := cells_block e2 1
  have d2 := cells_block e2 2
  have d3 := cells_block e2 3
  have d4 := cells_block e2 4
  have hpl := passL_len hp (Nat.zero_le _)
  have hsz := hB.size
  have stop:∀ {e:Int} {Y:World},Below Z.heap.size Z Y → (∃ z,Y.heap[w.heap.size+1+1]? = some (.cells #[.int .i64 z] 35 (0,0))) → (∀ r,ckL G n (0 + (prj pre).length) ((xl,xp) :: r) = e) →
    (Below w.heap.size w (Y.setCell ⟨w.heap.size+1+1,0,none⟩ (.int .i64 e)) ∧ ∃ e',(Y.setCell ⟨w.heap.size+1+1,0,none⟩ (.int .i64 e)).heap[w.heap.size + 2]? = some (.cells #[.int .i64 e'] 35 (0,0)) ∧ ∀ r,ckL G n 0 (prj (pre ++ [(xl,xp,(⟨op2,c2',tp2,tn2,tc2,fc2,rp2,rn2,rc2⟩:EV))]) ++ r) = e') ∧
    Keeps2 (fun k => I k ∨ k = w.heap.size + 4 ∨ k = w.heap.size + 5) (w.heap.size + 6) Z (Y.setCell ⟨w.heap.size+1+1,0,none⟩ (.int .i64 e)) := fun {e Y} hY ⟨z',hz'⟩ hck => by
   have hz2:Boxed Y (w.heap.size+1+1) 35 (.int .i64 z') := hz'
   refine ⟨⟨(hB.trans (hY.mono (by omega))).setCell (p := ⟨w.heap.size+1+1,0,none⟩) (by simp; omega) _,e,hz2.set _,fun r => ?_⟩,hY.os,hY.tape,hY.output,?_,fun k hk hs => ?_⟩
   ·rw [show prj (pre ++ [(xl,xp,(⟨op2,c2',tp2,tn2,tc2,fc2,rp2,rn2,rc2⟩:EV))]) ++ r = prj pre ++ ((xl,xp) :: r) by simp [prj],ckL_app _ hp]
    exact hck r
   ·have := hY.size
    simp only [World.setCell,Array.size_modify]
    exact this
   ·rw [Below.heap_setCell]
    ·exact hY.block k hk
    ·show k ≠ w.heap.size+1+1
     rcases hs with (h | h | h) | h
     ·have := hI k h; omega
     ·omega
     ·omega
     ·omega
  have hprj:(prj pre).length = pre.length := by simp [prj]
  by_cases h64:pre.length = 64
  ·have h64':((pre.length:Int) == 64) = true := by rw [beq_iff_eq]; omega
   gi_wp2
   exact stop (Below.refl _ _) ⟨z,x2⟩ fun r => by rw [ckL,if_pos (by omega)]
  have h64':((pre.length:Int) == 64) = false := by rw [beq_eq_false_iff_ne]; omega
  by_cases h8:8 < xl
  ·gi_wp2
   exact stop (Below.refl _ _) ⟨z,x2⟩ fun r => by rw [ckL,if_neg (by omega),if_pos h8]
  have hcall := hnode.1.2 [xp,.int .i64 (n:Int)] (.int .i64 (nodeE G n xp)) (by simp [oneRow]) Z I [.agg #[.int .i64 op2,.string c2',.slice tp2 tn2 tc2,.string fc2,.slice rp2 rn2 rc2],.int .i64 (n:Int)] (fun b hb => by have := hI b hb; omega) (hG.mono (fun b hb => hB.block b (hI b hb)) fun _ h => h) (.cons (hrep.mono (fun b hb => hB.block b (hI b hb)) fun _ h => h) (.cons (.int _ _) .nil))
  gi_wp2
  refine ⟨trivial,(fun h => by cases h),?_⟩
  refine (CallsIn.inRound l2 (callsIn_wide.2 hcall)).mono ?_
  rintro e Y ⟨y,I',rfl,hY,_,_,hpy⟩
  cases hpy
  clear hcall
  have y2:Boxed Y (w.heap.size+1+1) 35 (.int .i64 z) := (hY.block _ (by omega)).trans x2
  have y3:Boxed Y (w.heap.size+1+1+1) 3 (.int .i64 (pre.length:Int)) := (hY.block _ (by omega)).trans x3
  have g2 := y2.cell
  have g2f := y2.frozen
  have g3 := y3.cell
  have g3f := y3.frozen
  clear q1 q2 q3 f2 f3 d0 d1 d2 d3 d4
  have hYs := hY.size
  have hBY:Below w.heap.size w Y := hB.trans (hY.mono (by omega))
  have hBY3:Below w.heap.size w (Y.setCell ⟨w.heap.size+1+1+1,0,none⟩ (.int .i64 ((pre.length:Int)+1))) := hBY.setCell (p := ⟨w.heap.size+1+1+1,0,none⟩) (by simp; omega) _
  have yk1 := (hY.block _ (by omega)).trans c1
  have y3s:(Y.setCell ⟨w.heap.size+1+1+1,0,none⟩ (.int .i64 ((pre.length:Int)+1))).heap[w.heap.size + 3]? = some (.cells #[.int .i64 ((pre.length:Int)+1)] 3 (0,0)) := y3.set (.int .i64 ((pre.length:Int)+1))
  have hn4:(prj pre).length ≠ 64 := by omega
  have hne:∀ k,((I k ∨ k = w.heap.size + 4 ∨ k = w.heap.size + 5) ∨ w.heap.size + 6 ≤ k) → k ≠ w.heap.size+1+1+1 := fun k hs => by
   rcases hs with (h | h | h) | h
   ·have := hI k h; omega
   ·omega
   ·omega
   ·omega
  by_cases he:nodeE G n xp = 0
  ·rw [he]
   clear stop hit hall hnode hrep
   gi_wp2
   refine ⟨⟨hBY3,?_,?_,⟨z,?_⟩,?_⟩,hY.os,hY.tape,hY.output,?_,fun k hk hs => ?_⟩
   ·rw [show prj (pre ++ [(xl,xp,(⟨op2,c2',tp2,tn2,tc2,fc2,rp2,rn2,rc2⟩:EV))]) = prj pre ++ [(xl,xp)] by simp [prj]]
    exact passL_app hp (by rw [Nat.zero_add]; exact hn4) (Int.not_lt.2 h8) he
   ·rw [Below.heap_setCell _ _ _ _ (by simp)]
    exact yk1
   ·rw [Below.heap_setCell _ _ _ _ (by simp)]
    exact y2
   ·rw [y3s]
    simp
   ·simp only [World.setCell,Array.size_modify]
    exact hYs
   ·rw [Below.heap_setCell]
    ·exact hY.block k hk
    ·exact hne k (by rw [hz0] at hs; exact hs)
  have he':(nodeE G n xp != 0) = true := by simpa using he
  gi_wp2
  rw [hz0]
  exact stop hY ⟨z,y2⟩ fun r => by rw [ckL,if_neg (by rw [Nat.zero_add]; exact hn4),if_neg (Int.not_lt.2 h8),if_pos he]
 case done =>
  rintro D Z hD ⟨hB,hp,c1,⟨z,c2⟩,c3⟩ hk
  have x2:Boxed Z (w.heap.size+1+1) 35 (.int .i64 z) := c2
  have q2 := x2.cell
  have f2 := x2.frozen
  have hDn:D ≠ w.heap.size+1+1 := by omega
  have hDB:w.heap.size ≤ D := by omega
  have hck:ckL G n 0 (prj xs) = 0 := by
   have := ckL_app (G := G) (n := n) [] hp
   rw [List.append_nil] at this
   rw [this,ckL]
  have hBs:Below w.heap.size w (Z.setCell ⟨w.heap.size+1+1,0,none⟩ (.int .i64 0)) := hB.setCell (p := ⟨w.heap.size+1+1,0,none⟩) (by simp; omega) _
  have hb1:w.heap.size ≤ w.heap.size+1+1 := by omega
  gi_wp2
  refine leaves_marks (B := w.heap.size + 3) (J := fun W' => Below w.heap.size w W' ∧ Boxed W' (w.heap.size+1+1) 35 (.int .i64 0)) (fun X Y h hb => ⟨h.1.trans (hb.mono (Nat.le_add_right _ _)),(hb.block _ (Nat.lt_succ_self _)).trans h.2⟩) (fun X h => ?_) [D] _ (fun E hE => ?_) (by simp) ⟨hBs,x2.set _⟩
  ·have hc := h.2.cell
   refine ⟨.int .i64 0,by simp [results,Tryz.f65,go_sem,hc],?_,h.1⟩
   show Ending.returned _ = Ending.returned (.int .i64 (ckL G n 0 (prj xs)))
   rw [hck]
  ·rw [List.mem_singleton.1 hE]
   refine ⟨?_,?_⟩
   ·rw [hz0] at hD
    omega
   ·rw [Below.heap_setCell _ _ _ _ hDn]
    exact hk
 case stop =>
  rintro D pre Z hD hpre ⟨hB,e,c2,hck⟩ hk
  have x2:Boxed Z (w.heap.size+1+1) 35 (.int .i64 e) := c2
  have hckx:ckL G n 0 (prj xs) = e := by
   obtain ⟨t,rfl⟩ := hpre
   have := hck (prj t)
   rwa [show prj pre ++ prj t = prj (pre ++ t) by simp [prj]] at this
  gi_wp2
  refine leaves_marks (B := w.heap.size + 3) (J := fun W' => Below w.heap.size w W' ∧ Boxed W' (w.heap.size+1+1) 35 (.int .i64 e)) (fun X Y h hb => ⟨h.1.trans (hb.mono (Nat.le_add_right _ _)),(hb.block _ (Nat.lt_succ_self _)).trans h.2⟩) (fun X h => ?_) [D] _ (fun E hE => ?_) (by simp) ⟨hB,x2⟩
  ·have hc := h.2.cell
   refine ⟨.int .i64 e,by simp [results,Tryz.f65,go_sem,hc],?_,h.1⟩
   show Ending.returned _ = Ending.returned (.int .i64 (ckL G n 0 (prj xs)))
   rw [hckx]
  ·rw [List.mem_singleton.1 hE]
   refine ⟨?_,hk⟩
   rw [hz0] at hD
   omega
theorem preo_head {d:Nat} {lv:Int} {x:PV} (h:IsExp d x):∃ r,preo d lv x = (lv,x) :: r := by
 cases d with
 | zero => exact h.elim
 | succ d => exact ⟨_,rfl⟩
theorem exprLib (rl:ReadLib G) (lib:LongLib G):ExprLib G where
 expr {n op c fc ts ar d} hn hx := by
  have he:Pi.Enters prog 65 := enters_B (by kernel_rfl)
  refine ⟨.int .i64 (ckL G n 0 (preo d 1 (.agg [.int .i64 op,.str (ba c),ts,.str (ba fc),ar]))),⟨_,rfl,fun h0 hop => ?_⟩,he,fun vs r hr w I xs hI hG ha => ?_⟩
  ·obtain ⟨r,hr⟩ := preo_head (lv := 1) hx
   rw [hr,ckL,if_neg (by decide),if_neg (by decide)] at h0
   have hz:nodeE G n (.agg [.int .i64 op,.str (ba c),ts,.str (ba fc),ar]) = 0 := by
    by_cases hne:nodeE G n (.agg [.int .i64 op,.str (ba c),ts,.str (ba fc),ar]) = 0
    ·exact hne
    ·rw [if_pos hne] at h0
     exact absurd h0 hne
   obtain ⟨op',c',ts',fc',ar',e,h⟩ := (nodeE_ok (G := G) rl lib hn hx).2
   simp only [PV.agg.injEq,List.cons.injEq,PV.int.injEq,PV.str.injEq,true_and,and_true] at e
   obtain ⟨rfl,e1,rfl,_,rfl⟩ := e
   have e2:c = c' := by rw [← ba_list c,e1,ba_list]
   subst e2
   exact h hz hop
  ·unfold oneRow at hr
   split at hr
   case isFalse => cases hr
   rename_i e
   subst e
   cases hr
   obtain ⟨v,ys,rfl,h1,h2⟩ := ha.cons_inv
   obtain ⟨y,zs,rfl,h3,h4⟩ := h2.cons_inv
   cases h3
   rw [h4.nil_inv]
   refine (checkExpr_calls rl lib hn hx hI hG h1).mono ?_
   rintro e w' ⟨rfl,hB⟩
   exact ⟨_,I,rfl,hB,fun b h => h,fun b h => ⟨Nat.lt_of_lt_of_le (hI b h) hB.size,.inl h⟩,.int _ _⟩
end Go.Proofs.Tryz
