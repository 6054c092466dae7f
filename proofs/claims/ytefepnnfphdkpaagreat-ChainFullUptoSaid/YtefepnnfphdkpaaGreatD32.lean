/- ChainFull: a part of its proof; conditions: its statement's. -/
import Derived.Test.YtefepnnfphdkpaaGreatD31
import Derived.Test.YtefepnnfphdkpaaGreatD12
import Derived.Test.YtefepnnfphdkpaaGreatD16
import Derived.RangeFuncLeaves
set_option linter.defProp false
namespace Go.Proofs.YtefepnnfphdkpaaGreat.Am
open Go
def ET:=@Tryz.func31
def pq : List Nat:=((List.replicate 375 0).set 0 1).set 0 3
theorem EU {j:Nat}: bt pq j=decide (j<2):=by
 unfold bt pq
 by_cases h:j/8=0
 ·have e:(((List.replicate 375 0).set 0 1).set 0 3).getD (j/8) 0=3:=by rw [h]; decide +kernel
  have k:∀i,i<8→(3:Nat).testBit i=decide (i<2):=by decide
  rw [e,k _ (by omega)]
  by_cases I:j<2
  ·rw [cZ I,cZ (by omega)]
  ·rw [dm I,dm (by omega)]
 ·have e:(((List.replicate 375 0).set 0 1).set 0 3).getD (j/8) 0=0:=by
   rw [dN,fZ (by omega),fZ (by omega),List.getElem?_replicate]
   split <;> rfl
  rw [e,Nat.zero_testBit,dm (by omega)]
section
variable {told:cz} {h:H} {S:List aq} {N B K M a p q r bf:Nat} {data:List Nat} {ε:aF}
theorem Lt (hB:B≤800)(eB:EI N B ε)(hN:4≤N)(CF:N≤1000)(hz:(pgA ε 0).length=512)(hg:bV (pgA ε 0)=false)(hd:sk K M ε)(hf:K+520*N+28≤M)(s:Sat h (SA a p q r .cO data bf ε::S)):
  ∃v h2,(∃N0,∀n,N0≤n→toldDefer CB n 31 [.ptr a 0] h=some (v,h2))∧(v=.int .i64 0∧∃ε',EI N (B+2) ε'∧eR N (List.replicate 64 0) pq (pgA ε')∧sk (K+520*N+28) M ε'∧Sat h2 (SA a p q r .cO data bf ε'::S)):=by
 have I:=W.base
 refine ER (C:=CB) ET rfl rfl (of_decide_eq_true (by kernel_rfl)) ?_
 refine fc.seq (fc.of_wp rfl (zr rfl (za rfl (zv (fc.seq (fc.of_wp rfl (zr rfl (zm rfl (zo rfl (l7 rfl (ko nP rfl)) (zc rfl (CY I (EG I (by omega)) eB (by omega) hz hg s) ?_))))))))))
 rintro v h ⟨kY,rfl,kO,gi,s⟩
 have hd:=hd.sm gi
 have s:Sat h (dR a p q r .cO data bf::dQ r p q kY.1::cf q p kY.2.1::bz p kY.2.2::S):=cR.1 s
 refine zk 5 rfl (zv (fc.seq (fc.of_wp rfl (WP.block (zg rfl (zm rfl (zh rfl (ag rfl rfl aI) (rfl) (za rfl (zv (zj rfl (zg rfl (zk 2 rfl (zv (zj rfl (WP.skip (fc.seq (fc.of_wp rfl (zr rfl (zm rfl (zc rfl (M9 I s) ?_))))))))))))))))))))
 rintro v h' ⟨rfl,rfl⟩
 refine zc rfl (yG I (s.ae [3])) ?_
 rintro v h' ⟨rfl,rfl⟩
 rw [kO.ec.dk.bh]
 refine za rfl (zv (fc.seq (fc.of_wp rfl (zr rfl (zm rfl (zc rfl (rK I (n:=N) (by omega) (by omega)) ?_))))))
 rintro v h' ⟨rfl,rfl⟩
 refine za rfl (zv (fc.seq (fc.of_wp rfl (zr rfl (zm rfl (zc rfl (Cv I s) ?_))))))
 rintro v h ⟨g,rfl,s⟩
 refine zk 5 rfl (zv (fc.seq (fc.seq (fc.of_wp rfl (zr rfl (zm rfl (zh rfl (ag rfl rfl aI) (rfl) (zv (fc.of_wp rfl (zj rfl (WP.skip (fc.seq (fc.defer rfl rfl rfl rfl rfl rfl rfl rfl rfl rfl rfl rfl (fc.seq (fc.seq (fc.of_wp rfl (zr rfl (zk 2 rfl (zb rfl (by exact bp (aA (by omega) (by omega))) ?_)))))))))))))))))))
 refine zh rfl (ag rfl rfl aR) (by simp; omega) ?_
 have s:Sat h (GA g a p q r data bf [] kY::S):=cR.2 s
 refine zv (fc.of_wp rfl (zj rfl (WP.skip (fc.seq (fc.seq (fc.of_wp rfl (WP.drawn [some (0,5),some (0,4),ak,ak,ak,ak,ak,ak] rfl (by kernel_rfl) (by kernel_rfl) ?_)))))))
 refine zM rfl (zM rfl (aB.any rfl rfl rfl rfl (OpR.call rfl rfl rfl rfl (Ew I s)) ?_))
 intro mv h s
 refine aB.any rfl rfl rfl rfl (OpR.Ao rfl s rfl rfl rfl rfl (by decide)) ?_
 intro U6 h s
 have s:=s.gS
 have SB:(List.replicate 64 0).length=64:=eT
 have hm:=(s.aG (k:=1) rfl (c8 _ _)).cells
 have U7:=(s.aG (k:=0) rfl (c8 _ _)).cells
 obtain ⟨cv,h1,e1,s1⟩:=Qo (P:=Tryz.prog) (x:=mv) (y:=U6) s gm oz kI rfl hm.1 U7.1 hm.2 U7.2
 refine aB.any rfl rfl rfl rfl (OpR.of (R:=fun v h'=>v=cv∧h'=h1) (kg rfl e1) ⟨rfl,rfl⟩) ?_
 rintro cv h ⟨rfl,rfl⟩
 have s:=(s1.ae [2,1]).two (C:=each (fun v c=>.cy v c) [mv,U6] [fO,List.replicate 64 0]) (aQ.cy _ _) (aQ.cy _ _) fun a b q1 q2=>⟨q1,q2,aa⟩
 generalize hR:List.replicate 64 0=R at s SB
 refine aB.any rfl rfl rfl rfl (OpR.call rfl rfl rfl rfl (Hl (kd:=201) (lk:=N) I (by decide) (by omega) (by simp only [tot,fO,aN,bG,SB]; decide) rfl s)) ?_
 rintro u h ⟨b0,vg,s⟩
 refine aB.any rfl rfl rfl rfl (OpR.call rfl rfl rfl rfl (xL (i:=0) I (by omega) kO (NW.nil N) (by omega) (s.ae [1,0]) (bj _ _) vg)) ?_
 rintro v h ⟨iI,rfl,jW,gu,nY,s⟩
 have hd:=hd.sm gu
 refine zA rfl ?_
 refine aB.nil ⟨⟨fun _ _=>.inr ⟨rfl,⟨_,b8 rfl⟩,bP _ rfl⟩,fun _ _=>.inr ⟨rfl,⟨_,b8 rfl⟩,bP _ rfl⟩,aa,aa,aa,aa,aa,aa,aa⟩,?_⟩
 refine fc.seq (fc.of_wp rfl (zr rfl (zm rfl (zh rfl (ag rfl rfl aI) (rfl) (zv (fc.of_wp rfl (zj rfl (WP.skip (fc.seq (fc.seq (fc.of_wp rfl (zr rfl (za rfl (zv (fc.of_wp rfl (WP.block (WP.loop (zw (zg rfl (zk 2 rfl (zt rfl (ag rfl rfl aR) (by decide) ?_)))))))))))))))))))))
 refine zv (zi rfl (WP.skip (zw (WP.block (zg rfl (az.any rfl rfl rfl (OpR.Ao rfl s rfl rfl rfl rfl (by decide)) ?_))))))
 intro mk h s
 have J:(List.replicate 375 0).length=375:=eT
 have rO:(List.replicate 375 0)[0]?=some 0:=by decide +kernel
 have v7:pq.length=375:=by unfold pq; rw [cq,cq,J]
 have SC:pq=((List.replicate 375 0).set 0 1).set 0 3:=rfl
 have wB:∀j,bt pq j=decide (j<2):=fun j=>EU
 generalize pq=M0 at v7 SC wB ⊢
 generalize List.replicate 375 0=Z at s J rO SC
 obtain ⟨id,off,e2,e3⟩:=dI (s.buf (k:=0) rfl).view rO
 obtain ⟨Ll,Wo,e4,h4,e5,s2⟩:=kR s (i:=0) (b:=1) (by omega) (by decide)
 have ee:V.ptr id off=V.ptr Ll Wo:=by rw [e2] at e4; exact bE e4
 rw [←ee] at e5
 refine zk 8 rfl (WP.block (WP.loop (zg rfl (zt rfl (ag rfl rfl aR) (by decide) ?_))))
 refine zk 5 rfl (WP.block (zK 8 rfl (zo rfl (ag (r:=.int .i64 0) rfl rfl (by kernel_rfl)) ?_)))
 refine zm rfl (zb rfl (by exact jj (aA (by omega) (by omega))) ?_)
 refine zt rfl (ag rfl rfl e_) (by decide) ?_
 refine zk 2 rfl (WP.drawn [ak,ak,ak,ak,ak,ak,ak,ak,ak,ak,ak,ak] rfl (by kernel_rfl) (by kernel_rfl) ?_)
 refine zM rfl (zM rfl (zO rfl (ag (r:=.int .i64 0) rfl rfl (by kernel_rfl)) ?_))
 refine zO rfl (ag (r:=.int .i64 0) rfl rfl (by kernel_rfl)) ?_
 refine zO rfl (cn (r:=.ptr id off) rfl rfl e2) (zL rfl e3 (zM rfl (zO rfl (ag (r:=.int .i64 0) rfl rfl (by kernel_rfl)) ?_)))
 refine zO rfl (ag (r:=.int .u8 1) rfl rfl (by kernel_rfl)) ?_
 refine zO rfl (ag (r:=.int .u8 1) rfl rfl (by kernel_rfl)) ?_
 refine zO rfl (cn (r:=.ptr id off) rfl rfl e2) (aB.ki rfl rfl rfl (OpR.tF rfl rfl rfl (⟨h4,e5,s2⟩)) ?_)
 rintro w h ⟨rfl,s⟩
 refine aB.nil ⟨⟨aa,aa,aa,aa,aa,aa,aa,aa,aa,aa,aa,aa,aa⟩,?_⟩
 have vo:(Z.set 0 1)[0]?=some 1:=gW (by omega)
 have Ay:(Z.set 0 1).length=375:=by rw [cq,J]
 obtain ⟨SD,Nv,e6,e7⟩:=dI (s.buf (k:=0) rfl).view vo
 obtain ⟨Yr,Wp,e8,h7,e9,s3⟩:=kR s (i:=0) (b:=3) (by omega) (by decide)
 have ee:V.ptr SD Nv=V.ptr Yr Wp:=by rw [e6] at e8; exact bE e8
 rw [←ee] at e9
 refine zr rfl (zb rfl (by exact bp (aA (by omega) (by omega))) ?_)
 refine zm rfl (zv (WP.loop (zg rfl (zt rfl (ag rfl rfl aR) (by decide) ?_))))
 refine zk 5 rfl (WP.block (zK 8 rfl (zo rfl (ag (r:=.int .i64 0) rfl rfl (by kernel_rfl)) ?_)))
 refine zm rfl (zb rfl (by exact jj (aA (by omega) (by omega))) ?_)
 refine zt rfl (ag rfl rfl e_) (by decide) ?_
 refine zk 2 rfl (WP.drawn [ak,ak,ak,ak,ak,ak,ak,ak,ak,ak,ak,ak] rfl (by kernel_rfl) (by kernel_rfl) ?_)
 refine zM rfl (zM rfl (zO rfl (ag (r:=.int .i64 1) rfl rfl (by kernel_rfl)) ?_))
 refine zO rfl (ag (r:=.int .i64 0) rfl rfl (by kernel_rfl)) ?_
 refine zO rfl (cn (r:=.ptr SD Nv) rfl rfl e6) (zL rfl e7 (zM rfl (zO rfl (ag (r:=.int .i64 1) rfl rfl (by kernel_rfl)) ?_)))
 refine zO rfl (ag (r:=.int .u8 2) rfl rfl (by kernel_rfl)) ?_
 refine zO rfl (ag (r:=.int .u8 3) rfl rfl (by kernel_rfl)) ?_
 refine zO rfl (cn (r:=.ptr SD Nv) rfl rfl e6) (aB.ki rfl rfl rfl (OpR.tF rfl rfl rfl (⟨h7,e9,s3⟩)) ?_)
 rintro w h ⟨rfl,s⟩
 refine aB.nil ⟨⟨aa,aa,aa,aa,aa,aa,aa,aa,aa,aa,aa,aa,aa⟩,?_⟩
 rw [←SC] at s
 refine zr rfl (zb rfl (by exact bp (aA (by omega) (by omega))) ?_)
 refine zm rfl (zv (WP.loop (zg rfl (zh rfl (ag rfl rfl aR) (by decide) ?_))))
 refine zk 3 rfl (WP.exit (zK 5 rfl ?_))
 have s:=s.gS
 have OK:=(s.aG (k:=0) rfl (c8 _ _)).cells
 obtain ⟨U8,h8,Ys,s4⟩:=ku (P:=Tryz.prog) (k:=1) (x:=mk) s gm oz kI rfl (by decide) (by decide) (by rw [OK.1]; rfl) (by rw [OK.1]; simp only [iB,i_,OK.2]; rfl)
 rw [OK.1] at s4
 refine az.any rfl rfl rfl (OpR.of (R:=fun v h'=>v=U8∧h'=h8) (kg rfl Ys) ⟨rfl,rfl⟩) ?_
 rintro U8 h ⟨rfl,rfl⟩
 have s:=(s4.ae [1]).hU (B:=each (fun v c=>.cy v c) [mk] [M0]) fun a b q=>⟨q,aa⟩
 dsimp only [aZ,bringA] at s
 refine zc rfl (Hl (kd:=202) (lk:=0) I (by decide) (by decide) (by simp only [tot,aN,bG,v7]; decide) rfl s) ?_
 rintro u h ⟨b1,qP,s⟩
 refine zc rfl (xL (i:=1) I (by omega) jW nY (by omega) (s.ae [1,0]) (bj _ _) qP) ?_
 rintro v h ⟨u7,rfl,o_,pn,pT,s⟩
 dsimp only [aZ,bringA] at s
 have hd:=hd.sm pn
 refine za rfl (zv (zg rfl (zm rfl (zh rfl (ag rfl rfl aI) (rfl) (zv (zj rfl (WP.skip (zr rfl (zm rfl (zb rfl (by exact bp (aA (by omega) (by omega))) ?_))))))))))
 refine zk 2 rfl (WP.loop (zK 5 rfl (zh rfl (ag rfl rfl aR) (by decide) ?_)))
 refine zk 2 rfl (WP.exit (fc.seq (fc.of_wp rfl (zK 2 rfl (zo rfl (cM rfl (uI (kd:=1))) (zc rfl (yW (kd:=1) I (by omega) o_ pT (by omega) (by decide) (by decide) hd hf s) ?_))))))
 rintro v h ⟨aP,Wq,rfl,SE,nO,U9,s⟩
 have Ev:eR N R M0 (dh (dc ((1:Nat):Int) b1 (dc ((0:Nat):Int) b0 [])) u7):=by
  refine ⟨⟨0,?_⟩,SB,⟨202,0,0,?_⟩,v7,by omega,by omega,fun j hj=>by rw [wB,cZ hj],fun j hj=>by rw [wB,dm (by omega)]⟩
  ·rw [g_,ai (by decide),g_,ax (by decide)]; exact vg
  ·rw [g_,ax (by decide)]; exact qP
 refine zk 4 rfl (zv (fc.seq (fc.of_wp rfl (zr rfl (zk 2 rfl (zv (fc.of_wp rfl (WP.ret ?_))))))))
 have s:=s.ae [1]
 have s:=cR.1 s
 have s:=s.ae [4]
 obtain ⟨v2,h2,Cf,rfl,s⟩:=IK I s
 have s:=s.ae [1,1,1,1]
 have s:Sat h2 (SA a p q r .cO data bf Wq::_):=cR.2 s
 have Ss:mH 33=none:=I.free _ rfl
 exact ⟨aa,h2,_,FX (C:=CB) Ss Eg rfl rfl Cf,BE rfl,rfl,Wq,SE,Ev.done pT nO,U9,((s.del 3).del 2).del 1⟩
end
end Go.Proofs.YtefepnnfphdkpaaGreat.Am
namespace Go.Proofs.YtefepnnfphdkpaaGreat.Am
open Go Go.RowKit
def rangeParts : Code→Option (Code×Code×Nat×Operand×Array Tmp×Code×Code×Code)
 | .seq a (.seq (.seq b (.block id (.rangeFunc x ps lS bd))) t)=>some (a,b,id,x,ps,lS,bd,t)
 | _=>none
noncomputable def toldRange (C:b9)(n:Nat)(f:FuncId)(args:List V)(h:H): Option (V×H):=match C.P.funcs[f]? with
 | none=>none
 | some fn=>match fn.body with
  | none=>none
  | some code=>cond (Nat.blt fn.ntmps args.length) none (match rangeParts code with
   | none=>none
   | some (a,b,_,x,ps,lS,bd,t)=>match tD C n a ⟨bindArgs args 0 .lf,fn.ntmps,h⟩ with
    | some (.normal,HG)=>match tD C n b HG with
     | some (.normal,I)=>match evO I.env x with
      | some (.fn (.func g) [] cap)=>match callF C (tD C n) g (.u_ I.h.next::cap) (I.h.new (.loop false I.au I.env ps.toList lS bd)) with
       | some (_,J)=>match T.get J.tr I.h.next with
        | some (.loop false _ _ _ _ _)=>match tD C n t ⟨I.env,I.au,J.put I.h.next none⟩ with
         | some (.normal,s) | some (.ret,s)=>match mapO (resV C.P s) fn.results.toList with
          | some [v]=>some (v,s.h)
          | some vs=>some (.aX vs,s.h)
          | none=>none
         | _=>none
        | _=>none
       | none=>none
      | _=>none
     | _=>none
    | _=>none)
section
variable {c:Ctx} {σ:H} {w:World}
theorem Rel.other {b:Nat}{o:Go.Obj}(h:Rel c σ w)(hb:∀id,id<c.N→(c.ρ id).1≠b): Rel c σ (w.putObj b o):=by
 have get:∀i,(w.putObj b o).heap[i]?=if b=i∧b<w.heap.size then some o else w.heap[i]?:=fun i=>by
  simp only [World.putObj,ju]
  by_cases J:b=i
  ·subst J
   by_cases I:b<w.heap.size
   ·simp [I]
   ·simp [I,Array.getElem?_eq_none (oa I)]
  ·simp [J]
 have same:∀id,id<c.N→(w.putObj b o).heap[(c.ρ id).1]?=w.heap[(c.ρ id).1]?:=fun id hi=>by
  rw [get]
  simp [ja (hb id hi)]
 have rows:∀id,id<c.N→rowSize (w.putObj b o) (c.ρ id).1=rowSize w (c.ρ id).1:=fun id hi=>by unfold rowSize; rw [same id hi]
 exact ⟨h.next,h.live,fun id hi=>by simpa [World.putObj] using h.jr id hi,fun id hi=>by rw [rows id hi]; exact h.zz id hi,h.inj,
  fun id o ho=>(h.obj id o ho).later (Ext.refl c) (h.live id o ho) (same id (h.live id o ho)),h.one,h.fx⟩
theorem Rel.endLoop {id:Nat}{busy:Bool}{au:Nat}{env:Env}{ps:List Nat}{lS bd:Code}{r:Loop}(h:Rel c σ w)(hg:σ.tr.get id=some (.loop busy au env ps lS bd)):
  Rel c (σ.put id none) (w.putObj (c.ρ id).1 (.loop r))∧b7 c w c (w.putObj (c.ρ id).1 (.loop r)):=by
 obtain ⟨fn,tmps,D,hb,_⟩:=h.obj id _ hg
 have aY:(c.ρ id).1<w.heap.size:=(Array.getElem?_eq_some_iff.1 hb).1
 have get:∀i,(w.putObj (c.ρ id).1 (.loop r)).heap[i]?=if (c.ρ id).1=i then some (.loop r) else w.heap[i]?:=fun i=>by
  simp only [World.putObj,ju,aY,bB]
 have rows:∀i,rowSize (w.putObj (c.ρ id).1 (.loop r)) i=rowSize w i:=fun i=>by
  unfold rowSize
  rw [get]
  by_cases hi:(c.ρ id).1=i
  ·subst hi; simp [hb]
  ·simp [hi]
 have I:=h.kill id
 have hX:=h.tW hg (by intro _ _ he; cases he)
 refine ⟨⟨I.next,I.live,fun j hj=>by simpa [World.putObj] using I.jr j hj,fun j hj=>by rw [rows]; exact I.zz j hj,I.inj,fun j o hj => ?_,I.one,I.fx⟩,
  ⟨Ext.refl c,by simp [World.putObj],fun b _=>rows b,fun b _ hn => ?_,fun j h1 h2=>by omega,rfl,rfl⟩⟩
 ·refine (I.obj j o hj).later (Ext.refl c) (I.live j o hj) ?_
  have J:=hj
  rw [cj] at J
  by_cases pO:j=id
  ·simp [pO] at J
  ·simp [pO] at J
   have dw:(c.ρ id).1≠(c.ρ j).1:=fun he=>pO (h.sq J hg he.symm hX)
   rw [get]
   simp [dw]
 ·rw [get]
  have:(c.ρ id).1≠b:=fun he=>by have:=hn id (h.live id _ hg) he; rw [hX] at this; cases this
  simp [this]
theorem b7.Ho {c':Ctx}{w':World}{b:Nat}(h:b7 c w c' w')(I:b<w.heap.size)(J:∀id,id<c.N→(c.ρ id).1≠b): (∀id,id<c'.N→(c'.ρ id).1≠b)∧w'.heap[b]?=w.heap[b]?:=by
 refine ⟨fun id hi he => ?_,h.kU b I fun id hi he=>absurd he (J id hi)⟩
 by_cases h1:id<c.N
 ·rw [h.ext.ρ id h1] at he; exact J id h1 he
 ·rcases h.fresh id (by omega) hi with h2 | ⟨j,hj,h2,_⟩
  ·omega
  ·exact J j hj (by rw [h2,he])
theorem b7.SF {c':Ctx}{w':World}{b:Nat}{o:Go.Obj}(h:b7 c w c' w')(J:w.heap.size≤b): b7 c w c' (w'.putObj b o):=by
 have get:∀i,i<w.heap.size→(w'.putObj b o).heap[i]?=w'.heap[i]?:=fun i hi=>World.putObj_heap_other (by omega)
 exact ⟨h.ext,by simpa [World.putObj] using h.size,fun i hi=>by rw [←h.rows i hi]; unfold rowSize; rw [get i hi],fun i hi I=>by rw [get i hi]; exact h.kU i hi I,h.fresh,h.sys⟩
end
section
variable {C:b9} {c:Ctx} {σ:H} {w:World}
theorem c7.defers {env:Env}{n:Nat}{a:Act}(h:c7 c env n a)(ds:List Deferred): c7 c env n { a with defers:=ds }:=⟨h.size,h.val,h.uM⟩
theorem EV (hm:C.P.follows .mixedOrders=true)(hT:fA C){n:Nat}{f:FuncId}{args:List V}{v:V}{dU:H}(hr:toldRange C n f args σ=some (v,dU))(h:Rel c σ w)(hw:∀x∈args,wf c x):
  gw C.P f args c w v dU:=by
 have hS:=(Dx (C:=C) hm hT n).1
 unfold toldRange at hr
 rw [qZ] at hr
 split at hr
 ·cases hr
 ·rename_i fn hf
  split at hr
  ·cases hr
  ·rename_i code hb
   cases hq:Nat.blt fn.ntmps args.length with
   | true=>rw [hq] at hr; cases hr
   | false =>
    rw [hq,ay] at hr
    have hle:args.length≤fn.ntmps:=by
     rcases iD fn.ntmps args.length with h' | h'
     ·rw [fK.2 h'] at hq; cases hq
     ·exact h'
    have nu:=lB (c:=c) hle hw
    split at hr
    ·cases hr
    ·rename_i pa pb pid px SG lS SH pt wD
     have Ua:code=.seq pa (.seq (.seq pb (.block pid (.rangeFunc px SG lS SH))) pt):=by
      unfold rangeParts at wD
      split at wD
      ·simp only [aj,aC] at wD
       obtain ⟨rfl,rfl,rfl,rfl,rfl,rfl,rfl,rfl⟩:=wD
       rfl
      ·cases wD
     split at hr
     ·rename_i HG Q0
      split at hr
      ·rename_i J Q1
       split at hr
       ·rename_i g cap hx
        split at hr
        ·rename_i y TW Ir
         split at hr
         ·rename_i aaa aab U_ Va Vb OL
          have tail:∀ex s,ev C n pt ⟨J.env,J.au,TW.put J.h.next none⟩=some (ex,s)→(ex=.normal∨ex=.ret) →
            (match mapO (resV C.P s) fn.results.toList with
             | some [v]=>some (v,s.h)
             | some vs=>some (.aX vs,s.h)
             | none=>none)=some (v,dU)→gw C.P f args c w v dU:=by
           intro ex s jK hex qW
           unfold gw
           refine (callsIn_wide (n:=0)).1 (callsIn_of_wp_marks (F:=Fence.wide) hf hb aa ?_ rfl)
           rw [Ua]
           refine wpIn_seq (wpIn_mono (hS pa _ .normal HG Q0 none c _ w h nu) ?_)
           rintro e Dn u6 ⟨rfl,Un,c₁,Q2,Q3,kz⟩
           refine wpIn_seq (wpIn_seq (wpIn_mono (hS pb _ .normal J Q1 none c₁ Dn u6 Q2 Q3) ?_))
           rintro e CS I ⟨rfl,Up,c₂,O_,Jv,Jw⟩
           have Ws:CS.defers=[]:=by rw [Up,Un]
           obtain ⟨SI,kB⟩:=vc Jv hx
           have ud:∀z∈cap,wf c₂ z:=by
            have:ej c₂ []∧ej c₂ cap:=by simpa [wf] using kB
            exact eU.1 this.2
           have hN:J.h.next=c₂.N:=O_.next
           -- the two blocks of the loop
           obtain ⟨rA,iw⟩:=O_.below (w':=I.alloc (.deferred (some []))) ((Below.refl _ I).alloc (aD _) _)
           have Yt:(I.alloc (.deferred (some []))).heap[I.heap.size]?=some (.deferred (some [])):=World.alloc_heap_new I _
           have Wt:∀id,id<c₂.N→(c₂.ρ id).1≠I.heap.size:=fun id hi he=>absurd (O_.jr id hi) (by omega)
           refine wpIn_block (wpIn_rangeFunc (fun Vc _ => ?_))
           obtain ⟨O,hO⟩:∃O:Go.Obj,O=.loop { state:=.ready,pending:=none,fn:=Vc,tmps:=CS.tmps,params:=SG,assign:=lS,body:=SH,defers:=I.heap.size }:=⟨_,rfl⟩
           have Wu:(I.alloc (.deferred (some []))).heap.size=I.heap.size+1:=World.size_alloc _ _
           have NS:objSize O=0:=by rw [hO]; rfl
           have eG:=yx rA 0 (objSize O)
           obtain ⟨rB,Vd⟩:=rA.new (.loop false J.au J.env SG.toList lS SH) O 0 rfl (by
            refine ⟨Vc,CS.tmps,I.heap.size,?_,Jv.size,fun t => ?_,fun t=>(bM eG _ (Jv.uM t)).2⟩
            ·rw [aT,hO]
             exact World.alloc_heap_new _ _
            ·rw [Jv.val t,(bM eG _ (Jv.uM t)).1])
           obtain ⟨cB,SJ⟩:∃cB,cB=c₂.grow (I.alloc (.deferred (some []))).heap.size 0 (objSize O):=⟨_,rfl⟩
           rw [←SJ] at rB Vd eG
           have SK:cB.ρ c₂.N=(I.heap.size+1,0):=by rw [SJ,aT,Wu]
           have hNB:cB.N=c₂.N+1:=by rw [SJ]; rfl
           obtain ⟨kc,Yu⟩:=ou hS.wide hT Ir rB (by
            intro z hz
            rcases List.mem_cons.1 hz with rfl | hz
            ·simp only [wf]; omega
            ·exact (bM eG _ (ud z hz)).2)
           refine ⟨I.heap.size+1,[{ target:=.collected I.heap.size,args := #[] }],(I.alloc (.deferred (some []))).alloc O,{ target:=.fn (.func g) (cap.map (conc c₂)).toArray,args := #[.func (.yield (I.heap.size+1)) #[] #[]] },(I.alloc (.deferred (some []))).alloc O,g,
            #[.func (.yield (I.heap.size+1)) #[] #[]]++(cap.map (conc c₂)).toArray,(I.alloc (.deferred (some []))).alloc O,?_,?_,fun _ _=>trivial,?_,?_,?_⟩
           ·rw [hO]; exact run_enterLoop_outer _ _ _ _ _
           ·have ke:CS.eval px=.func (.func g) #[] (cap.map (conc c₂)).toArray:=by rw [SI]; simp [conc,eM]
            simp only [resolve,rangeCall,ke]
            simp [go_sem,Act.eval]
           ·simp [invoke,go_sem,Yu]
           ·intro hd; exact absurd hd (by decide)
           ·have xD:((V.u_ J.h.next::cap).map (conc cB)).toArray = #[.func (.yield (I.heap.size+1)) #[] #[]]++(cap.map (conc c₂)).toArray:=by
             apply gN
             simp only [cu,conc,hN,SK,(j8 eG ud).1]
             simp
            unfold gw at kc
            rw [xD] at kc
            refine Dm (r:=none) (Calls.mono kc ?_)
            rintro e Yv ⟨SL,rfl,_,Wv,SM⟩
            rw [hN] at OL
            have Zx:c₂.N<SL.N:=Wv.live _ _ OL
            have Ve:SL.ρ c₂.N=(I.heap.size+1,0):=by rw [SM.ext.ρ c₂.N (by omega),SK]
            obtain ⟨Vf,OM,Yw,Vg,_⟩:=Wv.obj c₂.N _ OL
            rw [Ve] at Vg
            refine ⟨none,_,run_endLoop Vg (by simp),?_⟩
            obtain ⟨Ww,SN⟩:=Wv.endLoop (r:={ state:=.exhausted,pending:=none,fn:=Vf,tmps:=OM,params:=U_.toArray,assign:=Va,body:=Vb,defers:=Yw }) OL
            rw [Ve] at Ww SN
            obtain ⟨Nw,SO⟩:∃Nw,Nw=Yv.putObj (I.heap.size+1) (.loop { state:=.exhausted,pending:=none,fn:=Vf,tmps:=OM,params:=U_.toArray,assign:=Va,body:=Vb,defers:=Yw }):=⟨_,rfl⟩
            rw [←SO] at Ww SN
            -- all of it so far, pas one step
            have ON:b7 c₂ I SL Nw:=((iw.trans Vd).trans SM).trans SN
            -- the block for the rounds' deferred calls
            have nB:∀id,id<cB.N→(cB.ρ id).1≠I.heap.size:=fun id hi=>by
             by_cases h1:id<c₂.N
             ·rw [eG.ρ id h1]; exact Wt id h1
             ·have:id=c₂.N:=by omega
              rw [this,SK]; simp
            have Vh:((I.alloc (.deferred (some []))).alloc O).heap[I.heap.size]?=some (.deferred (some [])):=by
             rw [fE,ai (by omega)]; exact Yt
            have Wx:I.heap.size<((I.alloc (.deferred (some []))).alloc O).heap.size:=(Array.getElem?_eq_some_iff.1 Vh).1
            obtain ⟨Zy,Zz⟩:=SM.Ho Wx nB
            have Yx:Yv.heap[I.heap.size]?=some (.deferred (some [])):=Zz.trans Vh
            have Vi:Nw.heap[I.heap.size]?=some (.deferred (some [])):=by rw [SO]; exact (World.putObj_heap_other (by omega)).trans Yx
            have ZA:c7 SL J.env J.au { CS with defers:=[{ target:=.collected I.heap.size,args := #[] }]++CS.defers }:=(Jv.ext ON.ext).defers _
            suffices OO:pt.wpIn Fence.wide 0 C.P (bodyPostM Fence.wide 0 C.P fn fun e w'=>∃c',e=.returned (conc c' v)∧wf c' v∧Rel c' dU w'∧b7 c w c' w') { CS with defers:=[{ target:=.collected I.heap.size,args := #[] }]++CS.defers } Nw by
             rw [SO] at OO
             exact OO
            refine wpIn_mono (hS pt _ ex s jK none SL _ Nw (by rw [hN]; exact Ww) ZA) ?_
            rintro e Wy Ub ⟨rfl,Yy,Wz,ZB,ZC,Vj⟩
            have WA:Wy.defers=[{ target:=.collected I.heap.size,args := #[] }]:=by rw [Yy,Ws]; rfl
            have WB:I.heap.size<Nw.heap.size:=(Array.getElem?_eq_some_iff.1 Vi).1
            obtain ⟨ZD,ZE⟩:=Vj.Ho WB Zy
            have Yz:Ub.heap[I.heap.size]?=some (.deferred (some [])):=ZE.trans Vi
            have WD:Rel Wz s.h (Ub.putObj I.heap.size (.deferred none)):=ZB.other ZD
            have Ed:b7 c w Wz (Ub.putObj I.heap.size (.deferred none)):=(((kz.trans Jw).trans ON).trans Vj).SF (cg kz.size Jw.size)
            have fin:LeavesInM Fence.wide 0 C.P fn Wy.tmps (fun e w'=>∃c',e=.returned (conc c' v)∧wf c' v∧Rel c' dU w'∧b7 c w c' w') Wy.defers .returning Ub:=by
             rw [WA]
             refine ⟨by simp,.inl ⟨I.heap.size,_,rfl,run_takeDeferred Yz,?_⟩⟩
             cases JF:mapO (resV C.P s) fn.results.toList with
             | none=>simp [JF] at qW
             | some vs =>
              obtain ⟨q1,q2⟩:=ug WD ZC JF
              refine ⟨_,q1,Wz,?_⟩
              rw [JF] at qW
              split at qW
              ·rename_i v0 xZ
               simp only [aj] at xZ
               subst xZ
               simp only [aj,aC] at qW
               obtain ⟨rfl,rfl⟩:=qW
               exact ⟨by simp,q2 v0 (by simp),WD,Ed⟩
              ·rename_i vs' dw xZ
               simp only [aj] at xZ
               subst xZ
               simp only [aj,aC] at qW
               obtain ⟨rfl,rfl⟩:=qW
               refine ⟨?_,by simp only [wf,eU]; exact q2,WD,Ed⟩
               rw [dif_neg]
               ·simp [conc,eM]
               ·intro eA
                simp only [List.size_toArray,er] at eA
                obtain ⟨v0,rfl⟩:=List.length_eq_one_iff.1 eA
                exact dw v0 rfl
              ·cases qW
            rcases hex with rfl | rfl
            ·exact fin
            ·exact fin
          split at hr
          ·rename_i s jK
           exact tail .normal s jK (.inl rfl) hr
          ·rename_i s jK
           exact tail .ret s jK (.inr rfl) hr
          ·cases hr
         ·cases hr
        ·cases hr
       ·cases hr
      ·cases hr
     ·cases hr
end
end Go.Proofs.YtefepnnfphdkpaaGreat.Am
namespace Go.Proofs.YtefepnnfphdkpaaGreat.Am
open Go
section
variable {C:b9} {E:List (Nat×V)} {h:H} {o:Oper}
theorem OpR.yield {cl:Go.Call}{x:Operand}{id au:Nat}{env e:Env}{ps:List Nat}{lS bd:Code}{Ee:List (Nat×V)}{args:List V}{R:V→H→Prop}(J:o.op=.call cl)(hc:cl.callee=.value x)(hx:lookO E x=some (.u_ id))(ha:lookArgs E cl.args.toList=some args)
 (hg:T.get h.tr id=some (.loop false au env ps lS bd))(hb:bindPs au ps args env=some e)(he:iq e Ee)
 (hw:WP C au lS Ee h fun ex E1 h1=>ex=.normal∧T.get h1.tr id=some (.loop false au env ps lS bd)∧WP C au bd E1 (h1.put id (some (.loop true au env ps lS bd))) fun ex E2 h2=>ex=.normal∧T.get h2.tr id=some (.loop true au env ps lS bd)∧R (.bool true) (h2.put id (some (.loop false au env ps lS bd)))):
  OpR C E h o R:=by
 obtain ⟨N1,SI,I,h1,E1,a1,a2,rfl,a4,nY⟩:=hw e he
 obtain ⟨N2,kB,EP,h2,E2,b1,b2,rfl,b4,b5⟩:=nY I a2
 refine ⟨.bool true,_,b5,fun Nu hE=>⟨max N1 N2,?_⟩⟩
 have c1:=dY (C:=C) (mV N1 N2) _ _ _ a1
 have c2:=dY (C:=C) (mU N1 N2) _ _ _ b1
 simp only [evOp,J,evCall,jP hE ha,hc,bH hE hx,callV,roundV,hg,hb,c1,a4,c2,b4]
theorem EW {f:FuncId}{fn:Func}{code a b t lS bd:Code}{kD g:Nat}{x:Operand}{ps:Array Tmp}{args:List V}{R:V→H→Prop}(hf:C.P.funcs[f]?=some fn)(hb:fn.body=some code)(hl:Nat.blt fn.ntmps args.length=false)(hp:rangeParts code=some (a,b,kD,x,ps,lS,bd,t))
 (hw:WP C fn.ntmps a (argE args 0) h fun ex E1 h1=>ex=.normal∧WP C fn.ntmps b E1 h1 fun ex E2 h2=>ex=.normal∧∃cap,lookO E2 x=some (.fn (.func g) [] cap)∧∀env,iq env E2→∃u h3,iM C g (.u_ h2.next::cap) (h2.new (.loop false fn.ntmps env ps.toList lS bd)) u h3 ∧
   T.get h3.tr h2.next=some (.loop false fn.ntmps env ps.toList lS bd)∧WP C fn.ntmps t E2 (h3.put h2.next none) fun ex E4 h4=>(match ex with | .exit _=>False | _=>True)∧∃v,jZ C.P E4 h4 fn.results.toList=some v∧R v h4):
  ∃v h2,(∃N0,∀N,N0≤N→toldRange C N f args h=some (v,h2))∧R v h2:=by
 obtain ⟨N1,SI,WE,h1,E1,a1,a2,rfl,nY⟩:=hw _ (By args)
 obtain ⟨N2,kB,EP,h2,E2,b1,b2,rfl,cap,b4,pT⟩:=nY WE a2
 obtain ⟨u,h3,⟨N3,c1⟩,c2,YA⟩:=pT EP b2
 obtain ⟨N4,YB,SP,h4,E4,d1,d2,hx,v,I,hR⟩:=YA EP b2
 refine ⟨v,h4,⟨max (max N1 N2) (max N3 N4),fun N hN => ?_⟩,hR⟩
 have m1:=dY (C:=C) (show N1≤N by omega) _ _ _ a1
 have m2:=dY (C:=C) (show N2≤N by omega) _ _ _ b1
 have m3:=qa (dY (C:=C) (show N3≤N by omega)) c1
 have m4:=dY (C:=C) (show N4≤N by omega) _ _ _ d1
 have e3:∃vs,mapO (resV C.P ⟨SP,fn.ntmps,h4⟩) fn.results.toList=some vs∧(match vs with | [w]=>some w | vs=>some (.aX vs))=some v:=by
  unfold jZ at I
  cases hm:mapO (resE C.P E4 h4) fn.results.toList with
  | none=>rw [hm] at I; cases I
  | some vs =>
   rw [hm] at I
   refine ⟨vs,Bx (P:=C.P) (s:=⟨SP,fn.ntmps,h4⟩) d2 hm,?_⟩
   match vs,I with
   | [],I=>exact I
   | [_],I=>exact I
   | _::_::_,I=>exact I
 obtain ⟨vs,e3,J⟩:=e3
 unfold toldRange
 simp only [hf,hb,hl,ay,hp,qZ,m1,m2,bH b2 b4,m3,c2,m4]
 cases YB with
 | exit i=>exact hx.elim
 | normal =>
  simp only [e3]
  match vs,J with
  | [],J=>simp only [aj] at J; rw [←J]
  | [_],J=>simp only [aj] at J; rw [←J]
  | _::_::_,J=>simp only [aj] at J; rw [←J]
 | ret =>
  simp only [e3]
  match vs,J with
  | [],J=>simp only [aj] at J; rw [←J]
  | [_],J=>simp only [aj] at J; rw [←J]
  | _::_::_,J=>simp only [aj] at J; rw [←J]
end
def I6 (f:FuncId)(args:List V)(h:H)(r:V×H): Prop:=∃I,∀N,I≤N→toldRange CB N f args h=some r
theorem Call.range {told:cz}{f:FuncId}{fn:Func}{args:List V}{h:H}{R:V→H→Prop}(ht:told f=some (lM Tryz.prog f (I6 f)))(hf:Tryz.prog.funcs[f]?=some fn)(hb:fn.body.isSome=true)
 (hd:∃v I,(∃J,∀N,J≤N→toldRange CB N f args h=some (v,I))∧R v I): Call ⟨Tryz.prog,told⟩ f args h R:=by
 obtain ⟨v,I,⟨J,h0⟩,hR⟩:=hd
 obtain ⟨r,e1,N1,h1⟩:=Ct (P:=Tryz.prog) (f:=f) (gU:=I6 f) (args:=args) (h:=h) (r:=(v,I)) ⟨J,h0⟩ (fun c w pG hw=>EV (C:=CB) AI yJ (h0 J (aD _)) pG hw)
 have:r=(v,I):=by
  have a:=h0 (max J N1) (by omega)
  have b:=h1 (max J N1) (by omega)
  rw [a] at b
  exact (bE b).symm
 subst this
 exact ⟨v,I,iM.told ht hf hb e1,hR⟩
def pz (i:Nat)(c:Code): Code:=match rangeParts c with
 | some (a,b,_,_,_,lS,bd,t)=>match i with
  | 0=>a
  | 1=>b
  | 2=>lS
  | 3=>bd
  | _=>t
 | none=>.skip
def kx (P:Int→List Nat): List Nat→List (List Nat)→Prop
 | [],[]=>True
 | p::ps,c::cs=>dF (P p) 203 (ps.headD 0) (ps.length+1) [c]∧kx P ps cs
 | _,_=>False
theorem kx.len {P:Int→List Nat}: ∀ {ps:List Nat} {cs:List (List Nat)},kx P ps cs→ps.length=cs.length:=by
 intro ps
 induction ps with
 | nil=>intro cs h; cases cs with
  | nil=>rfl
  | cons c cs=>exact h.elim
 | cons p ps I=>intro cs h; cases cs with
  | nil=>exact h.elim
  | cons c cs=>simp only [aN,I h.2]
theorem kx.of {P I:Int→List Nat}: ∀ {ps:List Nat} {cs:List (List Nat)},(∀p∈ps,I (p:Int)=P p)→kx P ps cs→kx I ps cs:=by
 intro ps
 induction ps with
 | nil=>intro cs _ h; cases cs with
  | nil=>trivial
  | cons c cs=>exact h
 | cons p ps ih=>intro cs J h; cases cs with
  | nil=>exact h
  | cons c cs=>exact ⟨by rw [J p ct]; exact h.1,ih (fun q hq=>J q (cr _ hq)) h.2⟩
def flatL : List (List Nat)→List Nat
 | []=>[]
 | c::cs=>c++flatL cs
theorem SQ {c:List Nat}{b:List Nat}{k l e:Nat}(h:dF b k l e [c]): c.length≤482:=by
 have:=h.fits
 simp only [tot,aN,bG] at this
 omega
section
variable {told:cz} {h:H} {S:List aq} {X Y:aq} {N B n id p4 p5 p6:Nat} {v x y rv pv bv cv:V} {b l c R M:List Nat} {ps:List Nat} {cs:List (List Nat)} {A:aF→aq} {pg:aF→Int→List Nat} {ε:aF} {env:Env}
noncomputable def YC : Code:=pz 0 ((Tryz.f50.body).getD .skip)
noncomputable def YD : Code:=pz 1 ((Tryz.f50.body).getD .skip)
noncomputable def pE : Code:=pz 2 ((Tryz.f50.body).getD .skip)
noncomputable def pF : Code:=pz 3 ((Tryz.f50.body).getD .skip)
noncomputable def YE : Code:=pz 4 ((Tryz.f50.body).getD .skip)
theorem EX (hT:W told){E:List (Nat×V)}{db:List Nat}{dp:List Nat}(xR:dp.length≤65536)(DJ:db.length≤1048576)(C7:c.length≤482)
 (s:Sat h (pt id (.loop false 36 env [12,13] pE pF)::pt p4 (.cells 1 [pv] false)::pt p5 (.cells 1 [bv] false)::.arr 1 pv (bA dp)::aU bv db::aU cv c::S))
 (hE:Has E [(4,.ptr p4 0),(5,.ptr p5 0),(12,.agg [.int .i64 (n:Int),cv]),(13,.int .i64 0)]){Q:V→H→Prop}
 (hq:∀Lu OA h',Sat h' (pt id (.loop false 36 env [12,13] pE pF)::pt p4 (.cells 1 [Lu] false)::pt p5 (.cells 1 [OA] false)::.arr 1 Lu (bA (dp++[n]))::aU OA (db++c)::S)→Q (.bool true) h'):
  WP ⟨Tryz.prog,told⟩ 36 pE E h fun ex E1 h1=>ex=.normal∧T.get h1.tr id=some (.loop false 36 env [12,13] pE pF)∧WP ⟨Tryz.prog,told⟩ 36 pF E1 (h1.put id (some (.loop true 36 env [12,13] pE pF))) fun ex E2 h2=>ex=.normal∧T.get h2.tr id=some (.loop true 36 env [12,13] pE pF)∧Q (.bool true) (h2.put id (some (.loop false 36 env [12,13] pE pF))):=by
 have zy:=(s.buf (k:=5) rfl).view.cells
 have jK:([V.int .i64 (n:Int),cv]:List V).all storable=true:=by simp only [iB,i_,zy.2]; rfl
 refine WP.has hE (zg rfl ?_)
 refine az.cJ s rfl rfl rfl (cE TC) (fun p7 h s => ?_)
 dsimp only [V.cells,List.length_cons,List.length_nil,Nat.reduceAdd] at s
 refine zS rfl (s.iw (j:=0) rfl TB rfl jK) ?_
 intro h s
 dsimp only [setA] at s
 refine zv (zr rfl (za rfl (zv ?_)))
 refine ⟨rfl,s.row (k:=1) rfl,?_⟩
 have s:=s.put (k:=1) (o':=.loop true 36 env [12,13] pE pF) rfl
 generalize h.put id (some (.loop true 36 env [12,13] pE pF))=h at s
 have ny:=s.kV (j:=4) rfl
 have I:=jd (s.buf (k:=5) rfl).view
 have J:=jd (s.buf (k:=6) rfl).view
 refine WP.block (zK 4 rfl (zh rfl (ag rfl rfl aI) (rfl) (zk 3 rfl ?_)))
 have s0:=s
 refine WP.drawn [some (0,2),ak,ak,ak,ak,some (0,3),some (0,3),some (0,3),ak,ak,ak] rfl (by kernel_rfl) (by kernel_rfl) ?_
 refine zL rfl (s.ld (k:=2) rfl mK rfl) (zF rfl (Pw _ _) (zL rfl (s.ld (k:=0) rfl dS rfl) ?_))
 obtain ⟨iv,h1,e1,s1⟩:=ku (P:=Tryz.prog) (k:=1) (x:=.int .i64 (n:Int)) s bO tG kC rfl (by decide) (by decide) rfl rfl
 dsimp only [V.cells,setA] at s1
 refine aB.any rfl rfl rfl rfl (OpR.of (R:=fun v h'=>v=iv∧h'=h1) (kg rfl e1) ⟨rfl,rfl⟩) ?_
 rintro iv h ⟨rfl,rfl⟩
 have s:=s1.ae [1,1,1,1,1,1,1,0]
 dsimp only [bringA,getA,aZ] at s
 have s1:=s
 obtain ⟨i1,iy,fF,pP⟩:=mN
 obtain ⟨w,h2,e2,s2⟩:=fS (s.ae [4,6]) bO iy tG fF (by omega) rfl (by decide) (by simp only [eL,aN,bG]; omega)
 refine aB.any rfl rfl rfl rfl (OpR.of (R:=fun v h'=>v=w∧h'=h2) (jL rfl rfl e2) ⟨rfl,rfl⟩) ?_
 rintro w h ⟨rfl,rfl⟩
 have hw:=s2
 have s:=(s2.del 1).ae [1,1,1,1,0,0,0]
 have s2:=s
 refine zL rfl (s.ld (k:=3) rfl bK rfl) (zF rfl (GF _ _) (zL rfl (s.ld (k:=0) rfl bK rfl) (aB.any rfl rfl rfl rfl (OpR.pI rfl (s.ae [5,5]) (bj _ _) rfl rfl rfl rfl (by omega)) ?_)))
 intro bw h s
 have s:=s.ae [2,2,2,2,2,0,0]
 dsimp only [bringA,getA,aZ] at s
 have Lv:=s.kV (j:=4) rfl
 have Ey:=(s.buf (k:=5) rfl).view.cells
 refine aB.ki rfl rfl rfl (OpR.tF rfl rfl rfl (s.iX (k:=2) rfl Mn rfl (by decide) Lv.1 Lv.2.1)) ?_
 rintro v h ⟨rfl,s⟩
 dsimp only [setA,List.set] at s
 refine aB.ki rfl rfl rfl (OpR.tF rfl rfl rfl (s.iX (k:=3) rfl kI rfl (by decide) Ey.1 Ey.2)) ?_
 rintro v h ⟨rfl,s⟩
 dsimp only [setA,List.set] at s
 refine aB.nil ⟨⟨eZ (.inr ⟨rfl,⟨_,aS rfl (s0.ld (k:=2) rfl mK rfl)⟩,ny.2.2⟩) (.inr ⟨rfl,⟨_,aS rfl (s1.ld (k:=2) rfl mK rfl)⟩,ny.2.2⟩),aa,aa,aa,aa,oR (.inr ⟨rfl,⟨_,aS rfl (s0.ld (k:=3) rfl bK rfl)⟩,I⟩) (.inr ⟨rfl,⟨_,aS rfl (s1.ld (k:=3) rfl bK rfl)⟩,I⟩) (.inr ⟨rfl,⟨_,aS rfl (s2.ld (k:=3) rfl bK rfl)⟩,I⟩),fun _ _=>.inr ⟨rfl,⟨_,nC rfl (GF _ _)⟩,bP _ rfl⟩,oR (.inr ⟨rfl,⟨_,aS rfl (s0.ld (k:=0) rfl bK rfl)⟩,J⟩) (.inr ⟨rfl,⟨_,aS rfl (s1.ld (k:=0) rfl bK rfl)⟩,J⟩) (.inr ⟨rfl,⟨_,aS rfl (s2.ld (k:=0) rfl bK rfl)⟩,J⟩),aa,aa,aa,aa⟩,?_⟩
 refine ⟨rfl,s.row (k:=1) rfl,hq w bw _ ?_⟩
 have s:=s.put (k:=1) (o':=.loop false 36 env [12,13] pE pF) rfl
 dsimp only [setA] at s
 have e:bA (dp++[n])=bA dp++[.int .i64 (n:Int)]:=by simp [bA]
 rw [e]
 exact ((s.ae [1,1,1,1,1]).del 6).del 5
end
end Go.Proofs.YtefepnnfphdkpaaGreat.Am
