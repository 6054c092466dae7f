/- ChainKept: a part of its proof; conditions: its statement's. -/
import Derived.Test.YtefepnnfphdkpaaGreatC31
import Derived.Test.YtefepnnfphdkpaaGreatC12
import Derived.Test.YtefepnnfphdkpaaGreatC16
import Derived.RangeFuncLeaves
set_option linter.defProp false
namespace Go.Proofs.YtefepnnfphdkpaaGreat.Am
open Go
def Eh:=@Tryz.func31
def oN : List Nat:=((List.replicate 375 0).set 0 1).set 0 3
theorem Ei {j:Nat}: bt oN j=decide (j<2):=by
 unfold bt oN
 by_cases h:j/8=0
 ·have e:(((List.replicate 375 0).set 0 1).set 0 3).getD (j/8) 0=3:=by rw [h]; decide +kernel
  have k:∀i,i<8→(3:Nat).testBit i=decide (i<2):=by decide
  rw [e,k _ (by omega)]
  by_cases I:j<2
  ·rw [dy I,dy (by omega)]
  ·rw [dQ I,dQ (by omega)]
 ·have e:(((List.replicate 375 0).set 0 1).set 0 3).getD (j/8) 0=0:=by
   rw [er,fT (by omega),fT (by omega),List.getElem?_replicate]
   split <;> rfl
  rw [e,Nat.zero_testBit,dQ (by omega)]
section
variable {told:cN} {h:H} {S:List aq} {N B K M a p q r bz:Nat} {data:List Nat} {ε:aF}
theorem KM (hB:B≤800)(fq:EI N B ε)(hN:4≤N)(KN:N≤1000)(hz:(pgA ε 0).length=512)(hg:bU (pgA ε 0)=false)(hd:uy K M ε)(hf:K+520*N+28≤M)(s:Sat h (SA a p q r .cU data bz ε::S)):
  ∃v h2,(∃N0,∀n,N0≤n→toldDefer CB n 31 [.ptr a 0] h=some (v,h2))∧(v=.int .i64 0∧∃ε',EI N (B+2) ε'∧iw N (List.replicate 64 0) oN (pgA ε')∧uy (K+520*N+28) M ε'∧Sat h2 (SA a p q r .cU data bz ε'::S)):=by
 have I:=W.base
 refine Ef (C:=CB) Eh rfl rfl (of_decide_eq_true (by kernel_rfl)) ?_
 refine eZ.seq (eZ.of_wp rfl (zr rfl (za rfl (zv (eZ.seq (eZ.of_wp rfl (zr rfl (zm rfl (zo rfl (pF rfl (m_ vB rfl)) (zc rfl (Cs I (Vl I (by omega)) fq (by omega) hz hg s) ?_))))))))))
 rintro v h ⟨qV,rfl,nG,iM,s⟩
 have hd:=hd.sm iM
 have s:Sat h (ej a p q r .cU data bz::dL r p q qV.1::b7 q p qV.2.1::bx p qV.2.2::S):=c6.1 s
 refine zk 5 rfl (zv (eZ.seq (eZ.of_wp rfl (WP.block (zg rfl (zm rfl (zh rfl (ag rfl rfl aJ) (rfl) (za rfl (zv (zj rfl (zg rfl (zk 2 rfl (zv (zj rfl (WP.skip (eZ.seq (eZ.of_wp rfl (zr rfl (zm rfl (zc rfl (Mt I s) ?_))))))))))))))))))))
 rintro v h' ⟨rfl,rfl⟩
 refine zc rfl (xR I (s.ae [3])) ?_
 rintro v h' ⟨rfl,rfl⟩
 rw [nG.ec.dk.bg]
 refine za rfl (zv (eZ.seq (eZ.of_wp rfl (zr rfl (zm rfl (zc rfl (vJ I (n:=N) (by omega) (by omega)) ?_))))))
 rintro v h' ⟨rfl,rfl⟩
 refine za rfl (zv (eZ.seq (eZ.of_wp rfl (zr rfl (zm rfl (zc rfl (B5 I s) ?_))))))
 rintro v h ⟨g,rfl,s⟩
 refine zk 5 rfl (zv (eZ.seq (eZ.seq (eZ.of_wp rfl (zr rfl (zm rfl (zh rfl (ag rfl rfl aJ) (rfl) (zv (eZ.of_wp rfl (zj rfl (WP.skip (eZ.seq (eZ.defer rfl rfl rfl rfl rfl rfl rfl rfl rfl rfl rfl rfl (eZ.seq (eZ.seq (eZ.of_wp rfl (zr rfl (zk 2 rfl (zb rfl (by exact bk (aA (by omega) (by omega))) ?_)))))))))))))))))))
 refine zh rfl (ag rfl rfl aP) (by simp; omega) ?_
 have s:Sat h (GA g a p q r data bz [] qV::S):=c6.2 s
 refine zv (eZ.of_wp rfl (zj rfl (WP.skip (eZ.seq (eZ.seq (eZ.of_wp rfl (WP.drawn [some (0,5),some (0,4),ak,ak,ak,ak,ak,ak] rfl (by kernel_rfl) (by kernel_rfl) ?_)))))))
 refine zM rfl (zM rfl (aC.any rfl rfl rfl rfl (OpR.call rfl rfl rfl rfl (D4 I s)) ?_))
 intro mv h s
 refine aC.any rfl rfl rfl rfl (OpR.zJ rfl s rfl rfl rfl rfl (by decide)) ?_
 intro Uc h s
 have s:=s.gF
 have RO:(List.replicate 64 0).length=64:=eR
 have hm:=(s.aH (k:=1) rfl (dc _ _)).cells
 have Ud:=(s.aH (k:=0) rfl (dc _ _)).cells
 obtain ⟨cv,h1,e1,s1⟩:=Pu (P:=Tryz.prog) (x:=mv) (y:=Uc) s fY n4 ko rfl hm.1 Ud.1 hm.2 Ud.2
 refine aC.any rfl rfl rfl rfl (OpR.of (R:=fun v h'=>v=cv∧h'=h1) (kn rfl e1) ⟨rfl,rfl⟩) ?_
 rintro cv h ⟨rfl,rfl⟩
 have s:=(s1.ae [2,1]).two (C:=each (fun v c=>.cu v c) [mv,Uc] [fL,List.replicate 64 0]) (aS.cu _ _) (aS.cu _ _) fun a b q1 q2=>⟨q1,q2,aa⟩
 generalize hR:List.replicate 64 0=R at s RO
 refine aC.any rfl rfl rfl rfl (OpR.call rfl rfl rfl rfl (GD (kd:=201) (lk:=N) I (by decide) (by omega) (by simp only [tot,fL,aO,bB,RO]; decide) rfl s)) ?_
 rintro u h ⟨b0,uJ,s⟩
 refine aC.any rfl rfl rfl rfl (OpR.call rfl rfl rfl rfl (wZ (i:=0) I (by omega) nG (NW.nil N) (by omega) (s.ae [1,0]) (aX _ _) uJ)) ?_
 rintro v h ⟨kP,rfl,mc,kA,Ap,s⟩
 have hd:=hd.sm kA
 refine zA rfl ?_
 refine aC.nil ⟨⟨fun _ _=>.inr ⟨rfl,⟨_,cg rfl⟩,bS _ rfl⟩,fun _ _=>.inr ⟨rfl,⟨_,cg rfl⟩,bS _ rfl⟩,aa,aa,aa,aa,aa,aa,aa⟩,?_⟩
 refine eZ.seq (eZ.of_wp rfl (zr rfl (zm rfl (zh rfl (ag rfl rfl aJ) (rfl) (zv (eZ.of_wp rfl (zj rfl (WP.skip (eZ.seq (eZ.seq (eZ.of_wp rfl (zr rfl (za rfl (zv (eZ.of_wp rfl (WP.block (WP.loop (zw (zg rfl (zk 2 rfl (zt rfl (ag rfl rfl aP) (by decide) ?_)))))))))))))))))))))
 refine zv (zi rfl (WP.skip (zw (WP.block (zg rfl (az.any rfl rfl rfl (OpR.zJ rfl s rfl rfl rfl rfl (by decide)) ?_))))))
 intro mk h s
 have J:(List.replicate 375 0).length=375:=eR
 have qY:(List.replicate 375 0)[0]?=some 0:=by decide +kernel
 have xz:oN.length=375:=by unfold oN; rw [bQ,bQ,J]
 have RP:oN=((List.replicate 375 0).set 0 1).set 0 3:=rfl
 have vL:∀j,bt oN j=decide (j<2):=fun j=>Ei
 generalize oN=M0 at xz RP vL ⊢
 generalize List.replicate 375 0=Z at s J qY RP
 obtain ⟨id,off,e2,e3⟩:=dN (s.buf (k:=0) rfl).view qY
 obtain ⟨KF,Vp,e4,h4,e5,s2⟩:=iN s (i:=0) (b:=1) (by omega) (by decide)
 have ee:V.ptr id off=V.ptr KF Vp:=by rw [e2] at e4; exact bI e4
 rw [←ee] at e5
 refine zk 8 rfl (WP.block (WP.loop (zg rfl (zt rfl (ag rfl rfl aP) (by decide) ?_))))
 refine zk 5 rfl (WP.block (zK 8 rfl (zo rfl (ag (r:=.int .i64 0) rfl rfl (by kernel_rfl)) ?_)))
 refine zm rfl (zb rfl (by exact jF (aA (by omega) (by omega))) ?_)
 refine zt rfl (ag rfl rfl iz) (by decide) ?_
 refine zk 2 rfl (WP.drawn [ak,ak,ak,ak,ak,ak,ak,ak,ak,ak,ak,ak] rfl (by kernel_rfl) (by kernel_rfl) ?_)
 refine zM rfl (zM rfl (zO rfl (ag (r:=.int .i64 0) rfl rfl (by kernel_rfl)) ?_))
 refine zO rfl (ag (r:=.int .i64 0) rfl rfl (by kernel_rfl)) ?_
 refine zO rfl (cx (r:=.ptr id off) rfl rfl e2) (zL rfl e3 (zM rfl (zO rfl (ag (r:=.int .i64 0) rfl rfl (by kernel_rfl)) ?_)))
 refine zO rfl (ag (r:=.int .u8 1) rfl rfl (by kernel_rfl)) ?_
 refine zO rfl (ag (r:=.int .u8 1) rfl rfl (by kernel_rfl)) ?_
 refine zO rfl (cx (r:=.ptr id off) rfl rfl e2) (aC.j3 rfl rfl rfl (OpR.sS rfl rfl rfl (⟨h4,e5,s2⟩)) ?_)
 rintro w h ⟨rfl,s⟩
 refine aC.nil ⟨⟨aa,aa,aa,aa,aa,aa,aa,aa,aa,aa,aa,aa,aa⟩,?_⟩
 have rf:(Z.set 0 1)[0]?=some 1:=gH (by omega)
 have DE:(Z.set 0 1).length=375:=by rw [bQ,J]
 obtain ⟨RQ,MN,e6,e7⟩:=dN (s.buf (k:=0) rfl).view rf
 obtain ⟨Xy,Vq,e8,h7,e9,s3⟩:=iN s (i:=0) (b:=3) (by omega) (by decide)
 have ee:V.ptr RQ MN=V.ptr Xy Vq:=by rw [e6] at e8; exact bI e8
 rw [←ee] at e9
 refine zr rfl (zb rfl (by exact bk (aA (by omega) (by omega))) ?_)
 refine zm rfl (zv (WP.loop (zg rfl (zt rfl (ag rfl rfl aP) (by decide) ?_))))
 refine zk 5 rfl (WP.block (zK 8 rfl (zo rfl (ag (r:=.int .i64 0) rfl rfl (by kernel_rfl)) ?_)))
 refine zm rfl (zb rfl (by exact jF (aA (by omega) (by omega))) ?_)
 refine zt rfl (ag rfl rfl iz) (by decide) ?_
 refine zk 2 rfl (WP.drawn [ak,ak,ak,ak,ak,ak,ak,ak,ak,ak,ak,ak] rfl (by kernel_rfl) (by kernel_rfl) ?_)
 refine zM rfl (zM rfl (zO rfl (ag (r:=.int .i64 1) rfl rfl (by kernel_rfl)) ?_))
 refine zO rfl (ag (r:=.int .i64 0) rfl rfl (by kernel_rfl)) ?_
 refine zO rfl (cx (r:=.ptr RQ MN) rfl rfl e6) (zL rfl e7 (zM rfl (zO rfl (ag (r:=.int .i64 1) rfl rfl (by kernel_rfl)) ?_)))
 refine zO rfl (ag (r:=.int .u8 2) rfl rfl (by kernel_rfl)) ?_
 refine zO rfl (ag (r:=.int .u8 3) rfl rfl (by kernel_rfl)) ?_
 refine zO rfl (cx (r:=.ptr RQ MN) rfl rfl e6) (aC.j3 rfl rfl rfl (OpR.sS rfl rfl rfl (⟨h7,e9,s3⟩)) ?_)
 rintro w h ⟨rfl,s⟩
 refine aC.nil ⟨⟨aa,aa,aa,aa,aa,aa,aa,aa,aa,aa,aa,aa,aa⟩,?_⟩
 rw [←RP] at s
 refine zr rfl (zb rfl (by exact bk (aA (by omega) (by omega))) ?_)
 refine zm rfl (zv (WP.loop (zg rfl (zh rfl (ag rfl rfl aP) (by decide) ?_))))
 refine zk 3 rfl (WP.exit (zK 5 rfl ?_))
 have s:=s.gF
 have NX:=(s.aH (k:=0) rfl (dc _ _)).cells
 obtain ⟨Ue,h8,Xz,s4⟩:=j7 (P:=Tryz.prog) (k:=1) (x:=mk) s fY n4 ko rfl (by decide) (by decide) (by rw [NX.1]; rfl) (by rw [NX.1]; simp only [ij,iR,NX.2]; rfl)
 rw [NX.1] at s4
 refine az.any rfl rfl rfl (OpR.of (R:=fun v h'=>v=Ue∧h'=h8) (kn rfl Xz) ⟨rfl,rfl⟩) ?_
 rintro Ue h ⟨rfl,rfl⟩
 have s:=(s4.ae [1]).hU (B:=each (fun v c=>.cu v c) [mk] [M0]) fun a b q=>⟨q,aa⟩
 dsimp only [aV,bringA] at s
 refine zc rfl (GD (kd:=202) (lk:=0) I (by decide) (by decide) (by simp only [tot,aO,bB,xz]; decide) rfl s) ?_
 rintro u h ⟨b1,mV,s⟩
 refine zc rfl (wZ (i:=1) I (by omega) mc Ap (by omega) (s.ae [1,0]) (aX _ _) mV) ?_
 rintro v h ⟨yf,rfl,th,qT,xE,s⟩
 dsimp only [aV,bringA] at s
 have hd:=hd.sm qT
 refine za rfl (zv (zg rfl (zm rfl (zh rfl (ag rfl rfl aJ) (rfl) (zv (zj rfl (WP.skip (zr rfl (zm rfl (zb rfl (by exact bk (aA (by omega) (by omega))) ?_))))))))))
 refine zk 2 rfl (WP.loop (zK 5 rfl (zh rfl (ag rfl rfl aP) (by decide) ?_)))
 refine zk 2 rfl (WP.exit (eZ.seq (eZ.of_wp rfl (zK 2 rfl (zo rfl (cW rfl (Ij (kd:=1))) (zc rfl (MM (kd:=1) I (by omega) th xE (by omega) (by decide) (by decide) hd hf s) ?_))))))
 rintro v h ⟨aQ,XA,rfl,XB,lU,XC,s⟩
 have D3:iw N R M0 (dW (dg ((1:Nat):Int) b1 (dg ((0:Nat):Int) b0 [])) yf):=by
  refine ⟨⟨0,?_⟩,RO,⟨202,0,0,?_⟩,xz,by omega,by omega,fun j hj=>by rw [vL,dy hj],fun j hj=>by rw [vL,dQ (by omega)]⟩
  ·rw [gS,ai (by decide),gS,au (by decide)]; exact uJ
  ·rw [gS,au (by decide)]; exact mV
 refine zk 4 rfl (zv (eZ.seq (eZ.of_wp rfl (zr rfl (zk 2 rfl (zv (eZ.of_wp rfl (WP.ret ?_))))))))
 have s:=s.ae [1]
 have s:=c6.1 s
 have s:=s.ae [4]
 obtain ⟨v2,h2,BQ,rfl,s⟩:=HW I s
 have s:=s.ae [1,1,1,1]
 have s:Sat h2 (SA a p q r .cU data bz XA::_):=c6.2 s
 have RE:mh 33=none:=I.free _ rfl
 exact ⟨aa,h2,_,Fi (C:=CB) RE Tryz.func33 rfl rfl BQ,Dd rfl,rfl,XA,XB,D3.done xE lU,XC,((s.del 3).del 2).del 1⟩
end
end Go.Proofs.YtefepnnfphdkpaaGreat.Am
namespace Go.Proofs.YtefepnnfphdkpaaGreat.Am
open Go Go.RowKit
def rangeParts : Code→Option (Code×Code×Nat×Operand×Array Tmp×Code×Code×Code)
 | .seq a (.seq (.seq b (.block id (.rangeFunc x ps lC bd))) t)=>some (a,b,id,x,ps,lC,bd,t)
 | _=>none
noncomputable def toldRange (C:b8)(n:Nat)(f:FuncId)(args:List V)(h:H): Option (V×H):=match C.P.funcs[f]? with
 | none=>none
 | some fn=>match fn.body with
  | none=>none
  | some code=>cond (Nat.blt fn.ntmps args.length) none (match rangeParts code with
   | none=>none
   | some (a,b,_,x,ps,lC,bd,t)=>match sQ C n a ⟨bindArgs args 0 .lf,fn.ntmps,h⟩ with
    | some (.normal,GS)=>match sQ C n b GS with
     | some (.normal,I)=>match evO I.env x with
      | some (.fn (.func g) [] cap)=>match callF C (sQ C n) g (.uD I.h.next::cap) (I.h.new (.loop false I.ax I.env ps.toList lC bd)) with
       | some (_,J)=>match T.get J.tr I.h.next with
        | some (.loop false _ _ _ _ _)=>match sQ C n t ⟨I.env,I.ax,J.put I.h.next none⟩ with
         | some (.normal,s) | some (.ret,s)=>match mapO (resV C.P s) fn.results.toList with
          | some [v]=>some (v,s.h)
          | some vs=>some (.bh vs,s.h)
          | none=>none
         | _=>none
        | _=>none
       | none=>none
      | _=>none
     | _=>none
    | _=>none)
section
variable {c:Ctx} {σ:H} {w:World}
theorem Rel.other {b:Nat}{o:Go.Obj}(h:Rel c σ w)(hb:∀id,id<c.N→(c.ρ id).1≠b): Rel c σ (w.putObj b o):=by
 have get:∀i,(w.putObj b o).heap[i]?=if b=i∧b<w.heap.size then some o else w.heap[i]?:=fun i=>by
  simp only [World.putObj,ji]
  by_cases J:b=i
  ·subst J
   by_cases I:b<w.heap.size
   ·simp [I]
   ·simp [I,Array.getElem?_eq_none (nL I)]
  ·simp [J]
 have same:∀id,id<c.N→(w.putObj b o).heap[(c.ρ id).1]?=w.heap[(c.ρ id).1]?:=fun id hi=>by
  rw [get]
  simp [iS (hb id hi)]
 have rows:∀id,id<c.N→rowSize (w.putObj b o) (c.ρ id).1=rowSize w (c.ρ id).1:=fun id hi=>by unfold rowSize; rw [same id hi]
 exact ⟨h.next,h.live,fun id hi=>by simpa [World.putObj] using h.je id hi,fun id hi=>by rw [rows id hi]; exact h.zz id hi,h.inj,
  fun id o ho=>(h.obj id o ho).later (Ext.refl c) (h.live id o ho) (same id (h.live id o ho)),h.one,h.fx⟩
theorem Rel.endLoop {id:Nat}{busy:Bool}{ax:Nat}{env:Env}{ps:List Nat}{lC bd:Code}{r:Loop}(h:Rel c σ w)(hg:σ.tr.get id=some (.loop busy ax env ps lC bd)):
  Rel c (σ.put id none) (w.putObj (c.ρ id).1 (.loop r))∧bY c w c (w.putObj (c.ρ id).1 (.loop r)):=by
 obtain ⟨fn,tmps,D,hb,_⟩:=h.obj id _ hg
 have a_:(c.ρ id).1<w.heap.size:=(Array.getElem?_eq_some_iff.1 hb).1
 have get:∀i,(w.putObj (c.ρ id).1 (.loop r)).heap[i]?=if (c.ρ id).1=i then some (.loop r) else w.heap[i]?:=fun i=>by
  simp only [World.putObj,ji,a_,bC]
 have rows:∀i,rowSize (w.putObj (c.ρ id).1 (.loop r)) i=rowSize w i:=fun i=>by
  unfold rowSize
  rw [get]
  by_cases hi:(c.ρ id).1=i
  ·subst hi; simp [hb]
  ·simp [hi]
 have I:=h.kill id
 have hX:=h.tw hg (by intro _ _ he; cases he)
 refine ⟨⟨I.next,I.live,fun j hj=>by simpa [World.putObj] using I.je j hj,fun j hj=>by rw [rows]; exact I.zz j hj,I.inj,fun j o hj => ?_,I.one,I.fx⟩,
  ⟨Ext.refl c,by simp [World.putObj],fun b _=>rows b,fun b _ hn => ?_,fun j h1 h2=>by omega,rfl,rfl⟩⟩
 ·refine (I.obj j o hj).later (Ext.refl c) (I.live j o hj) ?_
  have J:=hj
  rw [b9] at J
  by_cases oY:j=id
  ·simp [oY] at J
  ·simp [oY] at J
   have dh:(c.ρ id).1≠(c.ρ j).1:=fun he=>oY (h.rS J hg he.symm hX)
   rw [get]
   simp [dh]
 ·rw [get]
  have:(c.ρ id).1≠b:=fun he=>by have:=hn id (h.live id _ hg) he; rw [hX] at this; cases this
  simp [this]
theorem bY.GF {c':Ctx}{w':World}{b:Nat}(h:bY c w c' w')(I:b<w.heap.size)(J:∀id,id<c.N→(c.ρ id).1≠b): (∀id,id<c'.N→(c'.ρ id).1≠b)∧w'.heap[b]?=w.heap[b]?:=by
 refine ⟨fun id hi he => ?_,h.kF b I fun id hi he=>absurd he (J id hi)⟩
 by_cases h1:id<c.N
 ·rw [h.ext.ρ id h1] at he; exact J id h1 he
 ·rcases h.fresh id (by omega) hi with h2 | ⟨j,hj,h2,_⟩
  ·omega
  ·exact J j hj (by rw [h2,he])
theorem bY.RR {c':Ctx}{w':World}{b:Nat}{o:Go.Obj}(h:bY c w c' w')(J:w.heap.size≤b): bY c w c' (w'.putObj b o):=by
 have get:∀i,i<w.heap.size→(w'.putObj b o).heap[i]?=w'.heap[i]?:=fun i hi=>World.putObj_heap_other (by omega)
 exact ⟨h.ext,by simpa [World.putObj] using h.size,fun i hi=>by rw [←h.rows i hi]; unfold rowSize; rw [get i hi],fun i hi I=>by rw [get i hi]; exact h.kF i hi I,h.fresh,h.sys⟩
end
section
variable {C:b8} {c:Ctx} {σ:H} {w:World}
theorem c8.defers {env:Env}{n:Nat}{a:Act}(h:c8 c env n a)(ds:List Deferred): c8 c env n { a with defers:=ds }:=⟨h.size,h.val,h.uf⟩
theorem Ej (hm:C.P.follows .mixedOrders=true)(hT:fe C){n:Nat}{f:FuncId}{args:List V}{v:V}{dM:H}(hr:toldRange C n f args σ=some (v,dM))(h:Rel c σ w)(hw:∀x∈args,wf c x):
  gm C.P f args c w v dM:=by
 have hS:=(C1 (C:=C) hm hT n).1
 unfold toldRange at hr
 rw [qx] at hr
 split at hr
 ·cases hr
 ·rename_i fn hf
  split at hr
  ·cases hr
  ·rename_i code hb
   cases hq:Nat.blt fn.ntmps args.length with
   | true=>rw [hq] at hr; cases hr
   | false =>
    rw [hq,ay] at hr
    have hle:args.length≤fn.ntmps:=by
     rcases iq fn.ntmps args.length with h' | h'
     ·rw [fF.2 h'] at hq; cases hq
     ·exact h'
    have m6:=kS (c:=c) hle hw
    split at hr
    ·cases hr
    ·rename_i pa pb pid px RS lC RT pt vM
     have Tj:code=.seq pa (.seq (.seq pb (.block pid (.rangeFunc px RS lC RT))) pt):=by
      unfold rangeParts at vM
      split at vM
      ·simp only [aj,aB] at vM
       obtain ⟨rfl,rfl,rfl,rfl,rfl,rfl,rfl,rfl⟩:=vM
       rfl
      ·cases vM
     split at hr
     ·rename_i GS Qb
      split at hr
      ·rename_i J Qc
       split at hr
       ·rename_i g cap hx
        split at hr
        ·rename_i y S5 HE
         split at hr
         ·rename_i Zc Zd Uf Ug Uh NY
          have tail:∀ex s,ev C n pt ⟨J.env,J.ax,S5.put J.h.next none⟩=some (ex,s)→(ex=.normal∨ex=.ret) →
            (match mapO (resV C.P s) fn.results.toList with
             | some [v]=>some (v,s.h)
             | some vs=>some (.bh vs,s.h)
             | none=>none)=some (v,dM)→gm C.P f args c w v dM:=by
           intro ex s jZ hex qt
           unfold gm
           refine (callsIn_wide (n:=0)).1 (callsIn_of_wp_marks (F:=Fence.wide) hf hb aa ?_ rfl)
           rw [Tj]
           refine wpIn_seq (wpIn_mono (hS pa _ .normal GS Qb none c _ w h m6) ?_)
           rintro e CT uB ⟨rfl,Tu,c₁,Qd,Qe,j9⟩
           refine wpIn_seq (wpIn_seq (wpIn_mono (hS pb _ .normal J Qc none c₁ CT uB Qd Qe) ?_))
           rintro e Cn I ⟨rfl,Tw,c₂,Oj,IQ,IS⟩
           have Vr:Cn.defers=[]:=by rw [Tw,Tu]
           obtain ⟨RU,kW⟩:=uG IQ hx
           have tF:∀z∈cap,wf c₂ z:=by
            have:eo c₂ []∧eo c₂ cap:=by simpa [wf] using kW
            exact eT.1 this.2
           have hN:J.h.next=c₂.N:=Oj.next
           -- the two blocks of the loop
           obtain ⟨rA,hG⟩:=Oj.below (w':=I.alloc (.deferred (some []))) ((Below.refl _ I).alloc (aD _) _)
           have XD:(I.alloc (.deferred (some []))).heap[I.heap.size]?=some (.deferred (some [])):=World.alloc_heap_new I _
           have Vs:∀id,id<c₂.N→(c₂.ρ id).1≠I.heap.size:=fun id hi he=>absurd (Oj.je id hi) (by omega)
           refine wpIn_block (wpIn_rangeFunc (fun Ui _ => ?_))
           obtain ⟨O,hO⟩:∃O:Go.Obj,O=.loop { state:=.ready,pending:=none,fn:=Ui,tmps:=Cn.tmps,params:=RS,assign:=lC,body:=RT,defers:=I.heap.size }:=⟨_,rfl⟩
           have Vt:(I.alloc (.deferred (some []))).heap.size=I.heap.size+1:=World.size_alloc _ _
           have Na:objSize O=0:=by rw [hO]; rfl
           have eG:=xG rA 0 (objSize O)
           obtain ⟨rB,Uj⟩:=rA.new (.loop false J.ax J.env RS.toList lC RT) O 0 rfl (by
            refine ⟨Ui,Cn.tmps,I.heap.size,?_,IQ.size,fun t => ?_,fun t=>(bX eG _ (IQ.uf t)).2⟩
            ·rw [aT,hO]
             exact World.alloc_heap_new _ _
            ·rw [IQ.val t,(bX eG _ (IQ.uf t)).1])
           obtain ⟨cB,RV⟩:∃cB,cB=c₂.grow (I.alloc (.deferred (some []))).heap.size 0 (objSize O):=⟨_,rfl⟩
           rw [←RV] at rB Uj eG
           have RW:cB.ρ c₂.N=(I.heap.size+1,0):=by rw [RV,aT,Vt]
           have Ze:cB.N=c₂.N+1:=by rw [RV]; rfl
           obtain ⟨kc,XE⟩:=nW hS.wide hT HE rB (by
            intro z hz
            rcases List.mem_cons.1 hz with rfl | hz
            ·simp only [wf]; omega
            ·exact (bX eG _ (tF z hz)).2)
           refine ⟨I.heap.size+1,[{ target:=.collected I.heap.size,args := #[] }],(I.alloc (.deferred (some []))).alloc O,{ target:=.fn (.func g) (cap.map (conc c₂)).toArray,args := #[.func (.yield (I.heap.size+1)) #[] #[]] },(I.alloc (.deferred (some []))).alloc O,g,
            #[.func (.yield (I.heap.size+1)) #[] #[]]++(cap.map (conc c₂)).toArray,(I.alloc (.deferred (some []))).alloc O,?_,?_,fun _ _=>trivial,?_,?_,?_⟩
           ·rw [hO]; exact run_enterLoop_outer _ _ _ _ _
           ·have jY:Cn.eval px=.func (.func g) #[] (cap.map (conc c₂)).toArray:=by rw [RU]; simp [conc,eM]
            simp only [resolve,rangeCall,jY]
            simp [go_sem,Act.eval]
           ·simp [invoke,go_sem,XE]
           ·intro hd; exact absurd hd (by decide)
           ·have wQ:((V.uD J.h.next::cap).map (conc cB)).toArray = #[.func (.yield (I.heap.size+1)) #[] #[]]++(cap.map (conc c₂)).toArray:=by
             apply gM
             simp only [cm,conc,hN,RW,(jW eG tF).1]
             simp
            unfold gm at kc
            rw [wQ] at kc
            refine CS (r:=none) (Calls.mono kc ?_)
            rintro e XF ⟨RX,rfl,_,Vu,RY⟩
            rw [hN] at NY
            have YA:c₂.N<RX.N:=Vu.live _ _ NY
            have Uk:RX.ρ c₂.N=(I.heap.size+1,0):=by rw [RY.ext.ρ c₂.N (by omega),RW]
            obtain ⟨Ul,NZ,XG,Um,_⟩:=Vu.obj c₂.N _ NY
            rw [Uk] at Um
            refine ⟨none,_,run_endLoop Um (by simp),?_⟩
            obtain ⟨Vv,RZ⟩:=Vu.endLoop (r:={ state:=.exhausted,pending:=none,fn:=Ul,tmps:=NZ,params:=Uf.toArray,assign:=Ug,body:=Uh,defers:=XG }) NY
            rw [Uk] at Vv RZ
            obtain ⟨MO,R1⟩:∃MO,MO=XF.putObj (I.heap.size+1) (.loop { state:=.exhausted,pending:=none,fn:=Ul,tmps:=NZ,params:=Uf.toArray,assign:=Ug,body:=Uh,defers:=XG }):=⟨_,rfl⟩
            rw [←R1] at Vv RZ
            -- all of it so far, pas one step
            have N5:bY c₂ I RX MO:=((hG.trans Uj).trans RY).trans RZ
            -- the block for the rounds' deferred calls
            have nB:∀id,id<cB.N→(cB.ρ id).1≠I.heap.size:=fun id hi=>by
             by_cases h1:id<c₂.N
             ·rw [eG.ρ id h1]; exact Vs id h1
             ·have:id=c₂.N:=by omega
              rw [this,RW]; simp
            have Un:((I.alloc (.deferred (some []))).alloc O).heap[I.heap.size]?=some (.deferred (some [])):=by
             rw [fy,ai (by omega)]; exact XD
            have Vw:I.heap.size<((I.alloc (.deferred (some []))).alloc O).heap.size:=(Array.getElem?_eq_some_iff.1 Un).1
            obtain ⟨YB,YC⟩:=RY.GF Vw nB
            have XH:XF.heap[I.heap.size]?=some (.deferred (some [])):=YC.trans Un
            have Uo:MO.heap[I.heap.size]?=some (.deferred (some [])):=by rw [R1]; exact (World.putObj_heap_other (by omega)).trans XH
            have YD:c8 RX J.env J.ax { Cn with defers:=[{ target:=.collected I.heap.size,args := #[] }]++Cn.defers }:=(IQ.ext N5.ext).defers _
            suffices N6:pt.wpIn Fence.wide 0 C.P (bodyPostM Fence.wide 0 C.P fn fun e w'=>∃c',e=.returned (conc c' v)∧wf c' v∧Rel c' dM w'∧bY c w c' w') { Cn with defers:=[{ target:=.collected I.heap.size,args := #[] }]++Cn.defers } MO by
             rw [R1] at N6
             exact N6
            refine wpIn_mono (hS pt _ ex s jZ none RX _ MO (by rw [hN]; exact Vv) YD) ?_
            rintro e Vx Tk ⟨rfl,XI,Vy,YE,YF,Up⟩
            have Vz:Vx.defers=[{ target:=.collected I.heap.size,args := #[] }]:=by rw [XI,Vr]; rfl
            have VA:I.heap.size<MO.heap.size:=(Array.getElem?_eq_some_iff.1 Uo).1
            obtain ⟨YG,YH⟩:=Up.GF VA YB
            have XJ:Tk.heap[I.heap.size]?=some (.deferred (some [])):=YH.trans Uo
            have VB:Rel Vy s.h (Tk.putObj I.heap.size (.deferred none)):=YE.other YG
            have DL:bY c w Vy (Tk.putObj I.heap.size (.deferred none)):=(((j9.trans IS).trans N5).trans Up).RR (cn j9.size IS.size)
            have fin:LeavesInM Fence.wide 0 C.P fn Vx.tmps (fun e w'=>∃c',e=.returned (conc c' v)∧wf c' v∧Rel c' dM w'∧bY c w c' w') Vx.defers .returning Tk:=by
             rw [Vz]
             refine ⟨by simp,.inl ⟨I.heap.size,_,rfl,run_takeDeferred XJ,?_⟩⟩
             cases I1:mapO (resV C.P s) fn.results.toList with
             | none=>simp [I1] at qt
             | some vs =>
              obtain ⟨q1,q2⟩:=tI VB YF I1
              refine ⟨_,q1,Vy,?_⟩
              rw [I1] at qt
              split at qt
              ·rename_i v0 xk
               simp only [aj] at xk
               subst xk
               simp only [aj,aB] at qt
               obtain ⟨rfl,rfl⟩:=qt
               exact ⟨by simp,q2 v0 (by simp),VB,DL⟩
              ·rename_i Zf dh xk
               simp only [aj] at xk
               subst xk
               simp only [aj,aB] at qt
               obtain ⟨rfl,rfl⟩:=qt
               refine ⟨?_,by simp only [wf,eT]; exact q2,VB,DL⟩
               rw [dif_neg]
               ·simp [conc,eM]
               ·intro eC
                simp only [List.size_toArray,ew] at eC
                obtain ⟨v0,rfl⟩:=List.length_eq_one_iff.1 eC
                exact dh v0 rfl
              ·cases qt
            rcases hex with rfl | rfl
            ·exact fin
            ·exact fin
          split at hr
          ·rename_i s jZ
           exact tail .normal s jZ (.inl rfl) hr
          ·rename_i s jZ
           exact tail .ret s jZ (.inr rfl) hr
          ·cases hr
         ·cases hr
        ·cases hr
       ·cases hr
      ·cases hr
     ·cases hr
end
end Go.Proofs.YtefepnnfphdkpaaGreat.Am
namespace Go.Proofs.YtefepnnfphdkpaaGreat.Am
open Go
section
variable {C:b8} {E:List (Nat×V)} {h:H} {o:Oper}
theorem OpR.yield {cl:Go.Call}{x:Operand}{id ax:Nat}{env e:Env}{ps:List Nat}{lC bd:Code}{Ee:List (Nat×V)}{args:List V}{R:V→H→Prop}(J:o.op=.call cl)(hc:cl.callee=.value x)(hx:lookO E x=some (.uD id))(ha:lookArgs E cl.args.toList=some args)
 (hg:T.get h.tr id=some (.loop false ax env ps lC bd))(hb:bindPs ax ps args env=some e)(he:gZ e Ee)
 (hw:WP C ax lC Ee h fun ex E1 h1=>ex=.normal∧T.get h1.tr id=some (.loop false ax env ps lC bd)∧WP C ax bd E1 (h1.put id (some (.loop true ax env ps lC bd))) fun ex E2 h2=>ex=.normal∧T.get h2.tr id=some (.loop true ax env ps lC bd)∧R (.bool true) (h2.put id (some (.loop false ax env ps lC bd)))):
  OpR C E h o R:=by
 obtain ⟨N1,RU,I,h1,E1,a1,a2,rfl,a4,Ap⟩:=hw e he
 obtain ⟨N2,kW,Ed,h2,E2,b1,b2,rfl,b4,b5⟩:=Ap I a2
 refine ⟨.bool true,_,b5,fun ML hE=>⟨max N1 N2,?_⟩⟩
 have c1:=dV (C:=C) (mC N1 N2) _ _ _ a1
 have c2:=dV (C:=C) (mB N1 N2) _ _ _ b1
 simp only [evOp,J,evCall,jE hE ha,hc,bG hE hx,callV,roundV,hg,hb,c1,a4,c2,b4]
theorem Ek {f:FuncId}{fn:Func}{code a b t lC bd:Code}{kg g:Nat}{x:Operand}{ps:Array Tmp}{args:List V}{R:V→H→Prop}(hf:C.P.funcs[f]?=some fn)(hb:fn.body=some code)(hl:Nat.blt fn.ntmps args.length=false)(hp:rangeParts code=some (a,b,kg,x,ps,lC,bd,t))
 (hw:WP C fn.ntmps a (argE args 0) h fun ex E1 h1=>ex=.normal∧WP C fn.ntmps b E1 h1 fun ex E2 h2=>ex=.normal∧∃cap,lookO E2 x=some (.fn (.func g) [] cap)∧∀env,gZ env E2→∃u h3,iE C g (.uD h2.next::cap) (h2.new (.loop false fn.ntmps env ps.toList lC bd)) u h3 ∧
   T.get h3.tr h2.next=some (.loop false fn.ntmps env ps.toList lC bd)∧WP C fn.ntmps t E2 (h3.put h2.next none) fun ex E4 h4=>(match ex with | .exit _=>False | _=>True)∧∃v,jN C.P E4 h4 fn.results.toList=some v∧R v h4):
  ∃v h2,(∃N0,∀N,N0≤N→toldRange C N f args h=some (v,h2))∧R v h2:=by
 obtain ⟨N1,RU,VC,h1,E1,a1,a2,rfl,Ap⟩:=hw _ (A5 args)
 obtain ⟨N2,kW,Ed,h2,E2,b1,b2,rfl,cap,b4,xE⟩:=Ap VC a2
 obtain ⟨u,h3,⟨N3,c1⟩,c2,XK⟩:=xE Ed b2
 obtain ⟨N4,XL,R2,h4,E4,d1,d2,hx,v,I,hR⟩:=XK Ed b2
 refine ⟨v,h4,⟨max (max N1 N2) (max N3 N4),fun N hN => ?_⟩,hR⟩
 have m1:=dV (C:=C) (show N1≤N by omega) _ _ _ a1
 have m2:=dV (C:=C) (show N2≤N by omega) _ _ _ b1
 have m3:=pE (dV (C:=C) (show N3≤N by omega)) c1
 have m4:=dV (C:=C) (show N4≤N by omega) _ _ _ d1
 have e3:∃vs,mapO (resV C.P ⟨R2,fn.ntmps,h4⟩) fn.results.toList=some vs∧(match vs with | [w]=>some w | vs=>some (.bh vs))=some v:=by
  unfold jN at I
  cases hm:mapO (resE C.P E4 h4) fn.results.toList with
  | none=>rw [hm] at I; cases I
  | some vs =>
   rw [hm] at I
   refine ⟨vs,A4 (P:=C.P) (s:=⟨R2,fn.ntmps,h4⟩) d2 hm,?_⟩
   match vs,I with
   | [],I=>exact I
   | [_],I=>exact I
   | _::_::_,I=>exact I
 obtain ⟨vs,e3,J⟩:=e3
 unfold toldRange
 simp only [hf,hb,hl,ay,hp,qx,m1,m2,bG b2 b4,m3,c2,m4]
 cases XL with
 | exit i=>exact hx.elim
 | normal =>
  simp only [e3]
  match vs,J with
  | [],J=>simp only [aj] at J; rw [←J]
  | [_],J=>simp only [aj] at J; rw [←J]
  | _::_::_,J=>simp only [aj] at J; rw [←J]
 | ret =>
  simp only [e3]
  match vs,J with
  | [],J=>simp only [aj] at J; rw [←J]
  | [_],J=>simp only [aj] at J; rw [←J]
  | _::_::_,J=>simp only [aj] at J; rw [←J]
end
def Il (f:FuncId)(args:List V)(h:H)(r:V×H): Prop:=∃I,∀N,I≤N→toldRange CB N f args h=some r
theorem Call.range {told:cN}{f:FuncId}{fn:Func}{args:List V}{h:H}{R:V→H→Prop}(ht:told f=some (lp Tryz.prog f (Il f)))(hf:Tryz.prog.funcs[f]?=some fn)(hb:fn.body.isSome=true)
 (hd:∃v I,(∃J,∀N,J≤N→toldRange CB N f args h=some (v,I))∧R v I): Call ⟨Tryz.prog,told⟩ f args h R:=by
 obtain ⟨v,I,⟨J,h0⟩,hR⟩:=hd
 obtain ⟨r,e1,N1,h1⟩:=B3 (P:=Tryz.prog) (f:=f) (gG:=Il f) (args:=args) (h:=h) (r:=(v,I)) ⟨J,h0⟩ (fun c w oR hw=>Ej (C:=CB) Ae xU (h0 J (aD _)) oR hw)
 have:r=(v,I):=by
  have a:=h0 (max J N1) (by omega)
  have b:=h1 (max J N1) (by omega)
  rw [a] at b
  exact (bI b).symm
 subst this
 exact ⟨v,I,iE.told ht hf hb e1,hR⟩
def oO (i:Nat)(c:Code): Code:=match rangeParts c with
 | some (a,b,_,_,_,lC,bd,t)=>match i with
  | 0=>a
  | 1=>b
  | 2=>lC
  | 3=>bd
  | _=>t
 | none=>.skip
def kM (P:Int→List Nat): List Nat→List (List Nat)→Prop
 | [],[]=>True
 | p::ps,c::cs=>dI (P p) 203 (ps.headD 0) (ps.length+1) [c]∧kM P ps cs
 | _,_=>False
theorem kM.len {P:Int→List Nat}: ∀ {ps:List Nat} {cs:List (List Nat)},kM P ps cs→ps.length=cs.length:=by
 intro ps
 induction ps with
 | nil=>intro cs h; cases cs with
  | nil=>rfl
  | cons c cs=>exact h.elim
 | cons p ps I=>intro cs h; cases cs with
  | nil=>exact h.elim
  | cons c cs=>simp only [aO,I h.2]
theorem kM.of {P I:Int→List Nat}: ∀ {ps:List Nat} {cs:List (List Nat)},(∀p∈ps,I (p:Int)=P p)→kM P ps cs→kM I ps cs:=by
 intro ps
 induction ps with
 | nil=>intro cs _ h; cases cs with
  | nil=>trivial
  | cons c cs=>exact h
 | cons p ps ih=>intro cs J h; cases cs with
  | nil=>exact h
  | cons c cs=>exact ⟨by rw [J p cz]; exact h.1,ih (fun q hq=>J q (cj _ hq)) h.2⟩
def flatL : List (List Nat)→List Nat
 | []=>[]
 | c::cs=>c++flatL cs
theorem R3 {c:List Nat}{b:List Nat}{k l e:Nat}(h:dI b k l e [c]): c.length≤482:=by
 have:=h.fits
 simp only [tot,aO,bB] at this
 omega
section
variable {told:cN} {h:H} {S:List aq} {X Y:aq} {N B n id p4 p5 p6:Nat} {v x y rv pv bv cv:V} {b l c R M:List Nat} {ps:List Nat} {cs:List (List Nat)} {A:aF→aq} {pg:aF→Int→List Nat} {ε:aF} {env:Env}
noncomputable def XM : Code:=oO 0 ((Tryz.f50.body).getD .skip)
noncomputable def XN : Code:=oO 1 ((Tryz.f50.body).getD .skip)
noncomputable def oP : Code:=oO 2 ((Tryz.f50.body).getD .skip)
noncomputable def oQ : Code:=oO 3 ((Tryz.f50.body).getD .skip)
noncomputable def XO : Code:=oO 4 ((Tryz.f50.body).getD .skip)
theorem El (hT:W told){E:List (Nat×V)}{db:List Nat}{dp:List Nat}(yw:dp.length≤65536)(Da:db.length≤1048576)(CF:c.length≤482)
 (s:Sat h (pt id (.loop false 36 env [12,13] oP oQ)::pt p4 (.cells 1 [pv] false)::pt p5 (.cells 1 [bv] false)::.arr 1 pv (bE dp)::aR bv db::aR cv c::S))
 (hE:Has E [(4,.ptr p4 0),(5,.ptr p5 0),(12,.agg [.int .i64 (n:Int),cv]),(13,.int .i64 0)]){Q:V→H→Prop}
 (hq:∀KO NM h',Sat h' (pt id (.loop false 36 env [12,13] oP oQ)::pt p4 (.cells 1 [KO] false)::pt p5 (.cells 1 [NM] false)::.arr 1 KO (bE (dp++[n]))::aR NM (db++c)::S)→Q (.bool true) h'):
  WP ⟨Tryz.prog,told⟩ 36 oP E h fun ex E1 h1=>ex=.normal∧T.get h1.tr id=some (.loop false 36 env [12,13] oP oQ)∧WP ⟨Tryz.prog,told⟩ 36 oQ E1 (h1.put id (some (.loop true 36 env [12,13] oP oQ))) fun ex E2 h2=>ex=.normal∧T.get h2.tr id=some (.loop true 36 env [12,13] oP oQ)∧Q (.bool true) (h2.put id (some (.loop false 36 env [12,13] oP oQ))):=by
 have yB:=(s.buf (k:=5) rfl).view.cells
 have jZ:([V.int .i64 (n:Int),cv]:List V).all storable=true:=by simp only [ij,iR,yB.2]; rfl
 refine WP.has hE (zg rfl ?_)
 refine az.cG s rfl rfl rfl (cA SJ) (fun p7 h s => ?_)
 dsimp only [V.cells,List.length_cons,List.length_nil,Nat.reduceAdd] at s
 refine zS rfl (s.hG (j:=0) rfl SI rfl jZ) ?_
 intro h s
 dsimp only [setA] at s
 refine zv (zr rfl (za rfl (zv ?_)))
 refine ⟨rfl,s.row (k:=1) rfl,?_⟩
 have s:=s.put (k:=1) (o':=.loop true 36 env [12,13] oP oQ) rfl
 generalize h.put id (some (.loop true 36 env [12,13] oP oQ))=h at s
 have qu:=s.kY (j:=4) rfl
 have I:=jm (s.buf (k:=5) rfl).view
 have J:=jm (s.buf (k:=6) rfl).view
 refine WP.block (zK 4 rfl (zh rfl (ag rfl rfl aJ) (rfl) (zk 3 rfl ?_)))
 have s0:=s
 refine WP.drawn [some (0,2),ak,ak,ak,ak,some (0,3),some (0,3),some (0,3),ak,ak,ak] rfl (by kernel_rfl) (by kernel_rfl) ?_
 refine zL rfl (s.ld (k:=2) rfl mq rfl) (zF rfl (OH _ _) (zL rfl (s.ld (k:=0) rfl dY rfl) ?_))
 obtain ⟨iv,h1,e1,s1⟩:=j7 (P:=Tryz.prog) (k:=1) (x:=.int .i64 (n:Int)) s bL uo kf rfl (by decide) (by decide) rfl rfl
 dsimp only [V.cells,setA] at s1
 refine aC.any rfl rfl rfl rfl (OpR.of (R:=fun v h'=>v=iv∧h'=h1) (kn rfl e1) ⟨rfl,rfl⟩) ?_
 rintro iv h ⟨rfl,rfl⟩
 have s:=s1.ae [1,1,1,1,1,1,1,0]
 dsimp only [bringA,getA,aV] at s
 have s1:=s
 obtain ⟨i1,jb,gi,tc⟩:=og
 obtain ⟨w,h2,e2,s2⟩:=fP (s.ae [4,6]) bL jb uo gi (by omega) rfl (by decide) (by simp only [eL,aO,bB]; omega)
 refine aC.any rfl rfl rfl rfl (OpR.of (R:=fun v h'=>v=w∧h'=h2) (kj rfl rfl e2) ⟨rfl,rfl⟩) ?_
 rintro w h ⟨rfl,rfl⟩
 have hw:=s2
 have s:=(s2.del 1).ae [1,1,1,1,0,0,0]
 have s2:=s
 refine zL rfl (s.ld (k:=3) rfl bN rfl) (zF rfl (FZ _ _) (zL rfl (s.ld (k:=0) rfl bN rfl) (aC.any rfl rfl rfl rfl (OpR.ni rfl (s.ae [5,5]) (aX _ _) rfl rfl rfl rfl (by omega)) ?_)))
 intro bw h s
 have s:=s.ae [2,2,2,2,2,0,0]
 dsimp only [bringA,getA,aV] at s
 have KP:=s.kY (j:=4) rfl
 have D5:=(s.buf (k:=5) rfl).view.cells
 refine aC.j3 rfl rfl rfl (OpR.sS rfl rfl rfl (s.iF (k:=2) rfl LJ rfl (by decide) KP.1 KP.2.1)) ?_
 rintro v h ⟨rfl,s⟩
 dsimp only [setA,List.set] at s
 refine aC.j3 rfl rfl rfl (OpR.sS rfl rfl rfl (s.iF (k:=3) rfl ko rfl (by decide) D5.1 D5.2)) ?_
 rintro v h ⟨rfl,s⟩
 dsimp only [setA,List.set] at s
 refine aC.nil ⟨⟨ff (.inr ⟨rfl,⟨_,aU rfl (s0.ld (k:=2) rfl mq rfl)⟩,qu.2.2⟩) (.inr ⟨rfl,⟨_,aU rfl (s1.ld (k:=2) rfl mq rfl)⟩,qu.2.2⟩),aa,aa,aa,aa,qA (.inr ⟨rfl,⟨_,aU rfl (s0.ld (k:=3) rfl bN rfl)⟩,I⟩) (.inr ⟨rfl,⟨_,aU rfl (s1.ld (k:=3) rfl bN rfl)⟩,I⟩) (.inr ⟨rfl,⟨_,aU rfl (s2.ld (k:=3) rfl bN rfl)⟩,I⟩),fun _ _=>.inr ⟨rfl,⟨_,nZ rfl (FZ _ _)⟩,bS _ rfl⟩,qA (.inr ⟨rfl,⟨_,aU rfl (s0.ld (k:=0) rfl bN rfl)⟩,J⟩) (.inr ⟨rfl,⟨_,aU rfl (s1.ld (k:=0) rfl bN rfl)⟩,J⟩) (.inr ⟨rfl,⟨_,aU rfl (s2.ld (k:=0) rfl bN rfl)⟩,J⟩),aa,aa,aa,aa⟩,?_⟩
 refine ⟨rfl,s.row (k:=1) rfl,hq w bw _ ?_⟩
 have s:=s.put (k:=1) (o':=.loop false 36 env [12,13] oP oQ) rfl
 dsimp only [setA] at s
 have e:bE (dp++[n])=bE dp++[.int .i64 (n:Int)]:=by simp [bE]
 rw [e]
 exact ((s.ae [1,1,1,1,1]).del 6).del 5
end
end Go.Proofs.YtefepnnfphdkpaaGreat.Am
