/- ChainKept: a part of its proof; conditions: its statement's. -/
import Derived.Test.YtefepnnfphdkpaaGreatC33
import Derived.Test.YtefepnnfphdkpaaGreatC28
import Derived.Test.YtefepnnfphdkpaaGreatC27
set_option linter.defProp false
namespace Go.Proofs.YtefepnnfphdkpaaGreat.Am
open Go
def qU:=@Tryz.underlying56
section
variable {told:cN} {h:H} {S:List aq} {X Y:aq} {N B n g a p q r bz m:Nat} {v x y rv pv bv cv:V} {b l c R M data:List Nat} {ps:List Nat} {cs:List (List Nat)} {ε:aF} {now:List (Int×List Nat)}
theorem Ce (hT:W told)(hB:B≤2000)(hX:cO X (cR bv b))(oB:b.length≤8192)(fq:EI N B ε)(hw:NW N now)(hp:iw N R M (dW now ε))(hm:jB b.length=m)(XX:m≤(cf M N).length)(s:Sat h (GA g a p q r data bz now ε::X::S)):
  Call ⟨Tryz.prog,told⟩ 17 [.ptr g 0,bv] h fun v h'=>∃ε' b6 M',v=.bh [.int .i64 (((cf M N).take m).headD 0:Nat),.int .i64 0]∧EI N B ε'∧Sm N ε ε'∧NW N b6∧Ep N R M (dW now ε) ((cf M N).take m) M' (dW b6 ε')∧kM (dW b6 ε') ((cf M N).take m) (chunks b m) ∧
   Sat h' (GA g a p q r data bz b6 ε'::X::S):=by
 have hn:=ud (n:=b.length)
 have YJ:m≤20:=by
  rw [←hm]
  unfold jB
  split <;> omega
 have zI:1≤m:=by omega
 have oZ:=hp.n2
 have I:((cf M N).take m).length=m:=by rw [e_]; omega
 obtain ⟨i1,jb,gi,tc⟩:=og
 refine Call.of_wp (hT.free _ rfl) Tryz.func17 rfl rfl (zK 9 rfl (zo rfl (aM rfl rfl rfl (aW aG (s.aH (k:=1) rfl hX))) (zh rfl (ag rfl rfl h_) (by simp; omega) ?_)))
 refine zk 6 rfl (zo rfl (aM rfl rfl rfl (aW aG (s.aH (k:=1) rfl hX))) (zc rfl (BB (n:=(b.length:Int)) hT (by omega)) ?_))
 rintro v h' ⟨rfl,rfl⟩
 rw [ck,hm]
 obtain ⟨wv,h1,e3,s1⟩:=rG (P:=Tryz.prog) s bL jb uo gi (by omega) rfl (by decide) (by decide) (n:=0) (c:=m) (by omega) (by omega)
 refine az.any rfl rfl rfl (OpR.of (R:=fun v h'=>v=wv∧h'=h1) (rE rfl rfl e3) ⟨rfl,rfl⟩) ?_
 rintro w0 h ⟨rfl,rfl⟩
 have s:Sat h (.arr 1 w0 []::GA g a p q r data bz now ε::X::S):=s1
 refine zk 6 rfl (zo rfl (aM rfl rfl rfl (aW aG (s.aH (k:=2) rfl hX))) (zc rfl (BB (n:=(b.length:Int)) hT (by omega)) ?_))
 rintro v h' ⟨rfl,rfl⟩
 rw [ck,hm]
 refine zk 2 rfl (WP.block ?_)
 refine MS (M:=M) hT hB oZ (by omega) m 0 w0 M ε now _ _ _ (by omega) (dR _) fq hw ⟨hp,fun j=>by simp,fun j _ _=>rfl⟩ s ⟨rfl,rfl,rfl,rfl,rfl,aa⟩ (fun _ pv M2 qV J E' h' nG iM rj Es hE s' => ?_) (fun hq=>absurd hq (by omega))
 have s:=s'
 have hlen:(bE ((cf M N).take m)).length=m*1:=by rw [eL,I,cq]
 refine WP.has hE (zK 4 rfl (zo rfl (aM rfl rfl rfl (s.dF (n:=m) (j:=0) rfl hlen (by decide) bL)) ?_))
 refine zk 2 rfl (WP.block ?_)
 have ek:((m:Nat):Int)=((((cf M N).take m).length:Nat):Int):=by rw [I]
 rw [ek]
 refine Pz (P0:=dW J qV) hT hB hX oB oZ (by omega) (List.Nodup.sublist (List.take_sublist _ _) (Aq M N)) (fun z hz=>hp.N7 (fC hz)) m 0 qV J _ _ _ (by omega) nG rj Es.KW (fun i z hi=>absurd hi (by omega)) (fun i _=>rfl) s ⟨rfl,rfl,rfl,rfl,rfl,rfl,aa⟩ (fun kP yg E' h' mc kA Ap NP Al qK hE s' => ?_)
 have s:=s'
 have hz:((cf M N).take m)[0]?=some (((cf M N).take m).headD 0):=by
  cases hq:(cf M N).take m with
  | nil=>rw [hq] at I; simp at I; omega
  | cons z l=>rfl
 have KY:(bE ((cf M N).take m))[0]?=some (.int .i64 ((((cf M N).take m).headD 0:Nat):Int)):=by rw [bE,gJ,hz]; rfl
 obtain ⟨id,off,e1,e2⟩:=gR (P:=Tryz.prog) s (k:=0) (i:=0) rfl KY bL kf
 refine WP.has hE (zK 3 rfl (zo rfl (cx (r:=.ptr id off) rfl rfl e1) (zl rfl (e2 _ dY) (zk 3 rfl (WP.ret ⟨aa,_,rfl,?_⟩)))))
 refine ⟨kP,yg,M2,rfl,mc,iM.trans kA,Ap,⟨NP,Es.bits,fun j h1 h2=>by rw [qK j h2]; exact Es.same j h1 h2⟩,kM.mk (by rw [I,Ip]) (fun i z c hz hc => ?_),s.drop⟩
 have hi:i<m:=by have:=(List.getElem?_eq_some_iff.1 hz).1; omega
 rw [Iq hi] at hc
 obtain rfl:=bI hc
 exact Al i z (by omega) hz
end
theorem WC.ws {told:cN}(I:WC told): WS told:=⟨I.w,I.fmt⟩
theorem KZ {n:Nat}(I:2≤n): (cf oN n).length=n-2:=by
 have J:=yn (M:=oN) (N:=n)
 have h2:(kN (bt oN) n).length=2:=by
  rw [KT (g:=fun j=>decide (j<2)) (fun j _=>Ei),show n=2+(n-2) by omega,MR (fun j hj=>decide_eq_false (by omega))]
  rfl
 omega
theorem headD_cons {L:List Nat}(h:1≤L.length): ∃p ps,L=p::ps∧L.headD 0=p:=by
 cases L with
 | nil=>simp at h
 | cons p ps=>exact ⟨p,ps,rfl,rfl⟩
def mj (f n:Nat): List Nat:=(List.range n).map fun i=>(f+i*7)%256
theorem rR {f n:Nat}: (mj f n).length=n:=by unfold mj; rw [ew,sC]
theorem K0 {f i m:Nat}: (mj f i++List.replicate (m+1) 0).set i ((f+i*7)%256)=mj f (i+1)++List.replicate m 0:=by
 have e:mj f (i+1)=mj f i++[(f+i*7)%256]:=by unfold mj; rw [AN,vW]; rfl
 rw [Av _ _ (by rw [rR]; exact aD _),rR,nT,e,eu]
 rfl
theorem Cf {h:H}{n:Nat}: convV Tryz.prog h 3 5 (.int .i64 (n:Int))=some (.int .u8 ((n%256:Nat):Int),h):=by
 simp only [convV,bO,Tryz.underlying5,wrap_u8]
theorem K1 {P:Program}{h:H}{t:TypeId}{x y:Operand}{f m:Nat}: binV P h .add t x y (.int .u8 (f:Int)) (.int .u8 ((m%256:Nat):Int))=some (.int .u8 (((f+m)%256:Nat):Int)):=by
 simp only [binV,cY,af,intV]
 rw [show (f:Int)+((m%256:Nat):Int)=((f+m%256:Nat):Int) by omega,wrap_u8,show (f+m%256)%256=(f+m)%256 by omega]
theorem R6 {P:Program}{h:H}{J:Array TypeId}{k:IntKind}{a b:Int}: builtinV P h .max J [.int k a,.int k b]=some (.int k (max a b),h):=by
 simp only [builtinV,foldV,maxV,cY,af,ig]
 by_cases I:a<b
 ·simp only [I,wj,af]
  rw [show max a b=b by omega]
 ·simp only [I,mF,ay]
  rw [show max a b=a by omega]
theorem R7 {h:H}{x y:Nat}: buildSliceV Tryz.prog h 28 2 [(0,.int .u8 (x:Int)),(1,.int .u8 (y:Int))]=some (.sl h.next 0 2 (.exact 2),newRow h (ofBytes [x,y])):=by
 simp only [buildSliceV,aG,c5,nX,V.cells]
 rfl
section
variable {told:cN} {h:H} {S:List aq} {X Y:aq} {N B n g a p q r bz m:Nat} {v x y rv pv bv cv:V} {b l c R M data:List Nat} {ps:List Nat} {cs:List (List Nat)} {ε:aF} {now:List (Int×List Nat)}
theorem MU (I:W told){n:Int}(J:n<9223372036854775808): Call ⟨Tryz.prog,told⟩ 13 [.int .i64 n] h fun v h'=>v=.int .i64 (jB n.toNat:Nat)∧h'=h:=by
 refine Call.of_wp (I.free _ rfl) Tryz.func13 rfl rfl (zK 8 rfl ?_)
 by_cases h0:n≤0
 ·skip
  refine zt rfl (ag rfl rfl xO) (by simp; omega) ?_
  exact zk 6 rfl (WP.ret ⟨aa,_,rfl,by rw [show n.toNat=0 by omega]; rfl,rfl⟩)
 ·obtain ⟨m,rfl⟩:∃m:Nat,n=(m:Int)+1:=⟨n.toNat-1,by omega⟩
  have hm:(m:Int)+1-1=(m:Int):=by omega
  have hd:m/480≤m:=vX _ _
  refine zh rfl (ag rfl rfl xO) (by simp <;> omega) ?_
  refine zk 6 rfl (zo rfl (ag (r:=.int .i64 (m:Int)) rfl rfl ((jF (a:=(m:Int)+1) (b:=1) (aA (by omega) (by omega))).trans (by rw [hm]))) ?_)
  refine zb rfl (wW (a:=m) (b:=480) (by decide) (by omega)) ?_
  refine zb rfl (by exact bk (aA (by omega) (by omega))) ?_
  exact zk 2 rfl (WP.ret ⟨aa,_,rfl,by rw [jB,ai (by omega),show ((m:Int)+1).toNat-1=m by omega]; rfl,rfl⟩)
noncomputable def XY : Code:=eD [1,1,0,1,0,0] ((Tryz.f16.body).getD .skip)
theorem Ir {f:Nat}(hn:n≤9000): ∀(m i:Nat) (h:H) (E:List (Nat×V)) (Q:Ex→List (Nat×V)→H→Prop),i+m=n→Sat h (aR v (mj f i++List.replicate m 0)::S)→Has E [(0,.int .i64 (n:Int)),(1,.int .u8 (f:Int)),(5,v),(6,.int .i64 (i:Int))] →
  (∀E' h',Has E' [(5,v)]→Sat h' (aR v (mj f n)::S)→Q (.exit 0) E' h')→WP ⟨Tryz.prog,told⟩ 23 (.loop XY) E h Q:=by
 intro m
 induction m with
 | zero =>
  intro i h E Q hi s I J
  refine WP.loop (WP.has I (zK 5 rfl (zh rfl (ag rfl rfl aP) (by simp; omega) ?_)))
  refine zk 2 rfl (WP.exit ?_)
  obtain rfl:i=n:=by omega
  rw [List.replicate_zero,fD] at s
  exact J _ _ ⟨rfl,aa⟩ s
 | succ m ih =>
  intro i h E Q hi s I J
  obtain ⟨id,off,e3,h2,e4,s2⟩:=iN s (i:=i) (b:=(f+i*7)%256) (by rw [bD,rR,eR]; omega) (by omega)
  rw [K0] at s2
  refine WP.loop (WP.has I (zK 5 rfl (zt rfl (ag rfl rfl aP) (by simp; omega) ?_)))
  refine zk 4 rfl (WP.block (zK 5 rfl (zo rfl (ag (r:=.int .i64 ((i*7:Nat):Int)) rfl rfl (by rw [show ((i*7:Nat):Int)=(i:Int)*7 by omega]; exact jG (aA (by omega) (by omega)))) ?_)))
  refine zo rfl (cF rfl Cf) (zb rfl K1 (zo rfl (cx (r:=.ptr id off) rfl rfl e3) (zS rfl (⟨h2,e4,s2⟩) ?_)))
  rintro h s
  refine zv (zr rfl (zm rfl (zb rfl (by exact bk (aA (by omega) (by omega))) ?_)))
  refine za rfl (zv ?_)
  exact ih (i+1) _ _ Q (by omega) s ⟨rfl,rfl,rfl,rfl,aa⟩ J
theorem MV (I:W told){f:Nat}(J:n≤9000)(s:Sat h S): Call ⟨Tryz.prog,told⟩ 16 [.int .i64 (n:Int),.int .u8 (f:Int)] h fun v h'=>Sat h' (aR v (mj f n)::S):=by
 refine Call.of_wp (I.free _ rfl) Tryz.func16 rfl rfl (zK 7 rfl (az.any rfl rfl rfl (OpR.zJ rfl s rfl rfl rfl rfl (by omega)) ?_))
 intro v h s
 refine zk 7 rfl (WP.block ?_)
 refine Ir J n 0 _ _ _ (by omega) s ⟨rfl,rfl,rfl,rfl,aa⟩ (fun E' h' hE s' => ?_)
 have s:=s'
 exact WP.has hE (zK 5 rfl (WP.ret ⟨aa,_,rfl,s⟩))
theorem Is (J:WC told)(s:Sat h S): Call ⟨Tryz.prog,told⟩ 11 [] h fun v h'=>v=.bool true∧Sat h' S:=by
 have PS:(cf oN 16).length=14:=KZ (by decide)
 have nC:jB 2=1:=rfl
 refine Call.of_wp (J.w.free _ rfl) Tryz.func11 rfl rfl (zK 6 rfl (zc rfl (uz (n:=16) (m:=262144) (f:=16) J.ws (by decide) (by decide) (by decide) (by decide) (by decide) (by decide) s) ?_))
 rintro v h ⟨p,a,q,r,ε,rfl,fq,hp,hd,s⟩
 refine zk 6 rfl (zh rfl (ag rfl rfl (tX vB)) (rfl) (zk 6 rfl (zc rfl (Cb J.w s) ?_)))
 rintro v h1 ⟨g,rfl,s⟩
 refine zk 6 rfl (zh rfl (ag rfl rfl (tX j8)) (rfl) (zk 6 rfl (az.any rfl rfl rfl (OpR.of (R:=fun v h'=>v=.sl h1.next 0 2 (.exact 2)∧h'=newRow h1 (ofBytes [97,98])) (kn rfl (R7 (x:=97) (y:=98))) ⟨rfl,rfl⟩) ?_)))
 rintro v I ⟨rfl,rfl⟩
 have s1:Sat (newRow h1 (ofBytes [97,98])) (pt h1.next (.cells 2 (ofBytes [97,98]) false)::_):=s.new _
 generalize newRow h1 (ofBytes [97,98])=I at s1
 generalize h1.next=id at s1
 have hg:=s1.row (k:=0) rfl
 have e1:convB Tryz.prog I 28 28 (.sl id 0 2 (.exact 2))=some (.sl id 0 2 (.exact 2),I.put id (some (.cells 2 (ofBytes [97,98]) true))):=by
  simp only [convB,aG,Tryz.underlying5,hg]
  rfl
 have e0:convV Tryz.prog I 28 28 (.sl id 0 2 (.exact 2))=none:=by
  simp only [convV,aG]
 have s2:Sat (I.put id (some (.cells 2 (ofBytes [97,98]) true))) (pt id (.cells 2 (ofBytes [97,98]) true)::_):=s1.put (k:=0) rfl
 have s3:Sat (I.put id (some (.cells 2 (ofBytes [97,98]) true))) (.cu (.sl id 0 2 (.exact 2)) [97,98]::_):=s2.freeze.hU (B:=.cu (.sl id 0 2 (.exact 2)) [97,98]) fun m r hm=>⟨by decide,.inr ⟨id,0,.exact 2,2,_,true,rfl,hm,rfl,by decide,rfl,by decide⟩⟩
 refine az.any rfl rfl rfl (OpR.of (R:=fun v h'=>v=.sl id 0 2 (.exact 2)∧h'=I.put id (some (.cells 2 (ofBytes [97,98]) true))) (Gw rfl e0 e1) ⟨rfl,rfl⟩) ?_
 rintro v h ⟨rfl,rfl⟩
 have s:=s3.ae [1]
 refine zc rfl (Ce (b:=[97,98]) (M:=oN) (now:=[]) (m:=1) J.w (by decide) (dc _ _) (by decide) fq (NW.nil 16) hp nC (by omega) s) ?_
 rintro v h ⟨qV,VF,M1,rfl,nG,iM,rj,Es,oC,s⟩
 obtain ⟨z,qs,hz,F8⟩:=headD_cons (L:=(cf oN 16).take 1) (by rw [e_]; omega)
 have R8:qs.length=0:=by have:=fb List.length hz; rw [e_,aO] at this; omega
 have rM:∀x∈z::qs,x<16:=fun x hx=>(mz.1 (fC (hz ▸ hx))).1
 have nu:flatL (chunks [97,98] 1)=[97,98]:=rfl
 rw [F8]
 rw [hz] at oC
 refine zk 9 rfl (zo rfl (pF rfl (m_ j8 rfl)) (zm rfl (zc rfl (yl J (vK W.base (by decide) rj) ⟨rfl,rfl,by simp [V.beq]⟩ (by decide) nG oC rM (by omega) (by rw [nu]; decide) s) ?_)))
 rintro v h ⟨u,kP,rfl,mc,kA,s⟩
 rw [nu] at s
 have z6:=(s.buf (k:=0) rfl).view
 refine zk 9 rfl (zt rfl (ag rfl rfl iz) (by decide) ?_)
 refine zk 2 rfl (zt rfl (ag rfl rfl iz) (by decide) ?_)
 refine zk 3 rfl (zo rfl (cF rfl (DW z6)) (zt rfl (ag rfl rfl Hp) (decide_eq_true rfl) (zk 2 rfl (zc rfl (BB (n:=481) J.w (by decide)) ?_))))
 rintro v h' ⟨rfl,rfl⟩
 refine zt rfl (ag rfl rfl iz) (by decide) ?_
 exact zk 3 rfl (WP.ret ⟨aa,_,rfl,rfl,((s.drop).drop).drop⟩)
end
structure HC (P:Int→List Nat)(ps:List Nat)(x:Int×List Nat): Prop where
 hd:x.1=((ps.headD 0:Nat):Int)
 len:ps.length=jB x.2.length
 ch:kM P ps (chunks x.2 ps.length)
 sz:x.2.length≤8192
structure kO (N:Nat)(P:Int→List Nat)(cL:List (List Nat))(m:List (Int×List Nat)): Prop where
 len:cL.length=m.length
 ch:∀(i:Nat) (ps:List Nat) (x:Int×List Nat),cL[i]?=some ps→m[i]?=some x→HC P ps x
 nd:cL.flatten.Nodup
 lt:∀z∈cL.flatten,2≤z∧z<N
theorem MW {N:Nat}: ∀ {l:List Nat},l.Nodup→(∀z∈l,z<N)→l.length≤N:=by
 intro l I J
 have h1:((List.range N).filter fun i=>decide (i∈l)).Perm l:=by
  refine (Fu ?_ I).2 fun a => ?_
  ·exact (Ax _ As).imp fun h=>fE h
  ·rw [AO,vZ,dx]
   exact ⟨fun q=>q.2,fun q=>⟨J a q,q⟩⟩
 rw [←h1.length_eq]
 have:=List.length_filter_le (fun i=>decide (i∈l)) (List.range N)
 rwa [sC] at this
theorem Cg {cL:List (List Nat)}{i:Nat}{ps:List Nat}(h:cL[i]?=some ps): (cL.take (i+1)).flatten=(cL.take i).flatten++ps:=by
 rw [sA,h,pO]
 simp
theorem It {cL:List (List Nat)}{i:Nat}{ps:List Nat}(h:cL[i]?=some ps): cL.flatten=(cL.take i).flatten++(ps++(cL.drop (i+1)).flatten):=by
 obtain ⟨I,J⟩:=List.getElem?_eq_some_iff.1 h
 have e:cL.drop i=ps::cL.drop (i+1):=by rw [r9 I,J]
 conv=>lhs; rw [←nI i cL,e]
 simp
theorem kO.GC {N:Nat}{P:Int→List Nat}{cL:List (List Nat)}{m:List (Int×List Nat)}(h:kO N P cL m): cL.flatten.length≤N:=MW h.nd fun z I=>(h.lt z I).2
theorem HC.one {P:Int→List Nat}{ps:List Nat}{x:Int×List Nat}(h:HC P ps x): 1≤ps.length:=by have:=ud (n:=x.2.length); have:=h.len; omega
theorem kO.VG {N:Nat}{P:Int→List Nat}{cL:List (List Nat)}{m:List (Int×List Nat)}(h:kO N P cL m): m.length≤cL.flatten.length:=by
 have key:∀(l:List (List Nat)),(∀ps∈l,1≤ps.length)→l.length≤l.flatten.length:=by
  intro l
  induction l with
  | nil=>intro _; exact aD _
  | cons a l ih =>
   intro hl
   have h1:=ih fun ps I=>hl ps (cj _ I)
   have h2:=hl a cz
   simp only [List.flatten_cons,bD,aO]
   omega
 have h1:=key cL fun ps I=>by
  obtain ⟨i,hi⟩:=sg I
  have J:=(List.getElem?_eq_some_iff.1 hi).1
  have hm:m[i]?=some (m[i]'(by rw [←h.len]; exact J)):=aN _
  exact (h.ch i ps _ hi hm).one
 rw [←h.len]
 exact h1
theorem kO.fZ {N:Nat}{P:Int→List Nat}{cL:List (List Nat)}{m:List (Int×List Nat)}(h:kO N P cL m): m.length≤N:=cn h.VG h.GC
theorem kO.used {N:Nat}{P:Int→List Nat}{cL:List (List Nat)}{m:List (Int×List Nat)}{M:List Nat}(h:kO N P cL m)(hN:2≤N)(J:∀j,j<N→bt M j=(decide (j<2)||decide (j∈cL.flatten))): (kN (bt M) N).length=2+cL.flatten.length:=by
 have h1:(kN (bt M) N).Perm (0::1::cL.flatten):=by
  refine (Fu ?_ ?_).2 fun a => ?_
  ·unfold kN
   exact (Ax _ As).imp fun h=>fE h
  ·refine List.nodup_cons.2 ⟨fun q => ?_,List.nodup_cons.2 ⟨fun q => ?_,h.nd⟩⟩
   ·rcases List.mem_cons.1 q with q | q
    ·omega
    ·have:=h.lt 0 q; omega
   ·have:=h.lt 1 q; omega
  ·unfold kN
   rw [AO,vZ,gC,gC]
   constructor
   ·rintro ⟨I,hq⟩
    rw [J a I,jS,dx,dx] at hq
    rcases hq with q | q
    ·omega
    ·exact .inr (.inr q)
   ·intro q
    have I:a<N:=by
     rcases q with q | q | q
     ·omega
     ·omega
     ·exact (h.lt a q).2
    refine ⟨I,?_⟩
    rw [J a I,jS,dx,dx]
    rcases q with q | q | q
    ·exact .inl (by omega)
    ·exact .inl (by omega)
    ·exact .inr q
 rw [h1.length_eq]
 simp only [aO]
 omega
section
variable {P:Program} {h:H} {S:List aq} {k j i:Nat} {v:V} {cs:List V} {m:List (Int×List Nat)} {x:Int×List Nat} {t e:TypeId}
theorem Sat.MX (s:Sat h S)(hj:getA S j=some (.arr k v cs))(hi:i*k+k≤cs.length)(hk:1≤k)(hu:P.underlying t=some (.slice e))(J:bj P e=some k):
  ∃id off,indexAddrV P t v (.int .i64 (i:Int))=some (.ptr id off)∧∀m c t',((cs.drop (i*k)).take k)[m]?=some c→bZ P t'=some false→loadV P h t' (.ptr id (off+m))=some c:=by
 obtain ⟨m,r,h1,h2,h3⟩:=s.at hj
 rcases h3.2 with ⟨_,rfl⟩ | ⟨id,n,cap,N,rest,rfl,hg,e1,e2,_⟩
 ·simp at hi; omega
 ·refine ⟨id,i*k,?_,fun m c t' I ht=>Jp ht (h1 _ _ hg) ?_⟩
  ·simp only [indexAddrV,hu,J,ck]
   have:i<n:=by
    have h4:i*k+k=(i+1)*k:=by rw [gL,wg]
    rw [h4,e1] at hi
    exact Nat.lt_of_succ_le (Fs hi hk)
   rw [show (decide ((0:Int)≤(i:Int))&&decide ((i:Int)<(n:Int)))=true by simp; omega,af]
   simp
  ·rw [jj] at I
   split at I
   ·rw [jk] at I
    rw [eW,gx (List.getElem?_eq_some_iff.1 I).1]; exact I
   ·cases I
theorem Tm (s:Sat h (lV cs m::S))(hx:m[i]?=some x): ∃u,(cs.drop (i*2)).take 2=[.int .i64 x.1,u]∧Sat h (.cu u x.2::lV cs m::S):=by
 obtain ⟨a,b,q1,q2,q3⟩:=s.at (k:=0) rfl
 obtain ⟨u,e1,e2⟩:=Gp q3 hx
 exact ⟨u,e1,(s.dup (aS.lV _ _)).hU (B:=.cu u x.2) fun a b h=>by
  obtain ⟨u',I,J⟩:=Gp h hx
  rw [e1] at I
  injection I with _ I
  injection I with I _
  subst I
  exact J⟩
theorem Et (s:Sat h S)(I:getA S k=some (lV cs m)): cs.length=m.length*2:=by
 obtain ⟨a,b,q1,q2,J⟩:=s.at I
 exact Pm J
end
section
variable {told:cN} {h:H} {S:List aq} {X Y:aq} {N B n c:Nat} {v w x y rv sv wv lv:V} {R M:List Nat} {ps seen:List Nat} {cL:List (List Nat)} {cs:List V} {m:List (Int×List Nat)} {A:aF→aq} {pg:aF→Int→List Nat} {ε:aF}
noncomputable def XZ : Code:=eD [1,1,1,1,1,0,1,0,0] ((Tryz.f29.body).getD .skip)
noncomputable def X0 : Code:=eD [1,1,1,1,1,0,1,0,0,1,0,0,1,1,1,0,1,0,0] ((Tryz.f29.body).getD .skip)
noncomputable def X1 : Code:=eD [1,1,1,1,1,0,1,0,0,1,0,0,1,1,1,0,1,0,0,1,0,0,0,1,0,0] ((Tryz.f29.body).getD .skip)
theorem R9 {z j:Nat}(Zi:seen.length≤3000)(yw:ps.length≤3000)(hz:ps[j]?=some z)(J:z∉seen)(s:Sat h (.arr 1 sv (bE seen)::.arr 1 wv (bE ps)::S)): ∀(d k:Nat) (E:List (Nat×V)) (Q:Ex→List (Nat×V)→H→Prop),k+d=seen.length →
  Has E [(0,rv),(1,lv),(5,x),(6,.int .i64 0),(8,.int .i64 0),(9,.int .i64 (c:Int)),(10,sv),(11,.int .i64 (n:Int)),(14,wv),(16,.int .i64 (j:Int)),(17,.int .i64 (k:Int))] →
  (∀E',Has E' [(0,rv),(1,lv),(5,x),(6,.int .i64 0),(8,.int .i64 0),(9,.int .i64 (c:Int)),(10,sv),(11,.int .i64 (n:Int)),(14,wv),(16,.int .i64 (j:Int))]→Q (.exit 4) E' h)→WP ⟨Tryz.prog,told⟩ 144 (.loop X1) E h Q:=by
 have hlen:(bE seen).length=seen.length*1:=by rw [eL,cq]
 have Er:(bE ps)[j]?=some (.int .i64 (z:Int)):=by rw [bE,gJ,hz]; rfl
 obtain ⟨ve,I,e3,e4⟩:=gR (P:=Tryz.prog) s (k:=1) (i:=j) rfl Er bL kf
 intro d
 induction d with
 | zero =>
  intro k E Q hk hE hq
  refine WP.loop (WP.has hE (zK 5 rfl (zo rfl (aM rfl rfl rfl (s.dF (n:=seen.length) (j:=0) rfl hlen (by decide) bL)) ?_)))
  refine zh rfl (ag rfl rfl aP) (by simp; omega) ?_
  exact zk 2 rfl (WP.exit (hq _ ⟨rfl,rfl,rfl,rfl,rfl,rfl,rfl,rfl,rfl,rfl,aa⟩))
 | succ d ih =>
  intro k E Q hk hE hq
  have hy:seen[k]?=some (seen[k]'(by omega)):=aN _
  generalize (seen[k]'(by omega))=y at hy
  have dh:y≠z:=fun e=>J (by rw [←e]; exact aY hy)
  have KY:(bE seen)[k]?=some (.int .i64 (y:Int)):=by rw [bE,gJ,hy]; rfl
  obtain ⟨id,off,e1,e2⟩:=gR (P:=Tryz.prog) s (k:=0) (i:=k) rfl KY bL kf
  refine WP.loop (WP.has hE (zK 5 rfl (zo rfl (aM rfl rfl rfl (s.dF (n:=seen.length) (j:=0) rfl hlen (by decide) bL)) ?_)))
  refine zt rfl (ag rfl rfl aP) (by simp; omega) ?_
  refine zk 4 rfl (WP.block (zw (WP.drawn [ak,ak,ak,ak,ak,ak,ak,ak,ak] rfl (by kernel_rfl) (by kernel_rfl) ?_)))
  refine zM rfl (zM rfl (zO rfl (cx (r:=.ptr id off) rfl rfl e1) (zL rfl (e2 _ dY) (zM rfl (zM rfl (zO rfl (cx (r:=.ptr ve I) rfl rfl e3) (zL rfl (e4 _ dY) (aC.nc rfl rfl rfl rfl (ag rfl rfl iz) (by simp; omega) ?_))))))))
  refine aC.nil ⟨⟨aa,aa,aa,aa,aa,aa,aa,aa,aa,aa⟩,?_⟩
  refine zj rfl (WP.skip (zr rfl (zm rfl (zb rfl (by exact bk (aA (by omega) (by omega))) ?_))))
  refine za rfl (zv ?_)
  exact ih (k+1) _ Q (by omega) ⟨rfl,rfl,rfl,rfl,rfl,rfl,rfl,rfl,rfl,rfl,rfl,aa⟩ hq
theorem R_ (yw:seen.length+ps.length≤3000)(I:(seen++ps).Nodup): ∀(d j:Nat) (sv:V) (h:H) (E:List (Nat×V)) (Q:Ex→List (Nat×V)→H→Prop),j+d=ps.length →
  Sat h (.arr 1 sv (bE (seen++ps.take j))::.arr 1 wv (bE ps)::S) →
  Has E [(0,rv),(1,lv),(5,x),(6,.int .i64 0),(8,.int .i64 0),(9,.int .i64 (c:Int)),(10,sv),(11,.int .i64 (n:Int)),(14,wv),(16,.int .i64 (j:Int))] →
  (∀J E' h',Has E' [(0,rv),(1,lv),(5,x),(6,.int .i64 0),(8,.int .i64 0),(9,.int .i64 (c:Int)),(10,J),(11,.int .i64 (n:Int)),(14,wv)]→Sat h' (.arr 1 J (bE (seen++ps))::.arr 1 wv (bE ps)::S)→Q (.exit 2) E' h')→WP ⟨Tryz.prog,told⟩ 144 (.loop X0) E h Q:=by
 have hlen:(bE ps).length=ps.length*1:=by rw [eL,cq]
 intro d
 induction d with
 | zero =>
  intro j sv h E Q hj s hE hq
  refine WP.loop (WP.has hE (zK 5 rfl (zo rfl (aM rfl rfl rfl (s.dF (n:=ps.length) (j:=1) rfl hlen (by decide) bL)) ?_)))
  refine zh rfl (ag rfl rfl aP) (by simp; omega) ?_
  refine zk 2 rfl (WP.exit ?_)
  rw [dO (by omega)] at s
  exact hq sv _ _ ⟨rfl,rfl,rfl,rfl,rfl,rfl,rfl,rfl,rfl,aa⟩ s
 | succ d ih =>
  intro j sv h E Q hj s hE hq
  have hz:ps[j]?=some (ps[j]'(by omega)):=aN _
  generalize (ps[j]'(by omega))=z at hz
  have e2:seen++ps=(seen++ps.take j)++z::ps.drop (j+1):=by
   obtain ⟨h1,h2⟩:=List.getElem?_eq_some_iff.1 hz
   rw [eu,←h2,List.getElem_cons_drop,nI]
  have X2:z∉seen++ps.take j:=fun q=>by
   rw [e2] at I
   exact (List.nodup_append.1 I).2.2 z q z cz rfl
  have Zj:(ps.take j).length≤ps.length:=by rw [e_]; omega
  have Er:(bE ps)[j]?=some (.int .i64 (z:Int)):=by rw [bE,gJ,hz]; rfl
  refine WP.loop (WP.has hE (zK 5 rfl (zo rfl (aM rfl rfl rfl (s.dF (n:=ps.length) (j:=1) rfl hlen (by decide) bL)) ?_)))
  refine zt rfl (ag rfl rfl aP) (by simp; omega) ?_
  refine zk 4 rfl (WP.block (zK 5 rfl (WP.block ?_)))
  refine R9 (x:=x) (lv:=lv) (n:=n) (c:=c) (rv:=rv) (by rw [bD]; omega) (by omega) hz X2 s (seen++ps.take j).length 0 _ _ (by omega) ⟨rfl,rfl,rfl,rfl,rfl,rfl,rfl,rfl,rfl,rfl,rfl,aa⟩ (fun E' hE => ?_)
  obtain ⟨id,off,e3,e4⟩:=gR (P:=Tryz.prog) s (k:=1) (i:=j) rfl Er bL kf
  refine WP.has hE (zK 4 rfl (zo rfl (cx (r:=.ptr id off) rfl rfl e3) (zl rfl (e4 _ dY) ?_)))
  obtain ⟨iv,h1,w,h2,e5,e6,s2⟩:=ym (k:=z) s (by rw [bD]; omega)
  have et:seen++ps.take j++[z]=seen++ps.take (j+1):=by rw [sA,hz,eu]; rfl
  rw [et] at s2
  refine az.any rfl rfl rfl (OpR.of (R:=fun v h'=>v=iv∧h'=h1) (kn rfl e5) ⟨rfl,rfl⟩) ?_
  rintro iv h1 ⟨rfl,rfl⟩
  refine az.any rfl rfl rfl (OpR.of (R:=fun v h'=>v=w∧h'=h2) (kj rfl rfl e6) ⟨rfl,rfl⟩) ?_
  rintro w h2 ⟨rfl,rfl⟩
  refine za rfl (zv (zr rfl (zm rfl (zb rfl (by exact bk (aA (by omega) (by omega))) ?_))))
  refine za rfl (zv ?_)
  exact ih (j+1) _ _ _ Q (by omega) s2 ⟨rfl,rfl,rfl,rfl,rfl,rfl,rfl,rfl,rfl,rfl,aa⟩ hq
theorem Sa (hT:WC told)(hR:mT mh N B rv A pg)(hv:En rv)(KN:N≤2999)(hc:kO N (pg ε) cL m): ∀(d i:Nat) (sv:V) (ε':aF) (h:H) (E:List (Nat×V)) (Q:Ex→List (Nat×V)→H→Prop),i+d=m.length→EI N B ε'→Sm N ε ε' →
  Sat h (.arr 1 sv (bE (cL.take i).flatten)::.arr 2 lv cs::lV cs m::A ε'::S) →
  Has E [(0,rv),(1,lv),(5,x),(6,.int .i64 0),(8,.int .i64 0),(9,.int .i64 ((2+(cL.take i).flatten.length:Nat):Int)),(10,sv),(11,.int .i64 (i:Int))] →
  (∀B1 jg E' h',EI N B jg→Sm N ε jg→Has E' [(5,x),(6,.int .i64 0),(8,.int .i64 0),(9,.int .i64 ((2+cL.flatten.length:Nat):Int))]→Sat h' (.arr 1 B1 (bE cL.flatten)::.arr 2 lv cs::lV cs m::A jg::S)→Q (.exit 0) E' h')→WP ⟨Tryz.prog,told⟩ 144 (.loop XZ) E h Q:=by
 have xz:=hc.fZ
 have VH:=hc.GC
 intro d
 induction d with
 | zero =>
  intro i sv ε' h E Q hi fq hs s hE hq
  have jf:=Et s (k:=2) rfl
  refine WP.loop (WP.has hE (zK 5 rfl (zo rfl (aM rfl rfl rfl (s.dF (n:=m.length) (j:=1) rfl jf (by decide) qU)) ?_)))
  refine zh rfl (ag rfl rfl aP) (by simp; omega) ?_
  refine zk 2 rfl (WP.exit ?_)
  rw [dO (by rw [hc.len]; omega)] at s ⊢
  exact hq sv ε' _ _ fq hs ⟨rfl,rfl,rfl,rfl,aa⟩ s
 | succ d ih =>
  intro i sv ε' h E Q hi fq hs s hE hq
  have jf:=Et s (k:=2) rfl
  have hx:m[i]?=some (m[i]'(by omega)):=aN _
  generalize (m[i]'(by omega))=y at hx
  have yI:cL[i]?=some (cL[i]'(by rw [hc.len]; omega)):=aN _
  generalize (cL[i]'(by rw [hc.len]; omega))=ps at yI
  have hC:=hc.ch i ps y yI hx
  have h1:=hC.one
  have eC:=hC.sz
  have Sb:=It yI
  have nC:=hc.nd
  rw [Sb,←eu] at nC
  have nC:=(List.nodup_append.1 nC).1
  have a_:=hc.lt
  have Qv:(cL.take i).flatten.length+ps.length≤N:=by
   have:=hc.GC
   rw [Sb] at this
   simp only [bD] at this
   omega
  have nu:flatL (chunks y.2 ps.length)=y.2:=by rw [hC.len]; exact Ar
  have rJ:=hC.ch
  obtain ⟨z,I,rfl,hz⟩:=headD_cons h1
  have Sc:y.1=(z:Int):=by rw [hC.hd,hz]
  have rM:∀u∈z::I,u<N:=fun u hu=>(a_ u (by rw [Sb]; exact List.mem_append.2 (.inr (List.mem_append.2 (.inl hu))))).2
  have K2:I.length≤1000:=by
   have:=hC.len
   unfold jB at this
   simp only [aO] at this
   split at this <;> omega
  obtain ⟨uv,hu,s⟩:=Tm (s.ae [2]) hx
  dsimp only [bringA,getA,aV] at s
  have s:=s.ae [4,2,2,1,0]
  dsimp only [bringA,getA,aV] at s
  have c1:kM (pg ε') (z::I) (chunks y.2 (z::I).length):=by rw [show pg ε'=pg ε from funext (hR.same hs)]; exact rJ
  refine WP.loop (WP.has hE (zK 5 rfl (zo rfl (aM rfl rfl rfl (s.dF (n:=m.length) (j:=2) rfl jf (by decide) qU)) ?_)))
  refine zt rfl (ag rfl rfl aP) (by simp; omega) ?_
  refine zk 4 rfl (WP.block (zK 5 rfl ?_))
  obtain ⟨id,off,e1,e2⟩:=s.MX (P:=Tryz.prog) (i:=i) (j:=2) rfl (by omega) (by decide) qU Ht
  have J:=e2 0 (.int .i64 y.1) 3 (by rw [hu]; rfl) dY
  rw [Sc] at J
  refine zo rfl (cx (r:=.ptr id off) rfl rfl e1) (zf rfl (De _ _) (zl rfl J (zc rfl (yl hT hR hv (by omega) fq c1 rM K2 (by rw [nu]; omega) s) ?_)))
  rintro v h ⟨u,kP,rfl,mc,kA,s⟩
  rw [nu] at s
  have kA:=hs.trans kA
  have c2:kM (pg kP) (z::I) (chunks y.2 (z::I).length):=by rw [show pg kP=pg ε from funext (hR.same kA)]; exact rJ
  have s:=s.ae [1,0]
  dsimp only [bringA,getA,aV] at s
  obtain ⟨id,off,e1,e2⟩:=s.MX (P:=Tryz.prog) (i:=i) (j:=3) rfl (by omega) (by decide) qU Ht
  have J:=e2 0 (.int .i64 y.1) 3 (by rw [hu]; rfl) dY
  rw [Sc] at J
  refine zk 11 rfl (zo rfl (cx (r:=.ptr id off) rfl rfl e1) (zf rfl (De _ _) (zl rfl J (zc rfl (Ca hT hR hv (by omega) mc c2 rM K2 (by rw [nu]; omega) s) ?_))))
  rintro v h ⟨wv,yf,rfl,th,qT,s⟩
  have qT:=kA.trans qT
  refine zk 8 rfl ?_
  obtain ⟨id,off,e1,e2⟩:=s.MX (P:=Tryz.prog) (i:=i) (j:=4) rfl (by omega) (by decide) qU Ht
  have J:=e2 0 (.int .i64 y.1) 3 (by rw [hu]; rfl) dY
  have DE:=e2 1 uv 28 (by rw [hu]; rfl) bN
  rw [Sc] at J
  have NG:=(s.kY (j:=0) rfl).2.2
  have z6:=(s.buf (k:=2) rfl).view
  have xq:=s.aH (k:=6) rfl (dc _ _)
  have Er:(bE (z::I))[0]?=some (.int .i64 (z:Int)):=rfl
  obtain ⟨ve,MT,e3,e4⟩:=gR (P:=Tryz.prog) s (k:=0) (i:=0) rfl Er bL kf
  have BS:(bE (z::I)).length=(z::I).length*1:=by rw [eL,cq]
  have s0:=s
  refine WP.drawn [ak,ak,ak,ak,ak,ak,ak,ak,ak,ak,ak,ak,ak,ak,ak,ak,ak,ak,some (0,2),some (0,2),ak,ak,ak,ak,ak,ak,ak,ak,ak,ak,ak,ak,ak,ak,ak,ak,ak,ak,ak,ak,ak,ak,ak,ak,ak] rfl (by kernel_rfl) (by kernel_rfl) ?_
  refine zM rfl (aC.nc rfl rfl rfl rfl (ag rfl rfl aJ) (rfl) (zM rfl (zM rfl (aC.op rfl rfl rfl (by simp only [isEff,qH]) (cF rfl (DW z6)) ?_))))
  refine zM rfl (zM rfl (zO rfl (cx (r:=.ptr id off) rfl rfl e1) (zF rfl (Jy _ _) (zL rfl DE (aC.op rfl rfl rfl (by simp only [isEff,qH]) (cF rfl (DW xq)) ?_)))))
  refine aC.nc rfl rfl rfl rfl (ag rfl rfl Nt) (by simp) ?_
  refine zO rfl (j0 rfl rfl) (zM rfl (zM rfl (aC.nc rfl rfl rfl rfl (ag rfl rfl aJ) (rfl) (zO rfl (j0 rfl rfl) (zM rfl (zM rfl (zO rfl (aM rfl rfl rfl (s.dF (n:=(z::I).length) (j:=0) rfl BS (by decide) bL)) ?_)))))))
  refine zM rfl (zM rfl (zO rfl (cx (r:=.ptr id off) rfl rfl e1) (zF rfl (Jy _ _) (zL rfl DE (zO rfl (aM rfl rfl rfl (aW aG xq)) (aC.any rfl rfl rfl rfl (OpR.call rfl rfl rfl rfl (MU (n:=(y.2.length:Int)) hT.w (by omega))) ?_))))))
  rintro v h' ⟨rfl,rfl⟩
  rw [ck,←hC.len]
  refine aC.nc rfl rfl rfl rfl (ag rfl rfl aJ) (by simp) ?_
  refine zO rfl (j0 rfl rfl) (zM rfl (zM rfl (zO rfl (aM rfl rfl rfl (s.dF (n:=(z::I).length) (j:=0) rfl BS (by decide) bL)) ?_)))
  refine aC.nc rfl rfl rfl rfl (ag rfl rfl aP) (by simp; omega) ?_
  refine zO rfl (j0 rfl rfl) (zM rfl (zM rfl (zO rfl (cx (r:=.ptr ve MT) rfl rfl e3) (zL rfl (e4 _ dY) (zM rfl (zM rfl (zO rfl (cx (r:=.ptr id off) rfl rfl e1) (zF rfl (De _ _) (zL rfl J (aC.nc rfl rfl rfl rfl (ag rfl rfl aJ) (by simp) ?_))))))))))
  refine zO rfl (j0 rfl rfl) ?_
  refine aC.nil ⟨⟨aa,aa,aa,aa,aa,aa,aa,aa,aa,aa,aa,aa,aa,aa,aa,aa,aa,aa,fun _ _=>.inr ⟨rfl,⟨_,cg rfl⟩,NG⟩,ff (.inr ⟨rfl,⟨_,aM rfl rfl rfl (s0.dF (n:=(z::I).length) (j:=0) rfl BS (by decide) bL)⟩,bS _ rfl⟩) (.inr ⟨rfl,⟨_,aM rfl rfl rfl (s0.dF (n:=(z::I).length) (j:=0) rfl BS (by decide) bL)⟩,bS _ rfl⟩),aa,aa,aa,aa,aa,aa,aa,aa,aa,aa,aa,aa,aa,aa,aa,aa,aa,aa,aa,aa,aa,aa,aa,aa,aa,aa⟩,?_⟩
  refine zK 7 rfl (WP.block ?_)
  have s:=s.ae [3,0]
  dsimp only [bringA,getA,aV] at s
  refine R_ (x:=x) (seen:=(cL.take i).flatten) (ps:=z::I) (by omega) nC (z::I).length 0 sv _ _ _ (by omega) (by rw [jT,fD]; exact s) ⟨rfl,rfl,rfl,rfl,rfl,rfl,rfl,rfl,rfl,rfl,aa⟩ (fun B1 E' h' hE s' => ?_)
  have s:=s'
  refine WP.has hE (zK 3 rfl (zo rfl (aM rfl rfl rfl (s.dF (n:=(z::I).length) (j:=1) rfl BS (by decide) bL)) ?_))
  have ea:(((2+(cL.take i).flatten.length:Nat):Int)+(((z::I).length:Nat):Int))=((2+(cL.take (i+1)).flatten.length:Nat):Int):=by rw [Cg yI,bD]; omega
  refine zo rfl (ag (r:=.int .i64 ((2+(cL.take (i+1)).flatten.length:Nat):Int)) rfl rfl ((bk (aA (by omega) (by omega))).trans (by rw [ea]))) ?_
  refine za rfl (zv (zr rfl (zm rfl (zb rfl (by exact bk (aA (by omega) (by omega))) ?_))))
  refine za rfl (zv ?_)
  rw [←Cg yI] at s
  exact ih (i+1) B1 yf _ _ Q (by omega) th qT ((((s.ae [0,3,3,1]).del 6).del 5).del 4) ⟨rfl,rfl,rfl,rfl,rfl,rfl,rfl,rfl,aa⟩ hq
theorem PA (hT:WC told)(hR:mT mh N B rv A pg)(J:mT told N B rv A pg)(hv:En rv)(hN:2≤N)(KN:N≤2999)(fq:EI N B ε)(hp:iw N R M (pg ε))(hc:kO N (pg ε) cL m)(hb:∀j,j<N→bt M j=(decide (j<2)||decide (j∈cL.flatten)))(s:Sat h (.arr 2 lv cs::lV cs m::A ε::S)):
  Call ⟨Tryz.prog,told⟩ 29 [rv,lv] h fun v h'=>v=.bool true∧∃ε',EI N B ε'∧Sm N ε ε'∧Sat h' (.arr 2 lv cs::lV cs m::A ε'::S):=by
 have hW:=hT.w
 have VH:=hc.GC
 have D3:∀ {ε':aF},Sm N ε ε'→iw N R M (pg ε'):=fun {ε'} hs=>by rw [show pg ε'=pg ε from funext (hR.same hs)]; exact hp
 have Uu:=hc.used hN hb
 have s:=s.ae [2]
 refine Call.of_wp (hW.free _ rfl) Tryz.func29 rfl rfl (zK 7 rfl (zc rfl (MQ hW J fq hN hp s) ?_))
 rintro v h ⟨xv,qV,rfl,nG,iM,s⟩
 have s:=s.ae [1]
 obtain ⟨ex,qu⟩:=(D3 iM).head
 refine zk 9 rfl (zc rfl (Pp hW J nG (by omega) qu hp.rl (by omega) (by omega) s) ?_)
 rintro v h ⟨kP,rfl,mc,I,s⟩
 have I:=iM.trans I
 have s:=(s.l7 (k:=1)).ae [0,2,2,0,0]
 refine zk 20 rfl (WP.block ?_)
 refine Sa (x:=xv) (cL:=cL) hT hR hv KN hc m.length 0 .bp kP _ _ _ (by omega) mc I s ⟨rfl,rfl,rfl,rfl,rfl,rfl,rfl,rfl,aa⟩ (fun B1 yf E' h' th qT hE s' => ?_)
 have s:=s'
 refine WP.has hE (zK 3 rfl (zt rfl (ag rfl rfl iz) (rfl) (zk 2 rfl (zt rfl (ag rfl rfl iz) (rfl) (zk 3 rfl (zo rfl (aM rfl rfl rfl (s.dF (n:=2+cL.flatten.length) (j:=4) rfl (by rw [eL,Uu,cq]) (by decide) bL)) ?_))))))
 exact zm rfl (zt rfl (ag rfl rfl iz) (decide_eq_true rfl) (zk 3 rfl (WP.ret ⟨aa,_,rfl,rfl,yf,th,qT,(s.del 4).drop⟩)))
end
theorem kM.same {P I:Int→List Nat}: ∀ {ps:List Nat} {cs:List (List Nat)},kM P ps cs→(∀z∈ps,I (z:Nat)=P (z:Nat))→kM I ps cs:=by
 intro ps
 induction ps with
 | nil=>intro cs h _; cases cs with
  | nil=>exact h
  | cons c cs=>exact h
 | cons p ps J=>intro cs h hs; cases cs with
  | nil=>exact h
  | cons c cs=>exact ⟨by rw [hs p cz]; exact h.1,J h.2 fun z hz=>hs z (cj _ hz)⟩
theorem kO.nil {N:Nat}{P:Int→List Nat}: kO N P [] []:=⟨rfl,fun i ps x h=>by simp at h,pU,fun z h=>by simp at h⟩
theorem kO.same {N:Nat}{P P':Int→List Nat}{cL:List (List Nat)}{m:List (Int×List Nat)}(h:kO N P cL m)(hs:∀z∈cL.flatten,P' (z:Nat)=P (z:Nat)): kO N P' cL m :=
 ⟨h.len,fun i ps x I J=>⟨(h.ch i ps x I J).hd,(h.ch i ps x I J).len,(h.ch i ps x I J).ch.same fun z hz=>hs z (List.mem_flatten.2 ⟨ps,aY I,hz⟩),(h.ch i ps x I J).sz⟩,h.nd,h.lt⟩
theorem kO.more {N:Nat}{P:Int→List Nat}{cL:List (List Nat)}{m:List (Int×List Nat)}{ps:List Nat}{x:Int×List Nat}(h:kO N P cL m)(hc:HC P ps x)(hn:ps.Nodup)(hd:∀z∈ps,z∉cL.flatten)(hl:∀z∈ps,2≤z∧z<N): kO N P (cL++[ps]) (m++[x]):=by
 have hlen:=h.len
 refine ⟨by simp [hlen],fun i qs y I J => ?_,?_,?_⟩
 ·by_cases hi:i<cL.length
  ·rw [gx hi] at I
   rw [gx (by omega)] at J
   exact h.ch i qs y I J
  ·rw [iP (by omega)] at I
   rw [iP (by omega)] at J
   have gi:i-cL.length=0:=by
    have:=(List.getElem?_eq_some_iff.1 I).1
    simp at this
    omega
   rw [gi] at I
   rw [show i-m.length=0 by omega] at J
   injection I with I
   injection J with J
   subst I
   subst J
   exact hc
 ·rw [pO,show [ps].flatten=ps by simp]
  exact List.nodup_append.2 ⟨h.nd,hn,fun a ha b hb e=>hd b hb (e ▸ ha)⟩
 ·intro z hz
  rw [pO,show [ps].flatten=ps by simp] at hz
  rcases List.mem_append.1 hz with hz | hz
  ·exact h.lt z hz
  ·exact hl z hz
theorem kO.wrote {N m:Nat}{R M M':List Nat}{P P':Int→List Nat}{cL:List (List Nat)}{L:List (Int×List Nat)}{b:List Nat}(h:kO N P cL L)(hp:iw N R M P)(hb:∀j,j<N→bt M j=(decide (j<2)||decide (j∈cL.flatten)))(hg:Ep N R M P ((cf M N).take m) M' P')
 (hm:jB b.length=m)(XX:m≤(cf M N).length)(hc:kM P' ((cf M N).take m) (chunks b m))(oB:b.length≤8192):
  kO N P' (cL++[(cf M N).take m]) (L++[(((((cf M N).take m).headD 0:Nat):Int),b)])∧∀j,j<N→bt M' j=(decide (j<2)||decide (j∈(cL++[(cf M N).take m]).flatten)):=by
 have J0:((cf M N).take m).length=m:=by rw [e_]; omega
 have I:∀z∈(cf M N).take m,2≤z∧z<N∧z∉cL.flatten:=fun z J=>by
  have rf:=fC J
  obtain ⟨h1,h2⟩:=mz.1 rf
  have h3:=hp.N7 rf
  refine ⟨h3.1,h1,fun q => ?_⟩
  rw [hb z h1,dy q,Bool.or_true] at h2
  cases h2
 refine ⟨(h.same fun z J=>hg.same z (by have:=h.lt z J; omega) fun q=>(I z q).2.2 J).more ⟨rfl,by rw [J0]; exact hm.symm,by rw [J0]; exact hc,oB⟩ (List.Nodup.sublist (List.take_sublist _ _) (Aq M N)) (fun z J=>(I z J).2.2) (fun z J=>⟨(I z J).1,(I z J).2.1⟩),fun j hj => ?_⟩
 rw [hg.bits,hb j hj,pO,show [(cf M N).take m].flatten=(cf M N).take m by simp,Bool.or_assoc]
 congr 1
 rw [←Bool.decide_or]
 exact decide_eq_decide.2 List.mem_append.symm
theorem PB {a b:PM}{x:Int×List Nat}{u:V}(I:(aq.cu u x.2).p a b): ∀ {m:List (Int×List Nat)} {l:List V},(lV l m).p a b→(lV (l++[.int .i64 x.1,u]) (m++[x])).p a b:=by
 intro m
 induction m with
 | nil=>intro l h; rcases l with _ | ⟨p,_ | ⟨q,l⟩⟩ <;> first | exact ⟨⟨rfl,I⟩,aa⟩ | exact h.elim
 | cons y m J =>
  intro l h
  rcases l with _ | ⟨p,_ | ⟨q,l⟩⟩ <;> first | exact h.elim | exact ⟨h.1,J h.2⟩
section
variable {P:Program} {h:H} {S:List aq} {k j i n:Nat} {v c x:V} {cs:List V} {l:List Nat} {t e:TypeId}
theorem Sat.VI (s:Sat h S)(J:getA S j=some (vF 1 v cs))(hi:cs[i]?=some c)(hu:P.underlying t=some (.slice e))(I:bj P e=some 1):
  ∃id off,indexAddrV P t v (.int .i64 (i:Int))=some (.ptr id off)∧∀t',bZ P t'=some false→loadV P h t' (.ptr id off)=some c:=by
 have Dp:=(List.getElem?_eq_some_iff.1 hi).1
 rcases s.rowAt J with ⟨_,rfl⟩ | ⟨id,len,cap,rfl,hl,hg⟩
 ·simp at hi
 ·refine ⟨id,i,?_,fun t' ht=>Jp ht hg (by rw [eW]; exact hi)⟩
  simp only [indexAddrV,hu,I,ck]
  rw [show (decide ((0:Int)≤(i:Int))&&decide ((i:Int)<(len:Int)))=true by simp; omega,af]
  simp
theorem yo (hb:iu h v l)(J:l.length=n+1): sliceV Tryz.prog h 28 (slR v 0 n) none (some (n+1)) none=some v∧(∀i:Nat,i<n→indexAddrV Tryz.prog 28 (slR v 0 n) (.int .i64 (i:Int))=indexAddrV Tryz.prog 28 v (.int .i64 (i:Int)))∧lenV Tryz.prog h 28 (slR v 0 n)=some (.int .i64 (n:Int))∧(slR v 0 n).cells=[slR v 0 n]∧storable (slR v 0 n)=true:=by
 have I:bj Tryz.prog 5=some 1:=c5
 rcases hb.2 with ⟨_,rfl⟩ | ⟨id,cs,c,rfl,_,hc⟩ | ⟨id,rfl,hg,_⟩
 ·simp at J
 ·have e:slR (.sl id 0 l.length (.exact c)) 0 n=.sl id 0 n (.exact c):=by
   simp only [slR]
   rw [cT (by omega),ay]
   rfl
  rw [e]
  refine ⟨?_,fun i hi => ?_,zy aG,rfl,rfl⟩
  ·simp only [sliceV,aG,I,lE,dB]
   rw [aE.2 (dR _),aE.2 (by omega:n+1≤c)]
   simp only [gB,af]
   rw [cT (by omega:c≠0),ay,J]
   rfl
  ·simp only [indexAddrV,aG,I,ck]
   rw [show (decide ((0:Int)≤(i:Int))&&decide ((i:Int)<(n:Int)))=true by simp; omega,show (decide ((0:Int)≤(i:Int))&&decide ((i:Int)<(l.length:Int)))=true by simp; omega]
 ·have e:slR (.sl id 0 l.length (.rest 1 0)) 0 n=.sl id 0 n (.rest 1 0):=rfl
  rw [e]
  refine ⟨?_,fun i hi => ?_,zy aG,rfl,rfl⟩
  ·simp only [sliceV,aG,I,lE,dB]
   have hx:Nat.ble (n+1) (iA h id 0 1)=true:=by
    rw [aE]
    simp only [iA,hg]
    rw [J]
    simp
   rw [hx,aE.2 (dR _)]
   simp only [c_,Bool.or_true,gB,af]
   rw [aE.2 (aD 1),J]
   rfl
  ·simp only [indexAddrV,aG,I,ck]
   rw [show (decide ((0:Int)≤(i:Int))&&decide ((i:Int)<(n:Int)))=true by simp; omega,show (decide ((0:Int)≤(i:Int))&&decide ((i:Int)<(l.length:Int)))=true by simp; omega]
end
end Go.Proofs.YtefepnnfphdkpaaGreat.Am
