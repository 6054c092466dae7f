/- ChainFull: a part of its proof; conditions: its statement's. -/
import Derived.Test.YtefepnnfphdkpaaGreatD33
import Derived.Test.YtefepnnfphdkpaaGreatD28
set_option linter.defProp false
namespace Go.Proofs.YtefepnnfphdkpaaGreat.Am
open Go
def gq:=@Tryz.underlying56
section
variable {told:cz} {h:H} {S:List aq} {X Y:aq} {N B n g a p q r bf m:Nat} {v x y rv pv bv cv:V} {b l c R M data:List Nat} {ps:List Nat} {cs:List (List Nat)} {ε:aF} {now:List (Int×List Nat)}
theorem wG (hT:W told)(hB:B≤2000)(hX:cT X (cY bv b))(qT:b.length≤8192)(eB:EI N B ε)(hw:NW N now)(hp:eR N R M (dh now ε))(hm:jq b.length=m)(LG:m≤(cm M N).length)(s:Sat h (GA g a p q r data bf now ε::X::S)):
  Call ⟨Tryz.prog,told⟩ 17 [.ptr g 0,bv] h fun v h'=>∃ε' bI M',v=.aX [.int .i64 (((cm M N).take m).headD 0:Nat),.int .i64 0]∧EI N B ε'∧Sm N ε ε'∧NW N bI∧E7 N R M (dh now ε) ((cm M N).take m) M' (dh bI ε')∧kx (dh bI ε') ((cm M N).take m) (chunks b m) ∧
   Sat h' (GA g a p q r data bf bI ε'::X::S):=by
 have hn:=uJ (n:=b.length)
 have WI:m≤20:=by
  rw [←hm]
  unfold jq
  split <;> omega
 have An:1≤m:=by omega
 have mj:=hp.n2
 have I:((cm M N).take m).length=m:=by rw [fe]; omega
 obtain ⟨i1,iy,fF,pP⟩:=mN
 refine Call.of_wp (hT.free _ rfl) Tryz.func17 rfl rfl (zK 9 rfl (zo rfl (aO rfl rfl rfl (aW aJ (s.aG (k:=1) rfl hX))) (zh rfl (ag rfl rfl gA) (by simp; omega) ?_)))
 refine zk 6 rfl (zo rfl (aO rfl rfl rfl (aW aJ (s.aG (k:=1) rfl hX))) (zc rfl (tT (n:=(b.length:Int)) hT (by omega)) ?_))
 rintro v h' ⟨rfl,rfl⟩
 rw [bZ,hm]
 obtain ⟨wv,h1,e3,s1⟩:=oS (P:=Tryz.prog) s bO iy tG fF (by omega) rfl (by decide) (by decide) (n:=0) (c:=m) (by omega) (by omega)
 refine az.any rfl rfl rfl (OpR.of (R:=fun v h'=>v=wv∧h'=h1) (qb rfl rfl e3) ⟨rfl,rfl⟩) ?_
 rintro w0 h ⟨rfl,rfl⟩
 have s:Sat h (.arr 1 w0 []::GA g a p q r data bf now ε::X::S):=s1
 refine zk 6 rfl (zo rfl (aO rfl rfl rfl (aW aJ (s.aG (k:=2) rfl hX))) (zc rfl (tT (n:=(b.length:Int)) hT (by omega)) ?_))
 rintro v h' ⟨rfl,rfl⟩
 rw [bZ,hm]
 refine zk 2 rfl (WP.block ?_)
 refine E8 (M:=M) hT hB mj (by omega) m 0 w0 M ε now _ _ _ (by omega) (fh _) eB hw ⟨hp,fun j=>by simp,fun j _ _=>rfl⟩ s ⟨rfl,rfl,rfl,rfl,rfl,aa⟩ (fun _ pv M2 kY J E' h' kO gi Dp OR hE s' => ?_) (fun hq=>absurd hq (by omega))
 have s:=s'
 have hlen:(bA ((cm M N).take m)).length=m*1:=by rw [eL,I,cC]
 refine WP.has hE (zK 4 rfl (zo rfl (aO rfl rfl rfl (s.dJ (n:=m) (j:=0) rfl hlen (by decide) bO)) ?_))
 refine zk 2 rfl (WP.block ?_)
 have ek:((m:Nat):Int)=((((cm M N).take m).length:Nat):Int):=by rw [I]
 rw [ek]
 refine Qs (P0:=dh J kY) hT hB hX qT mj (by omega) (List.Nodup.sublist (List.take_sublist _ _) (AS M N)) (fun z hz=>hp.OP (fY hz)) m 0 kY J _ _ _ (by omega) kO Dp OR.uZ (fun i z hi=>absurd hi (by omega)) (fun i _=>rfl) s ⟨rfl,rfl,rfl,rfl,rfl,rfl,aa⟩ (fun iI nQ E' h' jW gu nY Cx AP o6 hE s' => ?_)
 have s:=s'
 have hz:((cm M N).take m)[0]?=some (((cm M N).take m).headD 0):=by
  cases hq:(cm M N).take m with
  | nil=>rw [hq] at I; simp at I; omega
  | cons z l=>rfl
 have E9:(bA ((cm M N).take m))[0]?=some (.int .i64 ((((cm M N).take m).headD 0:Nat):Int)):=by rw [bA,gI,hz]; rfl
 obtain ⟨id,off,e1,e2⟩:=gQ (P:=Tryz.prog) s (k:=0) (i:=0) rfl E9 bO kC
 refine WP.has hE (zK 3 rfl (zo rfl (cn (r:=.ptr id off) rfl rfl e1) (zl rfl (e2 _ dS) (zk 3 rfl (WP.ret ⟨aa,_,rfl,?_⟩)))))
 refine ⟨iI,nQ,M2,rfl,jW,gi.trans gu,nY,⟨Cx,OR.bits,fun j h1 h2=>by rw [o6 j h2]; exact OR.same j h1 h2⟩,kx.mk (by rw [I,I8]) (fun i z c hz hc => ?_),s.drop⟩
 have hi:i<m:=by have:=(List.getElem?_eq_some_iff.1 hz).1; omega
 rw [I9 hi] at hc
 obtain rfl:=bE hc
 exact AP i z (by omega) hz
theorem FZ (I:W told)(hB:B≤2000)(J:cT X (cY bv b))(qT:b.length≤8192)(eB:EI N B ε)(hw:NW N now)(hp:eR N R M (dh now ε))(hm:jq b.length=m)(LG:(cm M N).length<m)(s:Sat h (GA g a p q r data bf now ε::X::S)):
  Call ⟨Tryz.prog,told⟩ 17 [.ptr g 0,bv] h fun v h'=>∃ε' bI,v=.aX [.int .i64 0,.int .i64 7]∧EI N B ε'∧Sm N ε ε'∧NW N bI∧Sat h' (GA g a p q r data bf bI ε'::X::S):=by
 have hn:=uJ (n:=b.length)
 have WI:m≤20:=by
  rw [←hm]
  unfold jq
  split <;> omega
 have mj:=hp.n2
 obtain ⟨i1,iy,fF,pP⟩:=mN
 refine Call.of_wp (I.free _ rfl) Tryz.func17 rfl rfl (zK 9 rfl (zo rfl (aO rfl rfl rfl (aW aJ (s.aG (k:=1) rfl J))) (zh rfl (ag rfl rfl gA) (by simp; omega) ?_)))
 refine zk 6 rfl (zo rfl (aO rfl rfl rfl (aW aJ (s.aG (k:=1) rfl J))) (zc rfl (tT (n:=(b.length:Int)) I (by omega)) ?_))
 rintro v h' ⟨rfl,rfl⟩
 rw [bZ,hm]
 obtain ⟨wv,h1,e3,s1⟩:=oS (P:=Tryz.prog) s bO iy tG fF (by omega) rfl (by decide) (by decide) (n:=0) (c:=m) (by omega) (by omega)
 refine az.any rfl rfl rfl (OpR.of (R:=fun v h'=>v=wv∧h'=h1) (qb rfl rfl e3) ⟨rfl,rfl⟩) ?_
 rintro w0 h ⟨rfl,rfl⟩
 have s:Sat h (.arr 1 w0 []::GA g a p q r data bf now ε::X::S):=s1
 refine zk 6 rfl (zo rfl (aO rfl rfl rfl (aW aJ (s.aG (k:=2) rfl J))) (zc rfl (tT (n:=(b.length:Int)) I (by omega)) ?_))
 rintro v h' ⟨rfl,rfl⟩
 rw [bZ,hm]
 exact zk 2 rfl (WP.block (E8 (M:=M) I hB mj (by omega) m 0 w0 M ε now _ _ _ (by omega) (fh _) eB hw ⟨hp,fun j=>by simp,fun j _ _=>rfl⟩ s ⟨rfl,rfl,rfl,rfl,rfl,aa⟩ (fun hq=>absurd hq (by omega)) fun _ ε' bI E' h' g1 g2 g3 g4 g5 s'=>⟨aa,_,IL g4 g5,ε',bI,rfl,g1,g2,g3,s'⟩))
end
theorem WC.ws {told:cz}(I:WC told): WS told:=⟨I.w,I.fmt⟩
theorem LH {n:Nat}(I:2≤n): (cm pq n).length=n-2:=by
 have J:=rL (M:=pq) (N:=n)
 have h2:(kH (bt pq) n).length=2:=by
  rw [LA (g:=fun j=>decide (j<2)) (fun j _=>EU),show n=2+(n-2) by omega,E6 (fun j hj=>decide_eq_false (by omega))]
  rfl
 omega
theorem headD_cons {L:List Nat}(h:1≤L.length): ∃p ps,L=p::ps∧L.headD 0=p:=by
 cases L with
 | nil=>simp at h
 | cons p ps=>exact ⟨p,ps,rfl,rfl⟩
def mI (f n:Nat): List Nat:=(List.range n).map fun i=>(f+i*7)%256
theorem sn {f n:Nat}: (mI f n).length=n:=by unfold mI; rw [er,sV]
theorem LI {f i m:Nat}: (mI f i++List.replicate (m+1) 0).set i ((f+i*7)%256)=mI f (i+1)++List.replicate m 0:=by
 have e:mI f (i+1)=mI f i++[(f+i*7)%256]:=by unfold mI; rw [Bg,wS]; rfl
 rw [A0 _ _ (by rw [sn]; exact aD _),sn,oo,e,ep]
 rfl
theorem CI {h:H}{n:Nat}: convV Tryz.prog h 3 5 (.int .i64 (n:Int))=some (.int .u8 ((n%256:Nat):Int),h):=by
 simp only [convV,bR,Tryz.underlying5,wrap_u8]
theorem SU {P:Program}{h:H}{t:TypeId}{x y:Operand}{f m:Nat}: binV P h .add t x y (.int .u8 (f:Int)) (.int .u8 ((m%256:Nat):Int))=some (.int .u8 (((f+m)%256:Nat):Int)):=by
 simp only [binV,cW,af,intV]
 rw [show (f:Int)+((m%256:Nat):Int)=((f+m%256:Nat):Int) by omega,wrap_u8,show (f+m%256)%256=(f+m)%256 by omega]
theorem SV {P:Program}{h:H}{J:Array TypeId}{k:IntKind}{a b:Int}: builtinV P h .max J [.int k a,.int k b]=some (.int k (max a b),h):=by
 simp only [builtinV,foldV,maxV,cW,af,gY]
 by_cases I:a<b
 ·simp only [I,td,af]
  rw [show max a b=b by omega]
 ·simp only [I,mZ,ay]
  rw [show max a b=a by omega]
theorem SW {h:H}{x y:Nat}: buildSliceV Tryz.prog h 28 2 [(0,.int .u8 (x:Int)),(1,.int .u8 (y:Int))]=some (.sl h.next 0 2 (.exact 2),newRow h (ofBytes [x,y])):=by
 simp only [buildSliceV,aJ,dM,ow,V.cells]
 rfl
section
variable {told:cz} {h:H} {S:List aq} {X Y:aq} {N B n g a p q r bf m:Nat} {v x y rv pv bv cv:V} {b l c R M data:List Nat} {ps:List Nat} {cs:List (List Nat)} {ε:aF} {now:List (Int×List Nat)}
theorem yY (I:W told){n:Int}(J:n<9223372036854775808): Call ⟨Tryz.prog,told⟩ 13 [.int .i64 n] h fun v h'=>v=.int .i64 (jq n.toNat:Nat)∧h'=h:=by
 refine Call.of_wp (I.free _ rfl) Tryz.func13 rfl rfl (zK 8 rfl ?_)
 by_cases h0:n≤0
 ·skip
  refine zt rfl (ag rfl rfl yD) (by simp; omega) ?_
  exact zk 6 rfl (WP.ret ⟨aa,_,rfl,by rw [show n.toNat=0 by omega]; rfl,rfl⟩)
 ·obtain ⟨m,rfl⟩:∃m:Nat,n=(m:Int)+1:=⟨n.toNat-1,by omega⟩
  have hm:(m:Int)+1-1=(m:Int):=by omega
  have hd:m/480≤m:=sY _ _
  refine zh rfl (ag rfl rfl yD) (by simp <;> omega) ?_
  refine zk 6 rfl (zo rfl (ag (r:=.int .i64 (m:Int)) rfl rfl ((jj (a:=(m:Int)+1) (b:=1) (aA (by omega) (by omega))).trans (by rw [hm]))) ?_)
  refine zb rfl (uG (a:=m) (b:=480) (by decide) (by omega)) ?_
  refine zb rfl (by exact bp (aA (by omega) (by omega))) ?_
  exact zk 2 rfl (WP.ret ⟨aa,_,rfl,by rw [jq,ai (by omega),show ((m:Int)+1).toNat-1=m by omega]; rfl,rfl⟩)
noncomputable def YN : Code:=eC [1,1,0,1,0,0] ((Tryz.f16.body).getD .skip)
theorem I_ {f:Nat}(hn:n≤9000): ∀(m i:Nat) (h:H) (E:List (Nat×V)) (Q:Ex→List (Nat×V)→H→Prop),i+m=n→Sat h (aU v (mI f i++List.replicate m 0)::S)→Has E [(0,.int .i64 (n:Int)),(1,.int .u8 (f:Int)),(5,v),(6,.int .i64 (i:Int))] →
  (∀E' h',Has E' [(5,v)]→Sat h' (aU v (mI f n)::S)→Q (.exit 0) E' h')→WP ⟨Tryz.prog,told⟩ 23 (.loop YN) E h Q:=by
 intro m
 induction m with
 | zero =>
  intro i h E Q hi s I J
  refine WP.loop (WP.has I (zK 5 rfl (zh rfl (ag rfl rfl aR) (by simp; omega) ?_)))
  refine zk 2 rfl (WP.exit ?_)
  obtain rfl:i=n:=by omega
  rw [List.replicate_zero,ff] at s
  exact J _ _ ⟨rfl,aa⟩ s
 | succ m ih =>
  intro i h E Q hi s I J
  obtain ⟨id,off,e3,h2,e4,s2⟩:=kR s (i:=i) (b:=(f+i*7)%256) (by rw [bD,sn,eT]; omega) (by omega)
  rw [LI] at s2
  refine WP.loop (WP.has I (zK 5 rfl (zt rfl (ag rfl rfl aR) (by simp; omega) ?_)))
  refine zk 4 rfl (WP.block (zK 5 rfl (zo rfl (ag (r:=.int .i64 ((i*7:Nat):Int)) rfl rfl (by rw [show ((i*7:Nat):Int)=(i:Int)*7 by omega]; exact jQ (aA (by omega) (by omega)))) ?_)))
  refine zo rfl (cN rfl CI) (zb rfl SU (zo rfl (cn (r:=.ptr id off) rfl rfl e3) (zS rfl (⟨h2,e4,s2⟩) ?_)))
  rintro h s
  refine zv (zr rfl (zm rfl (zb rfl (by exact bp (aA (by omega) (by omega))) ?_)))
  refine za rfl (zv ?_)
  exact ih (i+1) _ _ Q (by omega) s ⟨rfl,rfl,rfl,rfl,aa⟩ J
theorem NC (I:W told){f:Nat}(J:n≤9000)(s:Sat h S): Call ⟨Tryz.prog,told⟩ 16 [.int .i64 (n:Int),.int .u8 (f:Int)] h fun v h'=>Sat h' (aU v (mI f n)::S):=by
 refine Call.of_wp (I.free _ rfl) Tryz.func16 rfl rfl (zK 7 rfl (az.any rfl rfl rfl (OpR.Ao rfl s rfl rfl rfl rfl (by omega)) ?_))
 intro v h s
 refine zk 7 rfl (WP.block ?_)
 refine I_ J n 0 _ _ _ (by omega) s ⟨rfl,rfl,rfl,rfl,aa⟩ (fun E' h' hE s' => ?_)
 have s:=s'
 exact WP.has hE (zK 5 rfl (WP.ret ⟨aa,_,rfl,s⟩))
theorem Ja (J:WC told)(s:Sat h S): Call ⟨Tryz.prog,told⟩ 11 [] h fun v h'=>v=.bool true∧Sat h' S:=by
 have QH:(cm pq 16).length=14:=LH (by decide)
 have jU:jq 2=1:=rfl
 refine Call.of_wp (J.w.free _ rfl) Tryz.func11 rfl rfl (zK 6 rfl (zc rfl (uY (n:=16) (m:=262144) (f:=16) J.ws (by decide) (by decide) (by decide) (by decide) (by decide) (by decide) s) ?_))
 rintro v h ⟨p,a,q,r,ε,rfl,eB,hp,hd,s⟩
 refine zk 6 rfl (zh rfl (ag rfl rfl (r_ nP)) (rfl) (zk 6 rfl (zc rfl (wE J.w s) ?_)))
 rintro v h1 ⟨g,rfl,s⟩
 refine zk 6 rfl (zh rfl (ag rfl rfl (r_ jo)) (rfl) (zk 6 rfl (az.any rfl rfl rfl (OpR.of (R:=fun v h'=>v=.sl h1.next 0 2 (.exact 2)∧h'=newRow h1 (ofBytes [97,98])) (kg rfl (SW (x:=97) (y:=98))) ⟨rfl,rfl⟩) ?_)))
 rintro v I ⟨rfl,rfl⟩
 have s1:Sat (newRow h1 (ofBytes [97,98])) (pt h1.next (.cells 2 (ofBytes [97,98]) false)::_):=s.new _
 generalize newRow h1 (ofBytes [97,98])=I at s1
 generalize h1.next=id at s1
 have hg:=s1.row (k:=0) rfl
 have e1:convB Tryz.prog I 28 28 (.sl id 0 2 (.exact 2))=some (.sl id 0 2 (.exact 2),I.put id (some (.cells 2 (ofBytes [97,98]) true))):=by
  simp only [convB,aJ,Tryz.underlying5,hg]
  rfl
 have e0:convV Tryz.prog I 28 28 (.sl id 0 2 (.exact 2))=none:=by
  simp only [convV,aJ]
 have s2:Sat (I.put id (some (.cells 2 (ofBytes [97,98]) true))) (pt id (.cells 2 (ofBytes [97,98]) true)::_):=s1.put (k:=0) rfl
 have s3:Sat (I.put id (some (.cells 2 (ofBytes [97,98]) true))) (.cy (.sl id 0 2 (.exact 2)) [97,98]::_):=s2.freeze.hU (B:=.cy (.sl id 0 2 (.exact 2)) [97,98]) fun m r hm=>⟨by decide,.inr ⟨id,0,.exact 2,2,_,true,rfl,hm,rfl,by decide,rfl,by decide⟩⟩
 refine az.any rfl rfl rfl (OpR.of (R:=fun v h'=>v=.sl id 0 2 (.exact 2)∧h'=I.put id (some (.cells 2 (ofBytes [97,98]) true))) (He rfl e0 e1) ⟨rfl,rfl⟩) ?_
 rintro v h ⟨rfl,rfl⟩
 have s:=s3.ae [1]
 refine zc rfl (wG (b:=[97,98]) (M:=pq) (now:=[]) (m:=1) J.w (by decide) (c8 _ _) (by decide) eB (NW.nil 16) hp jU (by omega) s) ?_
 rintro v h ⟨kY,ZG,M1,rfl,kO,gi,Dp,OR,tA,s⟩
 obtain ⟨z,qs,hz,Ov⟩:=headD_cons (L:=(cm pq 16).take 1) (by rw [fe]; omega)
 have OS:qs.length=0:=by have:=fo List.length hz; rw [fe,aN] at this; omega
 have nW:∀x∈z::qs,x<16:=fun x hx=>(oI.1 (fY (hz ▸ hx))).1
 have lF:flatL (chunks [97,98] 1)=[97,98]:=rfl
 rw [Ov]
 rw [hz] at tA
 refine zk 9 rfl (zo rfl (l7 rfl (ko jo rfl)) (zm rfl (zc rfl (E3 J (wC W.base (by decide) Dp) ⟨rfl,rfl,by simp [V.beq]⟩ (by decide) kO tA nW (by omega) (by rw [lF]; decide) s) ?_)))
 rintro v h ⟨u,iI,rfl,jW,gu,s⟩
 rw [lF] at s
 have Az:=(s.buf (k:=0) rfl).view
 refine zk 9 rfl (zt rfl (ag rfl rfl e_) (by decide) ?_)
 refine zk 2 rfl (zt rfl (ag rfl rfl e_) (by decide) ?_)
 refine zk 3 rfl (zo rfl (cN rfl (KV Az)) (zt rfl (ag rfl rfl Ia) (decide_eq_true rfl) (zk 2 rfl (zc rfl (tT (n:=481) J.w (by decide)) ?_))))
 rintro v h' ⟨rfl,rfl⟩
 refine zt rfl (ag rfl rfl e_) (by decide) ?_
 exact zk 3 rfl (WP.ret ⟨aa,_,rfl,rfl,((s.drop).drop).drop⟩)
end
structure HC (P:Int→List Nat)(ps:List Nat)(x:Int×List Nat): Prop where
 hd:x.1=((ps.headD 0:Nat):Int)
 len:ps.length=jq x.2.length
 ch:kx P ps (chunks x.2 ps.length)
 sz:x.2.length≤8192
structure iO (N:Nat)(P:Int→List Nat)(bY:List (List Nat))(m:List (Int×List Nat)): Prop where
 len:bY.length=m.length
 ch:∀(i:Nat) (ps:List Nat) (x:Int×List Nat),bY[i]?=some ps→m[i]?=some x→HC P ps x
 nd:bY.flatten.Nodup
 lt:∀z∈bY.flatten,2≤z∧z<N
theorem ND {N:Nat}: ∀ {l:List Nat},l.Nodup→(∀z∈l,z<N)→l.length≤N:=by
 intro l I J
 have h1:((List.range N).filter fun i=>decide (i∈l)).Perm l:=by
  refine (F6 ?_ I).2 fun a => ?_
  ·exact (A1 _ AX).imp fun h=>fJ h
  ·rw [Bh,wT,dz]
   exact ⟨fun q=>q.2,fun q=>⟨J a q,q⟩⟩
 rw [←h1.length_eq]
 have:=wL (fun i=>decide (i∈l)) (List.range N)
 rwa [sV] at this
theorem CJ {bY:List (List Nat)}{i:Nat}{ps:List Nat}(h:bY[i]?=some ps): (bY.take (i+1)).flatten=(bY.take i).flatten++ps:=by
 rw [qp,h,sM]
 simp
theorem Jb {bY:List (List Nat)}{i:Nat}{ps:List Nat}(h:bY[i]?=some ps): bY.flatten=(bY.take i).flatten++(ps++(bY.drop (i+1)).flatten):=by
 obtain ⟨I,J⟩:=List.getElem?_eq_some_iff.1 h
 have e:bY.drop i=ps::bY.drop (i+1):=by rw [sI I,J]
 conv=>lhs; rw [←mR i bY,e]
 simp
theorem iO.EM {N:Nat}{P:Int→List Nat}{bY:List (List Nat)}{m:List (Int×List Nat)}(h:iO N P bY m): bY.flatten.length≤N:=ND h.nd fun z I=>(h.lt z I).2
theorem HC.one {P:Int→List Nat}{ps:List Nat}{x:Int×List Nat}(h:HC P ps x): 1≤ps.length:=by have:=uJ (n:=x.2.length); have:=h.len; omega
theorem iO.SX {N:Nat}{P:Int→List Nat}{bY:List (List Nat)}{m:List (Int×List Nat)}(h:iO N P bY m): m.length≤bY.flatten.length:=by
 have key:∀(l:List (List Nat)),(∀ps∈l,1≤ps.length)→l.length≤l.flatten.length:=by
  intro l
  induction l with
  | nil=>intro _; exact aD _
  | cons a l ih =>
   intro hl
   have h1:=ih fun ps I=>hl ps (cr _ I)
   have h2:=hl a ct
   simp only [kP,bD,aN]
   omega
 have h1:=key bY fun ps I=>by
  obtain ⟨i,hi⟩:=sK I
  have J:=(List.getElem?_eq_some_iff.1 hi).1
  have hm:m[i]?=some (m[i]'(by rw [←h.len]; exact J)):=aM _
  exact (h.ch i ps _ hi hm).one
 rw [←h.len]
 exact h1
theorem iO.fV {N:Nat}{P:Int→List Nat}{bY:List (List Nat)}{m:List (Int×List Nat)}(h:iO N P bY m): m.length≤N:=cg h.SX h.EM
theorem iO.used {N:Nat}{P:Int→List Nat}{bY:List (List Nat)}{m:List (Int×List Nat)}{M:List Nat}(h:iO N P bY m)(hN:2≤N)(J:∀j,j<N→bt M j=(decide (j<2)||decide (j∈bY.flatten))): (kH (bt M) N).length=2+bY.flatten.length:=by
 have h1:(kH (bt M) N).Perm (0::1::bY.flatten):=by
  refine (F6 ?_ ?_).2 fun a => ?_
  ·unfold kH
   exact (A1 _ AX).imp fun h=>fJ h
  ·refine List.nodup_cons.2 ⟨fun q => ?_,List.nodup_cons.2 ⟨fun q => ?_,h.nd⟩⟩
   ·rcases List.mem_cons.1 q with q | q
    ·omega
    ·have:=h.lt 0 q; omega
   ·have:=h.lt 1 q; omega
  ·unfold kH
   rw [Bh,wT,gL,gL]
   constructor
   ·rintro ⟨I,hq⟩
    rw [J a I,j6,dz,dz] at hq
    rcases hq with q | q
    ·omega
    ·exact .inr (.inr q)
   ·intro q
    have I:a<N:=by
     rcases q with q | q | q
     ·omega
     ·omega
     ·exact (h.lt a q).2
    refine ⟨I,?_⟩
    rw [J a I,j6,dz,dz]
    rcases q with q | q | q
    ·exact .inl (by omega)
    ·exact .inl (by omega)
    ·exact .inr q
 rw [h1.length_eq]
 simp only [aN]
 omega
section
variable {P:Program} {h:H} {S:List aq} {k j i:Nat} {v:V} {cs:List V} {m:List (Int×List Nat)} {x:Int×List Nat} {t e:TypeId}
theorem Sat.yZ (s:Sat h S)(hj:getA S j=some (.arr k v cs))(hi:i*k+k≤cs.length)(hk:1≤k)(hu:P.underlying t=some (.slice e))(J:bk P e=some k):
  ∃id off,indexAddrV P t v (.int .i64 (i:Int))=some (.ptr id off)∧∀m c t',((cs.drop (i*k)).take k)[m]?=some c→b6 P t'=some false→loadV P h t' (.ptr id (off+m))=some c:=by
 obtain ⟨m,r,h1,h2,h3⟩:=s.at hj
 rcases h3.2 with ⟨_,rfl⟩ | ⟨id,n,cap,N,rest,rfl,hg,e1,e2,_⟩
 ·simp at hi; omega
 ·refine ⟨id,i*k,?_,fun m c t' I ht=>J3 ht (h1 _ _ hg) ?_⟩
  ·simp only [indexAddrV,hu,J,bZ]
   have:i<n:=by
    have h4:i*k+k=(i+1)*k:=by rw [gM,tc]
    rw [h4,e1] at hi
    exact Nat.lt_of_succ_le (F4 hi hk)
   rw [show (decide ((0:Int)≤(i:Int))&&decide ((i:Int)<(n:Int)))=true by simp; omega,af]
   simp
  ·rw [jx] at I
   split at I
   ·rw [jy] at I
    rw [eW,gF (List.getElem?_eq_some_iff.1 I).1]; exact I
   ·cases I
theorem OT (s:Sat h (kG cs m::S))(hx:m[i]?=some x): ∃u,(cs.drop (i*2)).take 2=[.int .i64 x.1,u]∧Sat h (.cy u x.2::kG cs m::S):=by
 obtain ⟨a,b,q1,q2,q3⟩:=s.at (k:=0) rfl
 obtain ⟨u,e1,e2⟩:=G4 q3 hx
 exact ⟨u,e1,(s.dup (aQ.kG _ _)).hU (B:=.cy u x.2) fun a b h=>by
  obtain ⟨u',I,J⟩:=G4 h hx
  rw [e1] at I
  injection I with _ I
  injection I with I _
  subst I
  exact J⟩
theorem AU (s:Sat h S)(I:getA S k=some (kG cs m)): cs.length=m.length*2:=by
 obtain ⟨a,b,q1,q2,J⟩:=s.at I
 exact Qf J
end
section
variable {told:cz} {h:H} {S:List aq} {X Y:aq} {N B n c:Nat} {v w x y rv sv wv lv:V} {R M:List Nat} {ps seen:List Nat} {bY:List (List Nat)} {cs:List V} {m:List (Int×List Nat)} {A:aF→aq} {pg:aF→Int→List Nat} {ε:aF}
noncomputable def YO : Code:=eC [1,1,1,1,1,0,1,0,0] ((Tryz.f29.body).getD .skip)
noncomputable def YP : Code:=eC [1,1,1,1,1,0,1,0,0,1,0,0,1,1,1,0,1,0,0] ((Tryz.f29.body).getD .skip)
noncomputable def YR : Code:=eC [1,1,1,1,1,0,1,0,0,1,0,0,1,1,1,0,1,0,0,1,0,0,0,1,0,0] ((Tryz.f29.body).getD .skip)
theorem SY {z j:Nat}(hsn:seen.length≤3000)(xR:ps.length≤3000)(hz:ps[j]?=some z)(J:z∉seen)(s:Sat h (.arr 1 sv (bA seen)::.arr 1 wv (bA ps)::S)): ∀(d k:Nat) (E:List (Nat×V)) (Q:Ex→List (Nat×V)→H→Prop),k+d=seen.length →
  Has E [(0,rv),(1,lv),(5,x),(6,.int .i64 0),(8,.int .i64 0),(9,.int .i64 (c:Int)),(10,sv),(11,.int .i64 (n:Int)),(14,wv),(16,.int .i64 (j:Int)),(17,.int .i64 (k:Int))] →
  (∀E',Has E' [(0,rv),(1,lv),(5,x),(6,.int .i64 0),(8,.int .i64 0),(9,.int .i64 (c:Int)),(10,sv),(11,.int .i64 (n:Int)),(14,wv),(16,.int .i64 (j:Int))]→Q (.exit 4) E' h)→WP ⟨Tryz.prog,told⟩ 144 (.loop YR) E h Q:=by
 have hlen:(bA seen).length=seen.length*1:=by rw [eL,cC]
 have E_:(bA ps)[j]?=some (.int .i64 (z:Int)):=by rw [bA,gI,hz]; rfl
 obtain ⟨vK,I,e3,e4⟩:=gQ (P:=Tryz.prog) s (k:=1) (i:=j) rfl E_ bO kC
 intro d
 induction d with
 | zero =>
  intro k E Q hk hE hq
  refine WP.loop (WP.has hE (zK 5 rfl (zo rfl (aO rfl rfl rfl (s.dJ (n:=seen.length) (j:=0) rfl hlen (by decide) bO)) ?_)))
  refine zh rfl (ag rfl rfl aR) (by simp; omega) ?_
  exact zk 2 rfl (WP.exit (hq _ ⟨rfl,rfl,rfl,rfl,rfl,rfl,rfl,rfl,rfl,rfl,aa⟩))
 | succ d ih =>
  intro k E Q hk hE hq
  have hy:seen[k]?=some (seen[k]'(by omega)):=aM _
  generalize (seen[k]'(by omega))=y at hy
  have dw:y≠z:=fun e=>J (by rw [←e]; exact aV hy)
  have E9:(bA seen)[k]?=some (.int .i64 (y:Int)):=by rw [bA,gI,hy]; rfl
  obtain ⟨id,off,e1,e2⟩:=gQ (P:=Tryz.prog) s (k:=0) (i:=k) rfl E9 bO kC
  refine WP.loop (WP.has hE (zK 5 rfl (zo rfl (aO rfl rfl rfl (s.dJ (n:=seen.length) (j:=0) rfl hlen (by decide) bO)) ?_)))
  refine zt rfl (ag rfl rfl aR) (by simp; omega) ?_
  refine zk 4 rfl (WP.block (zw (WP.drawn [ak,ak,ak,ak,ak,ak,ak,ak,ak] rfl (by kernel_rfl) (by kernel_rfl) ?_)))
  refine zM rfl (zM rfl (zO rfl (cn (r:=.ptr id off) rfl rfl e1) (zL rfl (e2 _ dS) (zM rfl (zM rfl (zO rfl (cn (r:=.ptr vK I) rfl rfl e3) (zL rfl (e4 _ dS) (aB.nE rfl rfl rfl rfl (ag rfl rfl e_) (by simp; omega) ?_))))))))
  refine aB.nil ⟨⟨aa,aa,aa,aa,aa,aa,aa,aa,aa,aa⟩,?_⟩
  refine zj rfl (WP.skip (zr rfl (zm rfl (zb rfl (by exact bp (aA (by omega) (by omega))) ?_))))
  refine za rfl (zv ?_)
  exact ih (k+1) _ Q (by omega) ⟨rfl,rfl,rfl,rfl,rfl,rfl,rfl,rfl,rfl,rfl,rfl,aa⟩ hq
theorem SZ (xR:seen.length+ps.length≤3000)(I:(seen++ps).Nodup): ∀(d j:Nat) (sv:V) (h:H) (E:List (Nat×V)) (Q:Ex→List (Nat×V)→H→Prop),j+d=ps.length →
  Sat h (.arr 1 sv (bA (seen++ps.take j))::.arr 1 wv (bA ps)::S) →
  Has E [(0,rv),(1,lv),(5,x),(6,.int .i64 0),(8,.int .i64 0),(9,.int .i64 (c:Int)),(10,sv),(11,.int .i64 (n:Int)),(14,wv),(16,.int .i64 (j:Int))] →
  (∀J E' h',Has E' [(0,rv),(1,lv),(5,x),(6,.int .i64 0),(8,.int .i64 0),(9,.int .i64 (c:Int)),(10,J),(11,.int .i64 (n:Int)),(14,wv)]→Sat h' (.arr 1 J (bA (seen++ps))::.arr 1 wv (bA ps)::S)→Q (.exit 2) E' h')→WP ⟨Tryz.prog,told⟩ 144 (.loop YP) E h Q:=by
 have hlen:(bA ps).length=ps.length*1:=by rw [eL,cC]
 intro d
 induction d with
 | zero =>
  intro j sv h E Q hj s hE hq
  refine WP.loop (WP.has hE (zK 5 rfl (zo rfl (aO rfl rfl rfl (s.dJ (n:=ps.length) (j:=1) rfl hlen (by decide) bO)) ?_)))
  refine zh rfl (ag rfl rfl aR) (by simp; omega) ?_
  refine zk 2 rfl (WP.exit ?_)
  rw [dG (by omega)] at s
  exact hq sv _ _ ⟨rfl,rfl,rfl,rfl,rfl,rfl,rfl,rfl,rfl,aa⟩ s
 | succ d ih =>
  intro j sv h E Q hj s hE hq
  have hz:ps[j]?=some (ps[j]'(by omega)):=aM _
  generalize (ps[j]'(by omega))=z at hz
  have e2:seen++ps=(seen++ps.take j)++z::ps.drop (j+1):=by
   obtain ⟨h1,h2⟩:=List.getElem?_eq_some_iff.1 hz
   rw [ep,←h2,AY,mR]
  have YS:z∉seen++ps.take j:=fun q=>by
   rw [e2] at I
   exact (List.nodup_append.1 I).2.2 z q z ct rfl
  have htl:(ps.take j).length≤ps.length:=by rw [fe]; omega
  have E_:(bA ps)[j]?=some (.int .i64 (z:Int)):=by rw [bA,gI,hz]; rfl
  refine WP.loop (WP.has hE (zK 5 rfl (zo rfl (aO rfl rfl rfl (s.dJ (n:=ps.length) (j:=1) rfl hlen (by decide) bO)) ?_)))
  refine zt rfl (ag rfl rfl aR) (by simp; omega) ?_
  refine zk 4 rfl (WP.block (zK 5 rfl (WP.block ?_)))
  refine SY (x:=x) (lv:=lv) (n:=n) (c:=c) (rv:=rv) (by rw [bD]; omega) (by omega) hz YS s (seen++ps.take j).length 0 _ _ (by omega) ⟨rfl,rfl,rfl,rfl,rfl,rfl,rfl,rfl,rfl,rfl,rfl,aa⟩ (fun E' hE => ?_)
  obtain ⟨id,off,e3,e4⟩:=gQ (P:=Tryz.prog) s (k:=1) (i:=j) rfl E_ bO kC
  refine WP.has hE (zK 4 rfl (zo rfl (cn (r:=.ptr id off) rfl rfl e3) (zl rfl (e4 _ dS) ?_)))
  obtain ⟨iv,h1,w,h2,e5,e6,s2⟩:=yX (k:=z) s (by rw [bD]; omega)
  have et:seen++ps.take j++[z]=seen++ps.take (j+1):=by rw [qp,hz,ep]; rfl
  rw [et] at s2
  refine az.any rfl rfl rfl (OpR.of (R:=fun v h'=>v=iv∧h'=h1) (kg rfl e5) ⟨rfl,rfl⟩) ?_
  rintro iv h1 ⟨rfl,rfl⟩
  refine az.any rfl rfl rfl (OpR.of (R:=fun v h'=>v=w∧h'=h2) (jL rfl rfl e6) ⟨rfl,rfl⟩) ?_
  rintro w h2 ⟨rfl,rfl⟩
  refine za rfl (zv (zr rfl (zm rfl (zb rfl (by exact bp (aA (by omega) (by omega))) ?_))))
  refine za rfl (zv ?_)
  exact ih (j+1) _ _ _ Q (by omega) s2 ⟨rfl,rfl,rfl,rfl,rfl,rfl,rfl,rfl,rfl,rfl,aa⟩ hq
theorem S0 (hT:WC told)(hR:mo mH N B rv A pg)(hv:EZ rv)(CF:N≤2999)(hc:iO N (pg ε) bY m): ∀(d i:Nat) (sv:V) (ε':aF) (h:H) (E:List (Nat×V)) (Q:Ex→List (Nat×V)→H→Prop),i+d=m.length→EI N B ε'→Sm N ε ε' →
  Sat h (.arr 1 sv (bA (bY.take i).flatten)::.arr 2 lv cs::kG cs m::A ε'::S) →
  Has E [(0,rv),(1,lv),(5,x),(6,.int .i64 0),(8,.int .i64 0),(9,.int .i64 ((2+(bY.take i).flatten.length:Nat):Int)),(10,sv),(11,.int .i64 (i:Int))] →
  (∀Cr J E' h',EI N B J→Sm N ε J→Has E' [(5,x),(6,.int .i64 0),(8,.int .i64 0),(9,.int .i64 ((2+bY.flatten.length:Nat):Int))]→Sat h' (.arr 1 Cr (bA bY.flatten)::.arr 2 lv cs::kG cs m::A J::S)→Q (.exit 0) E' h')→WP ⟨Tryz.prog,told⟩ 144 (.loop YO) E h Q:=by
 have v7:=hc.fV
 have NF:=hc.EM
 intro d
 induction d with
 | zero =>
  intro i sv ε' h E Q hi eB hs s hE hq
  have ik:=AU s (k:=2) rfl
  refine WP.loop (WP.has hE (zK 5 rfl (zo rfl (aO rfl rfl rfl (s.dJ (n:=m.length) (j:=1) rfl ik (by decide) gq)) ?_)))
  refine zh rfl (ag rfl rfl aR) (by simp; omega) ?_
  refine zk 2 rfl (WP.exit ?_)
  rw [dG (by rw [hc.len]; omega)] at s ⊢
  exact hq sv ε' _ _ eB hs ⟨rfl,rfl,rfl,rfl,aa⟩ s
 | succ d ih =>
  intro i sv ε' h E Q hi eB hs s hE hq
  have ik:=AU s (k:=2) rfl
  have hx:m[i]?=some (m[i]'(by omega)):=aM _
  generalize (m[i]'(by omega))=y at hx
  have rT:bY[i]?=some (bY[i]'(by rw [hc.len]; omega)):=aM _
  generalize (bY[i]'(by rw [hc.len]; omega))=ps at rT
  have hC:=hc.ch i ps y rT hx
  have h1:=hC.one
  have eA:=hC.sz
  have S1:=Jb rT
  have jU:=hc.nd
  rw [S1,←ep] at jU
  have jU:=(List.nodup_append.1 jU).1
  have aY:=hc.lt
  have Rk:(bY.take i).flatten.length+ps.length≤N:=by
   have:=hc.EM
   rw [S1] at this
   simp only [bD] at this
   omega
  have lF:flatL (chunks y.2 ps.length)=y.2:=by rw [hC.len]; exact AT
  have r7:=hC.ch
  obtain ⟨z,qs,rfl,hz⟩:=headD_cons h1
  have LJ:y.1=(z:Int):=by rw [hC.hd,hz]
  have nW:∀u∈z::qs,u<N:=fun u hu=>(aY u (by rw [S1]; exact List.mem_append.2 (.inr (List.mem_append.2 (.inl hu))))).2
  have Vn:qs.length≤1000:=by
   have:=hC.len
   unfold jq at this
   simp only [aN] at this
   split at this <;> omega
  obtain ⟨uv,hu,s⟩:=OT (s.ae [2]) hx
  dsimp only [bringA,getA,aZ] at s
  have s:=s.ae [4,2,2,1,0]
  dsimp only [bringA,getA,aZ] at s
  have c1:kx (pg ε') (z::qs) (chunks y.2 (z::qs).length):=by rw [show pg ε'=pg ε from funext (hR.same hs)]; exact r7
  refine WP.loop (WP.has hE (zK 5 rfl (zo rfl (aO rfl rfl rfl (s.dJ (n:=m.length) (j:=2) rfl ik (by decide) gq)) ?_)))
  refine zt rfl (ag rfl rfl aR) (by simp; omega) ?_
  refine zk 4 rfl (WP.block (zK 5 rfl ?_))
  obtain ⟨id,off,e1,e2⟩:=s.yZ (P:=Tryz.prog) (i:=i) (j:=2) rfl (by omega) (by decide) gq mL
  have I:=e2 0 (.int .i64 y.1) 3 (by rw [hu]; rfl) dS
  rw [LJ] at I
  refine zo rfl (cn (r:=.ptr id off) rfl rfl e1) (zf rfl (Ah _ _) (zl rfl I (zc rfl (E3 hT hR hv (by omega) eB c1 nW Vn (by rw [lF]; omega) s) ?_)))
  rintro v h ⟨u,iI,rfl,jW,gu,s⟩
  rw [lF] at s
  have gu:=hs.trans gu
  have c2:kx (pg iI) (z::qs) (chunks y.2 (z::qs).length):=by rw [show pg iI=pg ε from funext (hR.same gu)]; exact r7
  have s:=s.ae [1,0]
  dsimp only [bringA,getA,aZ] at s
  obtain ⟨id,off,e1,e2⟩:=s.yZ (P:=Tryz.prog) (i:=i) (j:=3) rfl (by omega) (by decide) gq mL
  have I:=e2 0 (.int .i64 y.1) 3 (by rw [hu]; rfl) dS
  rw [LJ] at I
  refine zk 11 rfl (zo rfl (cn (r:=.ptr id off) rfl rfl e1) (zf rfl (Ah _ _) (zl rfl I (zc rfl (Lx hT hR hv (by omega) jW c2 nW Vn (by rw [lF]; omega) s) ?_))))
  rintro v h ⟨wv,u7,rfl,o_,pn,s⟩
  have pn:=gu.trans pn
  refine zk 8 rfl ?_
  obtain ⟨id,off,e1,e2⟩:=s.yZ (P:=Tryz.prog) (i:=i) (j:=4) rfl (by omega) (by decide) gq mL
  have I:=e2 0 (.int .i64 y.1) 3 (by rw [hu]; rfl) dS
  have Ay:=e2 1 uv 28 (by rw [hu]; rfl) bK
  rw [LJ] at I
  have Ot:=(s.kV (j:=0) rfl).2.2
  have Az:=(s.buf (k:=2) rfl).view
  have yh:=s.aG (k:=6) rfl (c8 _ _)
  have E_:(bA (z::qs))[0]?=some (.int .i64 (z:Int)):=rfl
  obtain ⟨vK,NB,e3,e4⟩:=gQ (P:=Tryz.prog) s (k:=0) (i:=0) rfl E_ bO kC
  have Ch:(bA (z::qs)).length=(z::qs).length*1:=by rw [eL,cC]
  have s0:=s
  refine WP.drawn [ak,ak,ak,ak,ak,ak,ak,ak,ak,ak,ak,ak,ak,ak,ak,ak,ak,ak,some (0,2),some (0,2),ak,ak,ak,ak,ak,ak,ak,ak,ak,ak,ak,ak,ak,ak,ak,ak,ak,ak,ak,ak,ak,ak,ak,ak,ak] rfl (by kernel_rfl) (by kernel_rfl) ?_
  refine zM rfl (aB.nE rfl rfl rfl rfl (ag rfl rfl aI) (rfl) (zM rfl (zM rfl (aB.op rfl rfl rfl (by simp only [isEff,oX]) (cN rfl (KV Az)) ?_))))
  refine zM rfl (zM rfl (zO rfl (cn (r:=.ptr id off) rfl rfl e1) (zF rfl (vI _ _) (zL rfl Ay (aB.op rfl rfl rfl (by simp only [isEff,oX]) (cN rfl (KV yh)) ?_)))))
  refine aB.nE rfl rfl rfl rfl (ag rfl rfl Tq) (by simp) ?_
  refine zO rfl (kf rfl rfl) (zM rfl (zM rfl (aB.nE rfl rfl rfl rfl (ag rfl rfl aI) (rfl) (zO rfl (kf rfl rfl) (zM rfl (zM rfl (zO rfl (aO rfl rfl rfl (s.dJ (n:=(z::qs).length) (j:=0) rfl Ch (by decide) bO)) ?_)))))))
  refine zM rfl (zM rfl (zO rfl (cn (r:=.ptr id off) rfl rfl e1) (zF rfl (vI _ _) (zL rfl Ay (zO rfl (aO rfl rfl rfl (aW aJ yh)) (aB.any rfl rfl rfl rfl (OpR.call rfl rfl rfl rfl (yY (n:=(y.2.length:Int)) hT.w (by omega))) ?_))))))
  rintro v h' ⟨rfl,rfl⟩
  rw [bZ,←hC.len]
  refine aB.nE rfl rfl rfl rfl (ag rfl rfl aI) (by simp) ?_
  refine zO rfl (kf rfl rfl) (zM rfl (zM rfl (zO rfl (aO rfl rfl rfl (s.dJ (n:=(z::qs).length) (j:=0) rfl Ch (by decide) bO)) ?_)))
  refine aB.nE rfl rfl rfl rfl (ag rfl rfl aR) (by simp; omega) ?_
  refine zO rfl (kf rfl rfl) (zM rfl (zM rfl (zO rfl (cn (r:=.ptr vK NB) rfl rfl e3) (zL rfl (e4 _ dS) (zM rfl (zM rfl (zO rfl (cn (r:=.ptr id off) rfl rfl e1) (zF rfl (Ah _ _) (zL rfl I (aB.nE rfl rfl rfl rfl (ag rfl rfl aI) (by simp) ?_))))))))))
  refine zO rfl (kf rfl rfl) ?_
  refine aB.nil ⟨⟨aa,aa,aa,aa,aa,aa,aa,aa,aa,aa,aa,aa,aa,aa,aa,aa,aa,aa,fun _ _=>.inr ⟨rfl,⟨_,b8 rfl⟩,Ot⟩,eZ (.inr ⟨rfl,⟨_,aO rfl rfl rfl (s0.dJ (n:=(z::qs).length) (j:=0) rfl Ch (by decide) bO)⟩,bP _ rfl⟩) (.inr ⟨rfl,⟨_,aO rfl rfl rfl (s0.dJ (n:=(z::qs).length) (j:=0) rfl Ch (by decide) bO)⟩,bP _ rfl⟩),aa,aa,aa,aa,aa,aa,aa,aa,aa,aa,aa,aa,aa,aa,aa,aa,aa,aa,aa,aa,aa,aa,aa,aa,aa,aa⟩,?_⟩
  refine zK 7 rfl (WP.block ?_)
  have s:=s.ae [3,0]
  dsimp only [bringA,getA,aZ] at s
  refine SZ (x:=x) (seen:=(bY.take i).flatten) (ps:=z::qs) (by omega) jU (z::qs).length 0 sv _ _ _ (by omega) (by rw [jz,ff]; exact s) ⟨rfl,rfl,rfl,rfl,rfl,rfl,rfl,rfl,rfl,rfl,aa⟩ (fun Cr E' h' hE s' => ?_)
  have s:=s'
  refine WP.has hE (zK 3 rfl (zo rfl (aO rfl rfl rfl (s.dJ (n:=(z::qs).length) (j:=1) rfl Ch (by decide) bO)) ?_))
  have ea:(((2+(bY.take i).flatten.length:Nat):Int)+(((z::qs).length:Nat):Int))=((2+(bY.take (i+1)).flatten.length:Nat):Int):=by rw [CJ rT,bD]; omega
  refine zo rfl (ag (r:=.int .i64 ((2+(bY.take (i+1)).flatten.length:Nat):Int)) rfl rfl ((bp (aA (by omega) (by omega))).trans (by rw [ea]))) ?_
  refine za rfl (zv (zr rfl (zm rfl (zb rfl (by exact bp (aA (by omega) (by omega))) ?_))))
  refine za rfl (zv ?_)
  rw [←CJ rT] at s
  exact ih (i+1) Cr u7 _ _ Q (by omega) o_ pn ((((s.ae [0,3,3,1]).del 6).del 5).del 4) ⟨rfl,rfl,rfl,rfl,rfl,rfl,rfl,rfl,aa⟩ hq
theorem Hr (hT:WC told)(hR:mo mH N B rv A pg)(J:mo told N B rv A pg)(hv:EZ rv)(hN:2≤N)(CF:N≤2999)(eB:EI N B ε)(hp:eR N R M (pg ε))(hc:iO N (pg ε) bY m)(hb:∀j,j<N→bt M j=(decide (j<2)||decide (j∈bY.flatten)))(s:Sat h (.arr 2 lv cs::kG cs m::A ε::S)):
  Call ⟨Tryz.prog,told⟩ 29 [rv,lv] h fun v h'=>v=.bool true∧∃ε',EI N B ε'∧Sm N ε ε'∧Sat h' (.arr 2 lv cs::kG cs m::A ε'::S):=by
 have hW:=hT.w
 have NF:=hc.EM
 have Ev:∀ {ε':aF},Sm N ε ε'→eR N R M (pg ε'):=fun {ε'} hs=>by rw [show pg ε'=pg ε from funext (hR.same hs)]; exact hp
 have Vo:=hc.used hN hb
 have s:=s.ae [2]
 refine Call.of_wp (hW.free _ rfl) Tryz.func29 rfl rfl (zK 7 rfl (zc rfl (Ny hW J eB hN hp s) ?_))
 rintro v h ⟨xv,kY,rfl,kO,gi,s⟩
 have s:=s.ae [1]
 obtain ⟨ex,ny⟩:=(Ev gi).head
 refine zk 9 rfl (zc rfl (Qi hW J kO (by omega) ny hp.rl (by omega) (by omega) s) ?_)
 rintro v h ⟨iI,rfl,jW,I,s⟩
 have I:=gi.trans I
 have s:=(s.mB (k:=1)).ae [0,2,2,0,0]
 refine zk 20 rfl (WP.block ?_)
 refine S0 (x:=xv) (bY:=bY) hT hR hv CF hc m.length 0 .bn iI _ _ _ (by omega) jW I s ⟨rfl,rfl,rfl,rfl,rfl,rfl,rfl,rfl,aa⟩ (fun Cr u7 E' h' o_ pn hE s' => ?_)
 have s:=s'
 refine WP.has hE (zK 3 rfl (zt rfl (ag rfl rfl e_) (rfl) (zk 2 rfl (zt rfl (ag rfl rfl e_) (rfl) (zk 3 rfl (zo rfl (aO rfl rfl rfl (s.dJ (n:=2+bY.flatten.length) (j:=4) rfl (by rw [eL,Vo,cC]) (by decide) bO)) ?_))))))
 exact zm rfl (zt rfl (ag rfl rfl e_) (decide_eq_true rfl) (zk 3 rfl (WP.ret ⟨aa,_,rfl,rfl,u7,o_,pn,(s.del 4).drop⟩)))
end
end Go.Proofs.YtefepnnfphdkpaaGreat.Am
