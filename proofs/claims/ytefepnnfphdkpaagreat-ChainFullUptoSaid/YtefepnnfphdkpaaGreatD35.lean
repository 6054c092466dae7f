/- ChainFull: a part of its proof; conditions: its statement's. -/
import Derived.Test.YtefepnnfphdkpaaGreatD34
import Derived.Test.YtefepnnfphdkpaaGreatD27
import Derived.Test.YtefepnnfphdkpaaGreatD33
namespace Go.Proofs.YtefepnnfphdkpaaGreat.Am
open Go
theorem kx.same {P I:Int→List Nat}: ∀ {ps:List Nat} {cs:List (List Nat)},kx P ps cs→(∀z∈ps,I (z:Nat)=P (z:Nat))→kx I ps cs:=by
 intro ps
 induction ps with
 | nil=>intro cs h _; cases cs with
  | nil=>exact h
  | cons c cs=>exact h
 | cons p ps J=>intro cs h hs; cases cs with
  | nil=>exact h
  | cons c cs=>exact ⟨by rw [hs p ct]; exact h.1,J h.2 fun z hz=>hs z (cr _ hz)⟩
theorem iO.nil {N:Nat}{P:Int→List Nat}: iO N P [] []:=⟨rfl,fun i ps x h=>by simp at h,qv,fun z h=>by simp at h⟩
theorem iO.same {N:Nat}{P P':Int→List Nat}{bY:List (List Nat)}{m:List (Int×List Nat)}(h:iO N P bY m)(hs:∀z∈bY.flatten,P' (z:Nat)=P (z:Nat)): iO N P' bY m :=
 ⟨h.len,fun i ps x I J=>⟨(h.ch i ps x I J).hd,(h.ch i ps x I J).len,(h.ch i ps x I J).ch.same fun z hz=>hs z (List.mem_flatten.2 ⟨ps,aV I,hz⟩),(h.ch i ps x I J).sz⟩,h.nd,h.lt⟩
theorem iO.more {N:Nat}{P:Int→List Nat}{bY:List (List Nat)}{m:List (Int×List Nat)}{ps:List Nat}{x:Int×List Nat}(h:iO N P bY m)(hc:HC P ps x)(hn:ps.Nodup)(hd:∀z∈ps,z∉bY.flatten)(hl:∀z∈ps,2≤z∧z<N): iO N P (bY++[ps]) (m++[x]):=by
 have hlen:=h.len
 refine ⟨by simp [hlen],fun i qs y I J => ?_,?_,?_⟩
 ·by_cases hi:i<bY.length
  ·rw [gF hi] at I
   rw [gF (by omega)] at J
   exact h.ch i qs y I J
  ·rw [jv (by omega)] at I
   rw [jv (by omega)] at J
   have fF:i-bY.length=0:=by
    have:=(List.getElem?_eq_some_iff.1 I).1
    simp at this
    omega
   rw [fF] at I
   rw [show i-m.length=0 by omega] at J
   injection I with I
   injection J with J
   subst I
   subst J
   exact hc
 ·rw [sM,show [ps].flatten=ps by simp]
  exact List.nodup_append.2 ⟨h.nd,hn,fun a ha b hb e=>hd b hb (e ▸ ha)⟩
 ·intro z hz
  rw [sM,show [ps].flatten=ps by simp] at hz
  rcases List.mem_append.1 hz with hz | hz
  ·exact h.lt z hz
  ·exact hl z hz
theorem iO.wrote {N m:Nat}{R M M':List Nat}{P P':Int→List Nat}{bY:List (List Nat)}{L:List (Int×List Nat)}{b:List Nat}(h:iO N P bY L)(hp:eR N R M P)(hb:∀j,j<N→bt M j=(decide (j<2)||decide (j∈bY.flatten)))(hg:E7 N R M P ((cm M N).take m) M' P')
 (hm:jq b.length=m)(LG:m≤(cm M N).length)(hc:kx P' ((cm M N).take m) (chunks b m))(qT:b.length≤8192):
  iO N P' (bY++[(cm M N).take m]) (L++[(((((cm M N).take m).headD 0:Nat):Int),b)])∧∀j,j<N→bt M' j=(decide (j<2)||decide (j∈(bY++[(cm M N).take m]).flatten)):=by
 have Sc:((cm M N).take m).length=m:=by rw [fe]; omega
 have I:∀z∈(cm M N).take m,2≤z∧z<N∧z∉bY.flatten:=fun z J=>by
  have vo:=fY J
  obtain ⟨h1,h2⟩:=oI.1 vo
  have h3:=hp.OP vo
  refine ⟨h3.1,h1,fun q => ?_⟩
  rw [hb z h1,cZ q,wX] at h2
  cases h2
 refine ⟨(h.same fun z J=>hg.same z (by have:=h.lt z J; omega) fun q=>(I z q).2.2 J).more ⟨rfl,by rw [Sc]; exact hm.symm,by rw [Sc]; exact hc,qT⟩ (List.Nodup.sublist (List.take_sublist _ _) (AS M N)) (fun z J=>(I z J).2.2) (fun z J=>⟨(I z J).1,(I z J).2.1⟩),fun j hj => ?_⟩
 rw [hg.bits,hb j hj,sM,show [(cm M N).take m].flatten=(cm M N).take m by simp,Bool.or_assoc]
 congr 1
 rw [←Bool.decide_or]
 exact decide_eq_decide.2 List.mem_append.symm
theorem Qt {a b:PM}{x:Int×List Nat}{u:V}(I:(aq.cy u x.2).p a b): ∀ {m:List (Int×List Nat)} {l:List V},(kG l m).p a b→(kG (l++[.int .i64 x.1,u]) (m++[x])).p a b:=by
 intro m
 induction m with
 | nil=>intro l h; rcases l with _ | ⟨p,_ | ⟨q,l⟩⟩ <;> first | exact ⟨⟨rfl,I⟩,aa⟩ | exact h.elim
 | cons y m J =>
  intro l h
  rcases l with _ | ⟨p,_ | ⟨q,l⟩⟩ <;> first | exact h.elim | exact ⟨h.1,J h.2⟩
section
variable {P:Program} {h:H} {S:List aq} {k j i n:Nat} {v c x:V} {cs:List V} {l:List Nat} {t e:TypeId}
theorem Sat.WJ (s:Sat h S)(J:getA S j=some (yR 1 v cs))(hi:cs[i]?=some c)(hu:P.underlying t=some (.slice e))(I:bk P e=some 1):
  ∃id off,indexAddrV P t v (.int .i64 (i:Int))=some (.ptr id off)∧∀t',b6 P t'=some false→loadV P h t' (.ptr id off)=some c:=by
 have DU:=(List.getElem?_eq_some_iff.1 hi).1
 rcases s.rowAt J with ⟨_,rfl⟩ | ⟨id,len,cap,rfl,hl,hg⟩
 ·simp at hi
 ·refine ⟨id,i,?_,fun t' ht=>J3 ht hg (by rw [eW]; exact hi)⟩
  simp only [indexAddrV,hu,I,bZ]
  rw [show (decide ((0:Int)≤(i:Int))&&decide ((i:Int)<(len:Int)))=true by simp; omega,af]
  simp
end
theorem uK {v:V}{p:Int}(I:v.cells=[v]): buildV Tryz.prog 58 [(0,.int .i64 p),(1,v)]=some (.agg [.int .i64 p,v]):=by
 rw [VY]
 simp only [fillV,I]
 rfl
theorem CK : ∃i,Tryz.prog.info? 58=some i∧i.size=2∧i.bytes=32 :=
 ⟨_,(show Tryz.prog.info? 58=some ((Tryz.prog.info? 58).getD default) by kernel_rfl),by kernel_rfl,by kernel_rfl⟩
theorem CL {h:H}{S:List aq}{tv hv:V}{cs:List V}{m:List (Int×List Nat)}{x:Int×List Nat}(s:Sat h (.cy tv x.2::.arr 2 hv cs::kG cs m::S))(hl:m.length≤1048576):
  ∃bv I w J,buildSliceV Tryz.prog h 56 1 [(0,.agg [.int .i64 x.1,tv])]=some (bv,I)∧appendV Tryz.prog I #[56,56] hv bv=some (w,J)∧Sat J (.arr 2 w (cs++[.int .i64 x.1,tv])::kG (cs++[.int .i64 x.1,tv]) (m++[x])::S):=by
 have Az:=(s.aG (k:=0) rfl (c8 _ _)).cells
 have ik:=AU s (k:=2) rfl
 obtain ⟨i1,iy,fF,pP⟩:=CK
 obtain ⟨bv,I,e1,s1⟩:=ku (P:=Tryz.prog) (k:=2) (x:=.agg [.int .i64 x.1,tv]) s gq Ie mL rfl (by decide) (by decide) rfl (by simp only [V.cells,iB,i_,Az.2]; rfl)
 obtain ⟨w,J,e2,s2⟩:=fS (s1.ae [2,0]) gq iy Ie fF (by omega) rfl (by decide) (by simp only [V.cells,aN,bG]; omega)
 have s3:=(s2.del 1).ae [1,1,0]
 have s4:=s3.two (C:=kG (cs++[.int .i64 x.1,tv]) (m++[x])) (aQ.cy _ _) (aQ.kG _ _) fun a b q1 q2=>Qt q1 q2
 exact ⟨bv,I,w,J,e1,e2,s4.ae [1]⟩
section
variable {told:cz} {h:H} {S:List aq} {N B n g a p q r bf z i f:Nat} {v w x y AV hv tv kv bv uv wv:V} {R M data b l T:List Nat} {zs:List Int} {cs ds:List V} {m:List (Int×List Nat)} {bY:List (List Nat)} {ε:aF} {now:List (Int×List Nat)}
end
def slT (v:V): V:=match v with
 | .sl id off len (.exact c)=>.sl id (cond (Nat.beq c 1) off (off+1*2)) (len-1) (.exact (c-1))
 | .sl id off len (.rest _ alt)=>.sl id (off+1*2) (len-1) (.rest 2 (cond (Nat.beq 1 0) alt (cond (Nat.blt 1 len) (off+1*2) off)))
 | v=>v
section
variable {P:Program} {h:H} {S:List aq} {j k m i id off:Nat} {v c:V} {cs:List V} {t e t':TypeId}
theorem Sat.Jc (s:Sat h S)(hj:getA S j=some (.arr 2 v cs))(h1:2≤cs.length)(hu:P.underlying t=some (.slice e))(I:bk P e=some 2): sliceV P h t v (some 1) none none=some (slT v):=by
 obtain ⟨pm,r,q1,q2,h3⟩:=s.at hj
 rcases h3.2 with ⟨rfl,rfl⟩ | ⟨id,n,cap,N,rest,rfl,hg,e1,e2,_,J⟩
 ·simp at h1
 ·cases cap with
  | exact c =>
   obtain ⟨rfl,e5⟩:=J
   simp only [sliceV,hu,I,mT,dO,slT]
   rw [show (Nat.ble 1 n&&Nat.ble n c)=true by rw [aE.2 (by omega),aE.2 e5]; rfl,af]
  | rest q alt =>
   obtain ⟨rfl,rfl,rfl,e5⟩:=J
   simp only [sliceV,hu,I,mT,dO,slT]
   rw [show (Nat.beq 2 2&&Nat.ble 1 2)=true from rfl,af,show (Nat.ble 1 n&&(Nat.ble n n||Nat.ble n (jf h id 0 2)))=true by rw [aE.2 (by omega:1≤n),aE.2 (aD n)]; rfl,af]
theorem Sat.C8 (s:Sat h S)(hj:getA S j=some (.arr k v cs))(hi:i*k+k≤cs.length)(hk:1≤k)(hu:P.underlying t=some (.slice e))(I:bk P e=some k)(he:indexAddrV P t v (.int .i64 (i:Int))=some (.ptr id off))(hc:((cs.drop (i*k)).take k)[m]?=some c)(ht:b6 P t'=some false): loadV P h t' (.ptr id (off+m))=some c:=by
 obtain ⟨J,off',e1,e2⟩:=s.yZ hj hi hk hu I
 rw [he] at e1
 have e3:V.ptr id off=V.ptr J off':=bE e1
 injection e3 with e3 e4
 subst e3
 subst e4
 exact e2 m c t' hc ht
end
theorem NG {h:H}{S:List aq}{id:Nat}{hv:V}{cs:List V}(s:Sat h (pt id (.cells 0 [] false)::.arr 2 hv cs::S))(h1:2≤cs.length)(hl:cs.length≤1048576):
  ∃w h',appendV Tryz.prog h #[56,56] (.sl id 0 0 (.exact 0)) (slT hv)=some (w,h')∧Sat h' (.arr 2 w (cs.drop 2)::.arr 2 hv cs::S):=by
 have J:=s.Io (j:=1) rfl
 obtain ⟨i1,iy,fF,pP⟩:=CK
 have hz:=Ie
 have I:∃n,cs.length=n*2∧1≤n∧srcV h 2 (slT hv)=some (cs.drop 2,n-1):=by
  obtain ⟨m,r,q1,q2,q3⟩:=s.at (k:=1) rfl
  rcases q3.2 with ⟨rfl,rfl⟩ | ⟨id,n,cap,N,rest,rfl,hg,e1,e2,e3,e4⟩
  ·simp at h1
  ·have hg:=q1 _ _ hg
   have hlen:(cs.drop 2).length=(n-1)*2:=by rw [sX]; omega
   have key:∀off,(off=2∨(off=0∧n=1))→rdN h id off ((n-1)*2)=some (cs.drop 2):=fun off ho=>by
    rw [tK hg (by rw [bD,e2]) (by omega)]
    rcases ho with rfl | ⟨rfl,rfl⟩
    ·rw [AW h1,←hlen,mW rfl]
    ·rw [oo,qy,jz,fI (by omega)]
   refine ⟨n,e1,by omega,?_⟩
   cases cap with
   | exact c =>
    obtain ⟨e5,e6⟩:=e4
    simp only [slT,srcV]
    by_cases hc:c=1
    ·rw [gT hc,af,key 0 (.inr ⟨rfl,by omega⟩)]; rfl
    ·rw [cV hc,ay,key (0+1*2) (.inl rfl)]; rfl
   | rest q alt =>
    simp only [slT,srcV]
    rw [key (0+1*2) (.inl rfl)]; rfl
 obtain ⟨n,hn,vT,I⟩:=I
 unfold appendV
 simp only [gq,iy,hz,fF,pP,I]
 rw [show (Nat.ble 1 2&&Nat.ble 32 4096&&Nat.beq (V.agg [V.int IntKind.i64 0,V.bn]).cells.length 2)=true from rfl,af]
 by_cases hm:n=1
 ·rw [gT (by omega:n-1=0),af]
  refine ⟨_,_,rfl,?_⟩
  rw [fI (by omega)]
  exact Qd s
 ·rw [cV (by omega:n-1≠0),ay]
  have hb:Nat.ble (0+(n-1)) 0=false:=by rw [Bool.eq_false_iff]; intro q; have:=aE.1 q; omega
  have YT:jB (0+(n-1)) 32=true:=by
   simp only [jB,aH,aE]
   omega
  have YU:=s.row (k:=0) rfl
  have fU:rdN h id 0 (0*2)=some []:=by rw [tK YU rfl (by omega)]; rfl
  rw [hb,ay,YT,af,fU]
  refine ⟨_,_,rfl,?_⟩
  have jK:(cs.drop 2).all storable=true:=by
   rw [ob] at J ⊢
   exact fun x hx=>J x (gG hx)
  exact (s.drop.new (.cells ((0+(n-1))*2) ([]++cs.drop 2) false)).hU fun a r ya=>⟨jK,.inr ⟨h.next,0+(n-1),.rest 2 0,(0+(n-1))*2,[],rfl,by rw [ff]; exact ya,by rw [sX]; omega,by rw [sX]; simp; omega,rfl,rfl,rfl,rfl,by omega⟩⟩
structure OU (N:Nat)(R M:List Nat)(P:Int→List Nat)(ps:List Nat)(M':List Nat)(P':Int→List Nat): Prop where
 uZ:eR N R M' P'
 bits:∀j,bt M' j=(bt M j && !decide (j∈ps))
 same:∀j:Nat,j≠1→P' j=P j
section
variable {told:cz} {h:H} {S:List aq} {N B g a p q r bf:Nat} {v wv:V} {R M data:List Nat} {ps:List Nat} {cs:List (List Nat)} {ε:aF} {now:List (Int×List Nat)}
noncomputable def YV : Code:=eC [1,1,1,0,1,0,0] ((Tryz.f38.body).getD .skip)
theorem Qu (hT:W told)(hB:B≤2000){P0:Int→List Nat}(xR:ps.length≤3000)(jU:ps.Nodup)(nW:∀z∈ps,2≤z∧z<N∧bt M z=true): ∀(d k:Nat) (M':List Nat) (ε:aF) (now:List (Int×List Nat)) (h:H) (E:List (Nat×V)) (Q:Ex→List (Nat×V)→H→Prop),k+d=ps.length→EI N B ε→NW N now→OU N R M P0 (ps.take k) M' (dh now ε) →
  Sat h (.arr 1 wv (bA ps)::GA g a p q r data bf now ε::S)→Has E [(0,.ptr g 0),(22,wv),(23,.int .i64 (ps.length:Int)),(24,.int .i64 (k:Int))] →
  (∀M2 ε' bI E' h',EI N B ε'→Sm N ε ε'→NW N bI→OU N R M P0 ps M2 (dh bI ε')→Sat h' (.arr 1 wv (bA ps)::GA g a p q r data bf bI ε'::S)→Q (.exit 0) E' h')→WP ⟨Tryz.prog,told⟩ 35 (.loop YV) E h Q:=by
 intro d
 induction d with
 | zero =>
  intro k M' ε now h E Q hk J hw I s hE hq
  refine WP.loop (WP.has hE (zg rfl (zh rfl (ag rfl rfl aR) (by simp; omega) ?_)))
  refine zk 3 rfl (WP.exit ?_)
  rw [dG (by omega)] at I
  exact hq M' ε now _ _ J (Sm.refl _ _) hw I s
 | succ d ih =>
  intro k M' ε now h E Q hk J hw I s hE hq
  have hz:ps[k]?=some (ps[k]'(by omega)):=aM _
  generalize (ps[k]'(by omega))=z at hz
  have NA:=nW z (aV hz)
  have E9:(bA ps)[k]?=some (.int .i64 (z:Int)):=by rw [bA,gI,hz]; rfl
  obtain ⟨id,off,e1,e2⟩:=gQ (P:=Tryz.prog) s (k:=0) (i:=k) rfl E9 bO kC
  have Sz:ps.take (k+1)=ps.take k++[z]:=by rw [qp,hz]; rfl
  have WK:z∉ps.take k:=fun q=>by
   have e3:ps=ps.take k++z::ps.drop (k+1):=by
    obtain ⟨h1,h2⟩:=List.getElem?_eq_some_iff.1 hz
    rw [←h2,AY,mR]
   rw [e3] at jU
   exact (List.nodup_append.1 jU).2.2 z q z ct rfl
  have YW:bt M' z=true:=by rw [I.bits,NA.2.2,dm WK]; rfl
  have hM:=I.uZ.ml
  have mj:=I.uZ.n2
  refine WP.loop (WP.has hE (zg rfl (zt rfl (ag rfl rfl aR) (by simp; omega) ?_)))
  refine zk 5 rfl (WP.block (zg rfl (zo rfl (cn (r:=.ptr id off) rfl rfl e1) (zl rfl (e2 _ dS) (zk 6 rfl (zc rfl (No (i:=(z:Int)) hT hB J hw I.uZ (s.ae [1])) ?_))))))
  rintro v h ⟨ε',bI,pQ,hs,mA,s,⟨Ga,_⟩ | ⟨_,_,_,rfl,uQ,o6⟩⟩
  ·exact absurd ⟨by omega,by omega,by rw [bZ]; exact YW⟩ Ga
  rw [bZ] at uQ
  have s:=s.ae [1,0]
  dsimp only [aZ,bringA,getA] at s
  refine za rfl (zv (zg rfl (zm rfl (zh rfl (ag rfl rfl aI) (rfl) (zv (zj rfl (WP.skip (zr rfl (zb rfl (by exact bp (aA (by omega) (by omega))) ?_)))))))))
  refine zm rfl (zv ?_)
  refine ih (k+1) _ ε' bI _ _ Q (by omega) pQ mA ⟨uQ,fun j => ?_,fun j hj=>by rw [o6 j (by omega)]; exact I.same j hj⟩ s ⟨rfl,rfl,rfl,rfl,aa⟩ fun M2 iI nQ E2 h2 g1 g2 g3 g4 g5=>hq M2 iI nQ E2 h2 g1 (hs.trans g2) g3 g4 g5
  rw [OI (by omega),I.bits,Sz]
  by_cases hj:j=z
  ·subst hj
   rw [cZ (List.mem_append.2 (.inr (List.mem_singleton.2 rfl)))]
   simp
  ·rw [show decide (j∈ps.take k++[z])=decide (j∈ps.take k) from decide_eq_decide.2 ⟨fun q=>(List.mem_append.1 q).resolve_right fun q2=>hj (List.mem_singleton.1 q2),fun q=>List.mem_append.2 (.inl q)⟩]
   simp [hj]
theorem NH (hT:WC told)(hB:B≤2000)(hN:N≤3000){P0:Int→List Nat}{z:Nat}{qs:List Nat}(YX:P0=dh now ε)(I:ps=z::qs)(eB:EI N B ε)(hw:NW N now)(hp:eR N R M (dh now ε))(hc:kx (dh now ε) ps cs)(jU:ps.Nodup)(nW:∀z∈ps,2≤z∧z<N∧bt M z=true)(hl:ps.length≤1000)(lF:(flatL cs).length≤1048576)(s:Sat h (GA g a p q r data bf now ε::S)):
  Call ⟨Tryz.prog,told⟩ 38 [.ptr g 0,.int .i64 (z:Int)] h fun v h'=>∃M' ε' bI,v=.int .i64 0∧EI N B ε'∧Sm N ε ε'∧NW N bI∧OU N R M P0 ps M' (dh bI ε')∧Sat h' (GA g a p q r data bf bI ε'::S):=by
 have hW:=hT.w
 subst YX
 refine Call.of_wp (hW.free _ rfl) Tryz.func38 rfl rfl (zK 7 rfl (zo rfl (l7 rfl (ko jo rfl)) (zm rfl (zc rfl (E0 hT (wC W.base hB hw) ⟨rfl,rfl,by simp [V.beq]⟩ (by omega) eB (I ▸ hc) (fun x hx=>(nW x (I ▸ hx)).2.1) (by rw [I,aN] at hl; omega) lF s) ?_))))
 rintro v h ⟨wv,uv,kY,rfl,kO,J,s⟩
 rw [←I] at s
 have hlen:(bA ps).length=ps.length*1:=by rw [eL,cC]
 refine zk 12 rfl (zh rfl (ag rfl rfl aI) (rfl) (zk 7 rfl (zo rfl (aO rfl rfl rfl (s.dJ (n:=ps.length) (j:=0) rfl hlen (by decide) bO)) ?_)))
 have s:=s.ae [0,1]
 refine zk 2 rfl (WP.block ?_)
 refine Qu (M:=M) (R:=R) (P0:=dh now ε) hW hB (by omega) jU nW ps.length 0 M kY now _ _ _ (by omega) kO hw ⟨by rw [gV J]; exact hp,fun j=>by simp,fun j _=>by rw [gV J]⟩ s ⟨rfl,rfl,rfl,rfl,aa⟩ (fun M2 iI nQ E' h' jW gu nY EK s' => ?_)
 have s:=s'
 exact WP.has (F:=[]) aa (zK 4 rfl (WP.ret ⟨aa,_,rfl,M2,iI,nQ,rfl,jW,J.trans gu,nY,EK,((s.ae [1]).del 2).del 1⟩))
end
def u5 (zs:List Int): List V:=zs.map (V.int .i64)
theorem Ht (zs:List Int): (u5 zs).length=zs.length:=er _
section
variable {told:cz} {h:H} {S:List aq} {N B n g a p q r bf z i f:Nat} {v w x y AV hv tv kv bv uv wv:V} {R M data b l T:List Nat} {zs:List Int} {cs ds:List V} {m:List (Int×List Nat)} {bY:List (List Nat)} {ε:aF} {now:List (Int×List Nat)}
end
theorem NI {k:Int}{m:Nat}(hm:m<65536): ∃r:Nat,r≤m∧∀ {P:Program} {h:H} {t:TypeId} {x y:Operand},binV P h .and t x y (.int .i64 k) (.int .i64 (m:Int))=some (.int .i64 (r:Int)):=by
 refine ⟨Nat.land ((k%(2^(IntKind.i64).bits:Int)).toNat) m,Nat.and_le_right,fun {P h t x y} => ?_⟩
 have I:(((m:Nat):Int)%(2^(IntKind.i64).bits:Int)).toNat=m:=by simp only [IntKind.bits]; omega
 simp only [binV,ikBeq,af,intV,bitsV,I]
 have hle:Nat.land ((k%(2^(IntKind.i64).bits:Int)).toNat) m≤m:=Nat.and_le_right
 rw [wrap_i64 (n:=Nat.land ((k%(2^(IntKind.i64).bits:Int)).toNat) m) (by omega)]
section
variable {told:cz} {h:H} {S:List aq} {X Y:aq} {N B n g a p q r bf i0:Nat} {v w x y rv uv hv ov ev:V} {Rt:List V} {U:List Bool} {b l c R M data L oc:List Nat} {ε:aF} {now:List (Int×List Nat)}
end
theorem kx.done {N:Nat}{now:List (Int×List Nat)}{ε ε':aF}{aP:Nat}(hw:NW N now)(hd:∀m,pgA ε' m=match lookL m now with | some b=>cX b aP | none=>pgA ε m): ∀ {ps:List Nat} {cs:List (List Nat)},kx (dh now ε) ps cs→kx (pgA ε') ps cs:=by
 intro ps
 induction ps with
 | nil=>intro cs h; cases cs with
  | nil=>exact h
  | cons c cs=>exact h
 | cons p ps I=>intro cs h; cases cs with
  | nil=>exact h
  | cons c cs=>exact ⟨h.1.done hw hd,I h.2⟩
theorem iO.done {N:Nat}{now:List (Int×List Nat)}{ε ε':aF}{aP:Nat}{bY:List (List Nat)}{m:List (Int×List Nat)}(hw:NW N now)(hd:∀m,pgA ε' m=match lookL m now with | some b=>cX b aP | none=>pgA ε m)(h:iO N (dh now ε) bY m): iO N (pgA ε') bY m :=
 ⟨h.len,fun i ps x I J=>⟨(h.ch i ps x I J).hd,(h.ch i ps x I J).len,(h.ch i ps x I J).ch.done hw hd,(h.ch i ps x I J).sz⟩,h.nd,h.lt⟩
theorem iO.cF {N:Nat}{R M M':List Nat}{P P':Int→List Nat}{ps:List Nat}{bY:List (List Nat)}{x:Int×List Nat}{m:List (Int×List Nat)}(h:iO N P (ps::bY) (x::m))(hb:∀j,j<N→bt M j=(decide (j<2)||decide (j∈(ps::bY).flatten)))(hf:OU N R M P ps M' P'):
  iO N P' bY m∧∀j,j<N→bt M' j=(decide (j<2)||decide (j∈bY.flatten)):=by
 have J:=h.nd
 rw [kP] at J
 have I:∀z,z∈bY.flatten→z∈(ps::bY).flatten:=fun z hz=>by rw [kP]; exact List.mem_append.2 (.inr hz)
 refine ⟨⟨by have:=h.len; simpa using this,fun i qs y h1 h2 => ?_,(List.nodup_append.1 J).2.1,fun z hz=>h.lt z (I z hz)⟩,fun j hj => ?_⟩
 ·have hc:=h.ch (i+1) qs y (by simpa using h1) (by simpa using h2)
  refine ⟨hc.hd,hc.len,hc.ch.same fun z hz=>hf.same z ?_,hc.sz⟩
  have:=h.lt z (I z (List.mem_flatten.2 ⟨qs,aV h1,hz⟩))
  omega
 ·rw [hf.bits,hb j hj]
  by_cases h2:j<2
  ·have:j∉ps:=fun q=>by
    have:=h.lt j (by rw [kP]; exact List.mem_append.2 (.inl q))
    omega
   simp [h2,this]
  ·by_cases h3:j∈ps
   ·have h4:j∉bY.flatten:=fun q=>(List.nodup_append.1 J).2.2 j h3 j q rfl
    rw [cZ h3,dm h4,dm h2]
    simp
   ·have e:decide (j∈(ps::bY).flatten)=decide (j∈bY.flatten):=decide_eq_decide.2 ⟨fun q=>by rw [kP] at q; exact (List.mem_append.1 q).resolve_left h3,fun q=>I j q⟩
    rw [dm h3,e]
    simp
section
variable {told:cz} {h:H} {S:List aq} {N B g a p q r bf:Nat} {data:List Nat} {ε:aF} {now:List (Int×List Nat)}
theorem LK (I:W told)(s:Sat h (GA g a p q r data bf now ε::S)): Call ⟨Tryz.prog,told⟩ 33 [.ptr g 0] h fun v h'=>v=.aX []∧Sat h' (SA a p q r .cO data bf ε::S):=by
 have s:=cR.1 s
 refine (MW I s).mono ?_
 rintro v h' ⟨rfl,s⟩
 exact ⟨rfl,cR.2 s.drop⟩
end
theorem Qv {v:V}(h:v.beq v=true): (slT v).beq (slT v)=true:=by
 cases v with
 | sl id off len cap =>
  cases cap with
  | exact c=>exact xk _ _ _ _
  | rest e alt=>exact xk _ _ _ _
 | _=>exact h
theorem NJ {p:Int}{u:V}(h:u.beq u=true): (V.agg [.int .i64 p,u]).beq (V.agg [.int .i64 p,u])=true:=by
 simp only [V.beq,V.beqL,h,cW,kJ,td,gK,af]
theorem Sat.Ud {h:H}{S:List aq}{cs:List V}{x:Int×List Nat}{m:List (Int×List Nat)}(s:Sat h (kG cs (x::m)::S)): Sat h (kG (cs.drop 2) m::kG cs (x::m)::S) :=
 (s.dup (aQ.kG _ _)).hU fun a b k=>by
  rcases cs with _ | ⟨c,_ | ⟨d,cs⟩⟩
  ·exact k.elim
  ·exact k.elim
  ·exact k.2
section
variable {told:cz} {h:H} {S:List aq} {N B K g a p q r bf i:Nat} {v w x y AV hv tv:V} {R M data b l T:List Nat} {cs:List V} {m:List (Int×List Nat)} {bY:List (List Nat)} {ε:aF} {now:List (Int×List Nat)}
noncomputable def YY : Code:=eC [1,1,1,1,1,0,1,0,0,1,0,0,1,1,1,1,1,1,0,1,0] ((Tryz.f7.body).getD .skip)
theorem S2 (hT:WC told)(Vp:10≤N)(CF:N≤41)(hB:B≤200)(eB:EI N B ε)(hp:eR N R M (pgA ε))(hc:iO N (pgA ε) bY m)(hb:∀j,j<N→bt M j=(decide (j<2)||decide (j∈bY.flatten)))(hd:sk K 1048576 ε)(hK:K+520*N+28≤1048576){E:List (Nat×V)}{Q:Ex→List (Nat×V)→H→Prop}
 (s:Sat h (GA g a p q r data bf now ε::.arr 2 hv cs::kG cs m::S))(hE:Has E [(5,.ptr a 0),(6,hv),(9,.ptr g 0)])(hq:∀E' h',look E' 4=some (.bool true)→Q .ret E' h'): WP ⟨Tryz.prog,told⟩ 156 YY E h Q:=by
 have hW:=hT.w
 have v7:=hc.fV
 refine WP.has hE (zK 3 rfl (zc rfl (LK hW s) ?_))
 rintro v h ⟨rfl,s⟩
 have s:=s.ae [1,1,0]
 refine zk 5 rfl (zo rfl (l7 rfl (ko nP rfl)) (zm rfl (zc rfl (Hr hT (EG W.base (by omega)) (EG hW (by omega)) ⟨rfl,rfl,by simp [V.beq]⟩ (by omega) (by omega) eB hp hc hb s) ?_)))
 rintro v h ⟨rfl,kY,kO,gi,s⟩
 have o9:eR N R M (pgA kY):=by rw [show pgA kY=pgA ε from funext gi.1]; exact hp
 have J:iO N (pgA kY) bY m:=by rw [show pgA kY=pgA ε from funext gi.1]; exact hc
 have OV:=hd.sm gi
 have ik:=AU s (k:=1) rfl
 refine zo rfl (eY rfl rfl) (zk 7 rfl (zo rfl (aO rfl rfl rfl (s.dJ (n:=m.length) (j:=0) rfl ik (by decide) gq)) ?_))
 cases m with
 | nil =>
  refine zt rfl (ag rfl rfl e_) (by simp) ?_
  exact zk 6 rfl (WP.ret (hq _ _ rfl))
 | cons x m =>
  cases bY with
  | nil=>have:=hc.len; simp at this
  | cons ps bY =>
   refine zh rfl (ag rfl rfl e_) (by simp; omega) ?_
   refine zk 6 rfl ?_
   have hC:=J.ch 0 ps x rfl rfl
   have h1:=hC.one
   obtain ⟨z,qs,rfl,hz⟩:=headD_cons h1
   have LJ:x.1=(z:Int):=by rw [hC.hd,hz]
   have jU:=J.nd
   rw [kP] at jU
   have jU:=(List.nodup_append.1 jU).1
   have sx:∀u∈z::qs,u∈((z::qs)::bY).flatten:=fun u hu=>by rw [kP]; exact List.mem_append.2 (.inl hu)
   have nW:∀u∈z::qs,2≤u∧u<N∧bt M u=true:=fun u hu=>by
    have h2:=J.lt u (sx u hu)
    exact ⟨h2.1,h2.2,by rw [hb u h2.2,cZ (sx u hu),wX]⟩
   have NF:=J.EM
   rw [kP,bD] at NF
   have YZ:(z::qs).length≤1000:=by omega
   have lF:flatL (chunks x.2 (z::qs).length)=x.2:=by rw [hC.len]; exact AT
   have eA:=hC.sz
   obtain ⟨uv,hu,s⟩:=OT (i:=0) (s.ae [1]) rfl
   have s:=s.ae [3,2,1,0]
   have Cp:=jd (s.aG (k:=3) rfl (c8 _ _))
   have Vq:=(s.aG (k:=3) rfl (c8 _ _)).cells
   refine zc rfl (wE hW s) ?_
   rintro v h ⟨g2,rfl,s⟩
   obtain ⟨id,off,e1,e2⟩:=s.yZ (P:=Tryz.prog) (i:=0) (j:=1) rfl (by rw [ik,aN]; omega) (by decide) gq mL
   have vn:=e2 0 (.int .i64 x.1) 3 (by rw [hu]; rfl) dS
   rw [LJ] at vn
   refine zk 6 rfl (zh rfl (ag rfl rfl (r_ jo)) (rfl) (zk 3 rfl (zo rfl (cn (r:=.ptr id off) rfl rfl e1) (zf rfl (Ah _ _) (zl rfl vn (zc rfl (NH (ps:=z::qs) (qs:=qs) (cs:=chunks x.2 (z::qs).length) hT (by omega) (by omega) rfl rfl kO (NW.nil N) o9 hC.ch jU nW YZ (by rw [lF]; omega) s) ?_))))))
   rintro v h ⟨M2,iI,nQ,rfl,jW,gu,nY,EK,s⟩
   obtain ⟨lz,rR⟩:=J.cF hb EK
   have LG:(z::qs).length≤(cm M2 N).length:=by
    have k1:=lz.used (by omega) rR
    have k2:=rL (M:=M2) (N:=N)
    have k3:=J.used (by omega) hb
    have k4:=rL (M:=M) (N:=N)
    rw [kP,bD] at k3
    omega
   refine zh rfl (ag rfl rfl aI) (rfl) ?_
   obtain ⟨id,off,e1,e2⟩:=s.yZ (P:=Tryz.prog) (i:=0) (j:=1) rfl (by rw [ik,aN]; omega) (by decide) gq mL
   have Ay:=e2 1 uv 28 (by rw [hu]; rfl) bK
   refine zk 8 rfl (zo rfl (cn (r:=.ptr id off) rfl rfl e1) (zf rfl (vI _ _) (zl rfl Ay ?_)))
   have s:=s.ae [0,2]
   refine zc rfl (wG (b:=x.2) (M:=M2) (m:=(z::qs).length) hW (by omega) (c8 _ _) hC.sz jW nY EK.uZ hC.len.symm LG s) ?_
   rintro v h ⟨u7,Np,M3,rfl,o_,pn,pT,S3,wo,s⟩
   obtain ⟨S4,Vr⟩:=lz.wrote EK.uZ rR S3 hC.len.symm LG wo hC.sz
   generalize (cm M2 N).take (z::qs).length=S5 at S4 Vr S3 ⊢
   generalize S5.headD 0=z2 at S4 ⊢
   have OW:=(OV.sm gu).sm pn
   refine zk 10 rfl (zh rfl (ag rfl rfl aI) (rfl) (zk 6 rfl (zo rfl (cM rfl (uI (kd:=1))) (zc rfl (yW (kd:=1) hW (by omega) o_ pT (by omega) (by decide) (by decide) OW hK s) ?_))))
   rintro v h ⟨aP,Wq,rfl,SE,S6,U9,s⟩
   have Y0:=S3.uZ.done pT S6
   have Y1:=S4.done pT S6
   have s:=s.ae [3]
   have S7:=(s.kV (j:=0) rfl).2.2
   have KH:=Qv S7
   have I:2≤cs.length:=by rw [ik,aN]; omega
   obtain ⟨id,off,e1,e2⟩:=s.yZ (P:=Tryz.prog) (i:=0) (j:=0) rfl (by omega) (by decide) gq mL
   have OX:((cs.drop (0*2)).take 2)[1]?=some uv:=by rw [hu]; rfl
   refine zk 6 rfl ?_
   have s0:=s
   refine WP.RN [ak,ak,ak,some (0,5),some (0,5),none,some (0,2),some (0,2),none,some (0,3),some (0,3),some (0,3),some (0,3),some (0,3),some (0,3),ak,ak,ak,ak,ak] rfl (by kernel_rfl) (by kernel_rfl) ?_
   refine zM rfl (aB.yc rfl rfl rfl rfl (ag rfl rfl e_) (rfl) (zM rfl (zM rfl (zO rfl (l7 rfl (ko nP rfl)) ?_))))
   obtain ⟨h1,e3,s1⟩:=Qc (P:=Tryz.prog) s gq Ie mL rfl (by decide)
   refine aB.any rfl rfl rfl rfl (OpR.of (R:=fun v h'=>v=.sl h.next 0 0 (.exact 0)∧h'=h1) (kg rfl e3) ⟨rfl,rfl⟩) ?_
   rintro v h' ⟨rfl,rfl⟩
   have s:=s1.ae [1]
   have s1:=s
   refine zM rfl (zO rfl (eF (p:=some (.int .i64 1)) (q:=none) (m:=none) (p':=some 1) (q':=none) (m':=none) rfl rfl rfl rfl rfl rfl rfl (s.Jc (j:=0) rfl I gq mL)) ?_)
   obtain ⟨w,h2,e4,s2⟩:=NG (s.ae [1]) I (by omega)
   refine aB.any rfl rfl rfl rfl (OpR.of (R:=fun v h'=>v=w∧h'=h2) (jL rfl rfl e4) ⟨rfl,rfl⟩) ?_
   rintro w h2 ⟨rfl,rfl⟩
   have s:=s2.ae [1]
   have s2:=s
   refine zM rfl (zM rfl (zO rfl (cn (r:=.ptr id off) rfl rfl e1) (zF rfl (vI _ _) (zL rfl (s.C8 (j:=0) (i:=0) (k:=2) (m:=1) rfl I (by decide) gq mL e1 OX bK) ?_))))
   refine zO rfl (cM (r:=.agg [.int .i64 (z2:Int),uv]) rfl (uK Vq.1)) ?_
   have mh:=NJ (p:=(z2:Int)) Cp
   have s:=(s.ae [5]).Ud
   obtain ⟨xv,h1,w2,h3,e5,e6,s3⟩:=CL (x:=((z2:Int),x.2)) (s.ae [6,3,0]) (by simp only [aN] at v7; omega)
   refine aB.any rfl rfl rfl rfl (OpR.of (R:=fun v h'=>v=xv∧h'=h1) (kg rfl e5) ⟨rfl,rfl⟩) ?_
   rintro xv h1 ⟨rfl,rfl⟩
   refine aB.any rfl rfl rfl rfl (OpR.of (R:=fun v h'=>v=w2∧h'=h3) (jL rfl rfl e6) ⟨rfl,rfl⟩) ?_
   rintro w2 h3 ⟨rfl,rfl⟩
   have s:=s3.ae [0,0,3]
   refine aB.any rfl rfl rfl rfl (OpR.call rfl rfl rfl rfl (Hr hT (EG W.base (by omega)) (EG hW (by omega)) ⟨rfl,rfl,by simp [V.beq]⟩ (by omega) (by omega) SE Y0 Y1 Vr s)) ?_
   rintro v h ⟨rfl,_⟩
   refine zO rfl (m8 rfl rfl) (zA rfl ?_)
   refine aB.nil ⟨⟨⟨aa,aa,aa,fun _ _=>.inr ⟨rfl,⟨_,b8 rfl⟩,bP _ rfl⟩,fun _ _=>.inr ⟨rfl,⟨_,l7 rfl (ko nP rfl)⟩,bP _ rfl⟩,aa,fun _ _=>.inr ⟨rfl,⟨_,b8 rfl⟩,S7⟩,eZ (.inr ⟨rfl,⟨_,eF (p:=some (.int .i64 1)) (q:=none) (m:=none) (p':=some 1) (q':=none) (m':=none) rfl rfl rfl rfl rfl rfl rfl (s0.Jc (j:=0) rfl I gq mL)⟩,KH⟩) (.inr ⟨rfl,⟨_,eF (p:=some (.int .i64 1)) (q:=none) (m:=none) (p':=some 1) (q':=none) (m':=none) rfl rfl rfl rfl rfl rfl rfl (s1.Jc (j:=0) rfl I gq mL)⟩,KH⟩),aa,fun _ _=>.inr ⟨rfl,⟨_,b8 rfl⟩,bP _ rfl⟩,fun _ _=>.inr ⟨rfl,⟨_,b8 rfl⟩,S7⟩,fun _ _=>.inr ⟨rfl,⟨_,cn (r:=.ptr id off) rfl rfl e1⟩,bP _ rfl⟩,fun _ _=>.inr ⟨rfl,⟨_,nC rfl (vI _ _)⟩,bP _ rfl⟩,oR (.inr ⟨rfl,⟨_,aS rfl (s0.C8 (j:=0) (i:=0) (k:=2) (m:=1) rfl I (by decide) gq mL e1 OX bK)⟩,Cp⟩) (.inr ⟨rfl,⟨_,aS rfl (s1.C8 (j:=0) (i:=0) (k:=2) (m:=1) rfl I (by decide) gq mL e1 OX bK)⟩,Cp⟩) (.inr ⟨rfl,⟨_,aS rfl (s2.C8 (j:=0) (i:=0) (k:=2) (m:=1) rfl I (by decide) gq mL e1 OX bK)⟩,Cp⟩),fun _ _=>.inr ⟨rfl,⟨_,cM (r:=.agg [.int .i64 (z2:Int),uv]) rfl (uK Vq.1)⟩,mh⟩,aa,aa,aa,aa,aa,aa⟩,.inl rfl,.inl rfl,.inl rfl,.inl rfl,.inl rfl,.inr rfl,.inl rfl,.inl rfl,.inl rfl,.inl rfl,.inl rfl,.inl rfl,.inl rfl,.inl rfl,.inl rfl,.inr rfl,.inl rfl,.inl rfl,.inl rfl,.inl rfl,aa⟩,?_⟩
   exact WP.ret (hq _ _ rfl)
end
theorem OY {h:H}{x y:Operand}{a b:Bool}: binV Tryz.prog h .neq 4 x y (.bool a) (.bool b)=some (.bool (!(a == b))):=by
 simp only [binV,eqV,vN,gY]
section
variable {told:cz} {h:H} {S:List aq} {N B g a p q r bf i c:Nat} {v w x y AV hv tv:V} {R M data b l T:List Nat} {zs:List Int} {cs:List V} {m:List (Int×List Nat)} {bY:List (List Nat)} {ε:aF} {now:List (Int×List Nat)}
noncomputable def Y2 : Code:=eC [1,1,1,1,1,0,1,0,0] ((Tryz.f7.body).getD .skip)
theorem WL (hT:WC told)(Uk:zs.length≤1048576)(vo:1≤zs.length)(Vp:10≤N)(CF:N≤41)(Vs:520*N+28=c): ∀(d i:Nat) (hv:V) (cs:List V) (m:List (Int×List Nat)) (bY:List (List Nat)) (ε:aF) (M:List Nat) (h:H) (E:List (Nat×V)) (Q:Ex→List (Nat×V)→H→Prop),i+d=42 →
  EI N (3+2*i) ε→eR N R M (pgA ε)→iO N (pgA ε) bY m→(∀j,j<N→bt M j=(decide (j<2)||decide (j∈bY.flatten)))→m.length=i→sk ((i+1)*c) 1048576 ε →
  Sat h (.arr 2 hv cs::kG cs m::SA a p q r .cO data bf ε::yR 1 AV (u5 zs)::S)→Has E [(1,AV),(5,.ptr a 0),(6,hv),(7,.int .i64 (i:Int))] →
  (∀E' h',look E' 4=some (.bool true)→Q .ret E' h')→WP ⟨Tryz.prog,told⟩ 156 (.loop Y2) E h Q:=by
 have J:=hT.w
 have OS:(u5 zs).length=zs.length*1:=by rw [Ht,cC]
 intro d
 induction d with
 | zero =>
  intro i hv cs m bY ε M h E Q hi eB hp hc hb hm
  have:=hc.fV
  omega
 | succ d ih =>
  intro i hv cs m bY ε M h E Q hi eB hp hc hb hm hd s hE hq
  have Vo:=hc.used (by omega) hb
  have QH:=rL (M:=M) (N:=N)
  have hcn:=hc.SX
  have ZH:i≤39:=by omega
  have Ak:c≤21348:=by omega
  have hK:(i+1)*c+520*N+28≤1048576:=by
   have h1:(i+1)*c≤40*21348:=sZ (by omega) Ak
   omega
  have aY:i%zs.length<zs.length:=tf _ (by omega)
  have hz:zs[i%zs.length]?=some (zs[i%zs.length]'aY):=aM _
  generalize (zs[i%zs.length]'aY)=z0 at hz
  have QW:(u5 zs)[i%zs.length]?=some (.int .i64 z0):=by rw [u5,gI,hz]; rfl
  obtain ⟨id,off,e1,e2⟩:=s.WJ (P:=Tryz.prog) (j:=3) rfl QW bO kC
  obtain ⟨n,mj,vT,hn3⟩:∃n:Nat,min (max z0 1) 3000=(n:Int)∧1≤n∧n≤3000:=⟨(min (max z0 1) 3000).toNat,by omega,by omega,by omega⟩
  refine WP.loop (WP.has hE (zK 4 rfl (zt rfl (ag rfl rfl aR) (by simp; omega) ?_)))
  refine zk 4 rfl (WP.block (zK 5 rfl (zo rfl (aO rfl rfl rfl (s.K4 (n:=zs.length) (j:=3) rfl OS (by decide) bO)) ?_)))
  refine zb rfl (BW (a:=i) (b:=zs.length) (by omega)) ?_
  refine zo rfl (cn (r:=.ptr id off) rfl rfl e1) (zl rfl (e2 _ dS) (zo rfl (DS rfl rfl SV) (zo rfl (DS (r:=.int .i64 (n:Int)) rfl rfl (I1.trans (by rw [mj]))) ?_)))
  refine zm rfl (zo rfl (cN rfl CI) (zc rfl (NC (n:=n) (f:=i%256) J (by omega) s) ?_))
  intro tv h s
  have Y3:(mI (i%256) n).length=n:=sn
  generalize mI (i%256) n=T at s Y3
  have s:=s.gS.ae [3]
  dsimp only [bringA,getA,aZ] at s
  obtain ⟨k,hk⟩:∃k,jq T.length=k:=⟨_,rfl⟩
  have Ue:(N:Int)-(onesL M:Nat)=((cm M N).length:Nat):=by rw [hp.WH]; omega
  refine zk 5 rfl (zc rfl (wE J s) ?_)
  rintro v h ⟨g,rfl,s⟩
  refine zk 6 rfl (zh rfl (ag rfl rfl (r_ jo)) (rfl) (zk 6 rfl (zo rfl (l7 rfl (ko jo rfl)) (zc rfl (Qj J (wC J (by omega) (NW.nil N)) eB (by omega) hp s) ?_))))
  rintro v h ⟨kY,rfl,kO,gi,s⟩
  rw [Ue]
  have Vt:pgA kY=pgA ε:=funext gi.1
  have o9:eR N R M (pgA kY):=by rw [Vt]; exact hp
  have tA:iO N (pgA kY) bY m:=by rw [Vt]; exact hc
  have OV:=hd.sm gi
  have Y4:=(s.aG (k:=1) rfl (c8 _ _)).cells
  refine zk 10 rfl ?_
  by_cases eS:k≤(cm M N).length
  ·skip
   refine zc rfl (wG (b:=T) (M:=M) (now:=[]) (m:=k) J (by omega) (c8 _ _) (by omega) kO (NW.nil N) o9 hk eS s) ?_
   rintro v h ⟨iI,nQ,M2,rfl,I,gu,nY,yg,lz,s⟩
   obtain ⟨iV,rR⟩:=tA.wrote o9 hb yg hk eS lz (by omega)
   have S8:=OV.sm gu
   generalize (cm M N).take k=S5 at iV rR yg ⊢
   generalize S5.headD 0=z at iV ⊢
   refine zk 10 rfl (zh rfl (ag rfl rfl aI) (rfl) (zk 2 rfl (zh rfl (ag rfl rfl e_) (by decide) ?_)))
   refine zm rfl (zo rfl (aO rfl rfl rfl (aW aJ (s.aG (k:=1) rfl (c8 _ _)))) (zc rfl (yY (n:=(T.length:Int)) J (by omega)) ?_))
   rintro v h' ⟨rfl,rfl⟩
   rw [bZ,hk]
   refine zm rfl (zh rfl (ag rfl rfl gA) (by simp; omega) ?_)
   refine zh rfl (ag rfl rfl OY) (rfl) (zk 8 rfl (zh rfl (ag rfl rfl e_) (by decide) ?_))
   refine zk 6 rfl (zo rfl (cM rfl (uI (kd:=1))) (zc rfl (yW (kd:=1) J (by omega) I nY (by omega) (by decide) (by decide) S8 hK s) ?_))
   rintro v h ⟨aP,u7,rfl,o_,S9,OW,s⟩
   have Lm:=yg.uZ.done nY S9
   have wo:=iV.done nY S9
   rw [show (i+1)*c+520*N+28=(i+1+1)*c by rw [gM (i+1) 1 c]; omega] at OW
   refine zk 10 rfl (zh rfl (ag rfl rfl e_) (by decide) ?_)
   refine zk 7 rfl (zh rfl (ag rfl rfl aI) (by decide) ?_)
   refine zk 2 rfl (zh rfl (ag rfl rfl aI) (by decide) ?_)
   refine zk 8 rfl (zo rfl (cM (r:=.agg [.int .i64 (z:Int),tv]) rfl (uK Y4.1)) ?_)
   obtain ⟨xv,h1,w,h2,e3,e4,s2⟩:=CL (x:=((z:Int),T)) (s.ae [2,2,2]) (by omega)
   refine az.any rfl rfl rfl (OpR.of (R:=fun v h'=>v=xv∧h'=h1) (kg rfl e3) ⟨rfl,rfl⟩) ?_
   rintro xv h1 ⟨rfl,rfl⟩
   refine az.any rfl rfl rfl (OpR.of (R:=fun v h'=>v=w∧h'=h2) (jL rfl rfl e4) ⟨rfl,rfl⟩) ?_
   rintro w h2 ⟨rfl,rfl⟩
   refine za rfl (zv (zr rfl (zm rfl (zb rfl (by exact bp (aA (by omega) (by omega))) ?_))))
   refine za rfl (zv ?_)
   exact ih (i+1) _ _ _ _ u7 M2 _ _ Q (by omega) (by rw [show 3+2*(i+1)=3+2*i+2 by omega]; exact o_) Lm wo rR (by rw [bD,hm]; rfl) OW ((s2.ae [0,0,1]).del 3) ⟨rfl,rfl,rfl,rfl,aa⟩ hq
  ·skip
   refine zc rfl (FZ (b:=T) (M:=M) (now:=[]) (m:=k) J (by omega) (c8 _ _) (by omega) kO (NW.nil N) o9 hk (by omega) s) ?_
   rintro v h ⟨iI,nQ,rfl,I,gu,nY,s⟩
   have S_:pgA iI=pgA kY:=funext gu.1
   have Cx:eR N R M (pgA iI):=by rw [S_]; exact o9
   have lz:iO N (pgA iI) bY m:=by rw [S_]; exact tA
   have S8:=OV.sm gu
   refine zk 10 rfl (zh rfl (ag rfl rfl aI) (rfl) (zk 2 rfl (zt rfl (ag rfl rfl e_) (by decide) ?_)))
   refine zm rfl (zo rfl (aO rfl rfl rfl (aW aJ (s.aG (k:=1) rfl (c8 _ _)))) (zc rfl (yY (n:=(T.length:Int)) J (by omega)) ?_))
   rintro v h' ⟨rfl,rfl⟩
   rw [bZ,hk]
   refine zm rfl (zt rfl (ag rfl rfl gA) (by simp; omega) ?_)
   refine zh rfl (ag rfl rfl OY) (rfl) (zk 8 rfl (zt rfl (ag rfl rfl e_) (by decide) ?_))
   exact zk 2 rfl (S2 hT Vp CF (by omega) I Cx lz hb S8 hK ((s.ae [0,1,1])) ⟨rfl,rfl,rfl,aa⟩ hq)
end
end Go.Proofs.YtefepnnfphdkpaaGreat.Am
