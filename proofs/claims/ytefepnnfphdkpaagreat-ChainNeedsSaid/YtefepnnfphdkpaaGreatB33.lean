/- ChainNeeds: a part of its proof; conditions: its statement's. -/
import Derived.Test.YtefepnnfphdkpaaGreatB32
import Derived.Test.YtefepnnfphdkpaaGreatB24
import Derived.Test.YtefepnnfphdkpaaGreatB28
import Derived.WalkKit
import Derived.ProofKit
import Derived.OpenShut
import Derived.ChangeSlices
import Derived.Test.YtefepnnfphdkpaaGreatRows
namespace Go.Proofs.YtefepnnfphdkpaaGreat.Am
open Go
section
variable {told:cK} {h:H} {S:List aq} {X Y:aq} {N B n g a p q r bA m:Nat} {v x y rv pv bv cv:V} {b l c R M data:List Nat} {ps:List Nat} {cs:List (List Nat)} {ε:aF} {now:List (Int×List Nat)}
structure FM (N:Nat)(R M:List Nat)(P:Int→List Nat)(ps:List Nat)(M':List Nat)(P':Int→List Nat): Prop where
 MJ:jq N R M' P'
 bits:∀j,bt M' j=(bt M j||decide (j∈ps))
 same:∀j:Nat,j≠1→j∉ps→P' j=P j
theorem jq.RH {P:Int→List Nat}(h:jq N R M P){z:Nat}(J:z∈c8 M N): 2≤z∧z<N:=by
 obtain ⟨h1,I⟩:=nJ.1 J
 refine ⟨?_,h1⟩
 rcases gZ z 2 with q | q
 ·rw [h.own z q] at I; cases I
 ·exact q
theorem FM.lo {P P':Int→List Nat}{I:List Nat}{k z:Nat}(h:FM N R M P ((c8 M N).take k) I P')(J:(c8 M N)[k]?=some z): z<N∧bt I z=false∧∀j,j<z→bt I j=true:=by
 have hm:=nJ.1 (bh J)
 obtain ⟨t1,t2⟩:=Bu (vc M N) J
 refine ⟨hm.1,?_,fun j hj => ?_⟩
 ·rw [h.bits,hm.2,o6]
  exact dJ fun q=>by have:=((t1 z).1 q).2; omega
 ·rw [h.bits]
  cases hb:bt M j with
  | true=>rfl
  | false=>rw [o6]; exact dr ((t1 j).2 ⟨nJ.2 ⟨by omega,hb⟩,hj⟩)
noncomputable def V7 : Code:=gr [1,1,1,0,1,0,0] ((Tryz.f17.body).getD .skip)
theorem LP (hT:W told)(hB:B≤2000){P0:Int→List Nat}(hN:N≤2999)(hm:m≤3000): ∀(j k:Nat) (pv:V) (M':List Nat) (ε:aF) (now:List (Int×List Nat)) (h:H) (E:List (Nat×V)) (Q:Ex→List (Nat×V)→H→Prop),k+j=m→k≤(c8 M N).length→EI N B ε→NW N now→FM N R M P0 ((c8 M N).take k) M' (eC now ε) →
  Sat h (.arr 1 pv (cx ((c8 M N).take k))::GA g a p q r data bA now ε::S)→Has E [(0,.ptr g 0),(1,bv),(6,pv),(24,.int .i64 (m:Int)),(25,.int .i64 (k:Int))] →
  (m≤(c8 M N).length→∀JQ M2 ε' cg E' h',EI N B ε'→Sm N ε ε'→NW N cg→FM N R M P0 ((c8 M N).take m) M2 (eC cg ε')→Has E' [(0,.ptr g 0),(1,bv),(6,JQ)]→Sat h' (.arr 1 JQ (cx ((c8 M N).take m))::GA g a p q r data bA cg ε'::S)→Q (.exit 0) E' h') →
  ((c8 M N).length<m→∀ε' cg E' h',EI N B ε'→Sm N ε ε'→NW N cg→look E' 4=some (.int .i64 0)→look E' 5=some (.int .i64 7)→Sat h' (GA g a p q r data bA cg ε'::S)→Q .ret E' h')→WP ⟨Tryz.prog,told⟩ 100 (.loop V7) E h Q:=by
 intro j
 induction j with
 | zero =>
  intro k pv M' ε now h E Q hk SY gT hw hg s hE yJ fU
  obtain rfl:k=m:=by omega
  refine WP.loop (WP.has hE (zg rfl (zh rfl (ag rfl rfl bf) (by simp) ?_)))
  exact zk 3 rfl (WP.exit (yJ SY pv M' ε now _ _ gT (Sm.refl _ _) hw hg ⟨rfl,rfl,rfl,aa⟩ s))
 | succ j ih =>
  intro k pv M' ε now h E Q hk SY gT hw hg s hE yJ fU
  have hM:=hg.MJ.ml
  have sr:(c8 M N).length≤N:=by have:=DC (M:=M) (N:=N); omega
  refine WP.loop (WP.has hE (zg rfl (zt rfl (ag rfl rfl bf) (by simp; omega) ?_)))
  refine zk 5 rfl (WP.block (zK 3 rfl ?_))
  by_cases BS:k=(c8 M N).length
  ·skip
   have ot:∀i,i<N→bt M' i=true:=fun i hi=>by
    rw [hg.bits]
    cases hb:bt M i with
    | true=>rfl
    | false=>rw [o6,BS,eD (aD _)]; exact dr (nJ.2 ⟨hi,hb⟩)
   refine zc rfl (G9 hT hB gT hw hg.MJ ot (s.ae [1])) ?_
   rintro v h ⟨ε',rfl,I,hs,s⟩
   refine zk 10 rfl (zt rfl (ag rfl rfl aL) (by decide) ?_)
   exact zk 8 rfl (WP.ret (fU (by omega) ε' now _ _ I hs hw rfl rfl (s.del 1)))
  ·have hz:(c8 M N)[k]?=some ((c8 M N)[k]'(by omega)):=aY _
   generalize ((c8 M N)[k]'(by omega))=z at hz
   obtain ⟨l1,l2,l3⟩:=hg.lo hz
   obtain ⟨t1,t2⟩:=Bu (vc M N) hz
   refine zc rfl (LB (lo:=z) hT hB gT hw hg.MJ l1 l2 l3 (s.ae [1])) ?_
   rintro v h ⟨ε',cg,rfl,I,hs,mK,xM,qE,Xm,s⟩
   have V8:FM N R M P0 ((c8 M N).take (k+1)) (yZ M' z) (eC cg ε'):=by
    refine ⟨xM,fun i => ?_,fun i jS ie => ?_⟩
    ·rw [MC (by omega),hg.bits,t2]
     by_cases hi:i=z
     ·subst hi; rw [ax rfl,dr (List.mem_append.2 (.inr (List.mem_singleton.2 rfl))),Bool.or_true]
     ·rw [ai hi]
      congr 1
      exact decide_eq_decide.2 ⟨fun q=>List.mem_append.2 (.inl q),fun q=>(List.mem_append.1 q).resolve_right fun q2=>hi (List.mem_singleton.1 q2)⟩
    ·rw [t2] at ie
     rw [qE i (by omega) (fun e=>ie (List.mem_append.2 (.inr (List.mem_singleton.2 (by omega))))),hg.same i jS fun q=>ie (List.mem_append.2 (.inl q))]
   have s:=s.ae [1,0]
   dsimp only [aZ,bringA,getA] at s
   refine zk 10 rfl (zh rfl (ag rfl rfl aL) (rfl) (zk 6 rfl ?_))
   obtain ⟨iv,h1,w,h2,e3,e4,s2⟩:=LN (k:=z) s (by rw [fc]; omega)
   rw [←t2] at s2
   refine az.any rfl rfl rfl (OpR.of (R:=fun v h'=>v=iv∧h'=h1) (lR rfl e3) ⟨rfl,rfl⟩) ?_
   rintro iv h1 ⟨rfl,rfl⟩
   refine az.any rfl rfl rfl (OpR.of (R:=fun v h'=>v=w∧h'=h2) (mL rfl rfl e4) ⟨rfl,rfl⟩) ?_
   rintro w h2 ⟨rfl,rfl⟩
   refine za rfl (zv (zr rfl (zb rfl (by exact bB (aC (by omega) (by omega))) ?_)))
   refine zm rfl (zv ?_)
   exact ih (k+1) _ (yZ M' z) ε' cg _ _ Q (by omega) (by omega) I mK V8 s2 ⟨rfl,rfl,rfl,rfl,rfl,aa⟩
    (fun Bf Qu M2 mY J E2 h2 g1 g2 g3 g4 g5 g6=>yJ Bf Qu M2 mY J E2 h2 g1 (hs.trans g2) g3 g4 g5 g6) (fun Bf mY J E2 h2 g1 g2 g3 g4 g5 g6=>fU Bf mY J E2 h2 g1 (hs.trans g2) g3 g4 g5 g6)
theorem JZ {b:List Nat}{i:Nat}: (b.take (min b.length (480*(i+1)))).drop (min b.length (480*i))=chunk b i:=by
 unfold chunk
 have e:b.take (min b.length (480*(i+1)))=b.take (480*(i+1)):=by
  by_cases h:b.length≤480*(i+1)
  ·rw [lZ h,eD (aD _),eD h]
  ·rw [Nat.min_eq_right (by omega)]
 rw [e]
 by_cases h:b.length≤480*i
 ·rw [lZ h,gh (by rw [fc]; omega),gh (by rw [fc]; omega)]
 ·rw [Nat.min_eq_right (by omega)]
noncomputable def SZ : Code:=gr [1,1,1,1,0,1,0,0,1,1,0,0,1,1,1] ((Tryz.f17.body).getD .skip)
theorem N9 (hT:W told)(hB:B≤2000)(hX:cI X (cL bv b))(rW:b.length≤8192)(B0:ps.length≤100){k z nx:Nat}(hk:k<ps.length)(hz:z<N)(Be:nx<4294967296)(gT:EI N B ε)(hw:NW N now){E:List (Nat×V)}{Q:Ex→List (Nat×V)→H→Prop}
 (s:Sat h (.arr 1 pv (cx ps)::GA g a p q r data bA now ε::X::S))(hE:Has E [(0,.ptr g 0),(1,bv),(6,pv),(9,.int .i64 (k:Int)),(10,.int .i64 (z:Int)),(11,.int .i64 (nx:Int)),(40,pv),(41,.int .i64 (ps.length:Int)),(42,.int .i64 (k:Int))])
 (hq:∀ε' b' E' h',EI N B ε'→Sm N ε ε'→NW N (cY (z:Int) b' now)→dF b' 203 nx (ps.length-k) [chunk b k]→Has E' [(0,.ptr g 0),(1,bv),(6,pv),(40,pv),(41,.int .i64 (ps.length:Int)),(42,.int .i64 (k:Int))]→Sat h' (.arr 1 pv (cx ps)::GA g a p q r data bA (cY (z:Int) b' now) ε'::X::S)→Q .normal E' h'): WP ⟨Tryz.prog,told⟩ 100 SZ E h Q:=by
 have hlen:(cx ps).length=ps.length*1:=by rw [iy,c6]
 have j4:=Bv (b:=b) (i:=k)
 refine WP.has hE (zg rfl (zc rfl (xo (kd:=203) hT s (by decide)) ?_))
 rintro v h ⟨u,b0,rfl,tT,s⟩
 refine zk 11 rfl (zo rfl (aV rfl rfl rfl (s.iL (n:=ps.length) (j:=1) rfl hlen (by decide) dx)) ?_)
 refine zm rfl (zo rfl (ag (r:=.int .i64 ((ps.length-k:Nat):Int)) rfl rfl ((jV (aC (by omega) (by omega))).trans (by rw [show (ps.length:Int)-(k:Int)=((ps.length-k:Nat):Int) by omega]))) ?_)
 refine zc rfl (Fz (lk:=nx) (ex:=ps.length-k) hT s (aR _ _) tT Be (by omega)) ?_
 rintro v h ⟨u2,b2,rfl,AX,s⟩
 have I:min ((b.length:Nat):Int) (480*(k:Int))=((min b.length (480*k):Nat):Int):=by omega
 have J:min ((b.length:Nat):Int) (480*((k:Int)+1))=((min b.length (480*(k+1)):Nat):Int):=by omega
 have hle:min b.length (480*k)≤min b.length (480*(k+1)):=by omega
 refine zk 10 rfl (zo rfl (aV rfl rfl rfl (aS aI (s.aH (k:=4) rfl hX))) (zm rfl (zb rfl (by exact jW (aC (by omega) (by omega))) ?_)))
 refine zo rfl (Gz (r:=.int .i64 ((min b.length (480*k):Nat):Int)) rfl rfl (LA.trans (by rw [I]))) ?_
 refine zm rfl (zo rfl (aV rfl rfl rfl (aS aI (s.aH (k:=4) rfl hX))) (zm rfl (zb rfl (by exact bB (aC (by omega) (by omega))) ?_)))
 refine zb rfl (by exact jW (aC (by omega) (by omega))) ?_
 refine zo rfl (Gz (r:=.int .i64 ((min b.length (480*(k+1)):Nat):Int)) rfl rfl (LA.trans (by rw [J]))) ?_
 refine zo rfl (ff (p:=some (.int .i64 ((min b.length (480*k):Nat):Int))) (q:=some (.int .i64 ((min b.length (480*(k+1)):Nat):Int))) (m:=none) (p':=some (min b.length (480*k))) (q':=some (min b.length (480*(k+1)))) (m':=none) rfl rfl rfl rfl (by rw [eV (by omega),cW]) (by rw [eV (by omega),cW]) rfl (iq (s.aH (k:=4) rfl hX) hle (by omega)).1) ?_
 have hY:=sS hX (a:=min b.length (480*k)) (b:=min b.length (480*(k+1))) hle (by omega)
 rw [JZ] at hY
 refine zc rfl (FA (cs:=[]) hT (s.ae [0,3]) (aR _ _) hY AX (by simp only [tot,bF]; omega)) ?_
 rintro v h ⟨u3,b3,rfl,HR,s⟩
 rw [c5] at HR
 have s:=s.ae [5,0,3,1]
 dsimp only [aZ,bringA,getA] at s
 refine zk 10 rfl (zc rfl (vZ (i:=z) hT hB gT hw hz s (aR _ _) HR) ?_)
 rintro v h ⟨ε',rfl,qQ,hs,mK,s⟩
 refine za rfl (zv (zg rfl (zm rfl (zh rfl (ag rfl rfl aL) (rfl) (zv (zj rfl (WP.skip ?_)))))))
 exact hq ε' b3 _ _ qQ hs mK HR ⟨rfl,rfl,rfl,rfl,rfl,rfl,aa⟩ ((((s.ae [2,0,1]).del 5).del 4).del 3)
def MK (P:Int→List Nat)(ps:List Nat)(b:List Nat)(k:Nat): Prop:=∀(i z:Nat),i<k→ps[i]?=some z→dF (P z) 203 (ps.getD (i+1) 0) (ps.length-i) [chunk b i]
noncomputable def V9 : Code:=gr [1,1,1,1,0,1,0,0] ((Tryz.f17.body).getD .skip)
theorem N_ (hT:W told)(hB:B≤2000)(hX:cI X (cL bv b))(rW:b.length≤8192)(hN:N≤2999)(B0:ps.length≤100)(rY:ps.Nodup)(uV:∀z∈ps,2≤z∧z<N){P0:Int→List Nat}: ∀(j k:Nat) (ε:aF) (now:List (Int×List Nat)) (h:H) (E:List (Nat×V)) (Q:Ex→List (Nat×V)→H→Prop),k+j=ps.length→EI N B ε→NW N now→jq N R M (eC now ε)→MK (eC now ε) ps b k→(∀i:Nat,i∉ps→eC now ε i=P0 i) →
  Sat h (.arr 1 pv (cx ps)::GA g a p q r data bA now ε::X::S)→Has E [(0,.ptr g 0),(1,bv),(6,pv),(40,pv),(41,.int .i64 (ps.length:Int)),(42,.int .i64 (k:Int))] →
  (∀ε' cg E' h',EI N B ε'→Sm N ε ε'→NW N cg→jq N R M (eC cg ε')→MK (eC cg ε') ps b ps.length→(∀i:Nat,i∉ps→eC cg ε' i=P0 i)→Has E' [(6,pv)]→Sat h' (.arr 1 pv (cx ps)::GA g a p q r data bA cg ε'::X::S)→Q (.exit 2) E' h')→WP ⟨Tryz.prog,told⟩ 100 (.loop V9) E h Q:=by
 intro j
 induction j with
 | zero =>
  intro k ε now h E Q hk gT hw J yX qm s hE hq
  refine WP.loop (WP.has hE (zg rfl (zh rfl (ag rfl rfl bf) (by simp; omega) ?_)))
  refine zk 3 rfl (WP.exit ?_)
  obtain rfl:k=ps.length:=by omega
  exact hq ε now _ _ gT (Sm.refl _ _) hw J yX qm ⟨rfl,aa⟩ s
 | succ j ih =>
  intro k ε now h E Q hk gT hw J yX qm s hE hq
  have hz:ps[k]?=some (ps[k]'(by omega)):=aY _
  generalize (ps[k]'(by omega))=z at hz
  have T9:=uV z (bh hz)
  have Qw:(cx ps)[k]?=some (.int .i64 (z:Int)):=by rw [cx,j9,hz]; rfl
  have hlen:(cx ps).length=ps.length*1:=by rw [iy,c6]
  obtain ⟨id,off,e1,e2⟩:=jK (P:=Tryz.prog) s (k:=0) (i:=k) rfl Qw dx mh
  have Sz:=s.aH (k:=2) rfl hX
  have j4:=Bv (b:=b) (i:=k)
  -- behind the page's links
  have fin:∀ {ε':aF} {b':List Nat},Sm N ε ε'→dF b' 203 (ps.getD (k+1) 0) (ps.length-k) [chunk b k]→jq N R M (eC (cY (z:Int) b' now) ε')∧MK (eC (cY (z:Int) b' now) ε') ps b (k+1)∧(∀i:Nat,i∉ps→eC (cY (z:Int) b' now) ε' i=P0 i):=fun {ε' b'} hs l_=>by
   refine ⟨J.put (by rw [gF,ai (by omega),jL hs]) (by rw [gF,ai (by omega),jL hs]; exact J.marks) J.ml J.own J.hi,fun i w hi I => ?_,fun i hi => ?_⟩
   ·by_cases OM:i=k
    ·subst OM
     rw [hz] at I
     obtain rfl:=bG I
     rw [gF,ax rfl]; exact l_
    ·have dg:(z:Int)≠(w:Int):=fun e=>by
      have e:z=w:=by omega
      subst e
      exact OM ((List.getElem?_inj (List.getElem?_eq_some_iff.1 I).1 rY).1 (I.trans hz.symm))
     rw [gF,ai dg,jL hs]; exact yX i w (by omega) I
   ·rw [gF,ai (fun e=>hi (by rw [show i=z by omega]; exact bh hz)),jL hs]; exact qm i hi
  have next:∀(nx:Nat) (h:H) (E:List (Nat×V)) {Q':Ex→List (Nat×V)→H→Prop},nx=ps.getD (k+1) 0→nx<4294967296→Sat h (.arr 1 pv (cx ps)::GA g a p q r data bA now ε::X::S)→Has E [(0,.ptr g 0),(1,bv),(6,pv),(9,.int .i64 (k:Int)),(10,.int .i64 (z:Int)),(11,.int .i64 (nx:Int)),(40,pv),(41,.int .i64 (ps.length:Int)),(42,.int .i64 (k:Int))] →
    (∀ε' cg E' h',EI N B ε'→Sm N ε ε'→NW N cg→jq N R M (eC cg ε')→MK (eC cg ε') ps b (k+1)→(∀i:Nat,i∉ps→eC cg ε' i=P0 i)→Has E' [(0,.ptr g 0),(1,bv),(6,pv),(40,pv),(41,.int .i64 (ps.length:Int)),(42,.int .i64 (k:Int))]→Sat h' (.arr 1 pv (cx ps)::GA g a p q r data bA cg ε'::X::S)→Q' .normal E' h')→WP ⟨Tryz.prog,told⟩ 100 SZ E h Q':=fun nx h E Q' Be V_ s hE mF =>
   N9 hT hB hX rW B0 (by omega) T9.2 V_ gT hw s hE fun ε' b' E' h' g1 g2 g3 g4 g5 g6=>by
    subst Be
    obtain ⟨f1,f2,f3⟩:=fin g2 g4
    exact mF ε' _ E' h' g1 g2 g3 f1 f2 f3 g5 g6
  refine WP.loop (WP.has hE (zg rfl (zt rfl (ag rfl rfl bf) (by simp; omega) ?_)))
  refine zk 5 rfl (WP.block (zK 3 rfl (zo rfl (dm (r:=.ptr id off) rfl rfl e1) (zl rfl (e2 _ eM) (zk 11 rfl (zb rfl (by exact bB (aC (by omega) (by omega))) ?_))))))
  refine zm rfl (zo rfl (aV rfl rfl rfl (s.iL (n:=ps.length) (j:=0) rfl hlen (by decide) dx)) ?_)
  by_cases hl:k+1<ps.length
  ·skip
   have I:ps[k+1]?=some (ps[k+1]'hl):=aY _
   have nZ:ps[k+1]'hl=ps.getD (k+1) 0:=by rw [ei,I]; rfl
   generalize (ps[k+1]'hl)=w at I nZ
   have WH:=uV w (bh I)
   have Wa:(cx ps)[k+1]?=some (.int .i64 (w:Int)):=by rw [cx,j9,I]; rfl
   obtain ⟨CA,T_,e3,e4⟩:=jK (P:=Tryz.prog) s (k:=0) (i:=k+1) rfl Wa dx mh
   refine zt rfl (ag rfl rfl bf) (by simp; omega) ?_
   refine zk 5 rfl (zb rfl (by exact bB (aC (by omega) (by omega))) ?_)
   refine zo rfl (dm (r:=.ptr CA T_) rfl rfl e3) (zl rfl (e4 _ eM) (zk 2 rfl ?_))
   refine next w _ _ nZ (by omega) s ⟨rfl,rfl,rfl,rfl,rfl,rfl,rfl,rfl,rfl,aa⟩ (fun ε' cg E' h' a1 a2 a3 a4 a5 a6 a7 s' => ?_)
   have s:=s'
   refine WP.has a7 (zr rfl (zb rfl (by exact bB (aC (by omega) (by omega))) ?_))
   refine zm rfl (zv ?_)
   exact ih (k+1) ε' cg _ _ Q (by omega) a1 a3 a4 a5 a6 s ⟨rfl,rfl,rfl,rfl,rfl,rfl,aa⟩ fun mY xu E2 h2 g1 g2 g3 g4 g5 g6 g7 g8=>hq mY xu E2 h2 g1 (a2.trans g2) g3 g4 g5 g6 g7 g8
  ·have nZ:0=ps.getD (k+1) 0:=by rw [ei,oS (by omega)]; rfl
   refine zh rfl (ag rfl rfl bf) (by simp; omega) ?_
   refine zk 3 rfl ?_
   refine next 0 _ _ nZ (by decide) s ⟨rfl,rfl,rfl,rfl,rfl,rfl,rfl,rfl,rfl,aa⟩ (fun ε' cg E' h' a1 a2 a3 a4 a5 a6 a7 s' => ?_)
   have s:=s'
   refine WP.has a7 (zr rfl (zb rfl (by exact bB (aC (by omega) (by omega))) ?_))
   refine zm rfl (zv ?_)
   exact ih (k+1) ε' cg _ _ Q (by omega) a1 a3 a4 a5 a6 s ⟨rfl,rfl,rfl,rfl,rfl,rfl,aa⟩ fun mY xu E2 h2 g1 g2 g3 g4 g5 g6 g7 g8=>hq mY xu E2 h2 g1 (a2.trans g2) g3 g4 g5 g6 g7 g8
end
section
variable {told:cK} {h:H} {S:List aq} {X Y:aq} {N B n g a p q r bA m:Nat} {v x y rv pv bv cv:V} {b l c R M data:List Nat} {ps:List Nat} {cs:List (List Nat)} {ε:aF} {now:List (Int×List Nat)}
theorem Bw (hT:W told)(hB:B≤2000)(hX:cI X (cL bv b))(rW:b.length≤8192)(gT:EI N B ε)(hw:NW N now)(hp:jq N R M (eC now ε))(hm:kA b.length=m)(Xn:m≤(c8 M N).length)(s:Sat h (GA g a p q r data bA now ε::X::S)):
  Call ⟨Tryz.prog,told⟩ 17 [.ptr g 0,bv] h fun v h'=>∃ε' cg M',v=.aX [.int .i64 (((c8 M N).take m).headD 0:Nat),.int .i64 0]∧EI N B ε'∧Sm N ε ε'∧NW N cg∧FM N R M (eC now ε) ((c8 M N).take m) M' (eC cg ε')∧og (eC cg ε') ((c8 M N).take m) (chunks b m) ∧
   Sat h' (GA g a p q r data bA cg ε'::X::S):=by
 have hn:=xy (n:=b.length)
 have WI:m≤20:=by
  rw [←hm]
  unfold kA
  split <;> omega
 have wH:1≤m:=by omega
 have qh:=hp.n2
 have I:((c8 M N).take m).length=m:=by rw [fc]; omega
 obtain ⟨i1,jS,ie,uJ⟩:=ql
 refine Call.of_wp (hT.free _ rfl) Tryz.func17 rfl rfl (zK 9 rfl (zo rfl (aV rfl rfl rfl (aS aI (s.aH (k:=1) rfl hX))) (zh rfl (ag rfl rfl fY) (by simp; omega) ?_)))
 refine zk 6 rfl (zo rfl (aV rfl rfl rfl (aS aI (s.aH (k:=1) rfl hX))) (zc rfl (v8 (n:=(b.length:Int)) hT (by omega)) ?_))
 rintro v h' ⟨rfl,rfl⟩
 rw [cW,hm]
 obtain ⟨wv,h1,e3,s1⟩:=uA (P:=Tryz.prog) s dx jS wF ie (by omega) rfl (by decide) (by decide) (n:=0) (c:=m) (by omega) (by omega)
 refine az.any rfl rfl rfl (OpR.of (R:=fun v h'=>v=wv∧h'=h1) (sQ rfl rfl e3) ⟨rfl,rfl⟩) ?_
 rintro w0 h ⟨rfl,rfl⟩
 have s:Sat h (.arr 1 w0 []::GA g a p q r data bA now ε::X::S):=s1
 refine zk 6 rfl (zo rfl (aV rfl rfl rfl (aS aI (s.aH (k:=2) rfl hX))) (zc rfl (v8 (n:=(b.length:Int)) hT (by omega)) ?_))
 rintro v h' ⟨rfl,rfl⟩
 rw [cW,hm]
 refine zk 2 rfl (WP.block ?_)
 refine LP (M:=M) hT hB qh (by omega) m 0 w0 M ε now _ _ _ (by omega) (gy _) gT hw ⟨hp,fun j=>by simp,fun j _ _=>rfl⟩ s ⟨rfl,rfl,rfl,rfl,rfl,aa⟩ (fun _ pv M2 va J E' h' qU jO wz J0 hE s' => ?_) (fun hq=>absurd hq (by omega))
 have s:=s'
 have hlen:(cx ((c8 M N).take m)).length=m*1:=by rw [iy,I,c6]
 refine WP.has hE (zK 4 rfl (zo rfl (aV rfl rfl rfl (s.iL (n:=m) (j:=0) rfl hlen (by decide) dx)) ?_))
 refine zk 2 rfl (WP.block ?_)
 have ek:((m:Nat):Int)=((((c8 M N).take m).length:Nat):Int):=by rw [I]
 rw [ek]
 refine N_ (P0:=eC J va) hT hB hX rW qh (by omega) (List.Nodup.sublist (List.take_sublist _ _) (Hj M N)) (fun z hz=>hp.RH (fH hz)) m 0 va J _ _ _ (by omega) qU wz J0.MJ (fun i z hi=>absurd hi (by omega)) (fun i _=>rfl) s ⟨rfl,rfl,rfl,rfl,rfl,rfl,aa⟩ (fun mY xu E' h' qy oc y6 Mx yX qm hE s' => ?_)
 have s:=s'
 have hz:((c8 M N).take m)[0]?=some (((c8 M N).take m).headD 0):=by
  cases hq:(c8 M N).take m with
  | nil=>rw [hq] at I; simp at I; omega
  | cons z l=>rfl
 have Qw:(cx ((c8 M N).take m))[0]?=some (.int .i64 ((((c8 M N).take m).headD 0:Nat):Int)):=by rw [cx,j9,hz]; rfl
 obtain ⟨id,off,e1,e2⟩:=jK (P:=Tryz.prog) s (k:=0) (i:=0) rfl Qw dx mh
 refine WP.has hE (zK 3 rfl (zo rfl (dm (r:=.ptr id off) rfl rfl e1) (zl rfl (e2 _ eM) (zk 3 rfl (WP.ret ⟨aa,_,rfl,?_⟩)))))
 refine ⟨mY,xu,M2,rfl,qy,jO.trans oc,y6,⟨Mx,J0.bits,fun j h1 h2=>by rw [qm j h2]; exact J0.same j h1 h2⟩,og.mk (by rw [I,Hl]) (fun i z c hz hc => ?_),s.drop⟩
 have hi:i<m:=by have:=(List.getElem?_eq_some_iff.1 hz).1; omega
 rw [Ho hi] at hc
 obtain rfl:=bG hc
 exact yX i z (by omega) hz
theorem Hq (J:W told)(s:Sat h (X::S))(hX:cI X (cL bv b))(rW:8192<b.length)(I:b.length≤1048576):
  Call ⟨Tryz.prog,told⟩ 17 [.ptr g 0,bv] h fun v h'=>v=.aX [.int .i64 0,.int .i64 2]∧h'=h:=by
 refine Call.of_wp (J.free _ rfl) Tryz.func17 rfl rfl (zK 9 rfl (zo rfl (aV rfl rfl rfl (aS aI (s.aH (k:=0) rfl hX))) (zt rfl (ag rfl rfl fY) (by simp; omega) ?_)))
 exact zk 7 rfl (WP.ret ⟨aa,_,rfl,rfl,rfl⟩)
end
theorem WC.ws {told:cK}(I:WC told): WS told:=⟨I.w,I.fmt⟩
theorem Bx {n:Nat}(I:2≤n): (c8 mZ n).length=n-2:=by
 have J:=DC (M:=mZ) (N:=n)
 have h2:(y7 (bt mZ) n).length=2:=by
  rw [JW (g:=fun j=>decide (j<2)) (fun j _=>JO),show n=2+(n-2) by omega,LO (fun j hj=>decide_eq_false (by omega))]
  rfl
 omega
theorem headD_cons {L:List Nat}(h:1≤L.length): ∃p ps,L=p::ps∧L.headD 0=p:=by
 cases L with
 | nil=>simp at h
 | cons p ps=>exact ⟨p,ps,rfl,rfl⟩
def lP (f n:Nat): List Nat:=(List.range n).map fun i=>(f+i*7)%256
theorem qV {f n:Nat}: (lP f n).length=n:=by unfold lP; rw [eP,zI]
theorem J1 {f i m:Nat}: (lP f i++List.replicate (m+1) 0).set i ((f+i*7)%256)=lP f (i+1)++List.replicate m 0:=by
 have e:lP f (i+1)=lP f i++[(f+i*7)%256]:=by unfold lP; rw [List.range_succ,zV]; rfl
 rw [y_ _ _ (by rw [qV]; exact aD _),qV,o8,e,eO]
 rfl
theorem J2 {h:H}{n:Nat}: convV Tryz.prog h 3 5 (.int .i64 (n:Int))=some (.int .u8 ((n%256:Nat):Int),h):=by
 simp only [convV,bN,Tryz.underlying5,wrap_u8]
theorem Qx {P:Program}{h:H}{t:TypeId}{x y:Operand}{f m:Nat}: binV P h .add t x y (.int .u8 (f:Int)) (.int .u8 ((m%256:Nat):Int))=some (.int .u8 (((f+m)%256:Nat):Int)):=by
 simp only [binV,cQ,af,intV]
 rw [show (f:Int)+((m%256:Nat):Int)=((f+m%256:Nat):Int) by omega,wrap_u8,show (f+m%256)%256=(f+m)%256 by omega]
theorem Qy {P:Program}{h:H}{J:Array TypeId}{k:IntKind}{a b:Int}: builtinV P h .max J [.int k a,.int k b]=some (.int k (max a b),h):=by
 simp only [builtinV,foldV,maxV,cQ,af,gV]
 by_cases I:a<b
 ·simp only [I,vu,af]
  rw [show max a b=b by omega]
 ·simp only [I,l8,ay]
  rw [show max a b=a by omega]
theorem Qz {h:H}{x y:Nat}: buildSliceV Tryz.prog h 28 2 [(0,.int .u8 (x:Int)),(1,.int .u8 (y:Int))]=some (.sl h.next 0 2 (.exact 2),newRow h (ofBytes [x,y])):=by
 simp only [buildSliceV,aI,dA,nt,V.cells]
 rfl
section
variable {told:cK} {h:H} {S:List aq} {X Y:aq} {N B n g a p q r bA m:Nat} {v x y rv pv bv cv:V} {b l c R M data:List Nat} {ps:List Nat} {cs:List (List Nat)} {ε:aF} {now:List (Int×List Nat)}
theorem DD (I:W told){n:Int}(J:n<9223372036854775808): Call ⟨Tryz.prog,told⟩ 13 [.int .i64 n] h fun v h'=>v=.int .i64 (kA n.toNat:Nat)∧h'=h:=by
 refine Call.of_wp (I.free _ rfl) Tryz.func13 rfl rfl (zK 8 rfl ?_)
 by_cases h0:n≤0
 ·skip
  refine zt rfl (ag rfl rfl wY) (by simp; omega) ?_
  exact zk 6 rfl (WP.ret ⟨aa,_,rfl,by rw [show n.toNat=0 by omega]; rfl,rfl⟩)
 ·obtain ⟨m,rfl⟩:∃m:Nat,n=(m:Int)+1:=⟨n.toNat-1,by omega⟩
  have hm:(m:Int)+1-1=(m:Int):=by omega
  have hd:m/480≤m:=zX _ _
  refine zh rfl (ag rfl rfl wY) (by simp <;> omega) ?_
  refine zk 6 rfl (zo rfl (ag (r:=.int .i64 (m:Int)) rfl rfl ((jV (a:=(m:Int)+1) (b:=1) (aC (by omega) (by omega))).trans (by rw [hm]))) ?_)
  refine zb rfl (yY (a:=m) (b:=480) (by decide) (by omega)) ?_
  refine zb rfl (by exact bB (aC (by omega) (by omega))) ?_
  exact zk 2 rfl (WP.ret ⟨aa,_,rfl,by rw [kA,ai (by omega),show ((m:Int)+1).toNat-1=m by omega]; rfl,rfl⟩)
noncomputable def Wb : Code:=gr [1,1,0,1,0,0] ((Tryz.f16.body).getD .skip)
theorem Hr {f:Nat}(hn:n≤9000): ∀(m i:Nat) (h:H) (E:List (Nat×V)) (Q:Ex→List (Nat×V)→H→Prop),i+m=n→Sat h (aP v (lP f i++List.replicate m 0)::S)→Has E [(0,.int .i64 (n:Int)),(1,.int .u8 (f:Int)),(5,v),(6,.int .i64 (i:Int))] →
  (∀E' h',Has E' [(5,v)]→Sat h' (aP v (lP f n)::S)→Q (.exit 0) E' h')→WP ⟨Tryz.prog,told⟩ 23 (.loop Wb) E h Q:=by
 intro m
 induction m with
 | zero =>
  intro i h E Q hi s I J
  refine WP.loop (WP.has I (zK 5 rfl (zh rfl (ag rfl rfl bf) (by simp; omega) ?_)))
  refine zk 2 rfl (WP.exit ?_)
  obtain rfl:i=n:=by omega
  rw [List.replicate_zero,fJ] at s
  exact J _ _ ⟨rfl,aa⟩ s
 | succ m ih =>
  intro i h E Q hi s I J
  obtain ⟨id,off,e3,h2,e4,s2⟩:=kf s (i:=i) (b:=(f+i*7)%256) (by rw [bQ,qV,eE]; omega) (by omega)
  rw [J1] at s2
  refine WP.loop (WP.has I (zK 5 rfl (zt rfl (ag rfl rfl bf) (by simp; omega) ?_)))
  refine zk 4 rfl (WP.block (zK 5 rfl (zo rfl (ag (r:=.int .i64 ((i*7:Nat):Int)) rfl rfl (by rw [show ((i*7:Nat):Int)=(i:Int)*7 by omega]; exact jW (aC (by omega) (by omega)))) ?_)))
  refine zo rfl (cH rfl J2) (zb rfl Qx (zo rfl (dm (r:=.ptr id off) rfl rfl e3) (zS rfl (⟨h2,e4,s2⟩) ?_)))
  rintro h s
  refine zv (zr rfl (zm rfl (zb rfl (by exact bB (aC (by omega) (by omega))) ?_)))
  refine za rfl (zv ?_)
  exact ih (i+1) _ _ Q (by omega) s ⟨rfl,rfl,rfl,rfl,aa⟩ J
theorem LQ (I:W told){f:Nat}(J:n≤9000)(s:Sat h S): Call ⟨Tryz.prog,told⟩ 16 [.int .i64 (n:Int),.int .u8 (f:Int)] h fun v h'=>Sat h' (aP v (lP f n)::S):=by
 refine Call.of_wp (I.free _ rfl) Tryz.func16 rfl rfl (zK 7 rfl (az.any rfl rfl rfl (OpR.yz rfl s rfl rfl rfl rfl (by omega)) ?_))
 intro v h s
 refine zk 7 rfl (WP.block ?_)
 refine Hr J n 0 _ _ _ (by omega) s ⟨rfl,rfl,rfl,rfl,aa⟩ (fun E' h' hE s' => ?_)
 have s:=s'
 exact WP.has hE (zK 5 rfl (WP.ret ⟨aa,_,rfl,s⟩))
theorem Ht (J:WC told)(s:Sat h S): Call ⟨Tryz.prog,told⟩ 11 [] h fun v h'=>v=.bool true∧Sat h' S:=by
 have Oh:(c8 mZ 16).length=14:=Bx (by decide)
 have rY:kA 2=1:=rfl
 refine Call.of_wp (J.w.free _ rfl) Tryz.func11 rfl rfl (zK 6 rfl (zc rfl (tK (n:=16) (m:=262144) (f:=16) J.ws (by decide) (by decide) (by decide) (by decide) (by decide) (by decide) s) ?_))
 rintro v h ⟨p,a,q,r,ε,rfl,gT,hp,hd,s⟩
 refine zk 6 rfl (zh rfl (ag rfl rfl (s_ uY)) (rfl) (zk 6 rfl (zc rfl (Bt J.w s) ?_)))
 rintro v h1 ⟨g,rfl,s⟩
 refine zk 6 rfl (zh rfl (ag rfl rfl (s_ j7)) (rfl) (zk 6 rfl (az.any rfl rfl rfl (OpR.of (R:=fun v h'=>v=.sl h1.next 0 2 (.exact 2)∧h'=newRow h1 (ofBytes [97,98])) (lR rfl (Qz (x:=97) (y:=98))) ⟨rfl,rfl⟩) ?_)))
 rintro v I ⟨rfl,rfl⟩
 have s1:Sat (newRow h1 (ofBytes [97,98])) (pt h1.next (.cells 2 (ofBytes [97,98]) false)::_):=s.new _
 generalize newRow h1 (ofBytes [97,98])=I at s1
 generalize h1.next=id at s1
 have hg:=s1.row (k:=0) rfl
 have e1:convB Tryz.prog I 28 28 (.sl id 0 2 (.exact 2))=some (.sl id 0 2 (.exact 2),I.put id (some (.cells 2 (ofBytes [97,98]) true))):=by
  simp only [convB,aI,Tryz.underlying5,hg]
  rfl
 have e0:convV Tryz.prog I 28 28 (.sl id 0 2 (.exact 2))=none:=by
  simp only [convV,aI]
 have s2:Sat (I.put id (some (.cells 2 (ofBytes [97,98]) true))) (pt id (.cells 2 (ofBytes [97,98]) true)::_):=s1.put (k:=0) rfl
 have s3:Sat (I.put id (some (.cells 2 (ofBytes [97,98]) true))) (.cE (.sl id 0 2 (.exact 2)) [97,98]::_):=s2.freeze.jH (B:=.cE (.sl id 0 2 (.exact 2)) [97,98]) fun m r hm=>⟨by decide,.inr ⟨id,0,.exact 2,2,_,true,rfl,hm,rfl,by decide,rfl,by decide⟩⟩
 refine az.any rfl rfl rfl (OpR.of (R:=fun v h'=>v=.sl id 0 2 (.exact 2)∧h'=I.put id (some (.cells 2 (ofBytes [97,98]) true))) (FC rfl e0 e1) ⟨rfl,rfl⟩) ?_
 rintro v h ⟨rfl,rfl⟩
 have s:=s3.ae [1]
 refine zc rfl (Bw (b:=[97,98]) (M:=mZ) (now:=[]) (m:=1) J.w (by decide) (dZ _ _) (by decide) gT (NW.nil 16) hp rY (by omega) s) ?_
 rintro v h ⟨va,QA,M1,rfl,qU,jO,wz,J0,tA,s⟩
 obtain ⟨z,qs,hz,Fc⟩:=headD_cons (L:=(c8 mZ 16).take 1) (by rw [fc]; omega)
 have S0:qs.length=0:=by have:=eS List.length hz; rw [fc,aQ] at this; omega
 have uV:∀x∈z::qs,x<16:=fun x hx=>(nJ.1 (fH (hz ▸ hx))).1
 have sr:flatL (chunks [97,98] 1)=[97,98]:=rfl
 rw [Fc]
 rw [hz] at tA
 refine zk 9 rfl (zo rfl (qK rfl (nU j7 rfl)) (zm rfl (zc rfl (DB J (AQ W.base (by decide) wz) ⟨rfl,rfl,by simp [V.beq]⟩ (by decide) qU tA uV (by omega) (by rw [sr]; decide) s) ?_)))
 rintro v h ⟨u,mY,rfl,qy,oc,s⟩
 rw [sr] at s
 have CU:=(s.buf (k:=0) rfl).view
 refine zk 9 rfl (zt rfl (ag rfl rfl gC) (by decide) ?_)
 refine zk 2 rfl (zt rfl (ag rfl rfl gC) (by decide) ?_)
 refine zk 3 rfl (zo rfl (cH rfl (Jl CU)) (zt rfl (ag rfl rfl BP) (decide_eq_true rfl) (zk 2 rfl (zc rfl (v8 (n:=481) J.w (by decide)) ?_))))
 rintro v h' ⟨rfl,rfl⟩
 refine zt rfl (ag rfl rfl gC) (by decide) ?_
 exact zk 3 rfl (WP.ret ⟨aa,_,rfl,rfl,((s.drop).drop).drop⟩)
end
section
variable {told:cK} {h:H} {S:List aq} {n0:Int}
theorem J3 (hT:WC told){f:Nat}(hn:n0<9223372036854775808)(s:Sat h []): Call ⟨Tryz.prog,told⟩ 3 [.int .i64 n0,.int .u8 (f:Int)] h fun v h'=>v=.bool true:=by
 have I:=hT.w
 have Oh:(c8 mZ 32).length=30:=Bx (by decide)
 refine Call.of_wp (I.free _ rfl) Tryz.func3 rfl rfl (zK 7 rfl (zc rfl (Ht hT s) ?_))
 rintro v h ⟨rfl,s⟩
 refine zo rfl (eY rfl rfl) (zk 2 rfl (zc rfl (v8 (n:=n0) I hn) ?_))
 rintro v h' ⟨rfl,rfl⟩
 refine zm rfl (zc rfl (DD (n:=n0) I hn) ?_)
 rintro v h' ⟨rfl,rfl⟩
 refine zh rfl (ag rfl rfl aL) (by simp) ?_
 refine zk 6 rfl (zc rfl (tK (n:=32) (m:=262144) (f:=24) hT.ws (by decide) (by decide) (by decide) (by decide) (by decide) (by decide) s) ?_)
 rintro v h ⟨p,a,q,r,ε,rfl,gT,hp,hd,s⟩
 refine zk 6 rfl (zh rfl (ag rfl rfl (s_ uY)) (rfl) (zk 6 rfl (zc rfl (Bt I s) ?_)))
 rintro v h ⟨g,rfl,s⟩
 refine zk 6 rfl (zh rfl (ag rfl rfl (s_ j7)) (rfl) ?_)
 obtain ⟨n,qh,Wc⟩:∃n:Nat,min (max n0 0) 9000=(n:Int)∧n≤9000:=⟨(min (max n0 0) 9000).toNat,by omega,by omega⟩
 have hlen:(lP f n).length=n:=qV
 refine zk 6 rfl (zo rfl (Gz rfl rfl Qy) (zo rfl (Gz (r:=.int .i64 (n:Int)) rfl rfl (LA.trans (by rw [qh]))) ?_))
 refine zm rfl (zc rfl (LQ (n:=n) (f:=f) I Wc s) ?_)
 intro cv h s
 generalize lP f n=b at s hlen
 subst hlen
 have s:=s.ae [1]
 by_cases CY:8192<b.length
 ·skip
  refine zk 6 rfl (zc rfl (Hq (b:=b) I (s.ae [1]) (aR _ _) CY (by omega)) ?_)
  rintro v h' ⟨rfl,rfl⟩
  refine zk 10 rfl (zo rfl (aV rfl rfl rfl (aS aI (s.aH (k:=1) rfl (aR _ _)))) (zt rfl (ag rfl rfl fY) (by simp; omega) ?_))
  refine zk 5 rfl (zt rfl (ag rfl rfl gC) (by decide) ?_)
  refine zk 2 rfl (zt rfl (ag rfl rfl gC) (by decide) ?_)
  refine zk 3 rfl (WP.ret ⟨aa,_,rfl,?_⟩)
  rfl
 ·obtain ⟨m,hm⟩:∃m,kA b.length=m:=⟨_,rfl⟩
  have uN:=xy (n:=b.length)
  have WJ:m≤18:=by
   rw [←hm]
   unfold kA
   split <;> omega
  have wH:1≤m:=by omega
  have J:flatL (chunks b m)=b:=by rw [←hm]; exact Hp
  obtain ⟨z,qs,hz,Fc⟩:=headD_cons (L:=(c8 mZ 32).take m) (by rw [fc]; omega)
  have S0:qs.length+1=m:=by have:=eS List.length hz; rw [fc,aQ] at this; omega
  have uV:∀x∈z::qs,x<32:=fun x hx=>(nJ.1 (fH (hz ▸ hx))).1
  refine zk 6 rfl (zc rfl (Bw (b:=b) (M:=mZ) (now:=[]) (m:=m) I (by decide) (aR _ _) (by omega) gT (NW.nil 32) hp hm (by omega) s) ?_)
  rintro v h ⟨va,QA,M1,rfl,qU,jO,wz,J0,tA,s⟩
  rw [Fc]
  rw [hz] at tA
  refine zk 10 rfl (zo rfl (aV rfl rfl rfl (aS aI (s.aH (k:=1) rfl (aR _ _)))) (zh rfl (ag rfl rfl fY) (by simp; omega) ?_))
  refine zk 6 rfl (zo rfl (qK rfl (nU j7 rfl)) (zm rfl (zc rfl (JV hT (AQ W.base (by decide) wz) ⟨rfl,rfl,by simp [V.beq]⟩ (by decide) qU tA uV (by omega) (by rw [J]; omega) s) ?_)))
  rintro v h ⟨w,mY,rfl,qy,oc,s⟩
  have m5:og (eC QA mY) (z::qs) (chunks b m):=by rw [jL oc]; exact tA
  have s:=s.ae [1]
  refine zk 9 rfl (zo rfl (qK rfl (nU j7 rfl)) (zm rfl (zc rfl (DB hT (AQ W.base (by decide) wz) ⟨rfl,rfl,by simp [V.beq]⟩ (by decide) qy m5 uV (by omega) (by rw [J]; omega) s) ?_)))
  rintro v h ⟨u,G8,rfl,Bn,Bo,s⟩
  rw [J] at s
  have CU:=(s.buf (k:=0) rfl).view
  have yw:=(s.buf (k:=3) rfl).view
  refine zk 9 rfl (zt rfl (ag rfl rfl gC) (by decide) ?_)
  refine zk 2 rfl (zt rfl (ag rfl rfl gC) (by decide) ?_)
  refine zk 3 rfl (zo rfl (aV rfl rfl rfl (s.iL (n:=m) (j:=2) rfl (by rw [iy,aQ,S0,c6]) (by decide) dx)) ?_)
  refine zm rfl (zo rfl (aV rfl rfl rfl (aS aI (s.aH (k:=3) rfl (aR _ _)))) (zc rfl (DD (n:=(b.length:Int)) I (by omega)) ?_))
  rintro v h' ⟨rfl,rfl⟩
  rw [cW,hm]
  refine zt rfl (ag rfl rfl gC) (by simp) ?_
  refine zk 3 rfl (zt rfl (ag rfl rfl gC) (by decide) ?_)
  refine zk 3 rfl (zo rfl (cH rfl (Jl CU)) (zm rfl (zo rfl (cH rfl (Jl yw)) (zt rfl (ag rfl rfl BP) (decide_eq_true rfl) (zk 3 rfl (WP.ret ⟨aa,_,rfl,?_⟩))))))
  rfl
end
def QB (c:Ctx): Prop:=∀id,id<c.N→c.X id=true
theorem En {c c':Ctx}{w w':World}(hX:QB c)(h:bU c w c' w'): w.keptBut w' (fun _=>False)∧w.heap.size≤w'.heap.size∧∀b,b<w.heap.size→w'.heap[b]?=w.heap[b]?:=by
 have J:∀b,b<w.heap.size→w'.heap[b]?=w.heap[b]?:=fun b hb=>h.kn b hb fun id I _=>hX id I
 refine ⟨⟨h.sys.1,h.sys.2,fun i hi => ?_⟩,h.size,J⟩
 rw [J i hi]
 split <;> simp_all
end Go.Proofs.YtefepnnfphdkpaaGreat.Am
namespace Go.Proofs.YtefepnnfphdkpaaGreat.Am
open Go Go.ChangeShapes
def LR (W:World)(S:List aq)(c:Ctx)(σ:H): Prop:=Rel c σ W∧QB c∧Sat σ S
theorem LR.zero (W:World): ∃c σ,LR W [] c σ:=by
 refine ⟨_,_,Rel.empty W,fun id h=>absurd h (zU _),⟨fun id o h=>by simp [T.g_] at h,fun _=>none,fun _=>none,fun _ _ h=>(by cases h),fun _ _ h=>(by cases h),fun _=>.inl rfl,aa⟩⟩
end Go.Proofs.YtefepnnfphdkpaaGreat.Am
namespace Go.Proofs.YtefepnnfphdkpaaGreat.Am
open Go Go.ChangeShapes Go.WideShapes Go.ChangeAt Go.RowKit
section
variable {H':Type} {enc:TypeId×Value→H'} {W:World} {fuel B:Nat} {cs:List Value} {x:DataW H'×List MemPlace}
end
end Go.Proofs.YtefepnnfphdkpaaGreat.Am
namespace Go.Proofs.YtefepnnfphdkpaaGreat.Am
open Go
noncomputable def BV (f:Nat): Option (List V→H→Option (V×H)) :=
 cond (Nat.beq f 31) (some (kN Tryz.prog 31 (Dv 31))) (cond (Nat.beq f 50) (some (kN Tryz.prog 50 (Hh 50))) (nP f))
noncomputable abbrev CC : bX:=⟨Tryz.prog,BV⟩
theorem LS : WC BV:=by
 refine ⟨⟨fun f I => ?_,rfl,rfl⟩,rfl,rfl⟩
 have J:f≠31:=fun e=>by subst e; revert I; decide
 have h2:f≠50:=fun e=>by subst e; revert I; decide
 simp only [BV,cO J,cO h2,ay]
 exact W.base.free f I
theorem DE : eU CC:=by
 intro f g I
 simp only [CC,BV] at I ⊢
 by_cases J:f=31
 ·subst J
  rw [gM rfl,af] at I
  simp only [aj] at I
  subst I
  exact Bg ⟨_,Ds,rfl,by decide⟩
 ·rw [cO J,ay] at I
  by_cases h2:f=50
  ·subst h2
   rw [gM rfl,af] at I
   simp only [aj] at I
   subst I
   exact Bg ⟨_,Dx,rfl,by decide⟩
  ·rw [cO h2,ay] at I
   exact w_ f g I
theorem h_.Wd {f:FuncId}{args:List V}{h h':H}{v:V}(J:h_ CC f args h v h'){c:Ctx}{w:World}(I:Rel c h w)(hw:∀x∈args,wf c x): fV Tryz.prog f args c w v h':=by
 obtain ⟨N,hN⟩:=J
 exact (nr (C:=CC) (xZ yQ DE N).1 DE hN I hw).1
end Go.Proofs.YtefepnnfphdkpaaGreat.Am
