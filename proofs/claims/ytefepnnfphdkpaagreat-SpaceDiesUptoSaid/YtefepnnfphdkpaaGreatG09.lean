/- SpaceDies: a part of its proof; conditions: its statement's. -/
import Derived.Test.YtefepnnfphdkpaaGreatG08
import Derived.Test.YtefepnnfphdkpaaGreatG07
import Derived.Test.YtefepnnfphdkpaaGreatG04
import Derived.WalkKit
import Derived.ProofKit
import Derived.OpenShut
import Derived.ChangeSlices
import Derived.Test.YtefepnnfphdkpaaGreatRows
import Derived.JoinedCond
import Derived.ChangeBook
import Derived.ChangeStays
set_option linter.defProp false
namespace Go.Proofs.YtefepnnfphdkpaaGreat.Am
open Go
def sB:=@Tryz.underlying79
def Au:=@Tryz.underlying61
variable {C:Array Value} {X:aO} {ε:aZ} {Q:Ex→List (Nat×V)→H→Prop} {h σ:H} {x y z:Int} {P P':Int→List Nat} {L:List (Int×Int×Int)} {now:List (Int×List Nat)} {E:List (Nat×V)} {S:List aO} {U Un:List Bool} {c R M data R1 M1:List Nat} {rs:List ct} {Rt Rk Rn:List V} {cs:List Value} {k i N B g a q r aB b K p7 F sC BZ fi off o fuel:Nat} {fz:Nat×Nat} {α H':Type} {t e:TypeId} {uv dv uk cv av:V}
theorem Sat.Jt {P:Program}{v:V}{cs:List V}(s:Sat h (.arr k v cs::S))(hi:i*k+k≤cs.length)(J:1≤k)(hu:P.underlying t=some (.slice e))(I:bJ P e=some k)(ha:isAggT P e=some true):
  ∃id off,indexAddrV P t v (.int .i64 (i:Int))=some (.ptr id off)∧loadV P h e (.ptr id off)=some (.agg ((cs.drop (i*k)).take k)):=by
 obtain⟨id,n,cap,N,rest,rfl,hl,hN,s1,_⟩:=s.Bb (fun q=>by rw[q] at hi;simp at hi;omega)
 refine⟨id,i*k,?_,?_⟩
 ·simp only[indexAddrV,hu,I,cS]
  have:i<n:=by
   have h4:i*k+k=(i+1)*k:=by rw[pO,AR]
   rw[h4,hl] at hi
   exact Ea (D3 hi J)
  rw[show(decide ((0:Int)≤(i:Int))&&decide ((i:Int)<(n:Int)))=true by simp;omega,aj]
  simp
 ·rw[Uj ha I (s1.row (k:=0) rfl) (by rw[bO];exact hN.symm) (by omega)]
  rw[List.drop_append_of_le_length (by omega),mU (by rw[Ee];omega)]
section
variable {told:dc} {Y:aO} {n p:Nat} {v w x y rv:V} {b l L L2:List Nat} {A:aZ→aO} {pg:aZ→Int→List Nat}
noncomputable def lgL : Code:=cD [1,1,0,1,0,0] ((Tryz.f67.body).getD .skip)
theorem NC (hl:L.length≤1048576)(F4:L2.length=L.length)(s:Sat h (.arr 1 v (dM L)::.arr 1 w (dM L2)::S)): ∀(m i:Nat) (E:List (Nat×V)) (Q:Ex→List (Nat×V)→H→Prop),i+m=L.length→L.take i=L2.take i→Has E [(0,v),(1,w),(5,.int .i64 (i:Int))] →
  (L=L2→∀E',Q (.exit 0) E' h)→(L≠L2→∀E',look E' 4=some (.bool false)→Q .ret E' h)→WP ⟨Tryz.prog,told⟩ 26 (.loop lgL) E h Q:=by
 intro m
 induction m with
 |zero =>
  intro i E Q hi ht hE hq hn
  refine WP.loop (WP.has hE (zK 5 rfl (zo rfl (aP rfl rfl rfl (s.ew (n:=L.length) (j:=0) rfl (by rw[fV,c_]) (by decide) dI)) ?_)))
  refine zC rfl aN (by simp;omega) ?_
  exact zk 2 rfl (WP.exit (hq (by rwa [eW (by omega),eW (by omega)] at ht) _))
 |succ m ih =>
  intro i E Q hi ht hE hq hn
  obtain⟨z,hz⟩:∃z,L[i]?=some z:=⟨_,bA (by omega)⟩
  obtain⟨z2,J⟩:∃z,L2[i]?=some z:=⟨_,bA (by omega)⟩
  obtain⟨id,off,e1,e2⟩:=iz (P:=Tryz.prog) s (k:=0) (i:=i) (c:=.int .i64 (z:Int)) rfl (by rw[dM,nP,hz];rfl) dI ke
  obtain⟨iR,I,e3,e4⟩:=iz (P:=Tryz.prog) s (k:=1) (i:=i) (c:=.int .i64 (z2:Int)) rfl (by rw[dM,nP,J];rfl) dI ke
  refine WP.loop (WP.has hE (zK 5 rfl (zo rfl (aP rfl rfl rfl (s.ew (n:=L.length) (j:=0) rfl (by rw[fV,c_]) (by decide) dI)) ?_)))
  refine zB rfl aN (by simp;omega) ?_
  refine zk 4 rfl (WP.block (zw ?_))
  by_cases LK:z=z2
  ·subst LK
   refine WP.drawn [af,af,af,af,af,af,af,af,af] rfl (by kernel_rfl) (by kernel_rfl) ?_
   refine zM rfl (zM rfl (zO rfl (cj (r:=.ptr id off) rfl rfl e1) (zL rfl (e2 _ cL) (zM rfl (zM rfl (zO rfl (cj (r:=.ptr iR I) rfl rfl e3) (zL rfl (e4 _ cL) (ax.kC rfl rfl rfl rfl (az rfl rfl aD) (by simp) ?_))))))))
   refine ax.nil ⟨⟨aa,aa,aa,aa,aa,aa,aa,aa,aa,aa⟩,?_⟩
   refine zj rfl (WP.skip (zr rfl (zm rfl (zb rfl (by exact bx (aA (by omega) (by omega))) ?_))))
   refine za rfl (zv ?_)
   exact ih (i+1) _ Q (by omega) (by rw[vU,vU,ht,hz,J]) ⟨rfl,rfl,rfl,aa⟩ hq hn
  ·skip
   refine WP.drawn [af,af,af,af,af,af,af,af,af] rfl (by kernel_rfl) (by kernel_rfl) ?_
   refine zM rfl (zM rfl (zO rfl (cj (r:=.ptr id off) rfl rfl e1) (zL rfl (e2 _ cL) (zM rfl (zM rfl (zO rfl (cj (r:=.ptr iR I) rfl rfl e3) (zL rfl (e4 _ cL) (ax.pU rfl rfl rfl rfl (az rfl rfl aD) (by simp;omega) ?_))))))))
   refine ax.nil ⟨⟨aa,aa,aa,aa,aa,aa,aa,aa,aa,aa⟩,?_⟩
   exact zK 5 rfl (WP.ret (hn (fun q=>by rw[q,J] at hz;exact LK (cx hz).symm) _ rfl))
theorem TC (J:W told)(hl:L.length≤1048576)(js:L2.length≤1048576)(s:Sat h (.arr 1 v (dM L)::.arr 1 w (dM L2)::S)): Call ⟨Tryz.prog,told⟩ 67 [v,w] h fun r h'=>r=.bool (decide (L=L2))∧h'=h:=by
 refine Call.of_wp (J.free _ rfl) Tryz.func67 rfl rfl (zK 8 rfl (zo rfl (aP rfl rfl rfl (s.ew (n:=L.length) (j:=0) rfl (by rw[fV,c_]) (by decide) dI)) ?_))
 refine zm rfl (zo rfl (aP rfl rfl rfl (s.ew (n:=L2.length) (j:=1) rfl (by rw[fV,c_]) (by decide) dI)) ?_)
 by_cases I:L.length=L2.length
 ·skip
  refine zC rfl aD (by simp;omega) ?_
  refine zk 8 rfl (WP.block ?_)
  refine NC hl I.symm s L.length 0 _ _ (by omega) rfl ⟨rfl,rfl,rfl,aa⟩ (fun he E' => ?_) (fun he E' hr=>⟨aa,_,qx hr,by rw[fE he],rfl⟩)
  exact WP.has (F:=[]) aa (zK 4 rfl (WP.ret ⟨aa,_,rfl,by rw[fL he],rfl⟩))
 ·skip
  refine zB rfl aD (by simp;omega) ?_
  exact zk 6 rfl (WP.ret ⟨aa,_,rfl,by rw[fE fun q=>I (by rw[q])],rfl⟩)
noncomputable def tgL : Code:=cD [1,1,1,1,1,1,0,1,0,0] ((Tryz.f27.body).getD .skip)
theorem Kz (hT:W told)(hR:sO told N B rv A pg)(hN:2≤N)(Zv:∀k,k<16→∃z:Int,Rt[k]?=some (.int .i64 z))(gV:Rt.length=16){J:Nat}: ∀(m:Nat) (i:Int) (ε:aZ) (h:H) (E:List (Nat×V)) (Q:Ex→List (Nat×V)→H→Prop),i+m=17 → -1≤i→EI N B ε→fW n R M (pg ε) →
  Sat h (A ε::pt J (.cells 17 (uv::Rt) false)::S)→Has E [(0,rv),(3,.ptr J 0),(13,.int .i64 i)] →
  (∀ah E' h',EI N B ah→Sm N ε ah→Sat h' (A ah::pt J (.cells 17 (uv::Rt) false)::S)→Q (.exit 0) E' h') →
  ((∃k,k<16∧Rt[k]?≠some (.int .i64 (cO R (4*k) 4:Nat)))→∀ah E' h',EI N B ah→Sm N ε ah→look E' 4=some (.bool false)→Sat h' (A ah::pt J (.cells 17 (uv::Rt) false)::S)→Q .ret E' h')→WP ⟨Tryz.prog,told⟩ 112 (.loop tgL) E h Q:=by
 intro m
 induction m with
 |zero =>
  intro i ε h E Q hi h0 gj hp s hE hq hn
  refine WP.loop (WP.has hE (zK 4 rfl (zC rfl xx (by simp;omega) ?_)))
  exact zk 2 rfl (WP.exit (hq ε _ _ gj (Sm.refl _ _) s))
 |succ m ih =>
  intro i ε h E Q hi h0 gj hp s hE hq hn
  obtain⟨ex,oI⟩:=hp.head
  have next:∀(ah:aZ) (h:H) (E:List (Nat×V)),EI N B ah→Sm N ε ah→Sat h (A ah::pt J (.cells 17 (uv::Rt) false)::S)→Has E [(0,rv),(3,.ptr J 0),(13,.int .i64 (i+1))]→WP ⟨Tryz.prog,told⟩ 112 (.loop tgL) E h Q:=fun ah h E he hs s hE =>
   ih (i+1) ah h E Q (by omega) (by omega) he (by rw[show pg ah=pg ε from funext (hR.same hs)];exact hp) s hE (fun jH E2 h2 g1 g2 g3=>hq jH E2 h2 g1 (hs.trans g2) g3) (fun hk jH E2 h2 g1 g2 g4 g3=>hn hk jH E2 h2 g1 (hs.trans g2) g4 g3)
  refine WP.loop (WP.has hE (zK 4 rfl (zB rfl xx (by simp;omega) ?_)))
  refine zk 4 rfl (WP.block (zK 4 rfl (zc rfl (Wt (i:=i) hT hR gj (by omega) oI hp.rl h0 (by omega) s) ?_)))
  rintro v h ⟨ah,rfl,I,hs,s⟩
  by_cases ac9:i<0
  ·rw[ak (by omega)]
   refine zk 9 rfl (zB rfl aN (by simp;omega) ?_)
   refine zk 9 rfl (zC rfl aD (by decide) ?_)
   refine zk 2 rfl (zC rfl aD (by decide) ?_)
   refine zp rfl (zv (zj rfl (WP.skip (zr rfl (zm rfl (zb rfl (by exact bx (aA (by omega) (by omega))) ?_))))))
   refine za rfl (zv ?_)
   exact next ah _ _ I hs s ⟨rfl,rfl,rfl,aa⟩
  ·by_cases Ig:15<i
   ·rw[ak (by omega)]
    refine zk 9 rfl (zC rfl aN (by simp;omega) ?_)
    refine zk 2 rfl (zB rfl gT (by simp;omega) ?_)
    refine zk 6 rfl (zC rfl aD (by decide) ?_)
    refine zk 2 rfl (zC rfl aD (by decide) ?_)
    refine zp rfl (zv (zj rfl (WP.skip (zr rfl (zm rfl (zb rfl (by exact bx (aA (by omega) (by omega))) ?_))))))
    refine za rfl (zv ?_)
    exact next ah _ _ I hs s ⟨rfl,rfl,rfl,aa⟩
   ·rw[aJ (by omega)]
    obtain⟨k,rfl⟩:∃k:Nat,i=k:=⟨i.toNat,by omega⟩
    obtain⟨z,hz⟩:=Zv k (by omega)
    rw[cS]
    have abQ:nth (uv::Rt) (0+1+k)=some (.int .i64 z):=by
     rw[gP,show 0+1+k=k+1 by omega,mX];exact hz
    refine zk 9 rfl (zC rfl aN (by simp) ?_)
    refine zk 2 rfl (zC rfl gT (by simp;omega) ?_)
    refine zk 6 rfl (zC rfl aD (by decide) ?_)
    refine zk 3 rfl (zf rfl (OT _ _) (zo rfl (cj (r:=.ptr J (0+1+k)) rfl rfl (by rw[Ya,show(decide (0≤(k:Int))&&decide ((k:Int)<((16:Nat):Int)))=true by simp;omega,aj];simp)) ?_))
    refine zl rfl (s.ld (k:=1) rfl cL abQ) ?_
    by_cases LK:((cO R (4*k) 4:Nat):Int)=z
    ·skip
     refine zC rfl aD (by simp;exact LK) ?_
     refine zp rfl (zv (zj rfl (WP.skip (zr rfl (zm rfl (zb rfl (by exact bx (aA (by omega) (by omega))) ?_))))))
     refine za rfl (zv ?_)
     exact next ah _ _ I hs s ⟨rfl,rfl,rfl,aa⟩
    ·skip
     refine zB rfl aD (by simp;exact LK) ?_
     exact zk 7 rfl (WP.ret (hn ⟨k,by omega,by rw[hz];intro q;injection q with q;injection q with _ q;exact LK q.symm⟩ ah _ _ I hs rfl s))
theorem Gn (hT:W told)(hR:sO told N B rv A pg)(gj:EI N B ε)(hN:2≤N)(hp:fW n R M (pg ε))(Zv:∀k,k<16→∃z:Int,Rt[k]?=some (.int .i64 z))(gV:Rt.length=16)(hRs:Rt.all storable=true)(dZ:storable uv=true)(hU:U.length=n)(s:Sat h (A ε::ji uv (eL U)::S)):
  Call ⟨Tryz.prog,told⟩ 27 [rv,.agg (uv::Rt)] h fun v h'=>∃bl,v=.bool bl∧(Ar R Rt→(∀i,i<n→U.getD i false=bt M i)→bl=true)∧∃ah,EI N B ah∧Sm N ε ah∧Sat h' (A ah::S):=by
 obtain⟨ex,oI⟩:=hp.head
 have oz:=hp.n1
 have qd:=hp.n2
 have hlen:=wT (f:=bt M) (k:=n)
 have GX:=wT (f:=fun i=>U.getD i false) (k:=U.length)
 have I:(uv::Rt).all storable=true:=by simp only[gJ,dZ,hRs,jl]
 have Gh:∀ {ah:aZ},Sm N ε ah→fW n R M (pg ah):=fun hs=>by rw[show pg _=pg ε from funext (hR.same hs)];exact hp
 have hhd:∀ {ah:aZ},Sm N ε ah→dW (pg ah 0) 201 n ex [fy,R]:=fun hs=>by rw[hR.same hs];exact oI
 refine Call.of_wp (hT.free _ rfl) Tryz.func27 rfl rfl (zg rfl (ay.b8 s rfl rfl rfl (fg rfl I) ?_))
 intro p3 h s
 dsimp only[V.cells,List.length_cons] at s
 rw[gV] at s
 have s:Sat h (pt p3 (.cells 17 (uv::Rt) false)::_):=s
 refine zk 5 rfl (zc rfl (Tu hT hR gj hN hp (s.ae [1])) ?_)
 rintro v h ⟨lv,nr,rfl,jh,fF,s⟩
 refine zk 9 rfl (zc rfl (Ws hT hR jh (by omega) (hhd fF) hp.rl (by omega) (by omega) (s.ae [1])) ?_)
 rintro v h ⟨jH,rfl,mF,jC,s⟩
 have jC:=fF.trans jC
 refine zk 9 rfl (zc rfl (Wu hT hR mF hN (Gh jC) s) ?_)
 rintro v h ⟨tu,rfl,vr,mS,s⟩
 have mS:=jC.trans mS
 rw[hp.abL]
 refine zk 9 rfl (zc rfl (Je hT hR vr (by omega) (hhd mS) hp.rl s) ?_)
 rintro v h ⟨Zj,rfl,US,J,s⟩
 have J:=mS.trans J
 have s:=s.ae [2,2,1,0]
 have hlb:=(s.iY (j:=2) rfl).2.2
 have sK:=(s.Zk (j:=1) rfl)
 refine zk 8 rfl ?_
 have s0:=s
 by_cases mR:mG (bt M) n=mG (fun i=>U.getD i false) U.length
 ·skip
  refine WP.drawn [af,af,af,some (0,2),af,af,af,af,af,af,af,af,af,af,some (2,2),af,af,af,af,af,af,af,af,af,af,af,some (3,2),some (3,2),some (3,2),some (3,2),af,af,af,af,af,af,af,af,af,af,af,af,af,af] rfl (by kernel_rfl) (by kernel_rfl) ?_
  refine zM rfl (ax.kC rfl rfl rfl rfl (az rfl rfl aD) (rfl) (zM rfl (zM rfl (zL rfl (s.bZ (k:=0) rfl gu dz) (ax.any rfl rfl rfl rfl (OpR.call rfl rfl rfl rfl (Cs hT I gV (by omega) (s.ae [1]))) ?_)))))
  intro mv h s
  rw[←mR] at s
  have s1:=s.ae [2,1,1,1,0]
  refine ax.any rfl rfl rfl rfl (OpR.call rfl rfl rfl rfl (WC hT (by omega) (s.ae [3,0]))) ?_
  rintro v h' ⟨rfl,rfl⟩
  have s:=s1
  refine zO rfl (dQ rfl rfl) (zO rfl (fb rfl rfl) (zM rfl (zM rfl (ax.kC rfl rfl rfl rfl (az rfl rfl aD) (rfl) (zO rfl (fb rfl rfl) (zM rfl (zM rfl (zF rfl (eG _ _) (zL rfl (s.ld (k:=0) rfl iJ rfl) (zO rfl (aP rfl rfl rfl (s.G2 (j:=1) rfl hU gx)) (ax.any rfl rfl rfl rfl (OpR.call rfl rfl rfl rfl (qm hT (n:=n) (by omega) (by omega))) ?_)))))))))))
  rintro v h' ⟨rfl,rfl⟩
  refine ax.kC rfl rfl rfl rfl (az rfl rfl aD) (by decide) ?_
  refine zO rfl (fb rfl rfl) (zM rfl (zM rfl (ax.kC rfl rfl rfl rfl (az rfl rfl aD) (rfl) (zO rfl (fb rfl rfl) (zM rfl (zM rfl (zF rfl (eG _ _) (zL rfl (s.ld (k:=0) rfl iJ rfl) (zO rfl (aP rfl rfl rfl (s.G2 (j:=1) rfl hU gx)) (zL rfl (s.bZ (k:=0) rfl gu dz) (ax.any rfl rfl rfl rfl (OpR.call rfl rfl rfl rfl (Cs hT I gV (by omega) (s.ae [1]))) ?_)))))))))))
  intro mv2 h s
  rw[←mR] at s
  refine zO rfl (aP rfl rfl rfl (s.ew (n:=(mG (bt M) n).length) (j:=0) rfl (by rw[fV,c_]) (by decide) dI)) ?_
  have s:=s.ae [2,1,1,1,1,0]
  refine zO rfl (az rfl rfl (by exact iX (aA (by omega) (by omega)))) ?_
  refine ax.kC rfl rfl rfl rfl (az rfl rfl aD) (by simp) ?_
  refine zO rfl (fb rfl rfl) (zM rfl (zM rfl (ax.kC rfl rfl rfl rfl (az rfl rfl aD) (rfl) (zO rfl (fb rfl rfl) (zM rfl (zM rfl (zO rfl (dQ rfl rfl) (zO rfl (fb rfl rfl) ?_))))))))
  refine ax.nil ⟨⟨aa,aa,aa,fun _ _=>.inr ⟨rfl,⟨_,bD rfl⟩,hlb⟩,aa,aa,aa,aa,aa,aa,aa,aa,aa,aa,fun _ _=>.inr ⟨rfl,⟨_,bD rfl⟩,bn _ rfl⟩,aa,aa,aa,aa,aa,aa,aa,aa,aa,aa,aa,fun _ _=>.inr ⟨rfl,⟨_,bD rfl⟩,bn _ rfl⟩,fun _ _=>.inr ⟨rfl,⟨_,jS rfl (eG _ _)⟩,bn _ rfl⟩,dw (.inr ⟨rfl,⟨_,aW rfl (s1.ld (k:=0) rfl iJ rfl)⟩,sK.2.2⟩) (.inr ⟨rfl,⟨_,aW rfl (s.ld (k:=0) rfl iJ rfl)⟩,sK.2.2⟩),dw (.inr ⟨rfl,⟨_,aP rfl rfl rfl (s1.G2 (j:=1) rfl hU gx)⟩,bn _ rfl⟩) (.inr ⟨rfl,⟨_,aP rfl rfl rfl (s.G2 (j:=1) rfl hU gx)⟩,bn _ rfl⟩),aa,aa,aa,aa,aa,aa,aa,aa,aa,aa,aa,aa,aa,aa,aa⟩,?_⟩
  refine zK 7 rfl (WP.block ?_)
  refine Kz (uv:=uv) hT hR hN Zv gV 18 (-1) Zj _ _ _ (by decide) (by decide) US (Gh J) (s.ae [3,0]) ⟨rfl,rfl,rfl,aa⟩ (fun ah E' h' g1 g2 s' => ?_) (fun⟨k,hk,kU⟩ ah E' h' g1 g2 g4 s'=>⟨aa,_,qx g4,false,rfl,fun hm _=>absurd (hm.val k hk) kU,ah,g1,J.trans g2,(((((s'.ae [0]).del 5).del 4).del 3).del 2).del 1⟩)
  have s:=s'
  exact WP.has (F:=[]) aa (zK 4 rfl (WP.ret ⟨aa,_,rfl,true,rfl,fun _ _=>rfl,ah,g1,J.trans g2,(((((s.ae [0]).del 5).del 4).del 3).del 2).del 1⟩))
 ·skip
  refine WP.drawn [af,af,af,some (0,2),af,af,af,af,af,af,af,af,af,af,some (2,2),af,af,af,af,af,af,af,af,af,af,af,some (3,2),some (3,2),some (3,2),some (3,2),af,af,af,af,af,af,af,af,af,af,af,af,af,af] rfl (by kernel_rfl) (by kernel_rfl) ?_
  refine zM rfl (ax.kC rfl rfl rfl rfl (az rfl rfl aD) (rfl) (zM rfl (zM rfl (zL rfl (s.bZ (k:=0) rfl gu dz) (ax.any rfl rfl rfl rfl (OpR.call rfl rfl rfl rfl (Cs hT I gV (by omega) (s.ae [1]))) ?_)))))
  intro mv h s
  have s1:=s.ae [2,1,1,1,0]
  dsimp only[bringA,getA,setA,aL,Nat.reduceAdd] at s1
  refine ax.any rfl rfl rfl rfl (OpR.call rfl rfl rfl rfl (TC hT (by omega) (by omega) (s.ae [3,0]))) ?_
  rintro v h' ⟨rfl,rfl⟩
  rw[fE mR]
  have s:=s1
  refine zO rfl (dQ rfl rfl) (zO rfl (fb rfl rfl) (zM rfl (ax.no (e:=false) rfl rfl rfl rfl (ax.no (e:=false) rfl rfl rfl rfl (zO rfl (fY rfl rfl) (zM rfl (ax.no (e:=false) rfl rfl rfl rfl (ax.no (e:=false) rfl rfl rfl rfl (ax.no (e:=false) rfl rfl rfl rfl (ax.no (e:=false) rfl rfl rfl rfl (ax.no (e:=true) rfl rfl rfl rfl (ax.no (e:=false) rfl rfl rfl rfl (zO rfl (fY rfl rfl) (zM rfl (ax.no (e:=false) rfl rfl rfl rfl (ax.no (e:=false) rfl rfl rfl rfl (zO rfl (fY rfl rfl) (zM rfl (ax.no (e:=false) rfl rfl rfl rfl (ax.no (e:=false) rfl rfl rfl rfl (ax.no (e:=false) rfl rfl rfl rfl (ax.no (e:=false) rfl rfl rfl rfl (ax.no (e:=false) rfl rfl rfl rfl (ax.no (e:=true) rfl rfl rfl rfl (ax.no (e:=false) rfl rfl rfl rfl (ax.no (e:=false) rfl rfl rfl rfl (ax.no (e:=false) rfl rfl rfl rfl (zO rfl (fY rfl rfl) (zM rfl (ax.no (e:=false) rfl rfl rfl rfl (ax.no (e:=false) rfl rfl rfl rfl (zO rfl (fY rfl rfl) (zM rfl (ax.no (e:=false) rfl rfl rfl rfl (ax.no (e:=false) rfl rfl rfl rfl (zO rfl (fY rfl rfl) ?_))))))))))))))))))))))))))))))))))))
  refine ax.nil ⟨⟨aa,aa,aa,fun _ _=>.inr ⟨rfl,⟨_,bD rfl⟩,hlb⟩,aa,aa,aa,aa,aa,aa,aa,aa,aa,aa,fun _ _=>.inl rfl,aa,aa,aa,aa,aa,aa,aa,aa,aa,aa,aa,fun _ _=>.inl rfl,fun _ _=>.inl rfl,fun _ _=>.inl rfl,fun _ _=>.inl rfl,aa,aa,aa,aa,aa,aa,aa,aa,aa,aa,aa,aa,aa,aa,aa⟩,?_⟩
  exact zK 5 rfl (WP.ret ⟨aa,_,rfl,false,rfl,fun _ hb=>absurd (by rw[hU];exact(QH hb).symm) mR,Zj,US,J,((((s.ae [3]).del 4).del 3).del 2).del 1⟩)
end
section
variable {told:dc} {M p:Nat}
theorem ND (hT:W2 told)(I:EI N B ε)(hB:B≤900)(s:Sat h (SA a p q r .cy data aB ε::S)):
  Call ⟨Tryz.prog,told⟩ 39 [.ptr a 0] h fun v h'=>v=.int .i64 0∧Sat h' (SA a p q r .cy data aB (eS ε).2::S):=by
 have uD:=I.bG
 have BR:=kF (ε:=ε)
 have hNm:=I.many
 obtain⟨q1,q2⟩:=I.aG
 have s:=br.1 s
 obtain⟨w1,w2,w3⟩:=I.clean
 obtain⟨v1,v2,v3⟩:=I.writeAll
 have J:∀n∈ε.1.aG.map (·.1),(Lit.int .i64 n).wf=true:=fun n hn=>wf_i64 (q1 n hn).1 (by have:=(q1 n hn).2;omega)
 refine(SI hT s I.ok.ok (by omega) (by omega) J v2.ok.ok.dk (fun e he=>by rw[v2.ec.dk.aq];exact v2.ec.dk.keys _ (m4 he))).mono ?_
 rintro v h ⟨rfl,s⟩
 rw[w1]
 exact⟨rfl,br.2 s⟩
end
theorem fW.abR (h:fW N R M P)(I:P' 0=P 0)(J:P' 1=P 1): fW N R M P':=h.roots J (by rw[I];exact h.head) h.rl
def qO (L:List (Int×Int×Int)): List V:=L.flatMap fun d=>[.int .i64 d.1,.int .i64 d.2.1,.int .i64 d.2.2]
theorem LL : ∀(L:List (Int×Int×Int)),(qO L).length=L.length*3:=by
 intro L
 induction L with
 |nil=>rfl
 |cons d L I =>
  have e:qO (d::L)=[.int .i64 d.1,.int .i64 d.2.1,.int .i64 d.2.2]++qO L:=rfl
  rw[e,bO,I]
  simp only[aX,cI]
  omega
theorem WK : ∀ {L:List (Int×Int×Int)} {i:Nat} {d:Int×Int×Int},L[i]?=some d→((qO L).drop (i*3)).take 3=[.int .i64 d.1,.int .i64 d.2.1,.int .i64 d.2.2]:=by
 intro L
 induction L with
 |nil=>intro i d h;simp at h
 |cons e L I =>
  intro i d h
  cases i with
  |zero=>simp at h;subst h;rfl
  |succ i =>
   rw[show(i+1)*3=i*3+3 by omega]
   exact I (by simpa using h)
structure W6 (told:dc): Prop where
 w5:W5 told
 fmt:told 31=some (kE Tryz.prog 31 (Jn 31))
theorem W6.w {told:dc}(h:W6 told): W told:=h.w5.w.w
theorem W6.ws {told:dc}(h:W6 told): WS told:=⟨h.w5.w.w,h.fmt⟩
theorem dW.DZ {b I:List Nat}{kd link extra:Nat}{cs:List (List Nat)}(h:dW b kd link extra cs)(J:jb b I): dW I kd link extra cs:=h.tail J.2.1 J.2.2.symm
theorem fW.DZ (h:fW N R M P)(I:jb (P 0) (P' 0))(J:jb (P 1) (P' 1)): fW N R M P':=by
 obtain⟨ex,e0⟩:=h.head
 obtain⟨kd,lk,ow,e1⟩:=h.marks
 exact⟨⟨ex,e0.DZ I⟩,h.rl,⟨kd,lk,ow,e1.DZ J⟩,h.ml,h.n1,h.n2,h.own,h.hi⟩
section
variable {told:dc} {M:Nat}
theorem Mo.mor (hT:W told): Mo told N (iE N M B F rs) (Dd N F rs) Nx:=by
 refine⟨fun _ _=>rfl,fun h1 h2 m=>(h2 m).trans (h1 m),fun h=>h,fun {g a p q r aB data now} hw=>⟨⟨_,_,_,rfl,Bj,fun {h S ε n} I h0 h1 s => ?_⟩,fun hs m => ?_,fun h1 h2 m=>(h2 m).trans (h1 m)⟩,fun {h S X g a p q r aB i kd link extra data b now x cs ε} I hw hi s hX hp => ?_,fun {h S g a p q r aB data now ε n} J hw s => ?_⟩
 ·have uD:=I.E_
  have BR:=kF (ε:=ε)
  have s:=br.1 s
  refine(xN hT (n:=n) s I.ok (by omega) (fun e he=>eC (hw.good e he).1)).mono ?_
  rintro v h ⟨e,b,ah,hr,hs⟩
  rcases I.qh hr with⟨rfl,J⟩|⟨k1,k2,k3⟩
  ·rcases hs with⟨_,rfl,s⟩|⟨he,_⟩
   ·exact .inl ⟨ah,rfl,J,br.2 s⟩
   ·cases he
  ·obtain⟨rfl,rfl⟩:=k3 h0 h1
   rcases hs with⟨he,_⟩|⟨_,u,rfl,s⟩
   ·exact absurd rfl he
   ·have s2:Sat h (GA g a p q r data aB now ah::aV u (Am.pgG now ε n)::S):=br.2 (s.ae [1,1,1,1,1,0])
    exact .inr ⟨u,ah,rfl,k1,k2,s2.ae [1]⟩
 ·unfold Am.pgG
  rw[hs m]
 ·have uD:=I.E_
  have BR:=kF (ε:=ε)
  have hlen:=hp.len
  have hb:=(s.aH (k:=1) rfl hX).1
  have s:=br.1 s
  refine(F1 hT (n:=(i:Int)) s hX (by omega) I.ok (by omega) (fun e he=>eC (hw.good e he).1)).mono ?_
  rintro v h ⟨e,bR,ah,hr,rfl,s⟩
  rcases I.yu hr with⟨rfl,hn,J⟩|⟨k1,k2,k3⟩
  ·rw[hn] at s
   exact .inl ⟨ah,rfl,br.2 s,J⟩
  ·obtain⟨rfl,rfl⟩:=k3 (by omega) (by omega) hp.good
   exact .inr ⟨ah,rfl,k1,k2,hw.put (by omega) (by omega) hp.good hb,br.2 s⟩
 ·have KS:=J.pt
  have BR:=kF (ε:=ε)
  have s:=br.1 s
  refine(xN hT (n:=n) s J.ok (by omega) (fun e he=>eC (hw.good e he).1)).mono ?_
  rintro v h ⟨e,b,ah,hr,hs⟩
  have he:=J.qh hr
  subst he
  rcases hs with⟨_,rfl,s⟩|⟨rfl,u,rfl,s⟩
  ·exact⟨_,e,ah,rfl,J,br.2 s⟩
  ·have s2:Sat h (GA g a p q r data aB now ah::aV u b::S):=br.2 (s.ae [1,1,1,1,1,0])
   exact⟨u,0,ah,rfl,J,s2.del 1⟩
end
abbrev Mod : Type:=V×List V×List Bool
variable {ms:List Mod}
def gy (ms:List Mod): List V:=ms.flatMap fun m=>m.1::m.2.1
def lu (ms:List Mod): aO:=each (fun v U=>ji v (eL U)) (ms.map (·.1)) (ms.map (·.2.2))
structure oX (N:Nat)(m:Mod): Prop where
 len:m.2.1.length=16
 ints:∀k,k<16→∃z:Int,m.2.1[k]?=some (.int .i64 z)
 st:m.2.1.all storable=true
 us:m.2.2.length=N
 uv:storable m.1=true∧m.1.beq m.1=true
theorem qK : ∀ {ms:List Mod},(∀m∈ms,oX N m)→(gy ms).length=ms.length*17:=by
 intro ms
 induction ms with
 |nil=>intro _;rfl
 |cons m ms I =>
  intro h
  have e:gy (m::ms)=(m.1::m.2.1)++gy ms:=rfl
  rw[e,bO,I fun x J=>h x (b5 _ J),aX,(h m b7).len,aX]
  omega
theorem D1 : ∀ {ms:List Mod} {i:Nat} {m:Mod},(∀m∈ms,oX N m)→ms[i]?=some m→((gy ms).drop (i*17)).take 17=m.1::m.2.1:=by
 intro ms
 induction ms with
 |nil=>intro i m _ h;simp at h
 |cons x ms J =>
  intro i m I h
  have hx:=(I x b7).len
  have e:gy (x::ms)=(x.1::x.2.1)++gy ms:=rfl
  have hl:(x.1::x.2.1).length=17:=by rw[aX,hx]
  cases i with
  |zero =>
   simp at h
   subst h
   rw[e,qT,gz,mU (by omega),eW (by omega)]
  |succ i =>
   rw[e,show(i+1)*17=(x.1::x.2.1).length+i*17 by rw[hl];omega,vX]
   rw[kK (by omega),eB,show(x.1::x.2.1).length+i*17-(x.1::x.2.1).length=i*17 by omega]
   exact J (fun y hy=>I y (b5 _ hy)) (by simpa using h)
theorem NF {I:List Mod}: gy (ms++I)=gy ms++gy I:=by simp[gy]
section
variable {m:Mod}
theorem LM (s:Sat h (lu ms::S))(hi:ms[i]?=some m): Sat h (ji m.1 (eL m.2.2)::lu ms::S) :=
 (s.dup (aY.each (fun _ _=>aY.ji _ _) _ _)).gX fun a b q=>xE (f:=fun v U=>ji v (eL U)) q (by rw[nP,hi];rfl) (by rw[nP,hi];rfl)
theorem TD (s:Sat h (lu ms::ji m.1 (eL m.2.2)::S)): Sat h (lu (ms++[m])::S) :=
 s.two (aY.each (fun _ _=>aY.ji _ _) _ _) (aY.ji _ _) fun a b I J=>by
  unfold lu
  rw[Eh,Eh]
  exact RT I ⟨J,aa⟩
theorem TE (s:Sat h (ji m.1 (eL m.2.2)::S)): Sat h (lu [m]::S):=s.gX fun a b q=>⟨q,aa⟩
end
def uM (N:Nat)(rs:List ct)(ms:List Mod): Prop:=∀k,k<rs.length→∃m R M,ms[k]?=some m∧qn N R M (fun n=>eu (rs.take (k+1)) gN n) m.2.1 m.2.2
theorem uM.app {r:ct}{m:Mod}(h:uM N rs ms)(hl:ms.length=rs.length)(hm:qn N R M (fun n=>eu (rs++[r]) gN n) m.2.1 m.2.2): uM N (rs++[r]) (ms++[m]):=by
 intro k J
 rw[bO,Ay] at J
 by_cases I:k<rs.length
 ·obtain⟨m',R',M',h1,h2⟩:=h k I
  exact⟨m',R',M',by rw[qP (by omega)];exact h1,by rw[mU (by omega)];exact h2⟩
 ·have e:k=ms.length:=by omega
  subst e
  exact⟨m,R,M,by simp,by rw[eW (by simp;omega)];exact hm⟩
theorem uM.more {m:Mod}(h:uM N rs ms): uM N rs (ms++[m]):=fun k J=>by
 obtain⟨m',R',M',I,h2⟩:=h k J
 exact⟨m',R',M',by rw[qP (List.getElem?_eq_some_iff.1 I).1];exact I,h2⟩
theorem qn.DZ (h:qn N R M P Rt U)(I:jb (P 0) (P' 0))(J:jb (P 1) (P' 1)): qn N R M P' Rt U:=⟨h.nO.DZ I J,h.rt,h.ul,h.us⟩
theorem qn.mod (h:qn N R M P Rt U)(hu:storable uv=true∧uv.beq uv=true): oX N (uv,Rt,U) :=
 ⟨h.rt.len,fun k I=>⟨_,h.rt.val k I⟩,h.rt.st,h.ul,hu⟩
theorem TF : ∃i,Tryz.prog.info? 53=some i∧i.size=17∧i.bytes≤4096 :=
 ⟨_,(show Tryz.prog.info? 53=some ((Tryz.prog.info? 53).getD default) by kernel_rfl),by kernel_rfl,of_decide_eq_true (by kernel_rfl)⟩
structure UZ (N M B F fi:Nat)(rs:List ct)(ms:List Mod)(ε:aZ): Prop where
 lv:iE N M B F rs ε∨Dd N F rs ε
 md:uM N rs ms
 ok:∀m∈ms,oX N m
 fl:fi<rs.length
 fo:szB (rs.take (fi+1))≤F
 ln:rs.length≤ms.length
section
variable {told:dc} {M p:Nat} {v w un:V}
def Zw (N M B p:Nat)(cv:V)(c:List Nat)(S:List aO)(Q:Ex→List (Nat×V)→H→Prop): Prop :=
 ∀(F fi:Nat) (rs:List ct) (ms:List Mod) (ε:aZ) (av:V) (E':List (Nat×V)) (h':H),UZ N M B F fi rs ms ε→ms.length≤1048577→Has E' [(3,cv),(10,.ptr p 0),(12,av),(13,.int .i64 (fi:Int))] →
  Sat h' (aR p ε.2.2::.arr 17 av (gy ms)::lu ms::.cg cv c::S)→Q (.exit 0) E' h'
noncomputable def sdL : Code:=cD [1,1,1,1,1,1,1,1,1,1,0,1,0,0] ((Tryz.f8.body).getD .skip)
theorem WL (hT:W told)(hl:L.length≤1048576)(I:ms.length≤1048577)(hD:UZ N M B F fi rs ms ε)(hd:ε.2.2.dead=true)(hi:i≤L.length)
 (s:Sat h (aR p ε.2.2::.arr 17 av (gy ms)::lu ms::.cg cv c::pG 3 dv (qO L)::S))(hE:Has E [(1,dv),(3,cv),(10,.ptr p 0),(12,av),(13,.int .i64 (fi:Int)),(16,.int .i64 (i:Int))])(hq:Zw N M B p cv c S Q): WP ⟨Tryz.prog,told⟩ 145 (.loop sdL) E h Q:=by
 have J:=LL L
 refine WP.loop (WP.has hE (zK 5 rfl (zo rfl (aP rfl rfl rfl (s.IX (n:=L.length) (j:=4) rfl J (by decide) Au)) ?_)))
 by_cases hiL:i<L.length
 ·skip
  refine zB rfl aN (by simp;omega) ?_
  refine zk 2 rfl (zc rfl (rz hT s) ?_)
  rintro v h' ⟨rfl,rfl⟩
  rw[hd]
  exact zo rfl (dQ rfl rfl) (zk 3 rfl (WP.exit (hq F fi rs ms ε av _ _ hD I ⟨rfl,rfl,rfl,rfl,aa⟩ (s.del 4))))
 ·skip
  refine zC rfl aN (by simp;omega) ?_
  exact zk 7 rfl (WP.exit (hq F fi rs ms ε av _ _ hD I ⟨rfl,rfl,rfl,rfl,aa⟩ (s.del 4)))
noncomputable def sdF : Code:=cD [1,1,1,1,1,1,1,1,1,1,0,1,0,0,1,0,0,1,1,1,1,1,1] ((Tryz.f8.body).getD .skip)
theorem TG (hT:W6 told){r0:ct}(KT:ms.length≤1048576)(I:iE N M B F (rs++[r0]) ε)(Ju:uM N (rs++[r0]) (ms++[(un,Rn,Un)]))(J:∀m∈ms++[(un,Rn,Un)],oX N m)(ua:fi<rs.length)(nu:szB (rs.take (fi+1))≤F)(rR:rs.length=ms.length)(qL:qn N R1 M1 (pgA ε) Rn Un)
 (s:Sat h (SA a p q r .cy [] 0 ε::lu (ms++[(un,Rn,Un)])::ji un (eL Un)::.arr 17 v (gy (ms++[(un,Rn,Un)]))::pt BZ (.cells 3 [.int .i64 z,.int .i64 x,.int .i64 y] false)::pt sC (.cells 17 (un::Rn) false)::.cg cv c::pG 3 dv (qO L)::S))(hE:Has E [(1,dv),(3,cv),(10,.ptr p 0),(11,.ptr a 0),(12,v),(13,.int .i64 (fi:Int)),(15,.ptr sC 0),(16,.int .i64 (i:Int)),(17,.ptr BZ 0),(20,.int .u64 ((1+szB rs:Nat):Int))])
 (hn:∀(F fi:Nat) (rs:List ct) (g:Nat) (ε:aZ) (av:V) (E':List (Nat×V)) (h':H),iE N M B F rs ε→uM N rs (ms++[(un,Rn,Un)])→(∀m∈ms++[(un,Rn,Un)],oX N m)→fi<rs.length→szB (rs.take (fi+1))≤F→rs.length=ms.length+1→qn N R1 M1 (pgA ε) Rn Un →
   Sat h' (GA g a p q r [] 0 [] ε::pt sC (.cells 17 (un::Rn) false)::ji un (eL Un)::.arr 17 av (gy (ms++[(un,Rn,Un)]))::lu (ms++[(un,Rn,Un)])::.cg cv c::pG 3 dv (qO L)::S) →
   Has E' [(1,dv),(3,cv),(10,.ptr p 0),(11,.ptr a 0),(12,av),(13,.int .i64 (fi:Int)),(14,.ptr g 0),(15,.ptr sC 0),(16,.int .i64 (i:Int))]→Q .normal E' h')
 (IS:∀(rs:List ct) (ε:aZ) (av:V) (E':List (Nat×V)) (h':H),UZ N M B F fi rs (ms++[(un,Rn,Un)]) ε→ε.2.2.dead=true→Sat h' (aR p ε.2.2::.arr 17 av (gy (ms++[(un,Rn,Un)]))::lu (ms++[(un,Rn,Un)])::.cg cv c::pG 3 dv (qO L)::S) →
   Has E' [(1,dv),(3,cv),(10,.ptr p 0),(12,av),(13,.int .i64 (fi:Int)),(16,.int .i64 (i:Int))]→Q .normal E' h'): WP ⟨Tryz.prog,told⟩ 145 sdF E h Q:=by
 have hW:=hT.w
 have js:(rs++[r0]).length=rs.length+1:=by simp
 have ve:(ms++[(un,Rn,Un)]).length=ms.length+1:=by simp
 refine WP.has hE (zK 3 rfl (zY s 4 HM cL rfl ?_))
 by_cases h4:z=4
 ·skip
  refine zC rfl aD (by simp;omega) ?_
  refine zk 11 rfl (zc rfl (sy hW s) ?_)
  rintro v2 h ⟨g2,rfl,s⟩
  refine za rfl (zv ?_)
  exact hn F fi (rs++[r0]) g2 ε v _ _ I Ju J (by omega) (by rw[mU (by omega)];exact nu) (by omega) qL (s.ae [0,4,1,1,0,1,1] |>.del 7) ⟨rfl,rfl,rfl,rfl,rfl,rfl,rfl,rfl,rfl,aa⟩
 ·skip
  refine zB rfl aD (by simp;omega) ?_
  have s:=br.1 s
  dsimp only[List.cons_append,List.nil_append] at s
  refine zk 3 rfl (zc rfl (PD (n:=1+szB rs) hW (s.ae [0,1,1]) I.ok.ok.lg I.ok.ok.dk.aS) ?_)
  rintro v2 h ⟨rfl,s⟩
  have s:Sat h (SA a p q r .cy [] 0 (ε.1,(aI ε.2 (1+szB rs)).2)::_):=br.2 (s.ae [0,2,0,0])
  rcases I.force with⟨f1,f2⟩|⟨f1,f2,f3⟩
  ·rw[f1]
   generalize (ε.1,(aI ε.2 (1+szB rs)).2)=tu at f2 s
   refine zC rfl dG (by decide) ?_
   refine zk 6 rfl (zc rfl (sy hW s) ?_)
   rintro v2 h ⟨g2,rfl,s⟩
   refine za rfl (zv ?_)
   have s:=br.1 s
   dsimp only[aL,bringA,List.cons_append,List.nil_append] at s
   exact IS (rs++[r0]) tu v _ _ ⟨.inr f2,Ju,J,by omega,by rw[mU (by omega)];exact nu,by omega⟩ f2.dead (s.ae [4,6,4,7,7] |>.del 11 |>.del 10 |>.del 9 |>.del 8 |>.del 7 |>.del 6 |>.del 5) ⟨rfl,rfl,rfl,rfl,rfl,rfl,aa⟩
  ·rw[f1]
   generalize (ε.1,(aI ε.2 (1+szB rs)).2)=tu at f2 f3 s
   refine zB rfl dG (by decide) ?_
   refine zk 5 rfl (zo rfl (aP rfl rfl rfl (s.ew (n:=ms.length+1) (j:=3) rfl (by rw[qK J,ve]) (by decide) sB)) ?_)
   refine zo rfl (az (r:=.int .i64 (ms.length:Int)) rfl rfl (by rw[show(ms.length:Int)=((ms.length+1:Nat):Int)-1 by omega];exact iX (aA (by omega) (by omega)))) ?_
   refine zk 4 rfl (zc rfl (sy hW s) ?_)
   rintro v2 h ⟨g2,rfl,s⟩
   refine za rfl (zv ?_)
   exact hn (szB (rs++[r0])) ms.length (rs++[r0]) g2 tu v _ _ f2 Ju J (by omega) (by rw[eW (by omega)];exact aU _) (by omega) (by rw[show pgA tu=pgA ε from funext f3];exact qL) (s.ae [0,4,1,1,0,1,1] |>.del 7) ⟨rfl,rfl,rfl,rfl,rfl,rfl,rfl,rfl,rfl,aa⟩
noncomputable def sdD : Code:=cD [1,1,1,1,1,1,1,1,1,1,0,1,0,0,1,0,0,1,1,1] ((Tryz.f8.body).getD .skip)
theorem WM (hT:W6 told)(QF:N≤37)(KT:ms.length≤1048576)(gj:iE N M B F rs ε)(wW:uM N rs ms)(iH:∀m∈ms,oX N m)(ua:fi<rs.length)(nu:szB (rs.take (fi+1))≤F)(rR:rs.length=ms.length)(hw:NW N now)(hm:qn N R1 M1 (pgG now ε) Rn Un)(hu:storable un=true∧un.beq un=true)
 (s:Sat h (pt BZ (.cells 3 [.int .i64 z,.int .i64 x,.int .i64 y] false)::gE g a now false::eA a p q r (.ptr g 0) [] 0::dK r p q ε.1::bS q p ε.2.1::aR p ε.2.2::pt sC (.cells 17 (un::Rn) false)::ji un (eL Un)::.arr 17 av (gy ms)::lu ms::.cg cv c::pG 3 dv (qO L)::S))(hE:Has E [(1,dv),(3,cv),(10,.ptr p 0),(11,.ptr a 0),(12,av),(13,.int .i64 (fi:Int)),(14,.ptr g 0),(15,.ptr sC 0),(16,.int .i64 (i:Int)),(17,.ptr BZ 0)])
 (hq:Zw N M B p cv c S Q)
 (hn:∀(F fi:Nat) (rs:List ct) (g:Nat) (ε:aZ) (av:V) (E':List (Nat×V)) (h':H),iE N M B F rs ε→uM N rs (ms++[(un,Rn,Un)])→(∀m∈ms++[(un,Rn,Un)],oX N m)→fi<rs.length→szB (rs.take (fi+1))≤F→rs.length=ms.length+1→qn N R1 M1 (pgA ε) Rn Un →
   Sat h' (GA g a p q r [] 0 [] ε::pt sC (.cells 17 (un::Rn) false)::ji un (eL Un)::.arr 17 av (gy (ms++[(un,Rn,Un)]))::lu (ms++[(un,Rn,Un)])::.cg cv c::pG 3 dv (qO L)::S) →
   Has E' [(1,dv),(3,cv),(10,.ptr p 0),(11,.ptr a 0),(12,av),(13,.int .i64 (fi:Int)),(14,.ptr g 0),(15,.ptr sC 0),(16,.int .i64 (i:Int))]→Q .normal E' h')
 (IS:∀(rs:List ct) (ε:aZ) (av:V) (E':List (Nat×V)) (h':H),UZ N M B F fi rs (ms++[(un,Rn,Un)]) ε→ε.2.2.dead=true→Sat h' (aR p ε.2.2::.arr 17 av (gy (ms++[(un,Rn,Un)]))::lu (ms++[(un,Rn,Un)])::.cg cv c::pG 3 dv (qO L)::S) →
   Has E' [(1,dv),(3,cv),(10,.ptr p 0),(12,av),(13,.int .i64 (fi:Int)),(16,.int .i64 (i:Int))]→Q .normal E' h'): WP ⟨Tryz.prog,told⟩ 145 sdD E h Q:=by
 have hW:=hT.w
 have Zx:=hm.rt.len
 have Zy:=sA hm.rt hu.1
 have oz:=hm.nO.n1
 refine WP.has hE (zK 3 rfl (zl rfl (s.bZ (k:=6) rfl gu dz) ?_))
 have hmN:=hm.mod hu
 have mR:=hm.ul
 -- the model is laid into the row
 obtain⟨bv,h1,b1,s1⟩:=kq (P:=Tryz.prog) (k:=17) (x:=.agg (un::Rn)) s sB xy dz rfl (by decide) (by decide) (by simp only[V.cells,aX,Zx]) Zy
 refine ay.any rfl rfl rfl (OpR.of (R:=fun v h'=>v=bv∧h'=h1) (nk rfl b1) ⟨rfl,rfl⟩) ?_
 rintro v h ⟨rfl,rfl⟩
 have s:=s1.ae [9,0]
 dsimp only[V.cells,bringA,getA,aL] at s
 obtain⟨i1,jZ,jv,u_⟩:=TF
 have abS:=qK iH
 obtain⟨U0,h2,b2,s2⟩:=iG (P:=Tryz.prog) s sB jZ xy jv (by omega) rfl (by decide) (by simp only[V.cells,aX,Zx,abS];omega)
 refine ay.any rfl rfl rfl (OpR.of (R:=fun v h'=>v=U0∧h'=h2) (lP rfl rfl b2) ⟨rfl,rfl⟩) ?_
 rintro v h ⟨rfl,rfl⟩
 rw[show gy ms++un::Rn=gy (ms++[(un,Rn,Un)]) by rw[NF];simp[gy]] at s2
 have s2:=(s2.ae [9]).dup (aY.ji _ _)
 have s2:=s2.ae [11,0]
 have s:=TD (m:=(un,Rn,Un)) s2
 have MP:∀m∈ms++[(un,Rn,Un)],oX N m:=fun m hm=>by
  rcases List.mem_append.1 hm with q|q
  ·exact iH m q
  ·rw[List.mem_singleton.1 q];exact hmN
 have ve:(ms++[(un,Rn,Un)]).length=ms.length+1:=by simp
 have s:Sat h (GA g a p q r [] 0 now ε::_):=br.2 (s.ae [5,5,5,5,5])
 refine zk 5 rfl (zo rfl (dn rfl (DV (kd:=1))) (zc rfl (Gk (kd:=1) hW gj.ok (by have:=gj.E_;omega) gj.log gj.size (by omega) hw s) ?_))
 rintro v h ⟨aM,e,cl,J,P6,rfl,s⟩
 have fin:∀ {er:List ct},iE N M B F er J∨Dd N F er J→uM N er (ms++[(un,Rn,Un)])→fi<er.length→szB (er.take (fi+1))≤F→er.length≤ms.length+1→∀E',Has E' [(3,cv),(10,.ptr p 0),(12,v),(13,.int .i64 (fi:Int))]→Q (.exit 0) E' h:=fun {er} k1 k2 k3 k4 k5 E' jf=>by
  have s:=br.1 (s.ae [1])
  dsimp only[bringA,getA,aL,List.cons_append,List.nil_append] at s
  exact hq F fi er _ J v _ _ ⟨k1,k2,MP,k3,k4,by omega⟩ (by omega) jf (s.ae [3,6,4,8] |>.del 12 |>.del 11 |>.del 10 |>.del 9 |>.del 8 |>.del 7 |>.del 6 |>.del 5 |>.del 4)
 rcases gj.done hw (by omega) (by decide) (by decide) P6 with⟨rfl,rfl,uQ⟩|⟨rfl,rfl,I⟩|⟨rfl,rfl,r0,I,rfl,mh⟩
 ·skip
  refine zk 10 rfl (zB rfl aD (by decide) ?_)
  refine zk 2 rfl (WP.exit ?_)
  rcases uQ with uQ|⟨r0,uQ,NG⟩
  ·exact fin (.inr uQ) wW.more ua nu (by omega) _ ⟨rfl,rfl,rfl,rfl,aa⟩
  ·exact fin (.inr uQ) (wW.app rR.symm (hm.DZ (NG 0 (by decide) (by omega)).symm (NG 1 (by decide) (by omega)).symm)) (by rw[bO,Ay];omega) (by rw[mU (by omega)];exact nu) (by rw[bO,Ay];omega) _ ⟨rfl,rfl,rfl,rfl,aa⟩
 ·skip
  refine zk 10 rfl (zB rfl aD (by decide) ?_)
  exact zk 2 rfl (WP.exit (fin (.inl I) wW.more ua nu (by omega) _ ⟨rfl,rfl,rfl,rfl,aa⟩))
 ·have oC:Ah N (rs++[r0]) gN (bz J):=by obtain⟨_,hg⟩:=I.fm;exact hg.st
  have qL:qn N R1 M1 (pgA J) Rn Un:=⟨hm.nO.done hw mh,hm.rt,hm.ul,hm.us⟩
  have Ju:uM N (rs++[r0]) (ms++[(un,Rn,Un)]):=wW.app rR.symm (qL.DZ (oC 0 (by decide) (by omega)).symm (oC 1 (by decide) (by omega)).symm)
  refine zk 10 rfl (zC rfl aD (by decide) ?_)
  have s:Sat h (gE g a now true::SA a p q r .cy [] 0 J::_):=s
  exact zk 3 rfl (TG hT (v:=v) KT I Ju MP ua nu rR qL (((s.ae [1]).del 5).del 1) ⟨rfl,rfl,rfl,rfl,rfl,rfl,rfl,rfl,rfl,rfl,aa⟩ hn IS)
theorem WN (hT:W6 told)(QF:N≤37)(Zz:L.length≤1048576): ∀(d i F fi:Nat) (rs:List ct) (ms:List Mod) (g:Nat) (ε:aZ) (now:List (Int×List Nat)) (Rn:List V) (Un:List Bool) (un av:V) (h:H) (E:List (Nat×V)) (Q:Ex→List (Nat×V)→H→Prop),i+d=L.length→ms.length≤i+1 →
  iE N M B F rs ε→uM N rs ms→(∀m∈ms,oX N m)→fi<rs.length→szB (rs.take (fi+1))≤F→rs.length=ms.length→NW N now→(∃R M,qn N R M (pgG now ε) Rn Un)→(storable un=true∧un.beq un=true) →
  Sat h (GA g a p q r [] 0 now ε::pt sC (.cells 17 (un::Rn) false)::ji un (eL Un)::.arr 17 av (gy ms)::lu ms::.cg cv c::pG 3 dv (qO L)::S) →
  Has E [(1,dv),(3,cv),(10,.ptr p 0),(11,.ptr a 0),(12,av),(13,.int .i64 (fi:Int)),(14,.ptr g 0),(15,.ptr sC 0),(16,.int .i64 (i:Int))] →
  Zw N M B p cv c S Q→ WP ⟨Tryz.prog,told⟩ 145 (.loop sdL) E h Q:=by
 have hW:=hT.w
 have kz:=LL L
 intro d
 induction d with
 |zero =>
  intro i F fi rs ms g ε now Rn Un un av h E Q hi KT J wW iH ua nu rR hw Fb hu s hE hq
  have s:=br.1 s
  refine WP.loop (WP.has hE (zK 5 rfl (zo rfl (aP rfl rfl rfl (s.IX (n:=L.length) (j:=10) rfl kz (by decide) Au)) ?_)))
  refine zC rfl aN (by simp;omega) ?_
  exact zk 7 rfl (WP.exit (hq F fi rs ms ε av _ _ ⟨.inl J,wW,iH,ua,nu,by omega⟩ (by omega) ⟨rfl,rfl,rfl,rfl,aa⟩ ((((s.ae [4,6,6,6]).del 9).del 8 |>.del 7 |>.del 6 |>.del 5 |>.del 4 |>.del 4))))
 |succ d ih =>
  intro i F fi rs ms g ε now Rn Un un av h E Q hi KT J wW iH ua nu rR hw Fb hu s hE hq
  obtain⟨D,hD⟩:∃D,L[i]?=some D:=⟨_,bA (by omega)⟩
  obtain⟨z,x,y⟩:=D
  obtain⟨R1,M1,hm⟩:=Fb
  have Zx:=hm.rt.len
  have Zy:=sA hm.rt hu.1
  have Oo:ε.2.2.dead=false:=by obtain⟨_,hg⟩:=J.fm;exact hg.fs.alive
  have s:=br.1 s
  refine WP.loop (WP.has hE (zK 5 rfl (zo rfl (aP rfl rfl rfl (s.IX (n:=L.length) (j:=10) rfl kz (by decide) Au)) ?_)))
  refine zB rfl aN (by simp;omega) ?_
  refine zk 2 rfl (zc rfl (rz hW (s.ae [4])) ?_)
  rintro v h' ⟨rfl,rfl⟩
  rw[Oo]
  refine zo rfl (dQ rfl rfl) (zk 2 rfl ?_)
  obtain⟨id,off,e1,e2⟩:=s.aaw (P:=Tryz.prog) (i:=i) (j:=10) rfl (by omega) (by decide) Au RL Yb
  rw[WK hD] at e2
  refine zK 3 rfl (WP.block (zK 4 rfl (zo rfl (cj (r:=.ptr id off) rfl rfl e1) (zl rfl e2 ?_))))
  refine ay.b8 s rfl rfl rfl (bU abc) (fun BZ h s => ?_)
  dsimp only[V.cells,List.length_cons,List.length_nil,Nat.reduceAdd,List.cons_append,List.nil_append] at s
  refine zS rfl (s.ep (j:=0) rfl RL rfl rfl) (fun h s => ?_)
  dsimp only[setA] at s
  refine zk 5 rfl (zC rfl (vh mo) (rfl) (zk 6 rfl (zY s 0 HM cL rfl ?_)))
  by_cases h3:z≤3
  ·skip
   refine zB rfl xx (by simp;omega) ?_
   have s:Sat h (GA g a p q r [] 0 now ε::_):=br.2 (s.ae [1,1,1,1,1])
   have s:=s.ae [3,0]
   dsimp only[aL,bringA,getA] at s
   refine zk 5 rfl (zl rfl (s.bZ (k:=3) rfl gu dz) (zl rfl (s.bZ (k:=2) rfl Yb RL) (zc rfl (Zu hW (Mo.mor hW) J hw hm hu.1 s) ?_)))
   rintro v h ⟨un2,ZA,Un2,I,yh,bl,rfl,DI,oC,hsu,hbu,s⟩
   have ZB:ZA.length=16:=by rcases oC with⟨_,_,_,_,_,q,_⟩|⟨_,q,_⟩;exact q.rt.len;exact q
   have ZC:(un2::ZA).all storable=true:=by
    rw[gJ,hsu]
    rcases oC with⟨_,_,_,_,_,q,_⟩|⟨_,_,q,_⟩
    ·exact q.rt.st
    ·exact q
   refine zk 3 rfl ?_
   refine ay.b8 s rfl rfl rfl (bU xy) (fun p18 h s => ?_)
   dsimp only[V.cells,List.length_cons,List.length_nil,Nat.reduceAdd] at s
   refine zS rfl (s.ep (j:=0) rfl dz (by rw[aX,ZB]) ZC) ?_
   rintro h s
   dsimp only[setA] at s
   have s:=br.1 (s.ae [2])
   dsimp only[aL,bringA,List.cons_append,List.nil_append] at s
   refine zk 6 rfl (zc rfl (rz hW (s.ae [4])) ?_)
   rintro v h' ⟨rfl,rfl⟩
   rcases oC with⟨R2,M2,mF,jC,js,qL,rfl⟩|⟨UW,_⟩
   ·have NG:I.2.2.dead=false:=by obtain⟨_,hg⟩:=mF.fm;exact hg.fs.alive
    rw[NG]
    refine zk 7 rfl (zo rfl (dQ rfl rfl) (zk 5 rfl (zl rfl (s.bZ (k:=5) rfl gu dz) ?_)))
    refine zS rfl (s.ep (j:=8) rfl dz (by rw[aX,ZB]) ZC) ?_
    rintro h s
    dsimp only[setA] at s
    refine zv (WP.exit (zK 2 rfl (zb rfl (by exact bx (aA (by omega) (by omega))) ?_)))
    refine za rfl (zv ?_)
    have s:Sat h (GA g a p q r [] 0 yh I::_):=br.2 (s.ae [0,0,0,0,0])
    exact ih (i+1) F fi rs ms g I yh ZA Un2 un2 av _ _ Q (by omega) (by omega) mF wW iH ua nu rR DI ⟨R2,M2,qL⟩ ⟨hsu,hbu⟩ (((s.ae [0,3,1,2,2,2,2]).del 8).del 7) ⟨rfl,rfl,rfl,rfl,rfl,rfl,rfl,rfl,rfl,aa⟩ hq
   ·rw[UW.dead]
    exact zk 2 rfl (WP.exit (hq F fi rs ms I av _ _ ⟨.inr UW,wW,iH,ua,nu,by omega⟩ (by omega) ⟨rfl,rfl,rfl,rfl,aa⟩ (s.ae [4,8,8,8] |>.del 12 |>.del 11 |>.del 10 |>.del 9 |>.del 8 |>.del 7 |>.del 6 |>.del 5 |>.del 4)))
  ·skip
   refine zC rfl xx (by simp;omega) ?_
   refine zk 3 rfl ?_
   refine WM hT QF (by omega) J wW iH ua nu rR hw hm hu s ⟨rfl,rfl,rfl,rfl,rfl,rfl,rfl,rfl,rfl,rfl,aa⟩ (fun F fi rs ms ε av E' h' k1 k2 k3 k4=>hq F fi rs ms ε av E' h' k1 k2 k3 k4) (fun F2 fi2 er g2 I U0 E' h' k1 k2 k3 k4 k5 k6 k7 s' k8 => ?_) (fun er I U0 E' h' k1 k2 s' k3 => ?_)
   ·have s:=s'
    have ve:(ms++[(un,Rn,Un)]).length=ms.length+1:=by simp
    refine WP.has k8 (zK 2 rfl (zb rfl (by exact bx (aA (by omega) (by omega))) ?_))
    refine za rfl (zv ?_)
    exact ih (i+1) F2 fi2 er _ g2 I [] Rn Un un U0 _ _ Q (by omega) (by omega) k1 k2 k3 k4 k5 (by omega) (NW.nil N) ⟨R1,M1,k7⟩ hu s ⟨rfl,rfl,rfl,rfl,rfl,rfl,rfl,rfl,rfl,aa⟩ hq
   ·have s:=s'
    have ve:(ms++[(un,Rn,Un)]).length=ms.length+1:=by simp
    refine WP.has k3 (zK 2 rfl (zb rfl (by exact bx (aA (by omega) (by omega))) ?_))
    refine za rfl (zv ?_)
    exact WL hW Zz (by omega) k1 k2 (i:=i+1) (by omega) s ⟨rfl,rfl,rfl,rfl,rfl,rfl,aa⟩ hq
end
section
variable {told:dc} {M p:Nat} {v w un:V} {n0 k0:Int}
noncomputable def dkL : Code:=cD [1,1,1,1,1,1,1,1,1,1,1,1,1,0,1,0,0] ((Tryz.f8.body).getD .skip)
theorem WO (hT:W told)(hN:2≤N)(J:∀m∈ms,oX N m)(ve:ms.length≤1048577){j:Nat}(hfi:fi≤j){m0:Mod}{M:List Nat}(uO:ms[j]?=some m0)(hm:qn N R M P m0.2.1 m0.2.2): ∀(d:Nat) (ε:aZ) (h:H) (E:List (Nat×V)) (Q:Ex→List (Nat×V)→H→Prop),j+d<ms.length→EI N 17 ε→pgA ε=P →
  Sat h (SA a p q r .cy [] 0 ε::.arr 17 av (gy ms)::lu ms::S)→Has E [(12,av),(13,.int .i64 (fi:Int)),(22,.ptr a 0),(24,.int .i64 ((j+d:Nat):Int))] →
  (∀E' h',look E' 8=some (.bool true)→Q .ret E' h')→WP ⟨Tryz.prog,told⟩ 145 (.loop dkL) E h Q:=by
 intro d
 induction d with
 |zero =>
  intro ε h E Q hd gj hP s hE hq
  have s:=s.ae [1]
  dsimp only[bringA,getA,aL] at s
  obtain⟨id,off,e1,e2⟩:=s.Jt (P:=Tryz.prog) (i:=j) (by rw[qK J];omega) (by decide) sB dz gu
  rw[D1 J uO] at e2
  have I:=J m0 (bI uO)
  rw[m9] at hE
  subst hP
  refine WP.loop (WP.has hE (zK 5 rfl (zB rfl jJ (by simp;omega) ?_)))
  refine zk 4 rfl (WP.block (zK 3 rfl (zo rfl (rL rfl (mki_of rY rfl)) (zk 2 rfl (zo rfl (cj (r:=.ptr id off) rfl rfl e1) (zl rfl e2 ?_))))))
  have s:=LM (s.ae [2]) uO
  have s:=s.ae [3,0]
  dsimp only[aL,bringA,getA] at s
  refine zc rfl (Gn hT (Tp hT (by decide)) gj hN hm.nO I.ints I.len I.st I.uv.1 I.us s) ?_
  rintro v h ⟨bl,rfl,hb,_⟩
  obtain rfl:=hb hm.rt hm.us
  exact zk 6 rfl (WP.ret (hq _ _ rfl))
 |succ d ih =>
  intro ε h E Q hd gj hP s hE hq
  obtain⟨m1,u9⟩:∃m,ms[j+(d+1)]?=some m:=⟨_,bA hd⟩
  have s:=s.ae [1]
  dsimp only[bringA,getA,aL] at s
  obtain⟨id,off,e1,e2⟩:=s.Jt (P:=Tryz.prog) (i:=j+(d+1)) (by rw[qK J];omega) (by decide) sB dz gu
  rw[D1 J u9] at e2
  have I:=J m1 (bI u9)
  subst hP
  refine WP.loop (WP.has hE (zK 5 rfl (zB rfl jJ (by simp;omega) ?_)))
  refine zk 4 rfl (WP.block (zK 3 rfl (zo rfl (rL rfl (mki_of rY rfl)) (zk 2 rfl (zo rfl (cj (r:=.ptr id off) rfl rfl e1) (zl rfl e2 ?_))))))
  have s:=LM (s.ae [2]) u9
  have s:=s.ae [3,0]
  dsimp only[aL,bringA,getA] at s
  refine zc rfl (Gn hT (Tp hT (by decide)) gj hN hm.nO I.ints I.len I.st I.uv.1 I.us s) ?_
  rintro v h ⟨bl,rfl,hb,ah,F5,hs,s⟩
  cases bl with
  |true =>
   exact zk 6 rfl (WP.ret (hq _ _ rfl))
  |false =>
   refine zv (zj rfl (WP.skip (zr rfl (zm rfl (zo rfl (az (r:=.int .i64 ((j+d:Nat):Int)) rfl rfl (by rw[show((j+d:Nat):Int)=((j+(d+1):Nat):Int)-1 by omega];exact iX (aA (by omega) (by omega)))) ?_)))))
   refine za rfl (zv ?_)
   exact ih ah _ _ Q (by omega) F5 (funext hs.1) (s.ae [0,1,0]) ⟨rfl,rfl,rfl,rfl,aa⟩ hq
theorem TH (hT:W6 told)(Zz:L.length≤1048576)(s:Sat h (pG 3 dv (qO L)::.cg cv c::S)): Call ⟨Tryz.prog,told⟩ 8 [.int .i64 n0,dv,.int .i64 k0,cv] h fun v h'=>v=.bool true:=by
 have hW:=hT.w
 have abT:bW (List.replicate 512 0)=false:=by decide +kernel
 obtain⟨k,hk,hke⟩:=Jr (k:=n0) (m:=31) (by decide)
 obtain⟨f,hf,hfe⟩:=Jr (k:=k0) (m:=63) (by decide)
 refine Call.of_wp (hW.free _ rfl) Tryz.func8 rfl rfl (zK 7 rfl (zc rfl (QM hT.ws s) ?_))
 rintro v h ⟨rfl,s⟩
 refine zo rfl (dQ rfl rfl) (zk 6 rfl (zo rfl (az (r:=.int .i64 (k:Int)) rfl rfl hke) ?_))
 obtain⟨N,hN⟩:∃N,N=6+k:=⟨_,rfl⟩
 have hNi:(N:Int)=6+(k:Int):=by omega
 refine zo rfl (az (r:=.int .i64 (N:Int)) rfl rfl (by rw[hNi];exact bx (aA (by omega) (by omega)))) ?_
 refine zk 5 rfl (zc rfl (DF (n:=N) (m:=262144) (f:=12) hW s (by omega) (by omega) (by decide) (by decide) (by decide)) ?_)
 rintro v h ⟨p,a,q,r,rfl,s⟩
 have s:Sat h (SA a p q r .cy [] 0 (fresh N 262144 12)::_):=br.2 s
 have NK:mT N 262144 4 [] (fresh N 262144 12):=mT.fresh (by omega) (by decide) (by decide) (by decide) (by decide) (by decide)
 refine zk 10 rfl (zC rfl (vh rY) (rfl) (zk 2 rfl (zc rfl (Gm (N:=N) (B:=4) (K:=0) (m:=262144) hT.ws (by decide) NK.ei (by omega) (by omega) (by rw[sn];exact dx) (by rw[sn];exact abT) ⟨aU _,rfl⟩ (by omega) s) ?_)))
 rintro v h ⟨rfl,ε,_,hp,_,s,hg⟩
 obtain⟨r0,CO⟩:=NK.fmt (by omega) hg
 have CO:mT N 262144 4 [r0] ε:=CO
 refine zC rfl aD (rfl) (zk 3 rfl ?_)
 obtain⟨TI,J⟩:=CO.clean
 obtain⟨_,_,ZD⟩:=CO.ei.clean
 refine zc rfl (ND hT.w5.w CO.ei (by decide) s) ?_
 rintro v h ⟨rfl,s⟩
 have oA:fW N (List.replicate 64 0) yy (pgA (eS ε).2):=hp.abR (ZD 0 (by decide)) (ZD 1 (by decide))
 generalize (eS ε).2=I at TI J oA s
 obtain⟨ex0,oI⟩:=oA.head
 have nu:=QJ J TI.ei (by omega) oI.good
 have Ho:=TI.zR nu (k:=f) (by omega)
 refine zC rfl aD (rfl) (zk 7 rfl (zc rfl (QL (n:=N) hW (by omega) (by omega) s) ?_))
 rintro v h ⟨uv,rfl,dZ,s⟩
 have sK:=(s.Zk (j:=0) rfl).2.2
 have oC:(uv::sP).all storable=true:=by rw[gJ,dZ];rfl
 have Fb:∀ah:aZ,pgA ah=pgA I→qn N (List.replicate 64 0) yy (pgA ah) sP (uL N):=fun ah e=>⟨by rw[e];exact oA,Ar.zero,WH,fun i hi=>by rw[WI hi,DW]⟩
 have TT:oX N (uv,sP,uL N):=(Fb I rfl).mod ⟨dZ,sK⟩
 obtain⟨av,h1,b1,s1⟩:=kq (P:=Tryz.prog) (k:=17) (x:=.agg (uv::sP)) s sB xy dz rfl (by decide) (by decide) rfl oC
 refine ay.any rfl rfl rfl (OpR.of (R:=fun v h'=>v=av∧h'=h1) (nk rfl b1) ⟨rfl,rfl⟩) ?_
 rintro av h ⟨rfl,rfl⟩
 have s:Sat h (.arr 17 av (gy [(uv,sP,uL N)])::_):=s1
 have s:=(s.ae [1]).dup (aY.ji _ _)
 have s:=TE (m:=(uv,sP,uL N)) s
 have s:=s.ae [2,2,0,0]
 refine zk 10 rfl (zo rfl (az (r:=.int .i64 (f:Int)) rfl rfl hfe) ?_)
 have s:=br.1 (s.ae [1])
 refine zc rfl (RV (n:=(f:Int)) hW (s.ae [3])) ?_
 rintro v h ⟨rfl,s⟩
 have s:Sat h (SA a p q r .cy [] 0 (I.1,(I.2.1,I.2.2.zR (f:Int)))::_):=br.2 (s.ae [1,1,1,0])
 have ZE:pgA (I.1,(I.2.1,I.2.2.zR (f:Int)))=pgA I:=rfl
 generalize (I.1,(I.2.1,I.2.2.zR (f:Int)))=jH at Ho ZE s
 refine zk 4 rfl (zc rfl (sy hW s) ?_)
 rintro v h ⟨g,rfl,s⟩
 have s:=s.ae [1]
 obtain⟨id,off,e1,e2⟩:=s.Jt (P:=Tryz.prog) (i:=0) (aU _) (Nat.le_add_left 1 16) sB dz gu
 have e2:loadV Tryz.prog _ 53 (.ptr id off)=some (.agg (uv::sP)):=e2
 refine zk 5 rfl (zo rfl (cj (r:=.ptr id off) rfl rfl e1) (zl rfl e2 ?_))
 refine ay.b8 s rfl rfl rfl (bU xy) (fun sC h s => ?_)
 refine zS rfl (s.ep (j:=0) rfl dz rfl oC) ?_
 rintro h s
 have s:Sat h (pt sC (.cells 17 (uv::sP) false)::.arr 17 av (gy [(uv,sP,uL N)])::GA g a p q r [] 0 [] jH::lu [(uv,sP,uL N)]::ji uv (eL (uL N))::pG 3 dv (qO L)::.cg cv c::S):=s
 refine zk 6 rfl (WP.block ?_)
 have abU:uM N [r0] [(uv,sP,uL N)]:=fun k hk=>by
  have TR:k=0:=by simpa using hk
  subst TR
  exact⟨_,_,_,rfl,(Fb I rfl).DZ (J.st 0 (by decide) (by omega)).symm (J.st 1 (by decide) (by omega)).symm⟩
 refine WN (B:=4) (M:=262144) hT (by omega) Zz L.length 0 (szB [r0]) 0 [r0] [(uv,sP,uL N)] g jH [] sP (uL N) uv av _ _ _ (by omega) (aU _) Ho abU (fun m hm=>by rw[List.mem_singleton.1 hm];exact TT) (vW _) (aU _) rfl (NW.nil N) ⟨_,_,Fb jH ZE⟩ ⟨dZ,sK⟩ (s.ae [2,0,2,0,0,1,0]) ⟨rfl,rfl,rfl,rfl,rfl,rfl,rfl,rfl,rfl,aa⟩ (fun F fi rs ms ε av E' h' hD ve hE s' => ?_)
 have s:=s'
 obtain⟨u,j,hO⟩:∃u j,Nw N 17 12 c F rs ε.2.2 u j:=by
  rcases hD.lv with q|q
  ·exact q.wV c (by decide) (by decide)
  ·exact q.wV c (by decide) (by decide)
 have CG:ε.2.2.Cr:=by
  rcases hD.lv with q|q
  ·exact q.cr
  ·exact q.cr.1
 obtain⟨w,hu⟩:=hO.pre
 -- how many groups are there
 have mR:fi<u.length:=by
  have h1:=hO.all
  have h2:=hD.fo
  have h3:=hD.fl
  refine vP fun cE => ?_
  have h4:rs.take (fi+1)=u++w.take (fi+1-u.length):=by rw[hu,Ef,eW (by omega)]
  have K1:0<(w.take (fi+1-u.length)).length:=by
   rw[hu,bO] at h3
   rw[gI];omega
  cases hq:w.take (fi+1-u.length) with
  |nil=>rw[hq] at K1;exact absurd K1 (Nat.lt_irrefl _)
  |cons y l =>
   have hy:=vJ y
   rw[h4,hq,om,szB] at h2
   omega
 have ac_:u.length≤rs.length:=by rw[hu,bO];omega
 obtain⟨m0,R0,M0,uO,wW⟩:=hD.md (u.length-1) (by omega)
 rw[show u.length-1+1=u.length by omega,show rs.take u.length=u by rw[hu];simp] at wW
 have TX:=hO.ei
 have ZF:=wW.DZ (hO.pg 0 (by decide) (by omega)) (hO.pg 1 (by decide) (by omega))
 have rR:=hD.ln
 refine WP.has hE ?_
 have s:=s.ae [0,2]
 refine zK 4 rfl (zc rfl (SU (c:=c) hW s (dF _ _) CG) ?_)
 rintro v h ⟨q4,rfl,s⟩
 refine zc rfl (S3 (n:=12) (base:=1) (aB:=0) (rs:=u) (dL:=[]) (er:=u) (data:=[]) hT.w5 (by decide) (by decide) s hO.ag rfl (.inl ⟨hO.mark,rfl,rfl⟩) hO.len (by decide) hO.log hO.ok hO.Ro ⟨rfl,.inl ⟨rfl,rfl,rfl⟩⟩) ?_
 rintro v h (⟨h0,_⟩|⟨_,a5,q5,r5,rfl,s⟩)
 ·exact absurd hO.CE h0
 have s:Sat h (SA a5 q4 q5 r5 .cy [] 0 (Pl.fresh 12,(iZ 1 0 u,(eZ (fS ε.2.2 c) 1 u [] u).2))::_):=br.2 s
 generalize (Pl.fresh 12,(iZ 1 0 u,(eZ (fS ε.2.2 c) 1 u [] u).2))=ε5 at TX ZF s
 refine zk 10 rfl (zC rfl aD (by decide) ?_)
 refine zk 2 rfl (zC rfl (vh rY) (rfl) ?_)
 have s:=s.ae [0,2,2]
 refine zk 8 rfl (zo rfl (aP rfl rfl rfl (s.ew (n:=ms.length) (j:=1) rfl (qK hD.ok) (by decide) sB)) ?_)
 refine zo rfl (az (r:=.int .i64 ((ms.length-1:Nat):Int)) rfl rfl (by rw[show((ms.length-1:Nat):Int)=(ms.length:Int)-1 by omega];exact iX (aA (by omega) (by omega)))) ?_
 refine zk 2 rfl (WP.block ?_)
 refine WO (j:=u.length-1) hW (by omega) hD.ok ve (by omega) uO ZF (ms.length-u.length) ε5 _ _ _ (by omega) TX rfl s ⟨rfl,rfl,rfl,?_,aa⟩ (fun E' h' hr=>⟨aa,_,qx hr,rfl⟩)
 exact iO (fun z:Nat=>some (V.int .i64 (z:Int))) (by omega)
end
def Jv (c:Ctx): Prop:=∀id,id<c.N→c.X id=true
noncomputable def Ctx.fix (c:Ctx)(w:World)(b off:Nat): Ctx:=⟨fun i=>if i=c.N then(b,off) else c.ρ i,fun x=>if x=b then rowSize w b else c.Z x,c.N+1,fun i=>if i=c.N then true else c.X i⟩
theorem Rel.fix {c:Ctx}{w:World}(h:Rel c σ w)(hX:Jv c){cs:List V}(hb:w.heap[b]?=some (.cells C e fz))(hl:off+cs.length≤C.size)
 (hc:∀j v,cs[j]?=some v→C[off+j]?=some (conc c v))(nt:∀v∈cs,wf c v∧storable v=true):
  Rel (c.fix w b off) (σ.new (.cells cs.length cs true)) w∧Jv (c.fix w b off)∧Ext c (c.fix w b off)∧(c.fix w b off).ρ σ.next=(b,off)∧σ.next<(c.fix w b off).N:=by
 have hold:∀i,i<c.N→(c.fix w b off).ρ i=c.ρ i:=fun i hi=>by grind[Ctx.fix]
 have CD:∀i,i<c.N→(c.fix w b off).X i=c.X i:=fun i hi=>by grind[Ctx.fix]
 have J:(c.fix w b off).ρ c.N=(b,off):=by simp[Ctx.fix]
 have hnX:(c.fix w b off).X c.N=true:=by simp[Ctx.fix]
 have hN:(c.fix w b off).N=c.N+1:=rfl
 have cE:b<w.heap.size:=(Array.getElem?_eq_some_iff.1 hb).1
 have I:Jv (c.fix w b off):=fun i hi=>by
  by_cases h1:i=c.N
  ·grind
  ·rw[CD i (by omega)];exact hX i (by omega)
 have ex:Ext c (c.fix w b off):=⟨by omega,hold,fun i hi=>by
  show(if (c.ρ i).1=b then rowSize w b else c.Z (c.ρ i).1)=_
  split
  ·rename_i he;rw[h.zz i hi,he]
  ·rfl,CD⟩
 have key:∀i o,(σ.new (.cells cs.length cs true)).tr.get i=some o→(i=c.N∧o=.cells cs.length cs true)∨(i<c.N∧σ.tr.get i=some o):=by
  intro i o hi
  rw[gB,h.next] at hi
  by_cases h1:i=c.N
  ·grind
  ·simp[h1] at hi;exact .inr ⟨h.live i o hi,hi⟩
 refine⟨⟨by simp[H.new,h.next,hN],fun i o hi => ?_,fun i hi => ?_,fun i hi => ?_,fun i j o o' hi hj he => ?_,fun i o hi => ?_,fun i ym pQ hi hx => ?_,fun i o hi hx => ?_⟩,I,ex,by rw[h.next];exact J,by rw[h.next,hN];omega⟩
 ·grind
 ·by_cases h1:i=c.N
  ·grind
  ·rw[hold i (by omega)];exact h.mL i (by omega)
 ·by_cases h1:i=c.N
  ·rw[h1,J];show(if b=b then rowSize w b else c.Z b)=_;rw[aJ rfl]
  ·rw[hold i (by omega)]
   show(if (c.ρ i).1=b then rowSize w b else c.Z (c.ρ i).1)=_
   split
   ·grind
   ·exact h.zz i (by omega)
 ·have li:i<c.N+1:=by grind
  have lj:j<c.N+1:=by grind
  exact .inr ⟨I i (by omega),I j (by omega)⟩
 ·rcases key i o hi with⟨rfl,rfl⟩|⟨a1,a2⟩
  ·refine⟨rfl,fun v hv=>⟨(cF ex v (nt v hv).1).2,(nt v hv).2⟩,C,e,fz,by grind,by grind,fun j v hj => ?_,aa⟩<;>grind[cF]
  ·exact(h.obj i o a2).later ex a1 rfl
 ·have li:i<c.N+1:=by grind
  rw[I i (by omega)] at hx;cases hx
 ·rcases key i o hi with⟨_,rfl⟩|⟨a1,a2⟩
  ·simp
  ·rw[CD i a1] at hx;exact h.fx i o a2 hx
theorem KA {c c':Ctx}{w w':World}(hX:Jv c)(h:cV c w c' w'): w.keptBut w' (fun _=>False)∧w.heap.size≤w'.heap.size∧∀b,b<w.heap.size→w'.heap[b]?=w.heap[b]?:=by
 have J:∀b,b<w.heap.size→w'.heap[b]?=w.heap[b]?:=fun b hb=>h.lU b hb fun id I _=>hX id I
 refine⟨⟨h.sys.1,h.sys.2,fun i hi => ?_⟩,h.size,J⟩
 rw[J i hi]
 split<;>simp_all
end Go.Proofs.YtefepnnfphdkpaaGreat.Am
namespace Go.Proofs.YtefepnnfphdkpaaGreat.Am
open Go Go.ChangeShapes
variable {C:Array Value} {X:aO} {ε:aZ} {Q:Ex→List (Nat×V)→H→Prop} {h σ:H} {x y z:Int} {P P':Int→List Nat} {L:List (Int×Int×Int)} {now:List (Int×List Nat)} {E:List (Nat×V)} {S:List aO} {U Un:List Bool} {ms:List Mod} {c R M data R1 M1:List Nat} {rs:List ct} {Rt Rk Rn:List V} {cs:List Value} {k i N B g a q r aB b K p7 F sC BZ fi off o fuel:Nat} {fz:Nat×Nat} {α H':Type} {t e:TypeId} {uv dv uk cv av:V}
def Av (W:World)(S:List aO)(c:Ctx)(σ:H): Prop:=Rel c σ W∧Jv c∧Sat σ S
theorem Av.zero (W:World): ∃c σ,Av W [] c σ:=by
 refine⟨_,_,Rel.empty W,fun id h=>absurd h (AJ _),⟨fun id o h=>by simp[T.tS] at h,fun _=>none,fun _=>none,fun _ _ h=>(by cases h),fun _ _ h=>(by cases h),fun _=>.inl rfl,aa⟩⟩
theorem Av.sat {W:World}{S':List aO}{c:Ctx}(h:Av W S c σ)(hs:∀h,Sat h S→Sat h S'): Av W S' c σ:=⟨h.1,h.2.1,hs σ h.2.2⟩
def oS {α:Type}(W:World)(cs:List Value)(E:List V→α→aO)(φ:α→Prop): Prop :=
 ∀(c:Ctx) (σ:H) (S:List aO),Av W S c σ→∃(c':Ctx) (dH:H) (vs:List V) (x:α),Av W (E vs x::S) c' dH∧Ext c c'∧vs.map (conc c')=cs∧(∀v∈vs,wf c' v∧storable v=true)∧φ x
theorem oS.rows {W:World}{E:List V→α→aO}{A:List V→List α→aO}{φ:α→Prop}(hE:∀vs x,aY (E vs x))(hA:∀l m,aY (A l m))(xk:∀m r,(A [] []).p m r)(J:∀vs x l m a b,(E vs x).p a b→(A l m).p a b→(A (vs++l) (x::m)).p a b):
  ∀(I:List (List Value)),(∀cs∈I,oS W cs E φ)→oS W I.flatten A (fun xs=>xs.length=I.length∧∀x∈xs,φ x):=by
 intro I
 induction I with
 |nil =>
  intro _ c σ S h
  exact⟨c,σ,[],[],h.sat fun h s=>(s.gM (φ:=True) aa).gX fun m r _=>xk m r,Ext.refl c,rfl,fun v hv=>(by cases hv),rfl,fun x hx=>(by cases hx)⟩
 |cons cs I ih =>
  intro hc c σ S h
  obtain⟨c1,ZG,l,m,h1,e1,m1,w1,n1,p1⟩:=ih (fun x hx=>hc x (b5 _ hx)) c σ S h
  obtain⟨c2,σ2,vs,x,h2,e2,m2,w2,p2⟩:=hc cs b7 c1 ZG _ h1
  obtain⟨q1,q2⟩:=nA e2 fun v hv=>(w1 v hv).1
  refine⟨c2,σ2,vs++l,x::m,h2.sat fun h s=>s.two (hE _ _) (hA _ _) fun a b k1 k2=>J _ _ _ _ _ _ k1 k2,e1.trans e2,?_,fun v hv => ?_,by grind,fun y hy => ?_⟩<;>grind
def QS {α:Type}(k:Nat)(A:List V→List α→aO)(vs:List V)(x:List α): aO:=.xs fun v:V=>.xs fun cs:List V=>.an (.pu (vs=[v])) (.an (pG k v cs) (A cs x))
theorem oS.abV {W:World}{A:List V→List α→aO}{φ:List α→Prop}(I:∀m r,(A [] []).p m r)(J:φ []): oS W [.slice none 0 0] (QS k A) φ:=fun c σ S h =>
 ⟨c,σ,[.bC],[],h.sat fun h s=>(s.gM (φ:=True) aa).gX fun m r _=>⟨.bC,[],rfl,⟨none,.inl rfl,rfl⟩,I m r⟩,Ext.refl c,by rfl,fun v hv=>by rw[List.mem_singleton.1 hv];exact⟨aa,rfl⟩,J⟩
theorem oS.ZH {W:World}{A:List V→List α→aO}{φ:List α→Prop}{a:Addr}(I:∀m r,(A [] []).p m r)(J:φ []): oS W [.slice (some a) 0 0] (QS k A) φ:=fun c σ S h =>
 ⟨c,σ,[.sle a],[],h.sat fun h s=>(s.gM (φ:=True) aa).gX fun m r _=>⟨.sle a,[],rfl,⟨none,.inr ⟨a,rfl⟩,rfl⟩,I m r⟩,Ext.refl c,by rfl,fun v hv=>by rw[List.mem_singleton.1 hv];exact⟨aa,rfl⟩,J⟩
theorem oS.abW {W:World}{len cap:Nat}{A:List V→List α→aO}{φ:List α→Prop}(hb:W.heap[b]?=some (.cells C e fz))(hl:off+cs.length≤C.size)(hn:cs.length=len*k)(J:len≤cap)
 (hc:∀j v,cs[j]?=some v→C[off+j]?=some v)(hA:∀l m,aY (A l m))(ho:oS W cs A φ): oS W [.slice (some ⟨b,off,none⟩) len cap] (QS k A) φ:=by
 intro c σ S h
 obtain⟨c1,I,vs,x,h1,e1,m1,w1,p1⟩:=ho c σ S h
 have hlen:vs.length=cs.length:=by grind
 obtain⟨g1,g2,g3,g4,g5⟩:=h1.1.fix h1.2.1 hb (cs:=vs) (off:=off) (by omega) (fun j v hv=>hc j _ (by grind)) w1
 refine⟨_,_,[.sl I.next 0 len (.exact cap)],x,⟨g1,g2,?_⟩,e1.trans g3,?_,fun v hv => ?_,p1⟩
 ·have s1:Sat (I.new (.cells vs.length vs true)) (.ro I.next (.cells vs.length vs true)::A vs x::S):=(h1.2.2.new _).freeze
  refine s1.two (aY.ro _ _) (hA _ _) fun m r k1 k2=>⟨_,vs,rfl,⟨some (I.next,len,cap),k1,rfl,by omega⟩,k2⟩
 ·simp[conc,g4]
 ·rw[List.mem_singleton.1 hv]
  exact⟨⟨g5,J⟩,rfl⟩
def byE (vs:List V)(l:List Nat): aO:=.xs fun v:V=>.an (.pu (vs=[v])) (.cg v l)
theorem Jw {W:World}{a:Addr}{v:Value}(h:W.cell? a=some v): ∃b off,a=⟨b,off,none⟩∧∃C e fz,W.heap[b]?=some (.cells C e fz)∧C[off]?=some v:=by
 obtain⟨b,off,spot⟩:=a
 have hs:spot=none:=World.cell?_spot h
 grind[World.cell?]
theorem LN {β:Type}{f:α→β}{l:List α}{b:β}(h:l.map f=[b]): ∃a,l=[a]∧f a=b:=by
 simp_all
end Go.Proofs.YtefepnnfphdkpaaGreat.Am
namespace Go.Proofs.YtefepnnfphdkpaaGreat.Am
open Go Go.ChangeShapes Go.WideShapes Go.ChangeAt Go.RowKit
variable {C:Array Value} {X:aO} {ε:aZ} {Q:Ex→List (Nat×V)→H→Prop} {h σ:H} {x y z:Int} {P P':Int→List Nat} {L:List (Int×Int×Int)} {now:List (Int×List Nat)} {E:List (Nat×V)} {S:List aO} {U Un:List Bool} {ms:List Mod} {c R M data R1 M1:List Nat} {rs:List ct} {Rt Rk Rn:List V} {cs:List Value} {k i N B g a q r aB b K p7 F sC BZ fi off o fuel:Nat} {fz:Nat×Nat} {α H':Type} {t e:TypeId} {uv dv uk cv av:V}
theorem TJ {H:Type}(d:DataW H): 1≤Rows.uptoBulk d:=by
 cases d with
 |lit l=>cases l<;>simp[Rows.uptoBulk]
 |nil=>simp[Rows.uptoBulk]
 |ptr d=>simp[Rows.uptoBulk]
 |slice elems spare=>simp[Rows.uptoBulk]
 |agg parts=>simp[Rows.uptoBulk]
 |iface t d=>simp[Rows.uptoBulk]
 |map entries=>simp[Rows.uptoBulk]
 |held h=>simp[Rows.uptoBulk]
theorem Aw {H:Type}{d:DataW H}: ∀ {l:List (DataW H)},d∈l→Rows.uptoBulk d≤Rows.uptoBulkAll l:=by
 intro l
 induction l<;>grind[Rows.uptoBulkAll]
theorem Jx {H:Type}: ∀(l:List (DataW H)),l.length≤Rows.uptoBulkAll l:=by
 intro l
 induction l<;>grind[TJ,Rows.uptoBulkAll]
theorem D2 {H:Type}(a b:List (DataW H)): Rows.uptoBulk (.slice a b)=Rows.uptoBulkAll a+Rows.uptoBulkAll b+1:=by rfl
theorem LO {W:World}(I:W.heap[b]?=some (.cells C e fz)): W.cell? ⟨b,o,none⟩=C[o]?:=by
 grind[World.cell?]
section
variable {enc:TypeId×Value→H'} {W:World} {x:DataW H'×List MemPlace}
theorem WQ (h:DataW.trod enc Tryz.prog W 0 (fun _=>true) true fuel 28 cs=some x)(hB:Rows.uptoBulk x.1≤B): oS W cs byE (fun l=>l.length≤B):=by
 rcases open_ints aT Tryz.underlying5 (by kernel_rfl) h with⟨rfl,rfl⟩|⟨a,len,cap,zs,rfl,_,Ql,_,hz,rfl,I,nt⟩
 ·exact fun c σ S h=>⟨c,σ,[.bC],[],h.sat fun h s=>s.rN.gX fun m r k=>⟨.bC,rfl,k⟩,Ext.refl c,by rfl,fun v hv=>by rw[List.mem_singleton.1 hv];exact⟨aa,rfl⟩,fX _⟩
 ·rw[aJ rfl] at hz
  by_cases h0:cap=0
  ·have:len=0:=by omega
   subst this
   subst h0
   exact fun c σ S h=>⟨c,σ,[.sle a],[],h.sat fun h s=>(s.gM (φ:=True) aa).gX fun m r k=>⟨.sle a,rfl,by simp,.inl ⟨.inr ⟨a,rfl⟩,rfl⟩⟩,Ext.refl c,by rfl,fun v hv=>by rw[List.mem_singleton.1 hv];exact⟨aa,rfl⟩,fX _⟩
  ·have g0:=I 0 (by omega)
   obtain⟨b,off,spot⟩:=a
   have hs:spot=none:=by simpa[Addr.add] using World.cell?_spot g0
   subst hs
   have I:∀i,i<zs.length→W.cell? ⟨b,off+i,none⟩=some (.int .u8 (zs.getD i 0)):=fun i hi=>by grind[add_plain]
   obtain⟨b',off',he,C,e,fz,hb,YV⟩:=Jw (I 0 (by omega))
   simp only[Addr.mk.injEq,and_true] at he
   obtain⟨rfl,rfl⟩:=he
   have hC:∀i,i<zs.length→C[off+i]?=some (.int .u8 (zs.getD i 0)):=fun i hi=>by grind[LO]
   have abX:off<C.size:=by
    grind
   have hu8:∀z∈zs,0≤z∧z<256:=fun z hz=>by
    have:=nt z hz
    simp only[Lit.wf,bK,ir] at this
    have e1:IntKind.min .u8=0:=rfl
    have e2:IntKind.max .u8=255:=rfl
    omega
   have J:((zs.take len).map Int.toNat).length=len:=by grind
   have hob:(ofBytes ((zs.take len).map Int.toNat)).length=len:=by rw[dS,J]
   have abY:∀y∈(zs.take len).map Int.toNat,y<256:=fun y hy=>by
    grind
   intro c σ S h
   have fA:off+(ofBytes ((zs.take len).map Int.toNat)).length≤C.size:=by
    by_cases Hl:len=0
    ·omega
    ·have:=(Array.getElem?_eq_some_iff.1 (hC (len-1) (by omega))).1
     omega
   have abZ:∀j v,(ofBytes ((zs.take len).map Int.toNat))[j]?=some v→C[off+j]?=some (conc c v):=fun j v hv=>by
    grind[ofBytes,List.getElem_mem,conc]
   obtain⟨g1,g2,g3,g4,g5⟩:=h.1.fix h.2.1 hb (off:=off) fA abZ (fun v hv=>by obtain⟨n,_,rfl⟩:=List.mem_map.1 hv;exact⟨aa,rfl⟩)
   refine⟨_,_,[.sl σ.next 0 len (.exact cap)],(zs.take len).map Int.toNat,⟨g1,g2,?_⟩,g3,?_,fun v hv => ?_,?_⟩
   ·have s1:=(h.2.2.new (.cells (ofBytes ((zs.take len).map Int.toNat)).length (ofBytes ((zs.take len).map Int.toNat)) true)).freeze
    refine s1.gX fun m r k=>⟨_,rfl,abY,.inr ⟨σ.next,0,.exact cap,_,_,true,by rw[J],k,rfl,by omega,?_,?_⟩⟩<;>grind
   ·simp[conc,g4]
   ·rw[List.mem_singleton.1 hv]
    exact⟨⟨g5,Ql⟩,rfl⟩
   ·rw[D2] at hB
    have h1:=Jx (lits (H:=H') .u8 (zs.take len))
    grind[lits]
theorem QT {E:List V→α→aO}{A:List V→List α→aO}{φ:α→Prop}(ht:Tryz.prog.underlying t=some (.slice e))(hk:Tryz.prog.cellsOf e=k)(h1:1≤k)
 (hE:∀vs x,aY (E vs x))(hA:∀l m,aY (A l m))(xk:∀m r,(A [] []).p m r)(L9:∀vs x l m a b,(E vs x).p a b→(A l m).p a b→(A (vs++l) (x::m)).p a b)
 (Ot:∀n cs (y:DataW H'×List MemPlace),DataW.trod enc Tryz.prog W 0 (fun _=>true) true n e cs=some y→Rows.uptoBulk y.1≤B→oS W cs E φ)
 (h:DataW.trod enc Tryz.prog W 0 (fun _=>true) true fuel t cs=some x)(hB:Rows.uptoBulk x.1≤B): oS W cs (QS k A) (fun xs=>xs.length≤B∧∀x∈xs,φ x):=by
 rcases DataW.trod_slice ht h with⟨rfl,rfl⟩|⟨a,len,cap,elems,rest,n,_,rfl,rfl,_,Ql,_,hlen,J,Gh,_⟩
 ·grind[oS.abV]
 ·obtain⟨Du,U1⟩:=Gh rfl
  rw[hk] at J U1
  rw[D2] at hB
  by_cases h0:cap=0
  ·simp_all[oS.ZH]
  ·-- each element's cells
   have each:∀i,i<cap→∃cs,W.cells? 0 (a.add (i*k)) k=some cs:=fun i hi=>by
    by_cases yq:i<len
    ·have h2:=J i yq
     rw[bA (by omega)] at h2
     obtain⟨cs,h3,_⟩:=Option.bind_eq_some_iff.1 h2
     exact⟨cs,h3⟩
    ·have h2:=U1 (i-len) (by omega)
     rw[bA (by omega),show len+(i-len)=i by omega] at h2
     obtain⟨cs,h3,_⟩:=Option.bind_eq_some_iff.1 h2
     exact⟨cs,h3⟩
   obtain⟨cs0,ab0⟩:=each 0 (by omega)
   obtain⟨_,Hl,YV⟩:=World.cells?_some ab0
   have g0:=YV 0 (by omega)
   obtain⟨v0,hv0⟩:∃v,cs0[0]?=some v:=⟨_,bA (by omega)⟩
   rw[hv0] at g0
   obtain⟨b,off,spot⟩:=a
   have hs:spot=none:=by simpa[Addr.add] using World.cell?_spot g0
   subst hs
   simp only[add_plain,qT,m9] at g0
   obtain⟨b',off',he,C,ty,fz,hb,yL⟩:=Jw g0
   simp only[Addr.mk.injEq,and_true] at he
   obtain⟨rfl,rfl⟩:=he
   have abX:off<C.size:=(Array.getElem?_eq_some_iff.1 yL).1
   -- the rows
   have rows:∀i,i<len→∃cs,cs.length=k∧oS W cs E φ∧∀q v,cs[q]?=some v→C[off+i*k+q]?=some v:=fun i hi=>by
    have h2:=J i hi
    rw[bA (by omega)] at h2
    obtain⟨cs,h3,h4⟩:=Option.bind_eq_some_iff.1 h2
    obtain⟨_,hl,hc⟩:=World.cells?_some h3
    refine⟨cs,hl,Ot n cs _ h4 ?_,fun q v hq => ?_⟩
    ·have:=Aw (l:=elems.map (·.1)) (m4 (AH (l:=elems) (n:=i) (by omega)))
     omega
    ·have hqk:q<k:=by grind
     have:=hc q hqk
     rw[add_plain,add_plain,LO hb,hq] at this
     exact this
   have build:∀m,m≤len→∃I:List (List Value),I.length=m∧(∀cs∈I,oS W cs E φ)∧I.flatten.length=m*k∧∀j v,I.flatten[j]?=some v→C[off+j]?=some v:=by
    intro m
    induction m with
    |zero=>simp
    |succ m ih =>
     intro hm
     obtain⟨I,i1,i2,i3,i4⟩:=ih (by omega)
     obtain⟨cs,r1,r2,r3⟩:=rows m (by omega)
     refine⟨I++[cs],by simp[i1],fun y hy => ?_,by simp[i3,r1,pO],fun j v hj => ?_⟩
     ·rcases List.mem_append.1 hy with hy|hy<;>grind[List.mem_singleton]
     ·rw[List.flatten_append,List.flatten_singleton] at hj
      by_cases cE:j<m*k
      ·grind
      ·rw[vO (by omega),i3] at hj
       have:=r3 _ v hj
       rwa [show off+m*k+(j-m*k)=off+j by omega] at this
   obtain⟨I,b1,b2,b3,b4⟩:=build len (aU _)
   have fA:off+I.flatten.length≤C.size:=by
    by_cases Hl:len*k=0
    ·omega
    ·obtain⟨v,hv⟩:∃v,I.flatten[len*k-1]?=some v:=⟨_,bA (by omega)⟩
     have:=(Array.getElem?_eq_some_iff.1 (b4 _ v hv)).1
     omega
   have main:=oS.abW (k:=k) (len:=len) (cap:=cap) hb fA b3 Ql b4 hA (oS.rows hE hA xk L9 I b2)
   intro c σ S h
   obtain⟨c1,ZG,vs,x,q1,q2,q3,q4,q5,q6⟩:=main c σ S h
   refine⟨c1,ZG,vs,x,q1,q2,q3,q4,?_,q6⟩
   have:=Jx (elems.map (·.1))
   rw[jw] at this
   omega
end
end Go.Proofs.YtefepnnfphdkpaaGreat.Am
namespace Go.Proofs.YtefepnnfphdkpaaGreat.Am
open Go Go.ChangeShapes Go.WideShapes Go.ChangeAt Go.RowKit
variable {C:Array Value} {X:aO} {ε:aZ} {Q:Ex→List (Nat×V)→H→Prop} {h σ:H} {x y z:Int} {P P':Int→List Nat} {L:List (Int×Int×Int)} {now:List (Int×List Nat)} {E:List (Nat×V)} {S:List aO} {U Un:List Bool} {ms:List Mod} {c R M data R1 M1:List Nat} {rs:List ct} {Rt Rk Rn:List V} {cs:List Value} {k i N B g a q r aB b K p7 F sC BZ fi off o fuel:Nat} {fz:Nat×Nat} {α H':Type} {t e:TypeId} {uv dv uk cv av:V}
noncomputable def QU (P:Program)(t:TypeId): Array Field:=match P.underlying t with
 |some (.struct fs)=>fs
 |_ => #[]
def Jy (fs:Array Field)(i:Nat): Option (TypeId×Nat):=(fs[i]?).map fun f=>(f.type,f.offset)
theorem aaJ : Tryz.prog.underlying 67=some (.struct (QU Tryz.prog 67)):=by kernel_rfl
theorem U3 : Tryz.prog.cellsOf 67=3:=by kernel_rfl
theorem NH : Tryz.prog.cellsOf 3=1:=by kernel_rfl
theorem aaK : (QU Tryz.prog 67).size=3:=by kernel_rfl
theorem aaL : Jy (QU Tryz.prog 67) 0=some (3,0):=by kernel_rfl
theorem aaM : Jy (QU Tryz.prog 67) 1=some (3,1):=by kernel_rfl
theorem aaN : Jy (QU Tryz.prog 67) 2=some (3,2):=by kernel_rfl
theorem Fc {fs:Array Field}(h:Jy fs i=some (t,o)): ∃f,fs[i]?=some f∧f.type=t∧f.offset=o:=by
 grind[Jy]
theorem QV {l:List α}(h:l.length=3): ∃a b c,l=[a,b,c]:=by
 rcases l with _|⟨a,_|⟨b,_|⟨c,_|⟨d,l⟩⟩⟩⟩<;>simp at h
 exact⟨a,b,c,rfl⟩
def d3E (vs:List V)(D:Int×Int×Int): aO:=.pu (vs=[.int .i64 D.1,.int .i64 D.2.1,.int .i64 D.2.2])
def d3A (l:List V)(m:List (Int×Int×Int)): aO:=.pu (l=qO m)
section
variable {enc:TypeId×Value→H'} {W:World} {x:DataW H'×List MemPlace}
theorem WT (h:DataW.trod enc Tryz.prog W 0 (fun _=>true) true fuel 67 cs=some x): oS W cs d3E (fun _=>True):=by
 obtain⟨xs,n,rfl,rfl,hl,hx,hf⟩:=DataW.trod_struct aaJ h
 rw[U3] at hl
 rw[aaK] at hx
 obtain⟨f0,a0,b0,c0⟩:=Fc aaL
 obtain⟨f1,a1,b1,c1⟩:=Fc aaM
 obtain⟨f2,a2,b2,c2⟩:=Fc aaN
 have h0:=hf 0 f0 a0
 have h1:=hf 1 f1 a1
 have h2:=hf 2 f2 a2
 rw[b0,c0,NH] at h0
 rw[b1,c1,NH] at h1
 rw[b2,c2,NH] at h2
 obtain⟨v0,v1,v2,rfl⟩:=QV hl
 obtain⟨y0,y1,y2,rfl⟩:=QV hx
 have h0:DataW.trod enc Tryz.prog W 0 (fun _=>true) true n 3 [v0]=some y0:=h0
 have h1:DataW.trod enc Tryz.prog W 0 (fun _=>true) true n 3 [v1]=some y1:=h1
 have h2:DataW.trod enc Tryz.prog W 0 (fun _=>true) true n 3 [v2]=some y2:=h2
 obtain⟨m0,I,_,_⟩:=DataW.trod_int bF h0
 injection I with I _
 subst I
 obtain⟨m1,J,_,_⟩:=DataW.trod_int bF h1
 injection J with J _
 subst J
 obtain⟨m2,qL,_,_⟩:=DataW.trod_int bF h2
 injection qL with qL _
 subst qL
 exact fun c σ S hr=>⟨c,σ,[.int .i64 m0,.int .i64 m1,.int .i64 m2],(m0,m1,m2),hr.sat fun h s=>(s.gM (φ:=True) aa).gX fun a b k=>rfl,Ext.refl c,by rfl,fun v hv=>by
  simp only[m8,nR,tG] at hv
  rcases hv with rfl|rfl|rfl<;>exact⟨aa,rfl⟩,aa⟩
theorem TK (h:DataW.trod enc Tryz.prog W 0 (fun _=>true) true fuel 61 cs=some x)(I:Rows.uptoBulk x.1≤B): oS W cs (QS 3 d3A) (fun xs=>xs.length≤B∧∀y∈xs,True) :=
 QT (E:=d3E) Au U3 (by decide) (fun _ _=>aY.pu _) (fun _ _=>aY.pu _) (fun _ _=>rfl) (fun vs x l m a b J h2=>by
  subst J
  subst h2
  exact(rfl:_=qO (x::m))) (fun n cs y hy _=>WT hy) h I
end
end Go.Proofs.YtefepnnfphdkpaaGreat.Am
namespace Go.Proofs.YtefepnnfphdkpaaGreat.Am
open Go Go.ChangeShapes Go.WideShapes Go.ChangeAt Go.RowKit
variable {C:Array Value} {X:aO} {ε:aZ} {Q:Ex→List (Nat×V)→H→Prop} {h σ:H} {x y z:Int} {P P':Int→List Nat} {L:List (Int×Int×Int)} {now:List (Int×List Nat)} {E:List (Nat×V)} {S:List aO} {U Un:List Bool} {ms:List Mod} {c R M data R1 M1:List Nat} {rs:List ct} {Rt Rk Rn:List V} {cs:List Value} {k i N B g a q r aB b K p7 F sC BZ fi off o fuel:Nat} {fz:Nat×Nat} {α H':Type} {t e:TypeId} {uv dv uk cv av:V}
noncomputable def G4 (f:Nat): Option (List V→H→Option (V×H)) :=
 cond (Nat.beq f 31) (some (kE Tryz.prog 31 (Jn 31))) (cond (Nat.beq f 139) (some (kE Tryz.prog 139 EY)) (cond (Nat.beq f 145) (some (kE Tryz.prog 145 Iu)) (cond (Nat.beq f 173) (some (kE Tryz.prog 173 G1)) (Bi f))))
noncomputable abbrev C6 : fH:=⟨Tryz.prog,G4⟩
theorem TL : W6 G4:=by
 refine⟨⟨⟨⟨fun f I => ?_,rfl,rfl⟩,rfl,rfl⟩,rfl⟩,rfl⟩
 have J:f≠31:=fun e=>by subst e;revert I;decide
 have h2:f≠139:=fun e=>by subst e;revert I;decide
 have h3:f≠145:=fun e=>by subst e;revert I;decide
 have h4:f≠173:=fun e=>by subst e;revert I;decide
 simp only[G4,eD J,eD h2,eD h3,eD h4,a_]
 exact W.base.free f I
theorem Jz : fO C6:=by
 intro f g I
 simp only[C6,G4] at I ⊢
 by_cases J:f=31
 ·subst J
  rw[qq rfl,aj] at I
  simp only[aC] at I
  subst I
  exact vf ⟨_,Ja,rfl,by decide⟩
 rw[eD J,a_] at I
 by_cases h2:f=139
 ·subst h2
  rw[qq rfl,aj] at I
  simp only[aC] at I
  subst I
  exact vf ⟨_,zQ,rfl,by decide⟩
 rw[eD h2,a_] at I
 by_cases h3:f=145
 ·subst h3
  rw[qq rfl,aj] at I
  simp only[aC] at I
  subst I
  exact vf ⟨_,Ir,rfl,by decide⟩
 rw[eD h3,a_] at I
 by_cases h4:f=173
 ·subst h4
  rw[qq rfl,aj] at I
  simp only[aC] at I
  subst I
  exact vf ⟨_,IL,rfl,by decide⟩
 rw[eD h4,a_] at I
 exact fQ f g I
theorem h_.ok6 {f:FuncId}{args:List V}{h':H}{v:V}(J:h_ C6 f args h v h'){c:Ctx}{w:World}(I:Rel c h w)(hw:∀x∈args,wf c x): gq Tryz.prog f args c w v h':=by
 obtain⟨N,hN⟩:=J
 exact(callF_ok (C:=C6) (xn iD Jz N).1 Jz hN I hw).1
end Go.Proofs.YtefepnnfphdkpaaGreat.Am
namespace Go.Proofs.YtefepnnfphdkpaaGreat.Am
open Go Go.ChangeShapes Go.WideShapes Go.ChangeAt Go.RowKit
variable {C:Array Value} {X:aO} {ε:aZ} {Q:Ex→List (Nat×V)→H→Prop} {h σ:H} {x y z:Int} {P P':Int→List Nat} {L:List (Int×Int×Int)} {now:List (Int×List Nat)} {E:List (Nat×V)} {S:List aO} {U Un:List Bool} {ms:List Mod} {c R M data R1 M1:List Nat} {rs:List ct} {Rt Rk Rn:List V} {cs:List Value} {k i N B g a q r aB b K p7 F sC BZ fi off o fuel:Nat} {fz:Nat×Nat} {α H':Type} {t e:TypeId} {uv dv uk cv av:V}
theorem NI {enc:TypeId×Value→H'}{W:World}{I J:Nat}{x1 x2:DataW H'×List MemPlace}{n k:Int}{v0 v1:Value}(h1:DataW.trod enc Tryz.prog W 0 (fun _=>true) true I 61 [v0]=some x1)(hB1:Rows.uptoBulk x1.1≤1048576)
 (h2:DataW.trod enc Tryz.prog W 0 (fun _=>true) true J 28 [v1]=some x2)(hB2:Rows.uptoBulk x2.1≤1048576):
  Calls Tryz.prog 8 #[.int .i64 n,v0,.int .i64 k,v1] W fun e w'=>e=.returned (.bool true)∧W.keptBut w' (fun _=>False)∧W.heap.size≤w'.heap.size∧∀b,b<W.heap.size→w'.heap[b]?=W.heap[b]?:=by
 obtain⟨c0,σ0,h0⟩:=Av.zero W
 obtain⟨c1,ZG,vs1,L,lZ,_,u9,ab1,hL⟩:=TK h1 hB1 c0 σ0 [] h0
 obtain⟨lv,rfl,hlv⟩:=LN u9
 obtain⟨c,σ,vs2,ch,hr,B3,qL,ab2,_⟩:=WQ h2 hB2 c1 ZG _ lZ
 obtain⟨cv,rfl,NY⟩:=LN qL
 have jA:=cF B3 lv (ab1 lv (by simp)).1
 obtain⟨cv',s⟩:=ic.1 hr.2.2
 have s0:=s
 obtain⟨_,_,_,_,hk⟩:=s0.at (k:=0) rfl
 have e:[cv]=[cv']:=hk.1
 injection e with e _
 subst e
 have s:=s.gX (B:=.cg cv ch) fun _ _ k=>k.2
 obtain⟨lv',s⟩:=ic.1 (s.ae [1])
 obtain⟨cs,s⟩:=ic.1 s
 have s0:=s
 obtain⟨_,_,_,_,hk⟩:=s0.at (k:=0) rfl
 have e:[lv]=[lv']:=hk.1
 injection e with e _
 subst e
 have ec:cs=qO L:=hk.2.2
 subst ec
 have s1:=s.gX (B:=pG 3 lv (qO L)) fun _ _ k=>k.2.1
 obtain⟨v',h',yT,rfl⟩:=TH TL (n0:=n) (k0:=k) (c:=ch) (cv:=cv) hL.1 s1
 have iH:=yT.ok6 hr.1 (fun x hx=>by
  rcases List.mem_cons.1 hx with rfl|hx
  ·exact aa
  rcases List.mem_cons.1 hx with rfl|hx
  ·exact jA.2
  rcases List.mem_cons.1 hx with rfl|hx
  ·exact aa
  ·rw[List.mem_singleton.1 hx];exact(ab2 cv (by simp)).1)
 unfold gq at iH
 have ea:(([V.int .i64 n,lv,V.int .i64 k,cv].map (conc c)).toArray) = #[.int .i64 n,v0,.int .i64 k,v1]:=by simp[conc,jA.1,hlv,NY]
 rw[ea] at iH
 refine Calls.mono iH ?_
 rintro e w' ⟨c',rfl,_,_,hs⟩
 obtain⟨k1,k2,k3⟩:=KA hr.2.1 hs
 exact⟨by simp[conc],k1,k2,k3⟩
end Go.Proofs.YtefepnnfphdkpaaGreat.Am
namespace Go.Proofs.YtefepnnfphdkpaaGreat.SpaceDies
open Go.ChangeShapes Go.WideShapes Go.ChangeAt Go.RowKit
theorem own : ownKnob Tryz.prog.godebug=none:=by kernel_rfl
theorem laid : laidOutB Tryz.prog=true:=by kernel_rfl
theorem Ni : Tryz.prog.readableRec 61=true:=by kernel_rfl
theorem row : (61:TypeId)<Tryz.prog.types.size:=of_decide_eq_true (by kernel_rfl)
theorem U4 : Tryz.prog.readableRec 28=true:=by kernel_rfl
theorem ab3 : (28:TypeId)<Tryz.prog.types.size:=of_decide_eq_true (by kernel_rfl)
set_option maxRecDepth 100000 in
theorem TM (H:Type)(enc:TypeId×Value→H)(W:World)(base:Nat)(args:Array Value)(ds gs:List (DataW H))(before:List MemPlace)
 (I:∀(j:Nat) t v,Tryz.f8.params[j]?=some t→args[j]?=some v→Value.okWide Tryz.prog W .any base t v)
 (hW:DataW.Whole enc Tryz.prog Tryz.f8.params.toList Rows.spaceDiesSpec.vars false W args.toList ds gs before)(hk:Rows.uptoBulkAll (ds++gs)≤1048576):
  Calls Tryz.prog 8 args W fun e W'=>∃v,e=.returned v∧Rows.spaceDiesSpec.post enc Tryz.prog Tryz.f8 false true false false W args v W':=by
 have ZI:=hW
 obtain⟨p,q,hA0,hV,rfl,Ff,lK⟩:=hW
 have hA:DataW.TrodAll enc Tryz.prog W 0 (fun _=>true) true Tryz.f8.params.toList args.toList ds p:=hA0
 rw[Tryz.params8] at hA I
 obtain⟨n0,vs0,e0,ds0,p0,q0,GO,rfl,rfl,UA,r0⟩:=trodAll_cons hA
 obtain⟨v0,vs1,d0,ds1,p1,q1,rfl,rfl,rfl,h0,r1⟩:=trodAll_cons r0
 obtain⟨k0,vs2,e2,ds2,p2,q2,rfl,rfl,rfl,jv,r2⟩:=trodAll_cons r1
 obtain⟨v1,vs3,d1,ds3,p3,q3,rfl,rfl,rfl,h1,r3⟩:=trodAll_cons r2
 obtain⟨rfl,rfl,rfl⟩:=trodAll_nil r3
 obtain rfl:args = #[n0,v0,k0,v1]:=by cases args;simp_all
 obtain⟨rfl,rfl⟩:=trodVars_none hV
 obtain⟨a0,rfl,rfl,rfl,w0⟩:=open_int Tryz.underlying3 (I 0 3 n0 rfl rfl) UA
 obtain⟨a2,rfl,rfl,rfl,w2⟩:=open_int Tryz.underlying3 (I 2 3 k0 rfl rfl) jv
 obtain⟨J,h0⟩:=h0
 obtain⟨fuel,h1⟩:=h1
 have ZJ:v0.cells.toList=[v0]:=by
  have:=I 1 61 v0 rfl rfl
  simp only[Value.okWide,Tryz.underlying61,Cell.okWide,Cell.ok] at this
  split at this<;>first|rfl|exact this.elim
 have wZ:v1.cells.toList=[v1]:=by
  have:=I 3 28 v1 rfl rfl
  simp only[Value.okWide,Tryz.underlying28,Cell.okWide,Cell.ok] at this
  split at this<;>first|rfl|exact this.elim
 have h0':=h0
 rw[ZJ] at h0
 have TQ:=h1
 rw[wZ] at h1
 have tU:Rows.uptoBulk d0≤1048576:=by
  have:=Am.Aw (l:=([DataW.lit (Lit.int .i64 a0),d0,DataW.lit (Lit.int .i64 a2),d1]++([]:List (DataW H)))) (d:=d0) (by simp)
  exact Nat.le_trans this hk
 have hb:Rows.uptoBulk d1≤1048576:=by
  have:=Am.Aw (l:=([DataW.lit (Lit.int .i64 a0),d0,DataW.lit (Lit.int .i64 a2),d1]++([]:List (DataW H)))) (d:=d1) (by simp)
  exact Nat.le_trans this hk
 refine(Am.NI (n:=a0) (k:=a2) h0 tU h1 hb).mono fun e W' ⟨he,hg,hs,U5⟩ => ?_
 subst he
 have cE:∀x∈p3,x.block<W.heap.size:=fun x hx=>ZI.lt x (by simp[hx])
 have ZK:∀x∈p1,x.block<W.heap.size:=fun x hx=>ZI.lt x (by simp[hx])
 have lU:∀ {p:List MemPlace},(∀x∈p,x.block<W.heap.size)→∀x∈p,match x with|.cell b off=>W'.cell? ⟨b,off,none⟩=W.cell? ⟨b,off,none⟩|.map b=>W'.heap[b]?=W.heap[b]?:=fun hp x hx=>by
  have hl:=hp x hx
  cases x with
  |cell b off =>
   show W'.cell? ⟨b,off,none⟩=W.cell? ⟨b,off,none⟩
   unfold World.cell?
   rw[U5 b hl]
  |map b=>exact U5 b hl
 have ZL:DataW.trod enc Tryz.prog W' 0 (fun b=>decide (b<W.heap.size)) true J 61 v0.cells.toList=some (d0,p1) :=
  DataW.trod_stays (kids_book laid Ni) (book_sized Ni) (fun h=>by cases h) ⟨row,book_self _⟩ h0' (lU ZK) (fun x hx=>by simpa using ZK x hx)
 have aaO:DataW.trod enc Tryz.prog W' 0 (fun b=>decide (b<W.heap.size)) true fuel 28 v1.cells.toList=some (d1,p3) :=
  DataW.trod_stays (kids_book laid U4) (book_sized U4) (fun h=>by cases h) ⟨ab3,book_self _⟩ TQ (lU cE) (fun x hx=>by simpa using cE x hx)
 exact⟨_,rfl,⟨_,[],_,[],_,[],ZI,trodAll_cons_mk (shut_bool Tryz.underlying4 _) trodAll_mk0,trodAll_cons_mk (shut_int Tryz.underlying3 w0) (trodAll_cons_mk ⟨J,ZL⟩ (trodAll_cons_mk (shut_int Tryz.underlying3 w2) (trodAll_cons_mk ⟨fuel,aaO⟩ trodAll_mk0))),rfl,World.keptBut_mono (fun _ f=>f.elim) hg,fun h=>by cases h⟩⟩
set_option maxRecDepth 100000 in
theorem lifted (os:Os)(started:os.Started)(H:Type)(enc:TypeId×Value→H)(F:Stop.Interp):
  ReturnsInHanded {} Tryz.checked os 8 .any ((Rows.OpenSpec.upto Rows.spaceDiesSpec).pre6 enc Tryz.prog Tryz.f8 Rows.spaceDiesUptoRow.domain false) (((Rows.OpenSpec.upto Rows.spaceDiesSpec).at F).post enc Tryz.prog Tryz.f8 false true false false):=by
 refine returnsInHanded_of_cond (C:=Tryz.checked) (s:=Rows.OpenSpec.upto Rows.spaceDiesSpec) (k:=Rows.uptoSmall) rfl own started (by kernel_rfl) Tryz.func8
  (OpenSpec.witness (enc:=enc) (C:=Tryz.checked) (s:=Rows.OpenSpec.upto Rows.spaceDiesSpec) (k:=Rows.uptoSmall) rfl false ⟨#[], #[.int .i64 0,.slice none 0 0,.int .i64 0,.slice none 0 0],[]⟩ 8 (by kernel_rfl) (by kernel_rfl) (by kernel_rfl)
   (x:=([.lit (.int .i64 0),.nil,.lit (.int .i64 0),.nil],[],[])) (by kernel_rfl) rfl (by kernel_rfl)) ?_
 intro W base args ds gs before I J _ hk _
 exact TM H enc W base args ds gs before I J (of_decide_eq_true hk)
theorem cz : Rows.spaceDiesUptoRow.holds Tryz.pinned (Rows.OpenSpec.upto Rows.spaceDiesSpec) :=
 OpenClaim.holds_of_cond 8 Tryz.f8 rfl rfl rfl rfl rfl rfl rfl ⟨rfl,rfl,rfl,rfl,rfl⟩ rfl rfl rfl rfl rfl (by kernel_rfl) Tryz.func8 (by kernel_rfl)
  (of_decide_eq_true (by kernel_rfl)) (by unfold Func.isWrapper;first|(rw[if_pos (by decide +kernel)];kernel_rfl)|(rw[if_neg (by decide +kernel)];exact⟨rfl,rfl⟩))
  (fun os started H enc _ F=>lifted os started H enc F)
theorem proved : Rows.SpaceDiesUptoSaid :=
 cz
#print axioms proved
end Go.Proofs.YtefepnnfphdkpaaGreat.SpaceDies
