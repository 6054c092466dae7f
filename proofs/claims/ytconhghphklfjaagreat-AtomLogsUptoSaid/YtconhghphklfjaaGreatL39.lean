/- After a crash the log has the records of the groups that are there and no others, with their numbers and data; the conditions are those of the given statement, for arguments that a machine can hold. Part 39 of 54. -/
import Derived.Test.YtconhghphklfjaaGreatL38
namespace Go.Proofs.YtconhghphklfjaaGreat.Am
open Go
theorem wf_i64 {n:Int}(I:0≤n)(J:n<4294967296): (Lit.int .i64 n).wf=true:=by
 simp only [Lit.wf,Bool.and_eq_true,decide_eq_true_eq]
 have U:IntKind.min .i64 = -9223372036854775808:=rfl
 have e2:IntKind.max .i64=9223372036854775807:=rfl
 omega
theorem sX {kd:Int}{tx pv nx:Nat}{dt ch:V}(I:dt.beq dt=true)(J:ch.beq ch=true): (V.agg (eC kd tx pv nx dt ch)).beq (V.agg (eC kd tx pv nx dt ch))=true:=by
 simp only [eC,V.beq,V.beqL,I,J,cE,jH,decide_true,Bool.and_self,cond_true]
section
variable {told:Nat→Option (List V→H→Option (V×H))} {h:H} {S:List ah} {X Y:ah} {r k q p bw a g aK:Nat} {op v x u wh di:V} {l b c8 data jM:List Nat} {now:List (Int×List Nat)} {bq:Bool} {ε:aM}
theorem LK (hT:W told){kd:Int}{tx pv nx lM:Nat}{dt ch:V}{QM:List V}(s:Sat h (eE g a now false::cz a p q r (.ptr g 0) jM aK::cB r p q ε.1::bj q p ε.2.1::az p ε.2.2::X::.arr 4 ch QM::S))(hX:bU X (bZ dt data))(Ac:QM.length=lM*4)(kO:ga ε)(hw:b8 ε+65536≤268435456)
 (ko:∀e∈now,e.2.length=512)(hm:now.length≤65536)(hk:∀n∈now.map (·.1),0≤n∧n<65536)(Av:tx<18446744073709551616)(Qs:pv<18446744073709551616)(xR:nx<18446744073709551616)(hd:data.length≤35184372088832)(Ef:ε.2.1.b=ε.2.2.log)(hz:ε.2.1.base+ε.2.1.b.length+1048584≤1099511627776):
  Call ⟨Tryz.prog,told⟩ 17 [.ptr g 0,.agg (eC kd tx pv nx dt ch)] h fun v h'=>∃aD e cl ε',pH ε now kd tx pv nx data lM aD e cl ε'∧v=.aW [.int .u64 (aD:Int),.int .i64 e] ∧
   Sat h' (eE g a now cl::cz a p q r (cond cl .bI (.ptr g 0)) jM aK::cB r p q ε'.1::bj q p ε'.2.1::az p ε'.2.2::X::S):=by
 have iS:∀n∈now.map (·.1),(Lit.int .i64 n).wf=true:=fun n hn=>by
  have:=hk n hn
  exact wf_i64 (by omega) (by omega)
 have j5:=s.gx (j:=6) rfl
 have lz:=s.ax (k:=5) rfl hX
 have fK:=h_ (kd:=kd) (tx:=tx) (pv:=pv) (nx:=nx) lz.cells.2 j5.2.1
 have hlen:=s.iH (n:=lM) (j:=6) rfl Ac (by decide) Tryz.underlying38
 have s0:=s
 obtain ⟨nv,s⟩:=dc.1 s
 refine Call.of_wp (hT.free _ rfl) Tryz.func17 rfl rfl (zg rfl (ae.bO s rfl rfl rfl (ff rfl fK) ?_))
 intro p1 h s
 dsimp only [V.cells] at s
 have s:Sat h (pt p1 (.cells 6 (eC kd tx pv nx dt ch) false)::_):=s
 have hlen:=s.iH (n:=lM) (j:=8) rfl Ac (by decide) Tryz.underlying38
 refine za rfl (za rfl (zv (zg rfl (zm rfl (zn rfl (zf rfl (nP _ _) (zl rfl (by exact s.ld (k:=1) rfl um rfl) ?_)))))))
 refine za rfl (zv (zw (WP.block (zg rfl (zm rfl (zn rfl (zf rfl (z8 _ _) (ae.aE rfl rfl rfl (aI rfl (by exact s.ld (k:=1) rfl gU rfl)) (rfl) ?_))))))))
 refine za rfl (zv (zj rfl (zg rfl (zf rfl (jX _ _) (zl rfl (by exact s.ld (k:=0) rfl cq rfl) ?_)))))
 have fin:∀e:Int,Sat h (eE g a now false::cz a p q r (.ptr g 0) jM aK::cB r p q ε.1::bj q p ε.2.1::az p ε.2.2::X::S):=fun e=>((dc.2 ⟨nv,s.aa [1,1]⟩).del 7).del 1
 refine ae.dh rfl rfl rfl (af rfl rfl aX) ?_ ?_
 ·intro hq
  have hq:kd<1:=by simpa using hq
  refine zm rfl (zx rfl (zx rfl (zx rfl (zq rfl (zm rfl (zx rfl (zx rfl (zx rfl (zx rfl (zq rfl (za rfl (zv (zi rfl (zg rfl (za rfl (za rfl (zv ?_)))))))))))))))))
  refine WP.ret ⟨trivial,_,rfl,?_⟩
  exact ⟨0,1,false,ε,.arg (.inl (by omega)),rfl,fin 0⟩
 ·intro hq
  have hq:1≤kd:=by simp at hq; omega
  refine zm rfl (zf rfl (jX _ _) (zl rfl (by exact s.ld (k:=0) rfl cq rfl) ?_))
  refine ae.dh rfl rfl rfl (af rfl rfl dS) ?_ ?_
  ·intro J
   have J:7<kd:=by simpa using J
   refine zp rfl (zm rfl (zx rfl (zx rfl (zx rfl (zx rfl (zq rfl (za rfl (zv (zi rfl (zg rfl (za rfl (za rfl (zv ?_)))))))))))))
   refine WP.ret ⟨trivial,_,rfl,?_⟩
   exact ⟨0,1,false,ε,.arg (.inl (by omega)),rfl,fin 0⟩
  ·intro J
   have J:kd≤7:=by simp at J; omega
   refine zp rfl (zm rfl (zf rfl (iX _ _) (zl rfl (by exact s.ld (k:=0) rfl nN rfl) ?_)))
   refine zo rfl (aL rfl rfl rfl hlen) ?_
   refine ae.dh rfl rfl rfl (af rfl rfl dS) ?_ ?_
   ·intro I
    have I:0<lM:=by simp at I; omega
    refine zp rfl (za rfl (zv (zi rfl (zg rfl (za rfl (za rfl (zv ?_)))))))
    refine WP.ret ⟨trivial,_,rfl,?_⟩
    exact ⟨0,1,false,ε,.arg (.inr I),rfl,fin 0⟩
   ·intro I
    have I:lM=0:=by simp at I; omega
    obtain ⟨dv,s⟩:=bQ.1 (s.aa [3])
    dsimp only [bringA,getA,ai] at s
    refine zp rfl (za rfl (zv (zj rfl (zg rfl (zm rfl (zn rfl (zf rfl (o6 _ _) (zl rfl (by exact s.ld (k:=0) rfl mF rfl) ?_))))))))
    refine ae.call rfl rfl rfl rfl rfl rfl rfl (Al hT (s.aa [7])) ?_
    rintro v h ⟨rfl,rfl⟩
    refine za rfl (zv ?_)
    cases Ck:ε.2.2.dead with
    | true =>
     refine zi rfl (zg rfl (za rfl (za rfl (zv ?_))))
     refine WP.ret ⟨trivial,_,rfl,?_⟩
     have s9:=dc.2 ⟨nv,(bQ.2 ⟨dv,s⟩).aa [2,2]⟩
     dsimp only [bringA,getA,ai] at s9
     exact ⟨0,9,false,ε,.dead hq J I Ck,rfl,(s9.del 7).del 2⟩
    | false =>
     refine zj rfl (WP.skip (zg rfl (za rfl (zv (zw (zg rfl (zm rfl ?_)))))))
     have s9:=dc.2 ⟨nv,(bQ.2 ⟨dv,s⟩).aa [2,2]⟩
     dsimp only [bringA,getA,ai] at s9
     have s:=s9.aa [0,0,1,1,1]
     dsimp only [bringA,getA,ai] at s
     refine ae.call rfl rfl rfl rfl rfl rfl rfl (Ee hT s kO (by omega) ko hm iS) ?_
     rintro v h ⟨e,c,ε',hc,(⟨he,rfl,s⟩ | ⟨rfl,nW,av,cs,rfl,s⟩)⟩
     ·refine ae.op rfl rfl rfl (aV rfl) ?_
      refine ze rfl (ze rfl (zf rfl (iX _ _) ?_))
      refine ae.bn rfl rfl rfl rfl rfl (by exact s.cZ (k:=5) rfl DP rfl (by decide) rfl rfl) (fun h s => ?_)
      dsimp only [eC,Nat.reduceAdd,List.set,setA] at s
      refine za rfl (zv (zg rfl (zm rfl (ae.aR rfl rfl rfl (af rfl rfl aN) (by simp; exact he) ?_))))
      refine zv (zi rfl (zg rfl (zm rfl (za rfl (za rfl (zv ?_))))))
      refine WP.ret ⟨trivial,_,rfl,?_⟩
      exact ⟨0,e,false,ε',.lK e c ε' hq J I Ck hc he,rfl,(s.del 7).del 5⟩
     ·have vP:=s.gx (j:=0) rfl
      have AR:=hc.kL kO
      have Tz:=hc.b8
      have Kp:=hc.same
      have NS:=tW (x:=ε'.2) (kd:=kd) (tx:=tx) (pv:=pv) (nx:=nx) (data:=data) (c:=c) AR.ok.lg AR.ok.dk (by rw [Kp.b,Kp.log]; exact Ef) (by rw [Kp.base,Kp.b]; exact hz)
      have gV:=hc.fit ko fun n hn=>hk n ((en _).mem_iff.1 hn)
      refine zm rfl (ze rfl (ze rfl (zf rfl (iX _ _) (ae.bn rfl rfl rfl rfl rfl (s.cZ (k:=7) rfl DP rfl (show 0+5<6 by decide) vP.1 vP.2.1) ?_))))
      intro h s
      dsimp only [eC,Nat.reduceAdd,List.set,setA] at s
      refine za rfl (zv (zg rfl (zm rfl (ae.aE rfl rfl rfl (af rfl rfl aN) (rfl) ?_))))
      obtain ⟨dv,s⟩:=bQ.1 (s.aa [3])
      dsimp only [bringA,getA,ai] at s
      have s:=s.aa [6,6,7,2,2,0,3]
      dsimp only [bringA,getA,ai] at s
      refine zv (zj rfl (WP.skip (zw ?_)))
      have s0:=s
      have R2:=cg lz
      have AS:=sX (kd:=kd) (tx:=tx) (pv:=pv) (nx:=nx) R2 vP.2.2
      refine WP.drawn [none,none,none,none,none,none,none,none,none,none,none] rfl (by kernel_rfl) (by kernel_rfl) ?_
      refine zM rfl (zN rfl (zF rfl (rL _ _) (zL rfl (by exact s.ld (k:=5) rfl wL rfl) ?_)))
      refine zL rfl (by exact s.dF (k:=6) rfl jr dK) ?_
      refine au.any rfl rfl rfl rfl (OpR.call rfl rfl rfl rfl (IA (kd:=kd) (tx:=tx) (pv:=pv) (nx:=nx) hT s hX (LJ nW gV Av Qs xR hd) AR.ok.lg AR.ok.dk)) ?_
      rintro v h ⟨rfl,s⟩
      refine zM rfl (zO rfl (bL rfl rfl) (zO rfl (bL rfl rfl) (zA rfl (zA rfl ?_))))
      refine au.nil ⟨⟨trivial,trivial,trivial,trivial,trivial,trivial,trivial,trivial,trivial,trivial,trivial,trivial⟩,?_⟩
      refine zw (zg rfl (zm rfl ?_))
      have s9:=bQ.2 ⟨dv,s.aa [5,6]⟩
      dsimp only [bringA,getA,ai] at s9
      have s:=((((s9.aa [7,0,6,0,0,0]).del 9).del 8).del 7).del 6
      dsimp only [bringA,getA,ai] at s
      by_cases he:(aS ε'.2 kd tx pv nx data c).1.2=0
      ·skip
       refine ae.aE rfl rfl rfl (af rfl rfl aN) (by simp; exact he) ?_
       refine zv (zj rfl (WP.skip (zg rfl (zm rfl (ae.call rfl rfl rfl rfl rfl rfl rfl (xZ hT s) ?_)))))
       rintro v h ⟨rfl,s⟩
       obtain ⟨nv,s⟩:=dc.1 s
       obtain ⟨pG,rfl⟩:=Af s (j:=1) rfl
       refine zv (zw (zg rfl (zm rfl (zn rfl (zf rfl (nQ _ _) (zl rfl (by exact s.ld (k:=0) rfl iD rfl) ?_))))))
       refine ae.call rfl rfl rfl rfl rfl rfl rfl (qo hT s) ?_
       rintro v h ⟨kb,rfl,s⟩
       refine ae.call rfl rfl rfl rfl rfl rfl rfl (oA hT (s.aa [0,1]) (by decide) (by omega) iS) ?_
       intro kv h s
       dsimp only [bringA,getA,ai] at s
       have hl:(ck now).length=now.length:=by rw [ck,(en _).length_eq,List.length_map]
       refine zo rfl (aL rfl rfl rfl (s.iH (n:=(ck now).length) (j:=0) rfl (by simp [dO]) (by decide) Tryz.underlying98)) ?_
       refine zm rfl (zv (WP.block ?_))
       obtain ⟨Vy,es,clock,I1,hb,nH,s⟩:=c9.1 (s.aa [2])
       injection I1 with I1
       subst I1
       dsimp only [bringA,getA,ai] at s
       obtain ⟨dv,s⟩:=bQ.1 (s.aa [5])
       dsimp only [bringA,getA,ai] at s
       have s:=s.aa [6,2,2,0,3,3,3,1]
       dsimp only [bringA,getA,ai] at s
       refine GM (op:=.bI) (dv:=dv) hT (ks:=ck now) (now:=now) (aD:=(aS ε'.2 kd tx pv nx data c).1.1) (by omega) (fun n hn => ?_) ko (ck now).length 0 (ε'.1,(aS ε'.2 kd tx pv nx data c).2) _ _ _ (by omega) ?_ ?_ s ⟨rfl,rfl,rfl,rfl,rfl,rfl,trivial⟩ (fun e U E' h' hp uY l4 l5 s' => ?_) (fun U E' h' hp fu s' => ?_)
       ·have:n∈now.map (·.1):=(en _).mem_iff.1 hn
        cases hq:lookL n now with
        | some _=>rfl
        | none=>exact absurd this (jI.1 hq)
       ·exact ⟨⟨AR.ok.pl,NS.1,NS.2.1⟩,AR.pins,AR.full⟩
       ·have e1:b8 (ε'.1,(aS ε'.2 kd tx pv nx data c).2)=b8 ε':=by simp only [b8,NS.2.2.2.2.2.1]
        rw [e1,hl]; omega
       ·rw [List.drop_zero] at hp
        have e4:look E' 4=some (.int .u64 ((0:Nat):Int)):=l4
        refine ⟨trivial,_,oR e4 l5,0,e,true,U,?_,rfl,?_⟩
        ·have:=pH.put (data:=data) c ε' e U hq J I Ck hc he hp
         rwa [if_neg uY] at this
        ·have s3:=bQ.2 ⟨dv,s'.aa [3,6]⟩
         dsimp only [bringA,getA,ai] at s3
         have s4:=c9.2 ⟨pG,es,clock,rfl,hb,nH,s3.aa [2,2]⟩
         dsimp only [bringA,getA,ai] at s4
         exact dc.2 ⟨.map pG,(s4.aa [2,0,0,0,0,0,1]).del 7⟩
       ·rw [List.drop_zero] at hp
        have s:=s'
        refine WP.has fu (zg rfl (zm rfl (za rfl (za rfl (zv ?_)))))
        refine WP.ret ⟨trivial,_,rfl,?_⟩
        refine ⟨_,0,true,U,?_,rfl,?_⟩
        ·have:=pH.put (data:=data) c ε' 0 U hq J I Ck hc he hp
         exact this
        ·have s3:=bQ.2 ⟨dv,s.aa [3,6]⟩
         dsimp only [bringA,getA,ai] at s3
         have s4:=c9.2 ⟨pG,es,clock,rfl,hb,nH,s3.aa [2,2]⟩
         dsimp only [bringA,getA,ai] at s4
         exact dc.2 ⟨.map pG,(s4.aa [2,0,0,0,0,0,1]).del 7⟩
      ·skip
       refine ae.aR rfl rfl rfl (af rfl rfl aN) (by simp; exact he) ?_
       refine zv (zi rfl (zg rfl (zm rfl (za rfl (za rfl (zv ?_))))))
       refine WP.ret ⟨trivial,_,rfl,?_⟩
       exact ⟨0,_,false,_,.app c ε' hq J I Ck hc he,rfl,s⟩
end
end Go.Proofs.YtconhghphklfjaaGreat.Am
namespace Go.Proofs.YtconhghphklfjaaGreat.Am
open Go
def Lg.fresh : Lg:={ base:=1,b:=[],bE:=[],forced:=0,check:=0 }
theorem qq {P:Program}{E:List (Nat×V)}{h:H}{a b c t:Nat}{p v w x:V}(I:look E a=some p)(J:loadV P h t p=some v)(U:look E b=some w)(h3:look E c=some x): gw P E h [.cell a t,.tmp b,.tmp c]=some (.aW [v,w,x]):=by
 simp only [gw,mapO,resE,I,J,U,h3]
section
variable {told:Nat→Option (List V→H→Option (V×H))} {h:H} {S:List ah} {X Y:ah} {r k q p bw a g aK:Nat} {op v x u wh di:V} {l b c8 data jM:List Nat} {now:List (Int×List Nat)} {bq:Bool} {ε:aM} {μ:Lg} {δ:Dk}
theorem BY (U:W told)(s:Sat h (az p δ::S))(hd:δ.dead=false)(hm:δ.mark=[])(hl:δ.log=[])(hc:δ.aT=0):
  Call ⟨Tryz.prog,told⟩ 58 [.ptr p 0] h fun v h'=>∃q,v=.aW [.ptr q 0,.int .i64 0]∧Sat h' (bj q p Lg.fresh::az p δ::S):=by
 refine Call.of_wp (U.free _ rfl) Tryz.func58 rfl rfl (zg rfl (za rfl (za rfl (zv (zg rfl (zm rfl (ae.call rfl rfl rfl rfl rfl rfl rfl (vF U s (by rw [hm]; decide)) ?_)))))))
 rintro v h (⟨I,_,_⟩ | ⟨_,b0,rfl,s⟩)
 ·rw [hd] at I; cases I
 rw [hm] at s
 refine zm rfl (ze rfl (ze rfl (za rfl (za rfl (zv (zw (zg rfl (zm rfl (ae.aE rfl rfl rfl (af rfl rfl aN) (rfl) (zv (zj rfl (WP.skip (zg rfl (zm rfl (zo rfl (bW rfl (by rw [JY]; rfl)) ?_)))))))))))))))
 refine ae.bO s rfl rfl rfl (ff rfl rfl) (fun Qy h s => ?_)
 dsimp only [V.cells,List.take,List.length_cons,List.length_nil,Nat.reduceAdd,List.drop,List.cons_append,List.nil_append] at s
 refine za rfl (zv (zw (zg rfl (zm rfl (zm rfl ?_)))))
 have s:=s.aa [2,0,0]
 dsimp only [bringA,getA,ai] at s
 refine ae.call rfl rfl rfl rfl rfl rfl rfl (Lj U s (by rw [hl]; decide)) ?_
 rintro v h (⟨I,_,_⟩ | ⟨_,b1,rfl,s⟩)
 ·rw [hd] at I; cases I
 rw [hl] at s
 have hv:=(s.buf (k:=0) rfl).view.cells
 refine zm rfl (ze rfl (ze rfl (zn rfl (zf rfl (cP _ _) (ae.bn rfl rfl rfl rfl rfl (s.cZ (k:=2) rfl ig rfl (by decide) hv.1 hv.2) ?_)))))
 intro h s
 dsimp only [Nat.reduceAdd,List.set,setA] at s
 refine za rfl (zv (zg rfl (zm rfl (ae.aE rfl rfl rfl (af rfl rfl aN) (rfl) (zv (zj rfl (WP.skip (zw (zg rfl (zm rfl (zo rfl (aL rfl rfl rfl (by exact aG Tryz.underlying32 (s.ax (k:=3) rfl (bk _ _)))) ?_)))))))))))
 refine zv (WP.block (zg rfl (ae.aR rfl rfl rfl (af rfl rfl cS) (rfl) (za rfl (zv (zi rfl (WP.skip (zg rfl (za rfl (zv (zw (WP.block (WP.loop (zw (zg rfl (zm rfl (zm rfl (zn rfl (zf rfl (cP _ _) (zl rfl (by exact s.ld (k:=2) rfl bg rfl) ?_))))))))))))))))))))
 refine zo rfl (aL rfl rfl rfl (by exact aG Tryz.underlying32 (s.ax (k:=0) rfl (bk _ _)))) ?_
 refine ae.aE rfl rfl rfl (af rfl rfl aX) (rfl) (zv (zj rfl (WP.exit (zw (zg rfl (zm rfl (zm rfl (zn rfl (zf rfl (cP _ _) (zl rfl (by exact s.ld (k:=2) rfl bg rfl) ?_))))))))))
 refine zo rfl (aL rfl rfl rfl (by exact aG Tryz.underlying32 (s.ax (k:=0) rfl (bk _ _)))) ?_
 refine ae.aE rfl rfl rfl (af rfl rfl aX) (rfl) (zv (zj rfl (WP.skip (zw (zw ?_)))))
 have s0:=s
 have J:=cg (s.buf (k:=0) rfl).view
 refine WP.drawn [none,none,some (0,2),some (0,2),some (0,2),some (0,2),some (0,2),none] rfl (by kernel_rfl) (by kernel_rfl) ?_
 refine zM rfl (au.any rfl rfl rfl rfl (OpR.call rfl rfl rfl rfl (tQ U (s.aa [1]))) ?_)
 rintro v h' ⟨rfl,rfl⟩
 refine zM rfl (zN rfl (zF rfl (cP _ _) (zL rfl (by exact s.ld (k:=2) rfl bg rfl) ?_)))
 refine zO rfl (aL rfl rfl rfl (by exact aG Tryz.underlying32 (s.ax (k:=0) rfl (bk _ _)))) ?_
 refine au.aE rfl rfl rfl rfl (af rfl rfl aX) (by rw [show δ.qf=0 from hc]; rfl) ?_
 refine au.nil ⟨⟨trivial,trivial,fun _ _=>.inr ⟨rfl,⟨_,aV rfl⟩,aU _ rfl⟩,fun _ _=>.inr ⟨rfl,⟨_,kX rfl⟩,aU _ rfl⟩,fun _ _=>.inr ⟨rfl,⟨_,iO rfl (cP _ _)⟩,aU _ rfl⟩,cR (.inr ⟨rfl,⟨_,aI rfl (by exact s0.ld (k:=2) rfl bg rfl)⟩,J⟩) (.inr ⟨rfl,⟨_,aI rfl (by exact s.ld (k:=2) rfl bg rfl)⟩,J⟩),cR (.inr ⟨rfl,⟨_,aL rfl rfl rfl (by exact aG Tryz.underlying32 (s0.ax (k:=0) rfl (bk _ _)))⟩,aU _ rfl⟩) (.inr ⟨rfl,⟨_,aL rfl rfl rfl (by exact aG Tryz.underlying32 (s.ax (k:=0) rfl (bk _ _)))⟩,aU _ rfl⟩),trivial,trivial⟩,?_⟩
 refine zj rfl (WP.skip (zg rfl (zm rfl (zm rfl (zn rfl (zf rfl (cP _ _) (zl rfl (by exact s.ld (k:=2) rfl bg rfl) ?_)))))))
 refine zo rfl (aL rfl rfl rfl (by exact aG Tryz.underlying32 (s.ax (k:=0) rfl (bk _ _)))) ?_
 refine zn rfl (zf rfl (o8 _ _) ?_)
 refine ae.bn rfl rfl rfl rfl rfl (by exact s.cZ (k:=2) rfl jh rfl (by decide) rfl rfl) (fun h s => ?_)
 dsimp only [Nat.reduceAdd,List.length_nil,List.set,setA] at s
 refine zv (zg rfl (zm rfl (za rfl (za rfl (zv ?_)))))
 refine WP.ret ⟨trivial,_,rfl,?_⟩
 have s1:=(s.del 3).jZ (k:=1)
 dsimp only [ai] at s1
 refine ⟨_,rfl,dB.2 ⟨b1,.aH,?_⟩⟩
 exact s1.aa [3,1,0]
theorem GO (J:W told)(s:Sat h (bj q p μ::S))(I:μ.Ok): Call ⟨Tryz.prog,told⟩ 20 [.ptr q 0,.int .u64 ((μ.base:Int)+(μ.b.length:Int))] h fun v h'=>v=.aW [.agg (eC 0 0 0 0 .aH .aH),.int .u64 0,.int .i64 17]∧Sat h' (bj q p μ::S):=by
 refine Call.of_wp (J.free _ rfl) Tryz.func20 rfl rfl (zg rfl ?_)
 refine ae.bO s rfl rfl rfl (bK jP) (fun U h s => ?_)
 dsimp only [V.cells,List.length_cons,List.length_nil,Nat.reduceAdd] at s
 refine za rfl (za rfl (zv (zw (WP.block (zg rfl (zm rfl (zm rfl ?_)))))))
 have s:=s.aa [1]
 dsimp only [bringA,getA,ai] at s
 refine ae.call rfl rfl rfl rfl rfl rfl rfl (nq J s I.size) ?_
 rintro v h' ⟨rfl,rfl⟩
 refine ae.aR rfl rfl rfl (af rfl rfl cS) (by simp) ?_
 refine za rfl (zv (zi rfl (zg rfl (zo rfl (bW rfl (by rw [rJ]; rfl)) ?_))))
 refine ae.bn rfl rfl rfl rfl rfl (by exact s.eN (j:=1) rfl dK rfl rfl) (fun h s => ?_)
 dsimp only [V.cells,setA] at s
 refine za rfl (za rfl (zv ?_))
 refine WP.ret ⟨trivial,_,qq rfl (s.dF (k:=1) rfl jr dK) rfl rfl,?_⟩
 exact ⟨rfl,s.del 1⟩
theorem I2 (J:W told){n:Nat}(s:Sat h (bj q p μ::S))(I:μ.Ok)(hn:n<18446744073709551616)(ep:n≠μ.base+μ.b.length)(U:μ.hasB n=false): Call ⟨Tryz.prog,told⟩ 20 [.ptr q 0,.int .u64 (n:Int)] h fun v h'=>v=.aW [.agg (eC 0 0 0 0 .aH .aH),.int .u64 0,.int .i64 1]∧Sat h' (bj q p μ::S):=by
 refine Call.of_wp (J.free _ rfl) Tryz.func20 rfl rfl (zg rfl ?_)
 refine ae.bO s rfl rfl rfl (bK jP) (fun p4 h s => ?_)
 dsimp only [V.cells,List.length_cons,List.length_nil,Nat.reduceAdd] at s
 refine za rfl (za rfl (zv (zw (WP.block (zg rfl (zm rfl (zm rfl ?_)))))))
 have s:=s.aa [1]
 dsimp only [bringA,getA,ai] at s
 refine ae.call rfl rfl rfl rfl rfl rfl rfl (nq J s I.size) ?_
 rintro v h' ⟨rfl,rfl⟩
 refine ae.aE rfl rfl rfl (af rfl rfl cS) (by simp; omega) ?_
 refine za rfl (zv (zj rfl (zg rfl (zm rfl (zm rfl (ae.call rfl rfl rfl rfl rfl rfl rfl (CS (n:=n) J s I hn) ?_))))))
 rintro v h' ⟨rfl,rfl⟩
 refine zo rfl (dA rfl rfl) (za rfl (zv (WP.DN rfl (by rw [U]; rfl) ?_)))
 refine zg rfl (zo rfl (bW rfl (by rw [rJ]; rfl)) ?_)
 refine ae.bn rfl rfl rfl rfl rfl (by exact s.eN (j:=1) rfl dK rfl rfl) (fun h s => ?_)
 dsimp only [V.cells,setA] at s
 refine za rfl (za rfl (zv ?_))
 refine WP.ret ⟨trivial,_,qq rfl (s.dF (k:=1) rfl jr dK) rfl rfl,?_⟩
 exact ⟨rfl,s.del 1⟩
theorem vT (hT:W told){n:Nat}(s:Sat h (bj q p μ::S))(J:μ.Ok)(hn:n<18446744073709551616)(I:n=μ.base+μ.b.length∨μ.hasB n=false): Call ⟨Tryz.prog,told⟩ 20 [.ptr q 0,.int .u64 (n:Int)] h fun v h'=>∃e:Int,e≠0∧v=.aW [.agg (eC 0 0 0 0 .aH .aH),.int .u64 0,.int .i64 e]∧Sat h' (bj q p μ::S):=by
 by_cases he:n=μ.base+μ.b.length
 ·have:=GO hT s J
  rw [show ((μ.base:Int)+(μ.b.length:Int))=((n:Nat):Int) by omega] at this
  exact this.mono fun v h' ⟨U,h2⟩=>⟨17,by decide,U,h2⟩
 ·rcases I with I | I
  ·exact absurd I he
  ·exact (I2 hT s J hn he I).mono fun v h' ⟨U,h2⟩=>⟨1,by decide,U,h2⟩
end
end Go.Proofs.YtconhghphklfjaaGreat.Am
namespace Go.Proofs.YtconhghphklfjaaGreat.Am
open Go
section
variable {told:Nat→Option (List V→H→Option (V×H))} {h:H} {S:List ah} {X Y:ah} {r k q p bw a g aK:Nat} {op v x u wh di:V} {l b c8 data jM:List Nat} {now:List (Int×List Nat)} {bq:Bool} {ε:aM} {μ:Lg} {δ:Dk}
theorem Eg (I:W told){n:Nat}(s:Sat h (cz a p q r op data aK::bj q p μ::S))(J:μ.Ok)(hn:n<18446744073709551616)(U:n=μ.base+μ.b.length∨μ.hasB n=false):
  Call ⟨Tryz.prog,told⟩ 62 [.ptr a 0,.int .u64 (n:Int)] h fun v h'=>v=.int .i64 0∧Sat h' (cz a p q r op data aK::bj q p μ::S):=by
 obtain ⟨dv,s⟩:=bQ.1 s
 refine Call.of_wp (I.free _ rfl) Tryz.func62 rfl rfl (zg rfl (za rfl (zv (zg rfl ?_))))
 refine ae.rH s rfl rfl rfl rfl (fun T4 h s => ?_)
 refine ae.rH s rfl rfl rfl rfl (fun QN h s => ?_)
 refine zo rfl (bW rfl (by rw [J6]; rfl)) ?_
 refine ae.bO s rfl rfl rfl (ff rfl rfl) (fun NF h s => ?_)
 dsimp only [V.cells,List.take,List.length_cons,List.length_nil,Nat.reduceAdd,List.drop,List.cons_append,List.nil_append,j6] at s
 refine za rfl (zv (zg rfl (zm rfl (zo rfl (yJ rfl rfl) (za rfl (zv (zw (zg rfl (zm rfl (za rfl (zv (WP.block (WP.loop (WP.block (zg rfl (zm rfl (zn rfl (zf rfl (rL _ _) (zl rfl (by exact s.ld (k:=3) rfl wL rfl) ?_)))))))))))))))))))
 refine zm rfl ?_
 have s1:=s.aa [5]
 dsimp only [bringA,getA,ai] at s1
 refine ae.call rfl rfl rfl rfl rfl rfl rfl (vT (n:=n) I s1 J hn U) ?_
 rintro v h ⟨e,he,rfl,s⟩
 refine zm rfl (ze rfl (ze rfl (ze rfl ?_)))
 refine ae.bO s rfl rfl rfl (bK jP) (fun p8 h s => ?_)
 dsimp only [V.cells,List.length_cons,List.length_nil,Nat.reduceAdd] at s
 refine ae.bn rfl rfl rfl rfl rfl (by exact s.eN (j:=0) rfl dK rfl rfl) (fun h s => ?_)
 dsimp only [setA] at s
 refine za rfl (za rfl (zv (zw (zg rfl (zm rfl (ae.aR rfl rfl rfl (af rfl rfl aN) (by simp; exact he) ?_))))))
 have s:=nT (f:=fun v (b:List Nat)=>.bp v b) (s.aa [4])
 dsimp only [bringA,getA,ai] at s
 refine zv (zi rfl (WP.exit (zw (zg rfl (zm rfl (zn rfl (zf rfl (kE _ _) (zl rfl (by exact s.ld (k:=3) rfl iD rfl) ?_))))))))
 refine ae.call rfl rfl rfl rfl rfl rfl rfl (qo I s) ?_
 rintro v h ⟨kb,rfl,s⟩
 refine ae.call rfl rfl rfl rfl rfl rfl rfl (oA I s (by decide) (by decide) (by simp)) ?_
 intro kv h s
 refine zo rfl (aL rfl rfl rfl (s.iH (n:=0) (j:=0) rfl rfl (by decide) Tryz.underlying98)) ?_
 refine zm rfl (zv (WP.block (WP.loop (zg rfl (ae.aE rfl rfl rfl (af rfl rfl aX) (rfl) (zv (zw (zj rfl (WP.exit (zw (zg rfl (zm rfl (zn rfl (zf rfl (kE _ _) (zl rfl (by exact s.ld (k:=5) rfl iD rfl) ?_)))))))))))))))
 refine zo rfl (aL rfl rfl rfl (Ae (s.aa [2]) Tryz.underlying86)) (ae.aR rfl rfl rfl (af rfl rfl cS) (rfl) (zv (zi rfl (zg rfl (za rfl (zv ?_))))))
 refine WP.ret ⟨trivial,_,rfl,?_⟩
 exact ⟨rfl,((((((bQ.2 ⟨dv,s.aa [7,7,4]⟩).del 7).del 6).del 5).del 4).del 3).del 2⟩
theorem Lg.AT : Lg.fresh.Ok:=⟨by decide,by decide,by simp [Lg.fresh],List.Pairwise.nil,by decide,by decide,by decide⟩
theorem BZ (I:W told){n:Nat}(s:Sat h (az p δ::S))(h1:1≤n)(h2:n≤1024)(J:δ.dead=false)(hm:δ.mark=[])(U:δ.log=[])(hc:δ.aT=0):
  Call ⟨Tryz.prog,told⟩ 21 [.ptr p 0,.int .i64 (n:Int)] h fun v h'=>∃a q r,v=.aW [.ptr a 0,.int .i64 0]∧Sat h' (cz a p q r .bI [] 0::cB r p q (Pl.fresh n)::bj q p Lg.fresh::az p δ::S):=by
 refine Call.of_wp (I.free _ rfl) Tryz.func21 rfl rfl (zg rfl (za rfl (za rfl (zv (zw (zg rfl (zm rfl (ae.aE rfl rfl rfl (af rfl rfl aX) (by simp <;> omega) ?_))))))))
 refine zm rfl (zm rfl (ae.aE rfl rfl rfl (af rfl rfl dS) (by simp <;> omega) ?_))
 refine zp rfl (zv (zj rfl (WP.skip (zg rfl (zm rfl (ae.call rfl rfl rfl rfl rfl rfl rfl (BY I s J hm U hc) ?_))))))
 rintro v h ⟨q,rfl,s⟩
 refine zm rfl (ze rfl (ze rfl (za rfl (za rfl (zv (zw (zg rfl (zm rfl (ae.aE rfl rfl rfl (af rfl rfl aN) (rfl) (zv (zj rfl (WP.skip (zg rfl (zm rfl (zm rfl (zm rfl (ae.call rfl rfl rfl rfl rfl rfl rfl (C0 (p:=p) (q:=q) (n:=n) I s) ?_)))))))))))))))))
 rintro v h (⟨hn,_,_⟩ | ⟨_,_,r,rfl,s⟩)
 ·omega
 rw [Int.toNat_natCast] at s
 refine zm rfl (ze rfl (ze rfl (za rfl (za rfl (zv (zw (zg rfl (zm rfl (ae.aE rfl rfl rfl (af rfl rfl aN) (rfl) (zv (zj rfl (WP.skip (zg rfl (zm rfl (zm rfl (zm rfl (zo rfl (bW rfl (by rw [No]; rfl)) ?_)))))))))))))))))
 refine ae.bO s rfl rfl rfl (ff rfl rfl) (fun T5 h s => ?_)
 dsimp only [V.cells,List.take,List.length_cons,List.length_nil,Nat.reduceAdd,List.drop,List.cons_append,List.nil_append] at s
 refine za rfl (zv (zg rfl (zm rfl (ae.call rfl rfl rfl rfl rfl rfl rfl (rU I (s.aa [2])) ?_))))
 rintro v h' ⟨rfl,rfl⟩
 refine za rfl (zv (zw (zg rfl (zm rfl (ae.call rfl rfl rfl rfl rfl rfl rfl (tR I (s.aa [2])) ?_)))))
 rintro v h' ⟨rfl,rfl⟩
 refine za rfl (zv (zg rfl (zm rfl (ae.aE rfl rfl rfl (af rfl rfl aN) (rfl) (zv (zj rfl (WP.skip (zw (zg rfl (zm rfl (zm rfl ?_)))))))))))
 have s1:=bQ.2 ⟨.aH,(s.mh).aa [1,0]⟩
 dsimp only [bringA,getA,ai] at s1
 refine ae.call rfl rfl rfl rfl rfl rfl rfl (Eg (n:=1) I (s1.aa [0,1]) Lg.AT (by decide) (.inl rfl)) ?_
 rintro v h ⟨rfl,s⟩
 dsimp only [bringA,getA,ai] at s
 refine za rfl (zv (zg rfl (zm rfl (ae.aE rfl rfl rfl (af rfl rfl aN) (rfl) (zv (zj rfl (WP.skip (zg rfl (zm rfl (za rfl (za rfl (zv ?_))))))))))))
 refine WP.ret ⟨trivial,_,rfl,?_⟩
 exact ⟨_,q,r,rfl,s.aa [0,1,0]⟩
end
end Go.Proofs.YtconhghphklfjaaGreat.Am
