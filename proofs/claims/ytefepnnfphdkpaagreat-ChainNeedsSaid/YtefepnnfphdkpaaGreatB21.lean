/- ChainNeeds: a part of its proof; conditions: its statement's. -/
import Derived.Test.YtefepnnfphdkpaaGreatB20
set_option linter.defProp false
namespace Go.Proofs.YtefepnnfphdkpaaGreat.Am
open Go
def iO:=@Tryz.underlying46
def CW:=@Tryz.underlying244
structure c7 where
 aU:Int
 pos:Int
 whole:Bool
 b:List Nat
def c7.Ok (c:c7): Prop:=0≤c.aU∧c.aU<65536∧0≤c.pos∧c.pos≤512∧(c.b.length:Int)≤512-c.pos∧(c.whole=true→c.pos=0∧c.b.length=512)
instance (c:c7):Decidable c.Ok:=by unfold c7.Ok; infer_instance
def dO (kind:Int)(bS:List c7): Bool:=decide (1≤kind∧kind≤9)&&bS.all fun c=>decide c.Ok
def mU (kd:Int)(tx pv nx:Nat)(I ch:V): List V:=[.int .i64 kd,.int .u64 (tx:Int),.int .u64 (pv:Int),.int .u64 (nx:Int),I,ch]
theorem uL {kd:Int}{tx pv nx:Nat}{I ch:V}(J:storable I=true)(hc:storable ch=true): (mU kd tx pv nx I ch).all storable=true:=by
 simp only [mU,iB,jB,J,hc]
 rfl
def c9 : List V→List c7→aq
 | [],[]=>.pu True
 | p::a::w::v::l,x::m=>.an (.an (.pu (p=.int .i64 x.aU∧a=.int .i64 x.pos∧w=.bool x.whole)) (.cE v x.b)) (c9 l m)
 | _,_=>.pu False
theorem bn.n_ : ∀(m:List c7) (l:List V),bn (c9 l m):=by
 intro m
 induction m with
 | nil=>intro l; rcases l with _ | ⟨a,_ | ⟨b,_ | ⟨c,_ | ⟨d,l⟩⟩⟩⟩ <;> exact bn.pu _
 | cons x m I=>intro l; rcases l with _ | ⟨a,_ | ⟨b,_ | ⟨c,_ | ⟨d,l⟩⟩⟩⟩ <;> first | exact bn.pu _ | exact bn.an (bn.an (bn.pu _) (bn.cE _ _)) (I l)
theorem nG {a b:PM}: ∀ {m:List c7} {l:List V},(c9 l m).p a b→l.length=m.length*4:=by
 intro m
 induction m with
 | nil=>intro l h; rcases l with _ | ⟨x,_ | ⟨y,_ | ⟨z,_ | ⟨d,l⟩⟩⟩⟩ <;> first | rfl | exact h.elim
 | cons x m I =>
  intro l h
  rcases l with _ | ⟨x,_ | ⟨y,_ | ⟨z,_ | ⟨d,l⟩⟩⟩⟩ <;> first | exact h.elim | skip
  have:=I h.2
  simp only [aQ]
  omega
theorem w8 {a b:PM}: ∀ {m m':List c7} {l I:List V},(c9 l m).p a b→(c9 I m').p a b→(c9 (l++I) (m++m')).p a b:=by
 intro m
 induction m with
 | nil=>intro m' l I h h'; rcases l with _ | ⟨x,_ | ⟨y,_ | ⟨z,_ | ⟨d,l⟩⟩⟩⟩ <;> first | exact h' | exact h.elim
 | cons x m J =>
  intro m' l I h h'
  rcases l with _ | ⟨x,_ | ⟨y,_ | ⟨z,_ | ⟨d,l⟩⟩⟩⟩ <;> first | exact h.elim | exact ⟨h.1,J h.2 h'⟩
theorem CX {a b:PM}: ∀ {m:List c7} {l:List V} {i:Nat} {c:c7},(c9 l m).p a b→m[i]?=some c→∃u,(l.drop (i*4)).take 4=[.int .i64 c.aU,.int .i64 c.pos,.bool c.whole,u]∧(aq.cE u c.b).p a b:=by
 intro m
 induction m with
 | nil=>intro l i c h I; simp at I
 | cons x m J =>
  intro l i c h I
  rcases l with _ | ⟨p,_ | ⟨q,_ | ⟨w,_ | ⟨v,l⟩⟩⟩⟩ <;> first | exact h.elim | skip
  obtain ⟨⟨⟨h1,h2,h3⟩,h4⟩,h5⟩:=h
  cases i with
  | zero=>simp at I; subst I; exact ⟨v,by rw [h1,h2,h3]; rfl,h4⟩
  | succ i =>
   simp at I
   obtain ⟨u,e1,e2⟩:=J h5 I
   refine ⟨u,?_,e2⟩
   rw [←e1,show (i+1)*4=i*4+4 by omega]
   rfl
section
variable {told:cK} {h:H} {S:List aq} {X:aq} {k q p:Nat} {v:V} {l:List Nat}
theorem I1 {ch:V}{cs:List V}{m:List c7}{i:Nat}{c:c7}(s:Sat h (.arr 4 ch cs::c9 cs m::S))(hc:m[i]?=some c):
  ∃id off u,indexAddrV Tryz.prog 46 ch (.int .i64 (i:Int))=some (.ptr id off)∧loadV Tryz.prog h 180 (.ptr id off)=some (.agg [.int .i64 c.aU,.int .i64 c.pos,.bool c.whole,u]) ∧
   u.cells=[u]∧storable u=true∧u.beq u=true∧Sat h (.cE u c.b::.arr 4 ch cs::c9 cs m::S):=by
 obtain ⟨a,b,q1,q2,q3⟩:=s.at (k:=1) rfl
 have Mn:=(List.getElem?_eq_some_iff.1 hc).1
 have hl:=nG q3
 obtain ⟨u,e1,e2⟩:=CX q3 hc
 obtain ⟨id,off,g1,J⟩:=PE (P:=Tryz.prog) (i:=i) s (j:=0) rfl (by omega) (by decide) iO vN
 have J:=J Q5
 rw [e1] at J
 have s2:Sat h (c9 cs m::.arr 4 ch cs::S):=s.ae [1]
 have s3:=(s2.dup (bn.n_ _ _)).jH (B:=.cE u c.b) fun a b h=>by
  obtain ⟨u',I,sq⟩:=CX h hc
  rw [e1] at I
  injection I with _ I
  injection I with _ I
  injection I with _ I
  injection I with I _
  subst I
  exact sq
 have hu:=(s3.aH (k:=0) rfl (dZ _ _))
 exact ⟨id,off,u,g1,J,hu.cells.1,hu.cells.2,iV hu,s3.ae [0,1,0]⟩
theorem Fg {ch:V}{cs:List V}{m:List c7}{j1 j2:Nat}{P:Program}{t e:TypeId}(s:Sat h S)(I:getA S j1=some (.arr 4 ch cs))(J:getA S j2=some (c9 cs m))(hu:P.underlying t=some (.slice e)): lenV P h t ch=some (.int .i64 m.length):=by
 obtain ⟨a,b,q1,q2,q3⟩:=s.at J
 exact s.iL I (nG q3) (by decide) hu
theorem Sat.uM {ch:V}{cs:List V}{m:List c7}{j1 j2:Nat}{P:Program}{t e:TypeId}(s:Sat h S)(I:getA S j1=some (.arr 4 ch cs))(J:getA S j2=some (c9 cs m))(hu:P.underlying t=some (.slice e)): lenV P h t ch=some (.int .i64 m.length):=Fg s I J hu
noncomputable def Si : Code:=gr [1,1,0,1,0,0] ((Tryz.f161.body).getD .skip)
theorem GP {p1:Nat}{ch:V}{cs:List V}{m:List c7}: ∀(j i:Nat) (h:H) (E:List (Nat×V)) (Q:Ex→List (Nat×V)→H→Prop),i+j=m.length→m.length<4294967296→(∀c∈m,c.b.length<9223372036854775808) →
  (∀c∈m, -4294967296≤c.pos∧c.pos≤4294967296)→Sat h (.arr 4 ch cs::c9 cs m::S)→Has E [(1,.ptr p1 0),(14,ch),(15,.int .i64 m.length),(16,.int .i64 i)] →
  ((m.drop i).all (fun c=>decide c.Ok)=false→∀E' h',look E' 2=some (.bool false)→Sat h' (.arr 4 ch cs::c9 cs m::S)→Q .ret E' h') →
  ((m.drop i).all (fun c=>decide c.Ok)=true→∀E' h',Sat h' (.arr 4 ch cs::c9 cs m::S)→Q (.exit 0) E' h')→WP ⟨Tryz.prog,told⟩ 61 (.loop Si) E h Q:=by
 intro j
 induction j with
 | zero =>
  intro i h E Q hi hm hb J s hE hr hx
  refine WP.loop (WP.has hE (zg rfl (zh rfl (ag rfl rfl bf) (by simp; omega) ?_)))
  exact zk 3 rfl (WP.exit (hx (by rw [gh (by omega)]; rfl) _ _ s))
 | succ j ih =>
  intro i h E Q hi hm hb J s hE hr hx
  have hc:m[i]?=some (m[i]'(by omega)):=aY _
  generalize (m[i]'(by omega))=c at hc
  have I2:=bh hc
  have Sj:=hb c I2
  have U_:=J c I2
  have oP:m.drop i=c::m.drop (i+1):=by
   have:=List.getElem?_eq_some_iff.1 hc
   obtain ⟨h1,rfl⟩:=this
   exact vg h1
  rw [oP,iB] at hr hx
  obtain ⟨id,off,u,e1,e2,u1,u2,u3,s⟩:=I1 s hc
  refine WP.loop (WP.has hE (zg rfl (zt rfl (ag rfl rfl bf) (by simp; omega) ?_)))
  refine zk 5 rfl (WP.block (zg rfl (zo rfl (dm (r:=.ptr id off) rfl rfl e1) (zl rfl e2 ?_))))
  refine az.cr s rfl rfl rfl (ck qL) (fun p4 h s => ?_)
  dsimp only [V.cells,List.length_cons,List.length_nil,Nat.reduceAdd] at s
  refine zS rfl (s.gQ (j:=0) rfl vN rfl (by simp only [iB,jB,u2]; rfl)) ?_
  intro h s
  dsimp only [setA] at s
  refine zk 4 rfl (zf rfl (Ax _ _) (zl rfl (s.ld (k:=0) rfl eM rfl) ?_))
  refine zd rfl (ag rfl rfl bf) ?_ ?_
  ·intro qB
   have qB:c.aU<0:=by simp at qB; omega
   exact zk 30 rfl (WP.ret (hr (by rw [dJ (fun q:c.Ok=>by have:=q.1; omega),fK]) _ _ rfl s.drop.drop))
  ·intro qB
   have qB:¬ (c.aU<0):=by simp at qB; omega
   refine zm rfl (zf rfl (Ax _ _) (zl rfl (s.ld (k:=0) rfl eM rfl) ?_))
   refine zd rfl (ag rfl rfl uw) ?_ ?_
   ·intro yJ
    have yJ:65536≤c.aU:=by simp at yJ; omega
    exact zk 26 rfl (WP.ret (hr (by rw [dJ (fun q:c.Ok=>by have:=q.2.1; omega),fK]) _ _ rfl s.drop.drop))
   ·intro yJ
    have yJ:¬ (65536≤c.aU):=by simp at yJ; omega
    refine zk 2 rfl (zf rfl (pK _ _) (zl rfl (s.ld (k:=0) rfl eM rfl) ?_))
    refine zd rfl (ag rfl rfl bf) ?_ ?_
    ·intro fU
     have fU:c.pos<0:=by simp at fU; omega
     exact zk 21 rfl (WP.ret (hr (by rw [dJ (fun q:c.Ok=>by have:=q.2.2.1; omega),fK]) _ _ rfl s.drop.drop))
    ·intro fU
     have fU:¬ (c.pos<0):=by simp at fU; omega
     refine zk 2 rfl (zf rfl (pK _ _) (zl rfl (s.ld (k:=0) rfl eM rfl) ?_))
     refine zd rfl (ag rfl rfl fY) ?_ ?_
     ·intro I3
      have I3:512<c.pos:=by simp at I3; omega
      exact zk 16 rfl (WP.ret (hr (by rw [dJ (fun q:c.Ok=>by have:=q.2.2.2.1; omega),fK]) _ _ rfl s.drop.drop))
     ·intro I3
      have I3:¬ (512<c.pos):=by simp at I3; omega
      refine zk 2 rfl (zf rfl (pL _ _) (zl rfl (s.ld (k:=0) rfl bK rfl) (zo rfl (aV rfl rfl rfl (aS aI (s.aH (k:=1) rfl (dZ _ _)))) (zf rfl (pK _ _) (zl rfl (s.ld (k:=0) rfl eM rfl) (zb rfl (by exact jV (aC (by omega) (by omega))) ?_))))))
      refine zd rfl (ag rfl rfl fY) ?_ ?_
      ·intro mw
       have mw:512-c.pos<(c.b.length:Int):=by simp at mw; omega
       exact zk 7 rfl (WP.ret (hr (by rw [dJ (fun q:c.Ok=>by have:=q.2.2.2.2.1; omega),fK]) _ _ rfl s.drop.drop))
      ·intro mw
       have mw:¬ (512-c.pos<(c.b.length:Int)):=by simp at mw; omega
       refine zk 6 rfl (zf rfl (E3 _ _) ?_)
       have oH:∀(h:H) (E:List (Nat×V)),c.Ok→Sat h (.arr 4 ch cs::c9 cs m::S)→Has E [(1,.ptr p1 0),(14,ch),(15,.int .i64 m.length),(16,.int .i64 ((i:Int)+1))]→WP ⟨Tryz.prog,told⟩ 61 (.loop Si) E h Q:=by
        intro h E uN s hE
        rw [dr uN,vo] at hr hx
        exact ih (i+1) h E Q (by omega) hm hb J s hE hr hx
       have HF:c.whole=false∨c.whole=true:=by cases c.whole <;> simp
       rcases HF with hw | hw
       ·skip
        refine zh rfl (aO rfl (by exact s.ld (k:=0) rfl m6 rfl)) (hw) ?_
        refine zk 11 rfl (zv (zj rfl (WP.skip (zr rfl (zb rfl (by exact bB (aC (by omega) (by omega))) ?_)))))
        refine zm rfl (zv ?_)
        refine oH _ _ ?_ ?_ ?_
        ·exact ⟨by omega,by omega,by omega,by omega,by omega,fun e=>by rw [hw] at e; cases e⟩
        ·exact s.drop.drop
        ·exact ⟨rfl,rfl,rfl,rfl,aa⟩
       ·skip
        refine zt rfl (aO rfl (s.ld (k:=0) rfl m6 rfl)) (hw) (zm rfl (zf rfl (pK _ _) (zl rfl (s.ld (k:=0) rfl eM rfl) ?_)))
        refine zd rfl (ag rfl rfl aL) ?_ ?_
        ·intro hp
         have hp:c.pos≠0:=by simp at hp; omega
         exact zk 13 rfl (WP.ret (hr (by rw [dJ (fun q:c.Ok=>hp (q.2.2.2.2.2 hw).1),fK]) _ _ rfl s.drop.drop))
        ·intro hp
         have hp:c.pos=0:=by simp at hp; omega
         refine zm rfl (zf rfl (pL _ _) (zl rfl (s.ld (k:=0) rfl bK rfl) (zo rfl (aV rfl rfl rfl (aS aI (s.aH (k:=1) rfl (dZ _ _)))) ?_)))
         refine zd rfl (ag rfl rfl aL) ?_ ?_
         ·intro I
          have I:c.b.length≠512:=by simp at I; omega
          exact zk 8 rfl (WP.ret (hr (by rw [dJ (fun q:c.Ok=>I (q.2.2.2.2.2 hw).2),fK]) _ _ rfl s.drop.drop))
         ·intro I
          have I:c.b.length=512:=by simp at I; omega
          refine zk 2 rfl (zv (zj rfl (WP.skip (zr rfl (zb rfl (by exact bB (aC (by omega) (by omega))) ?_)))))
          refine zm rfl (zv ?_)
          refine oH _ _ ?_ ?_ ?_
          ·exact ⟨by omega,by omega,by omega,by omega,by omega,fun _=>⟨hp,I⟩⟩
          ·exact s.drop.drop
          ·exact ⟨rfl,rfl,rfl,rfl,aa⟩
def yK (m:List c7): Prop:=m.length<4294967296∧(∀c∈m,c.b.length<4294967296)∧(∀c∈m, -4294967296≤c.pos∧c.pos≤4294967296)
theorem KX (hT:W told){kd:Int}{tx pv nx:Nat}{dt ch:V}{cs:List V}{m:List c7}(s:Sat h (.arr 4 ch cs::c9 cs m::S))(hd:storable dt=true)(hm:yK m):
  Call ⟨Tryz.prog,told⟩ 161 [.agg (mU kd tx pv nx dt ch)] h fun r h'=>r=.bool (dO kd m)∧Sat h' (.arr 4 ch cs::c9 cs m::S):=by
 have uO:=s.lC (j:=0) rfl
 have jF:=uL (kd:=kd) (tx:=tx) (pv:=pv) (nx:=nx) hd uO.2.1
 refine Call.of_wp (hT.free _ rfl) Tryz.func161 rfl rfl (zg rfl (az.cr s rfl rfl rfl (fC rfl jF) ?_))
 intro p1 h s
 refine zk 5 rfl (zf rfl (uy _ _) (zl rfl (s.ld (k:=0) rfl eM rfl) ?_))
 refine zd rfl (ag rfl rfl bf) ?_ ?_
 ·intro J
  have J:kd<1:=by simpa using J
  exact zk 11 rfl (WP.ret ⟨aa,_,rfl,by rw [dO,dJ (by omega),fK],s.drop⟩)
 ·intro J
  have J:1≤kd:=by simpa using J
  refine zm rfl (zf rfl (uy _ _) (zl rfl (s.ld (k:=0) rfl eM rfl) ?_))
  refine zd rfl (ag rfl rfl fY) ?_ ?_
  ·intro I
   have I:9<kd:=by simpa using I
   exact zk 7 rfl (WP.ret ⟨aa,_,rfl,by rw [dO,dJ (by omega),fK],s.drop⟩)
  ·intro I
   have I:kd≤9:=by simpa using I
   refine zk 7 rfl (zf rfl (qb _ _) (zl rfl (s.ld (k:=0) rfl Ar rfl) (zo rfl (aV rfl rfl rfl (Fg s (j1:=1) (j2:=2) rfl rfl iO)) (zk 2 rfl (WP.block ?_)))))
   have hg:dO kd m=m.all (fun c=>decide c.Ok):=by rw [dO,dr ⟨J,I⟩,vo]
   refine GP m.length 0 _ _ _ (by omega) hm.1 (fun c hc=>by have:=hm.2.1 c hc; omega) hm.2.2 s.drop ⟨rfl,rfl,rfl,rfl,aa⟩ (fun hf E' h' h2 s' => ?_) (fun hf E' h' s' => ?_)
   ·rw [hg]
    rw [eR] at hf
    rw [hf]
    exact ⟨aa,_,Cw h2,rfl,s'⟩
   ·rw [hg]
    rw [eR] at hf
    rw [hf]
    exact WP.has (F:=[]) aa (zK 4 rfl (WP.ret ⟨aa,_,rfl,rfl,s'⟩))
end
def kL (c:c7): List Nat:=digits 9 c.aU.toNat++digits 9 c.pos.toNat++[if c.whole then 1 else 0]++(digits 9 c.b.length++c.b)
def d_ (kd:Int)(tx pv nx:Nat)(data:List Nat)(bS:List c7): List Nat :=
 [kd.toNat]++digits 9 tx++digits 9 pv++digits 9 nx++(digits 9 data.length++data)++digits 9 bS.length++bS.flatMap kL
section
variable {told:cK} {h:H} {S:List aq} {X:aq} {k q p:Nat} {v w:V} {l m:List Nat}
theorem my (I:W told){n:Nat}(s:Sat h (aP v l::S))(hn:n<18446744073709551616)(hl:l.length≤140737488355000):
  Call ⟨Tryz.prog,told⟩ 176 [v,.int .u64 (n:Int)] h fun r h'=>Sat h' (aP r (l++digits 9 n)::S) :=
 (Bd I.Mo (k:=9) s.wf (s.buf (k:=0) rfl) (by omega) (by omega) (by omega)).mono fun _ _ ⟨J,h2,h3⟩=>s.vG h2 J h3
theorem AJ (hT:W told)(s:Sat h (aP v l::X::S))(I:cI X (cL w m))(hl:l.length+m.length≤140737488355000):
  Call ⟨Tryz.prog,told⟩ 177 [v,w] h fun r h'=>Sat h' (aP r (l++(digits 9 m.length++m))::X::S) :=
 (Nn hT.Mo (k:=9) s.wf (s.buf (k:=0) rfl) (s.aH (k:=1) rfl I) (s.PF I) (by omega) (by omega) (by omega)).mono fun _ _ ⟨J,h2,h3⟩=>by
  rw [eO] at J
  exact s.vG h2 J h3
noncomputable def Sk : Code:=gr [1,1,1,1,0,1,0,0] ((Tryz.f162.body).getD .skip)
theorem I4 (hT:W told){p1:Nat}{ch:V}{cs:List V}{bS:List c7}(uN:∀c∈bS,c.Ok)(J:yK bS): ∀(j i:Nat) (sv:V) (l:List Nat) (h:H) (E:List (Nat×V)) (Q:Ex→List (Nat×V)→H→Prop),i+j=bS.length →
  l.length+((bS.drop i).flatMap kL).length≤140737488355000 →
  Sat h (aP sv l::.arr 4 ch cs::c9 cs bS::S)→Has E [(1,.ptr p1 0),(3,sv),(37,ch),(38,.int .i64 bS.length),(39,.int .i64 i)] →
  (∀E' h' I,look E' 3=some I→Sat h' (aP I (l++(bS.drop i).flatMap kL)::.arr 4 ch cs::c9 cs bS::S)→Q (.exit 2) E' h')→WP ⟨Tryz.prog,told⟩ 63 (.loop Sk) E h Q:=by
 intro j
 induction j with
 | zero =>
  intro i sv l h E Q hi hlen s hE hx
  have hm:=J.1
  refine WP.loop (WP.has hE (zg rfl (zh rfl (ag rfl rfl bf) (by simp; omega) ?_)))
  refine zk 3 rfl (WP.exit (hx _ _ sv rfl ?_))
  rw [gh (by omega)]
  simpa using s
 | succ j ih =>
  intro i sv l h E Q hi hlen s hE hx
  have hm:=J.1
  have hc:bS[i]?=some (bS[i]'(by omega)):=aY _
  generalize (bS[i]'(by omega))=c at hc
  have I2:=bh hc
  have TH:=uN c I2
  have Sj:=J.2.1 c I2
  have oP:bS.drop i=c::bS.drop (i+1):=by
   obtain ⟨h1,rfl⟩:=List.getElem?_eq_some_iff.1 hc
   exact vg h1
  rw [oP,rL] at hlen hx
  obtain ⟨pg,ps,wh,bb⟩:=c
  obtain ⟨q1,q2,q3,q4,_⟩:=TH
  dsimp only at q1 q2 q3 q4 Sj
  obtain ⟨pg,rfl⟩:∃n:Nat,pg=n:=⟨pg.toNat,by omega⟩
  obtain ⟨ps,rfl⟩:∃n:Nat,ps=n:=⟨ps.toNat,by omega⟩
  have KY:kL ⟨pg,ps,wh,bb⟩=digits 9 pg++digits 9 ps++[if wh then 1 else 0]++(digits 9 bb.length++bb):=by simp [kL]
  have L3:(kL ⟨pg,ps,wh,bb⟩).length=(digits 9 pg).length+(digits 9 ps).length+1+(digits 9 bb.length).length+bb.length:=by rw [KY]; simp; omega
  rw [bQ,L3] at hlen
  obtain ⟨id,off,u,e1,e2,u1,u2,u3,s⟩:=I1 (s.ae [1,1]) hc
  dsimp only at e2
  have s:=s.ae [3,0,0,0]
  dsimp only [aZ,bringA,getA] at s
  refine WP.loop (WP.has hE (zg rfl (zt rfl (ag rfl rfl bf) (by simp; omega) ?_)))
  refine zk 5 rfl (WP.block (zg rfl (zo rfl (dm (r:=.ptr id off) rfl rfl e1) (zl rfl e2 ?_))))
  refine az.cr s rfl rfl rfl (ck qL) (fun p7 h s => ?_)
  dsimp only [V.cells,List.length_cons,List.length_nil,Nat.reduceAdd] at s
  refine zS rfl (s.gQ (j:=0) rfl vN rfl (by simp only [iB,jB,u2]; rfl)) ?_
  intro h s
  dsimp only [setA] at s
  refine zk 2 rfl ?_
  have s:=s.ae [1,0]
  dsimp only [bringA,getA,aZ] at s
  have s0:=s
  refine WP.drawn [ak,ak,ak,ak,ak,some (0,2),some (0,2),some (0,2),none,none] rfl (by kernel_rfl) (by kernel_rfl) ?_
  refine zM rfl (zF rfl (Ax _ _) (zL rfl (s.ld (k:=1) rfl eM rfl) (aB.op rfl rfl rfl (by simp only [isEff,cZ]) (cH rfl (by exact jQ bN cZ (fX (by omega) (by omega)))) ?_)))
  refine aB.any rfl rfl rfl rfl (OpR.call rfl rfl rfl rfl (my hT s (by omega) (by omega))) ?_
  intro v1 h s
  have s1:=s
  refine zF rfl (pK _ _) (zL rfl (s.ld (k:=1) rfl eM rfl) (aB.op rfl rfl rfl (by simp only [isEff,cZ]) (cH rfl (by exact jQ bN cZ (fX (by omega) (by omega)))) ?_))
  refine aB.any rfl rfl rfl rfl (OpR.call rfl rfl rfl rfl (my hT s (by omega) (by simp; omega))) ?_
  intro v2 h s
  refine zA rfl ?_
  refine aB.nil ⟨⟨aa,aa,aa,aa,aa,fun _ _=>.inr ⟨rfl,⟨_,ny rfl (pK _ _)⟩,bT _ rfl⟩,fo (.inr ⟨rfl,⟨_,aO rfl (s0.ld (k:=1) rfl eM rfl)⟩,bT _ rfl⟩) (.inr ⟨rfl,⟨_,aO rfl (s1.ld (k:=1) rfl eM rfl)⟩,bT _ rfl⟩),fun _ _=>.inr ⟨rfl,⟨_,cH rfl (by exact jQ bN cZ (fX (by omega) (by omega)))⟩,bT _ rfl⟩,aa,aa,aa⟩,?_⟩
  have PS:∀(h:H) (E:List (Nat×V)) (I:V),Sat h (aP I (l++kL ⟨pg,ps,wh,bb⟩)::.arr 4 ch cs::c9 cs bS::S)→Has E [(1,.ptr p1 0),(3,I),(37,ch),(38,.int .i64 bS.length),(39,.int .i64 ((i:Int)+1))]→WP ⟨Tryz.prog,told⟩ 63 (.loop Sk) E h Q:=by
   intro h E I s hE
   refine ih (i+1) I _ h E Q (by omega) (by rw [bQ,L3]; omega) s hE (fun E' h' Va xP s'=>hx E' h' Va xP ?_)
   rw [eO] at s'
   exact s'
  have W6:=eT 9 pg
  have W7:=eT 9 ps
  refine zK 7 rfl (zf rfl (E3 _ _) ?_)
  have HF:wh=false∨wh=true:=by cases wh <;> simp
  rcases HF with hw | hw
  ·skip
   refine zh rfl (aO rfl (s.ld (k:=1) rfl m6 rfl)) (hw) (zk 3 rfl ?_)
   have s0:=s
   have yw:=iV (s.buf (k:=0) rfl).view
   refine WP.drawn [some (0,2),ak,ak,ak,some (0,3),some (0,3),none,none] rfl (by kernel_rfl) (by kernel_rfl) ?_
   refine zM rfl (zM rfl (aB.any rfl rfl rfl rfl (OpR.GB (n:=0) rfl s rfl rfl rfl (by decide)) ?_))
   intro v3 h s
   have s:=s.ae [1,1,0]
   dsimp only [bringA,getA,aZ] at s
   have s1:=s
   refine aB.any rfl rfl rfl rfl (OpR.ov rfl (s.ae [0,1]) (aR _ _) rfl rfl rfl rfl (by simp; omega)) ?_
   intro v4 h s
   have s:=s.del 1
   dsimp only [aZ,bringA] at s
   have s2:=s
   refine zF rfl (pL _ _) (zL rfl (s.ld (k:=1) rfl bK rfl) (aB.any rfl rfl rfl rfl (OpR.call rfl rfl rfl rfl (AJ hT (s.ae [0,1]) (dZ _ _) (by simp; omega))) ?_))
   intro v5 h s
   dsimp only [aZ,bringA] at s
   refine zA rfl ?_
   refine aB.nil ⟨⟨fun _ _=>.inr ⟨rfl,⟨_,b_ rfl⟩,yw⟩,aa,aa,aa,fun _ _=>.inr ⟨rfl,⟨_,ny rfl (pL _ _)⟩,bT _ rfl⟩,p_ (.inr ⟨rfl,⟨_,aO rfl (s0.ld (k:=1) rfl bK rfl)⟩,u3⟩) (.inr ⟨rfl,⟨_,aO rfl (s1.ld (k:=1) rfl bK rfl)⟩,u3⟩) (.inr ⟨rfl,⟨_,aO rfl (s2.ld (k:=1) rfl bK rfl)⟩,u3⟩),aa,aa,aa⟩,?_⟩
   refine zr rfl (zb rfl (by exact bB (aC (by omega) (by omega))) ?_)
   refine zm rfl (zv ?_)
   refine PS _ _ v5 ?_ ?_
   ·rw [KY,hw]
    have s:=(s.del 1).del 1
    dsimp only [aZ] at s
    simpa [eO] using s
   ·exact ⟨rfl,rfl,rfl,rfl,rfl,aa⟩
  ·skip
   refine zt rfl (aO rfl (s.ld (k:=1) rfl m6 rfl)) (hw) (zk 5 rfl ?_)
   have s0:=s
   have yw:=iV (s.buf (k:=0) rfl).view
   refine WP.drawn [some (0,2),ak,ak,ak,some (0,3),some (0,3),none,none] rfl (by kernel_rfl) (by kernel_rfl) ?_
   refine zM rfl (zM rfl (aB.any rfl rfl rfl rfl (OpR.GB (n:=1) rfl s rfl rfl rfl (by decide)) ?_))
   intro v3 h s
   have s:=s.ae [1,1,0]
   dsimp only [bringA,getA,aZ] at s
   have s1:=s
   refine aB.any rfl rfl rfl rfl (OpR.ov rfl (s.ae [0,1]) (aR _ _) rfl rfl rfl rfl (by simp; omega)) ?_
   intro v4 h s
   have s:=s.del 1
   dsimp only [aZ,bringA] at s
   have s2:=s
   refine zF rfl (pL _ _) (zL rfl (s.ld (k:=1) rfl bK rfl) (aB.any rfl rfl rfl rfl (OpR.call rfl rfl rfl rfl (AJ hT (s.ae [0,1]) (dZ _ _) (by simp; omega))) ?_))
   intro v5 h s
   dsimp only [aZ,bringA] at s
   refine zA rfl ?_
   refine aB.nil ⟨⟨fun _ _=>.inr ⟨rfl,⟨_,b_ rfl⟩,yw⟩,aa,aa,aa,fun _ _=>.inr ⟨rfl,⟨_,ny rfl (pL _ _)⟩,bT _ rfl⟩,p_ (.inr ⟨rfl,⟨_,aO rfl (s0.ld (k:=1) rfl bK rfl)⟩,u3⟩) (.inr ⟨rfl,⟨_,aO rfl (s1.ld (k:=1) rfl bK rfl)⟩,u3⟩) (.inr ⟨rfl,⟨_,aO rfl (s2.ld (k:=1) rfl bK rfl)⟩,u3⟩),aa,aa,aa⟩,?_⟩
   refine zr rfl (zb rfl (by exact bB (aC (by omega) (by omega))) ?_)
   refine zm rfl (zv ?_)
   refine PS _ _ v5 ?_ ?_
   ·rw [KY,hw]
    have s:=(s.del 1).del 1
    dsimp only [aZ] at s
    simpa [eO] using s
   ·exact ⟨rfl,rfl,rfl,rfl,rfl,aa⟩
theorem KZ (J:W told){kd:Nat}{tx pv nx:Nat}{dt ch:V}{cs:List V}{data:List Nat}{bS:List c7}(s:Sat h (X::.arr 4 ch cs::c9 cs bS::S))(hX:cI X (cL dt data))(hg:dO kd bS=true)(I:yK bS)
 (I5:tx<18446744073709551616)(Mu:pv<18446744073709551616)(Be:nx<18446744073709551616)(hlen:data.length+(bS.flatMap kL).length≤70368744177664):
  Call ⟨Tryz.prog,told⟩ 162 [.agg (mU kd tx pv nx dt ch)] h fun r h'=>Sat h' (aP r (d_ kd tx pv nx data bS)::X::.arr 4 ch cs::c9 cs bS::S):=by
 have uO:=s.lC (j:=1) rfl
 have tF:=s.aH (k:=0) rfl hX
 have Ct:=iV tF
 have jF:=uL (kd:=kd) (tx:=tx) (pv:=pv) (nx:=nx) tF.cells.2 uO.2.1
 have hk:1≤kd∧kd≤9:=by simp [dO] at hg; omega
 have uN:∀c∈bS,c.Ok:=by
  simp only [dO,aG,oY,ej] at hg
  exact hg.2
 have hm:=I.1
 have h1:=eT 9 tx
 have h2:=eT 9 pv
 have h3:=eT 9 nx
 have h4:=eT 9 data.length
 have h5:=eT 9 bS.length
 refine Call.of_wp (J.free _ rfl) Tryz.func162 rfl rfl (zg rfl (az.cr s rfl rfl rfl (fC rfl jF) ?_))
 intro p1 h s
 dsimp only [V.cells] at s
 refine zk 4 rfl (zf rfl (uy _ _) (zl rfl (s.ld (k:=0) rfl eM rfl) (zo rfl (cH rfl (by exact jQ bN Tryz.underlying5 (yp (by omega) (by omega)))) ?_)))
 refine az.any rfl rfl rfl (OpR.GB (n:=kd) rfl s rfl rfl rfl (by omega)) ?_
 intro v3 h s
 refine zk 5 rfl (zf rfl (Px _ _) (zl rfl (s.ld (k:=1) rfl mN rfl) (zf rfl (Py _ _) (zl rfl (s.ld (k:=1) rfl mN rfl) (zf rfl (Pz _ _) (zl rfl (s.ld (k:=1) rfl mN rfl) (zo rfl (cX rfl (by rw [Re]; rfl)) ?_)))))))
 refine zk 2 rfl (WP.block (WP.loop (zg rfl (zt rfl (ag rfl rfl bf) (by decide) ?_))))
 refine zk 5 rfl (WP.block (zg rfl (zo rfl (Gi rfl rfl (r:=.int .u64 (tx:Int)) (by simp only [indexV,CW,Gr,oE,mN]; rfl)) ?_)))
 refine zk 5 rfl (zc rfl (my J s (by omega) (by simp only [bQ,aQ,bF]; omega)) ?_)
 intro v3 h s
 refine za rfl (zv (zr rfl (zb rfl (by exact bB (aC (by omega) (by omega))) ?_)))
 refine zm rfl (zv (WP.loop (zg rfl (zt rfl (ag rfl rfl bf) (by decide) ?_))))
 refine zk 5 rfl (WP.block (zg rfl (zo rfl (Gi rfl rfl (r:=.int .u64 (pv:Int)) (by simp only [indexV,CW,Gr,oE,mN]; rfl)) ?_)))
 refine zk 5 rfl (zc rfl (my J s (by omega) (by simp only [bQ,aQ,bF]; omega)) ?_)
 intro v3 h s
 refine za rfl (zv (zr rfl (zb rfl (by exact bB (aC (by omega) (by omega))) ?_)))
 refine zm rfl (zv (WP.loop (zg rfl (zt rfl (ag rfl rfl bf) (by decide) ?_))))
 refine zk 5 rfl (WP.block (zg rfl (zo rfl (Gi rfl rfl (r:=.int .u64 (nx:Int)) (by simp only [indexV,CW,Gr,oE,mN]; rfl)) ?_)))
 refine zk 5 rfl (zc rfl (my J s (by omega) (by simp only [bQ,aQ,bF]; omega)) ?_)
 intro v3 h s
 refine za rfl (zv (zr rfl (zb rfl (by exact bB (aC (by omega) (by omega))) ?_)))
 refine zm rfl (zv (WP.loop (zg rfl (zh rfl (ag rfl rfl bf) (by decide) ?_))))
 refine zk 3 rfl (WP.exit (zw ?_))
 have s0:=s
 have tT:=iV (s.buf (k:=0) rfl).view
 refine WP.drawn [ak,ak,ak,ak,some (0,2),some (0,2),some (0,2),some (0,2),none,none] rfl (by kernel_rfl) (by kernel_rfl) ?_
 refine zM rfl (zF rfl (PA _ _) (zL rfl (s.ld (k:=1) rfl bK rfl) (aB.any rfl rfl rfl rfl (OpR.call rfl rfl rfl rfl (AJ J (s.ae [0,1]) hX (by simp only [bQ,aQ,bF]; omega))) ?_)))
 intro v4 h s
 have s:=s.ae [0,1,0]
 have s1:=s
 refine zF rfl (qb _ _) (zL rfl (s.ld (k:=1) rfl Ar rfl) (zO rfl (aV rfl rfl rfl (s.uM (j1:=3) (j2:=4) rfl rfl iO)) (aB.op rfl rfl rfl (by simp only [isEff,cZ]) (cH rfl (by exact jQ bN cZ (fX (by omega) (by omega)))) ?_)))
 refine aB.any rfl rfl rfl rfl (OpR.call rfl rfl rfl rfl (my J s (by omega) (by simp only [bQ,aQ,bF]; omega))) ?_
 intro v5 h s
 refine zA rfl ?_
 refine aB.nil ⟨⟨aa,aa,aa,aa,fun _ _=>.inr ⟨rfl,⟨_,ny rfl (qb _ _)⟩,bT _ rfl⟩,fo (.inr ⟨rfl,⟨_,aO rfl (s0.ld (k:=1) rfl Ar rfl)⟩,uO.2.2⟩) (.inr ⟨rfl,⟨_,aO rfl (s1.ld (k:=1) rfl Ar rfl)⟩,uO.2.2⟩),fo (.inr ⟨rfl,⟨_,aV rfl rfl rfl (s0.uM (j1:=3) (j2:=4) rfl rfl iO)⟩,bT _ rfl⟩) (.inr ⟨rfl,⟨_,aV rfl rfl rfl (s1.uM (j1:=3) (j2:=4) rfl rfl iO)⟩,bT _ rfl⟩),fun _ _=>.inr ⟨rfl,⟨_,cH rfl (by exact jQ bN cZ (fX (by omega) (by omega)))⟩,bT _ rfl⟩,aa,aa,aa⟩,?_⟩
 refine zK 3 rfl (zf rfl (qb _ _) (zl rfl (s.ld (k:=1) rfl Ar rfl) (zo rfl (aV rfl rfl rfl (s.uM (j1:=3) (j2:=4) rfl rfl iO)) (zk 2 rfl (WP.block ?_)))))
 have s:=s.ae [0,2,2,1]
 refine I4 J uN I bS.length 0 v5 _ _ _ _ (by omega) (by rw [eR]; simp only [bQ,aQ,bF]; omega) s ⟨rfl,rfl,rfl,rfl,rfl,aa⟩ (fun E' h' PT kK s' => ?_)
 refine WP.has (F:=[(3,PT)]) ⟨kK,aa⟩ (zK 5 rfl (WP.ret ⟨aa,_,rfl,?_⟩))
 have Sl:=(s'.ae [0,2,0,0]).del 4
 dsimp only [List.cons_append,List.nil_append,List.drop,aZ,bringA,getA] at Sl
 simpa [d_,eO] using Sl
end
def ow (aM:Nat)(b:List Nat): List Nat:=le 4 b.length++le 4 (yF aM b)++b
theorem sX (aM:Nat)(b:List Nat): (ow aM b).length=8+b.length:=by simp [ow,dy]; omega
theorem ql : ∃i,Tryz.prog.info? 3=some i∧i.size=1∧i.bytes=8 :=
 ⟨_,(show Tryz.prog.info? 3=some ((Tryz.prog.info? 3).getD default) by kernel_rfl),by kernel_rfl,by kernel_rfl⟩
section
variable {told:cK} {h:H} {S:List aq} {X:aq} {k q p:Nat} {v w:V} {l m:List Nat} {μ:Lg} {δ:Dk}
theorem I6 (I:W told){n:Nat}(s:Sat h S)(J:getA S k=some X)(hX:cI X (cL v l))(hl:l.length≤4611686018427387904):
  Call ⟨Tryz.prog,told⟩ 163 [.int .u64 (n:Int),v] h fun r h'=>r=.int .u32 (yF n l:Nat)∧Sat h' S :=
 (IM I.Mo s.wf (s.aH J hX) hl).mono fun _ _ ⟨h1,h2⟩=>⟨h1,s.kn h2⟩
structure yL (tx pv nx:Nat)(data:List Nat)(bS:List c7): Prop where
 fit:yK bS
 tx:tx<18446744073709551616
 pv:pv<18446744073709551616
 nx:nx<18446744073709551616
 len:data.length+(bS.flatMap kL).length≤70368744177664
theorem I7 (J:W told){kd:Int}{tx pv nx aM:Nat}{dt ch:V}{cs:List V}{data:List Nat}{bS:List c7}(s:Sat h (X::.arr 4 ch cs::c9 cs bS::S))(hX:cI X (cL dt data))(I:yL tx pv nx data bS):
  Call ⟨Tryz.prog,told⟩ 116 [.agg (mU kd tx pv nx dt ch),.int .u64 (aM:Int)] h fun r h' =>
  (dO kd bS=false∧r=.aX [.bu,.int .i64 1]∧Sat h' (X::.arr 4 ch cs::c9 cs bS::S)) ∨
  (dO kd bS=true∧1048576<(d_ kd tx pv nx data bS).length∧r=.aX [.bu,.int .i64 2]∧Sat h' (X::.arr 4 ch cs::c9 cs bS::S)) ∨
  (dO kd bS=true∧(d_ kd tx pv nx data bS).length≤1048576∧∃u,r=.aX [u,.int .i64 0]∧Sat h' (aP u (ow aM (d_ kd tx pv nx data bS))::X::.arr 4 ch cs::c9 cs bS::S)):=by
 have uO:=s.lC (j:=1) rfl
 have tF:=s.aH (k:=0) rfl hX
 have jF:=uL (kd:=kd) (tx:=tx) (pv:=pv) (nx:=nx) tF.cells.2 uO.2.1
 refine Call.of_wp (J.free _ rfl) Tryz.func116 rfl rfl (zg rfl (az.cr s rfl rfl rfl (fC rfl jF) ?_))
 intro p1 h s
 dsimp only [V.cells] at s
 refine zk 6 rfl (zl rfl (s.cP (k:=0) rfl As sR) (zc rfl (KX J (s.ae [2,2]) tF.cells.2 I.fit) ?_))
 rintro r h' ⟨rfl,s⟩
 cases hg:dO kd bS with
 | false =>
  exact zo rfl (eY rfl rfl) (zk 7 rfl (WP.ret ⟨aa,_,rfl,.inl ⟨rfl,rfl,(s.ae [3,0,0]).del 3⟩⟩))
 | true =>
  refine zo rfl (eY rfl rfl) (zk 5 rfl (zl rfl (s.cP (k:=2) rfl As sR) ?_))
  have hk:∃n:Nat,kd=n:=⟨kd.toNat,by simp [dO] at hg; omega⟩
  obtain ⟨kd,rfl⟩:=hk
  refine zc rfl (KZ J (s.ae [3,0,0]) hX hg I.fit I.tx I.pv I.nx I.len) ?_
  intro u h s
  dsimp only [bringA,getA,aZ] at s
  have rW:(d_ kd tx pv nx data bS).length<9223372036854775808:=by
   have h1:=eT 9 tx
   have h2:=eT 9 pv
   have h3:=eT 9 nx
   have h4:=eT 9 data.length
   have h5:=eT 9 bS.length
   have h6:=I.len
   simp only [d_,bQ,aQ,bF]
   omega
  generalize EF:d_ kd tx pv nx data bS=bd at s rW ⊢
  refine zk 6 rfl (zo rfl (aV rfl rfl rfl (aS aI (s.aH (k:=0) rfl (aR _ _)))) ?_)
  by_cases CY:1048576<bd.length
  ·skip
   refine zt rfl (ag rfl rfl fY) (by simp; omega) ?_
   exact zk 7 rfl (WP.ret ⟨aa,_,rfl,.inr (.inl ⟨rfl,CY,rfl,(s.del 4).del 0⟩)⟩)
  ·skip
   refine zh rfl (ag rfl rfl fY) (by simp; omega) ?_
   refine zk 6 rfl (zo rfl (aV rfl rfl rfl (aS aI (s.aH (k:=0) rfl (aR _ _)))) (zb rfl (by exact bB (aC (by omega) (by omega))) ?_))
   refine az.any rfl rfl rfl (OpR.qd (c:=8+bd.length) rfl s rfl rfl rfl rfl (by omega)) ?_
   intro v h s
   refine zm rfl (zo rfl (aV rfl rfl rfl (aS aI (s.aH (k:=1) rfl (aR _ _)))) (zo rfl (cH rfl (by exact jQ bN cZ (fX (by omega) (by omega)))) ?_))
   refine zc rfl (CT (z:=4) J s (by decide) (by simp)) ?_
   intro v h s
   have bk:=(s.buf (k:=1) rfl).1
   refine zk 7 rfl (zc rfl (I6 (n:=aM) J s (k:=1) rfl (aR _ _) (by omega)) ?_)
   rintro r h ⟨rfl,s⟩
   have kr:=KR (aM:=aM) bk
   refine zo rfl (cH rfl (by exact jQ Tryz.underlying231 cZ (fX (by omega) (by omega)))) ?_
   refine zc rfl (CT (z:=4) J s (by decide) (by simp [dy])) ?_
   intro v h s
   refine zk 6 rfl (az.any rfl rfl rfl (OpR.ov rfl s (aR _ _) rfl rfl rfl rfl (by simp only [bQ,dy,bF]; omega)) ?_)
   intro v h s
   refine zk 3 rfl (WP.ret ⟨aa,_,rfl,?_⟩)
   refine .inr (.inr ⟨rfl,by omega,v,rfl,?_⟩)
   have s:=(s.del 5).del 1
   dsimp only [aZ] at s
   simpa [ow,eO] using s
def Lg.app (μ:Lg)(b:List Nat): Lg:={ μ with b:=μ.b++b,cf:=μ.cf++[μ.b.length] }
theorem GQ (hT:W told){kd:Int}{tx pv nx:Nat}{dt ch:V}{cs:List V}{data:List Nat}{bS:List c7}(s:Sat h (bW q p μ::bp p δ::X::.arr 4 ch cs::c9 cs bS::S))(hX:cI X (cL dt data))(fF:yL tx pv nx data bS)
 (J:μ.Ok)(hf:δ.bL<4294967296)(hl:δ.log.length≤16777216)(hr:δ.room≤16777216):
  Call ⟨Tryz.prog,told⟩ 59 [.ptr q 0,.agg (mU kd tx pv nx dt ch)] h fun r h' =>
  (∃e:Int,r=.aX [.int .u64 0,.int .i64 e]∧((dO kd bS=false∧e=1)∨(dO kd bS=true∧1048576<(d_ kd tx pv nx data bS).length∧e=2)∨(dO kd bS=true∧(d_ kd tx pv nx data bS).length≤1048576∧δ.dead=true∧e=9) ∨
    (dO kd bS=true∧(d_ kd tx pv nx data bS).length≤1048576∧δ.dead=false∧δ.room<δ.log.length+(ow (μ.base+μ.b.length) (d_ kd tx pv nx data bS)).length∧e=7))∧Sat h' (bW q p μ::bp p δ::X::.arr 4 ch cs::c9 cs bS::S)) ∨
  (dO kd bS=true∧(d_ kd tx pv nx data bS).length≤1048576∧δ.dead=false∧δ.log.length+(ow (μ.base+μ.b.length) (d_ kd tx pv nx data bS)).length≤δ.room∧δ.bL=0∧r=.aX [.int .u64 0,.int .i64 9] ∧
   Sat h' (bW q p μ::bp p { δ.die with tail:=ow (μ.base+μ.b.length) (d_ kd tx pv nx data bS) }::X::.arr 4 ch cs::c9 cs bS::S)) ∨
  (dO kd bS=true∧(d_ kd tx pv nx data bS).length≤1048576∧δ.dead=false∧δ.log.length+(ow (μ.base+μ.b.length) (d_ kd tx pv nx data bS)).length≤δ.room∧δ.bL≠0∧r=.aX [.int .u64 ((μ.base+μ.b.length:Nat):Int),.int .i64 0] ∧
   Sat h' (bW q p (μ.app (ow (μ.base+μ.b.length) (d_ kd tx pv nx data bS)))::bp p { δ.gq with log:=δ.log++ow (μ.base+μ.b.length) (d_ kd tx pv nx data bS) }::X::.arr 4 ch cs::c9 cs bS::S)):=by
 have uO:=s.lC (j:=3) rfl
 have tF:=s.aH (k:=2) rfl hX
 have jF:=uL (kd:=kd) (tx:=tx) (pv:=pv) (nx:=nx) tF.cells.2 uO.2.1
 have GO:=J.size
 refine Call.of_wp (hT.free _ rfl) Tryz.func59 rfl rfl (zg rfl (az.cr s rfl rfl rfl (fC rfl jF) ?_))
 intro p1 h s
 dsimp only [V.cells] at s
 have s:=s.ae [1,0]
 refine zk 6 rfl (zc rfl (AH hT s J.size) ?_)
 rintro v h' ⟨rfl,rfl⟩
 refine zk 4 rfl (zl rfl (s.cP (k:=1) rfl As sR) (zm rfl (zc rfl (I7 (aM:=μ.base+μ.b.length) hT (s.ae [3,3,3]) hX fF) ?_)))
 generalize Vb:ow (μ.base+μ.b.length) (d_ kd tx pv nx data bS)=rc
 have W8:rc.length=8+(d_ kd tx pv nx data bS).length:=by rw [←Vb,sX]
 rintro r h' (⟨hg,rfl,s⟩ | ⟨hg,CY,rfl,s⟩ | ⟨hg,qm,u,rfl,s⟩)
 ·dsimp only [bringA,getA,aZ] at s
  exact zk 10 rfl (zt rfl (ag rfl rfl aL) (rfl) (zk 8 rfl (WP.ret ⟨aa,_,rfl,.inl ⟨1,rfl,.inl ⟨hg,rfl⟩,(s.ae [3,4,0,0,0]).del 5⟩⟩)))
 ·dsimp only [bringA,getA,aZ] at s
  exact zk 10 rfl (zt rfl (ag rfl rfl aL) (rfl) (zk 8 rfl (WP.ret ⟨aa,_,rfl,.inl ⟨2,rfl,.inr (.inl ⟨hg,CY,rfl⟩),(s.ae [3,4,0,0,0]).del 5⟩⟩)))
 ·dsimp only [bringA,getA,aZ] at s
  have bk:=(s.buf (k:=0) rfl).1
  obtain ⟨jR,_,cap,_,rfl,_⟩:=s.eo (by omega)
  obtain ⟨bv,sv,s⟩:=fG.1 (s.ae [4])
  refine zk 10 rfl (zh rfl (ag rfl rfl aL) (rfl) (zk 8 rfl (zf rfl (EZ _ _) (zl rfl (s.ld (k:=0) rfl rf rfl) (zm rfl ?_)))))
  have s:=s.ae [8,3]
  refine zc rfl (GJ hT s (aR _ _) (by omega) hf (by omega) (by omega)) ?_
  rintro r h (⟨hd,rfl,s⟩ | ⟨hd,BS,rfl,s⟩ | ⟨hd,I,h0,rfl,s⟩ | ⟨hd,I,h0,rfl,s⟩)
  ·refine az.op rfl rfl rfl (eX rfl) ?_
   exact zk 4 rfl (zt rfl (ag rfl rfl aL) (rfl) (zk 8 rfl (WP.ret ⟨aa,_,rfl,.inl ⟨9,rfl,.inr (.inr (.inl ⟨hg,qm,hd,rfl⟩)),(fG.2 ⟨bv,sv,((s.ae [2,2,2,0,1,1,1]).del 8).del 7⟩)⟩⟩)))
  ·skip
   exact zk 5 rfl (zt rfl (ag rfl rfl aL) (rfl) (zk 8 rfl (WP.ret ⟨aa,_,rfl,.inl ⟨7,rfl,.inr (.inr (.inr ⟨hg,qm,hd,by omega,rfl⟩)),(fG.2 ⟨bv,sv,((s.ae [2,2,2,0,1,1,1]).del 8).del 7⟩)⟩⟩)))
  ·skip
   exact zk 5 rfl (zt rfl (ag rfl rfl aL) (rfl) (zk 8 rfl (WP.ret ⟨aa,_,rfl,.inr (.inl ⟨hg,qm,hd,I,h0,rfl,(fG.2 ⟨bv,sv,((s.ae [2,2,2,0,1,1,1]).del 8).del 7⟩)⟩)⟩)))
  ·skip
   have s:=s.ae [2,2,2,1,0,0,0,0]
   refine zk 5 rfl (zh rfl (ag rfl rfl aL) (rfl) (zk 4 rfl ?_))
   have s0:=s
   have PG:=iV (s.buf (k:=1) rfl).view
   have Sn:=(s.lC (j:=2) rfl).2.2
   refine WP.drawn [some (0,3),some (0,2),some (0,2),some (0,2),some (0,2),ak,ak,ak,ak,ak,ak,ak,ak,ak,ak] rfl (by kernel_rfl) (by kernel_rfl) ?_
   refine zM rfl (zM rfl (zN rfl (zF rfl (nD _ _) (zL rfl (s.ld (k:=0) rfl lS rfl) (zM rfl (zN rfl (zF rfl (jI _ _) (zL rfl (s.ld (k:=0) rfl bK rfl) (zO rfl (aV rfl rfl rfl (aS aI (s.aH (k:=1) rfl (aR _ _)))) ?_)))))))))
   obtain ⟨i1,jS,ie,uJ⟩:=ql
   obtain ⟨iv,h1,e1,s1⟩:=kg (P:=Tryz.prog) (k:=1) (x:=.int .i64 (μ.b.length:Int)) s dx wF mh rfl (by decide) (by decide) rfl rfl
   dsimp only [V.cells] at s1
   refine aB.any rfl rfl rfl rfl (OpR.of (R:=fun v h'=>v=iv∧h'=h1) (lR rfl e1) ⟨rfl,rfl⟩) ?_
   rintro v h' ⟨rfl,rfl⟩
   have Mt:=J.many
   obtain ⟨PT,h2,e2,s2⟩:=gI (s1.ae [3,0]) dx jS wF ie (by omega) rfl (by decide) (by simp only [iy,aQ,bF]; omega)
   refine aB.any rfl rfl rfl rfl (OpR.of (R:=fun v h'=>v=PT∧h'=h2) (mL rfl rfl e2) ⟨rfl,rfl⟩) ?_
   rintro v h' ⟨rfl,rfl⟩
   have hv:=s2.lC (j:=0) rfl
   refine zN rfl (zF rfl (nD _ _) (aB.jG rfl rfl rfl (OpR.r7 rfl rfl rfl (s2.iw (k:=2) rfl KD rfl (by decide) hv.1 hv.2.1)) ?_))
   rintro v h ⟨rfl,s⟩
   refine aB.nil ⟨⟨fun _ _=>.inr ⟨rfl,⟨_,b_ rfl⟩,bT _ rfl⟩,fun _ _=>.inr ⟨rfl,⟨_,b_ rfl⟩,bT _ rfl⟩,fun _ _=>.inr ⟨rfl,⟨_,sP rfl⟩,bT _ rfl⟩,fun _ _=>.inr ⟨rfl,⟨_,ny rfl (nD _ _)⟩,bT _ rfl⟩,fo (.inr ⟨rfl,⟨_,aO rfl (s0.ld (k:=0) rfl lS rfl)⟩,Sn⟩) (.inr ⟨rfl,⟨_,aO rfl (s1.ld (k:=1) rfl lS rfl)⟩,Sn⟩),aa,aa,aa,aa,aa,aa,aa,aa,aa,aa,aa⟩,?_⟩
   refine zK 5 rfl (zf rfl (jI _ _) (zl rfl (s.ld (k:=2) rfl bK rfl) (zm rfl (az.any rfl rfl rfl (OpR.ov rfl (s.ae [3,3]) (aR _ _) rfl rfl rfl rfl (by have:=J.len; omega)) ?_))))
   intro Mv h s
   have hv:=(s.buf (k:=0) rfl).view.cells
   refine zn rfl (zf rfl (jI _ _) (zS rfl (s.iw (k:=4) rfl jX rfl (by decide) hv.1 hv.2) ?_))
   intro h s
   refine zk 7 rfl (WP.ret ⟨aa,_,rfl,?_⟩)
   refine .inr (.inr ⟨hg,qm,hd,I,h0,rfl,fG.2 ⟨Mv,v,?_⟩⟩)
   have s:=(((s.ae [4,0,1]).del 4).del 3).del 7
   have e:cx (μ.app rc).cf=cx μ.cf++[.int .i64 (μ.b.length:Int)]:=by simp [Lg.app,cx]
   rw [e]
   exact s
end
end Go.Proofs.YtefepnnfphdkpaaGreat.Am
