/- ChainFull: a part of its proof; conditions: its statement's. -/
import Derived.Test.YtefepnnfphdkpaaGreatD20
set_option linter.defProp false
namespace Go.Proofs.YtefepnnfphdkpaaGreat.Am
open Go
def jm:=@Tryz.underlying46
def D_:=@Tryz.underlying244
structure dr where
 bg:Int
 pos:Int
 whole:Bool
 b:List Nat
def dr.Ok (c:dr): Prop:=0≤c.bg∧c.bg<65536∧0≤c.pos∧c.pos≤512∧(c.b.length:Int)≤512-c.pos∧(c.whole=true→c.pos=0∧c.b.length=512)
instance (c:dr):Decidable c.Ok:=by unfold dr.Ok; infer_instance
def dZ (kind:Int)(bX:List dr): Bool:=decide (1≤kind∧kind≤9)&&bX.all fun c=>decide c.Ok
def nL (kd:Int)(tx pv nx:Nat)(I ch:V): List V:=[.int .i64 kd,.int .u64 (tx:Int),.int .u64 (pv:Int),.int .u64 (nx:Int),I,ch]
theorem vV {kd:Int}{tx pv nx:Nat}{I ch:V}(hd:storable I=true)(J:storable ch=true): (nL kd tx pv nx I ch).all storable=true:=by
 simp only [nL,iB,i_,hd,J]
 rfl
def dx : List V→List dr→aq
 | [],[]=>.pu True
 | p::a::w::v::l,x::m=>.an (.an (.pu (p=.int .i64 x.bg∧a=.int .i64 x.pos∧w=.bool x.whole)) (.cy v x.b)) (dx l m)
 | _,_=>.pu False
theorem aQ.o5 : ∀(m:List dr) (l:List V),aQ (dx l m):=by
 intro m
 induction m with
 | nil=>intro l; rcases l with _ | ⟨a,_ | ⟨b,_ | ⟨c,_ | ⟨d,l⟩⟩⟩⟩ <;> exact aQ.pu _
 | cons x m I=>intro l; rcases l with _ | ⟨a,_ | ⟨b,_ | ⟨c,_ | ⟨d,l⟩⟩⟩⟩ <;> first | exact aQ.pu _ | exact aQ.an (aQ.an (aQ.pu _) (aQ.cy _ _)) (I l)
theorem oE {a b:PM}: ∀ {m:List dr} {l:List V},(dx l m).p a b→l.length=m.length*4:=by
 intro m
 induction m with
 | nil=>intro l h; rcases l with _ | ⟨x,_ | ⟨y,_ | ⟨z,_ | ⟨d,l⟩⟩⟩⟩ <;> first | rfl | exact h.elim
 | cons x m I =>
  intro l h
  rcases l with _ | ⟨x,_ | ⟨y,_ | ⟨z,_ | ⟨d,l⟩⟩⟩⟩ <;> first | exact h.elim | skip
  have:=I h.2
  simp only [aN]
  omega
theorem yH {a b:PM}: ∀ {m m':List dr} {l I:List V},(dx l m).p a b→(dx I m').p a b→(dx (l++I) (m++m')).p a b:=by
 intro m
 induction m with
 | nil=>intro m' l I h h'; rcases l with _ | ⟨x,_ | ⟨y,_ | ⟨z,_ | ⟨d,l⟩⟩⟩⟩ <;> first | exact h' | exact h.elim
 | cons x m J =>
  intro m' l I h h'
  rcases l with _ | ⟨x,_ | ⟨y,_ | ⟨z,_ | ⟨d,l⟩⟩⟩⟩ <;> first | exact h.elim | exact ⟨h.1,J h.2 h'⟩
theorem Ea {a b:PM}: ∀ {m:List dr} {l:List V} {i:Nat} {c:dr},(dx l m).p a b→m[i]?=some c→∃u,(l.drop (i*4)).take 4=[.int .i64 c.bg,.int .i64 c.pos,.bool c.whole,u]∧(aq.cy u c.b).p a b:=by
 intro m
 induction m with
 | nil=>intro l i c h I; simp at I
 | cons x m J =>
  intro l i c h I
  rcases l with _ | ⟨p,_ | ⟨q,_ | ⟨w,_ | ⟨v,l⟩⟩⟩⟩ <;> first | exact h.elim | skip
  obtain ⟨⟨⟨h1,h2,h3⟩,h4⟩,h5⟩:=h
  cases i with
  | zero=>simp at I; subst I; exact ⟨v,by rw [h1,h2,h3]; rfl,h4⟩
  | succ i =>
   simp at I
   obtain ⟨u,e1,e2⟩:=J h5 I
   refine ⟨u,?_,e2⟩
   rw [←e1,show (i+1)*4=i*4+4 by omega]
   rfl
section
variable {told:cz} {h:H} {S:List aq} {X:aq} {k q p:Nat} {v:V} {l:List Nat}
theorem KA {ch:V}{cs:List V}{m:List dr}{i:Nat}{c:dr}(s:Sat h (.arr 4 ch cs::dx cs m::S))(hc:m[i]?=some c):
  ∃id off u,indexAddrV Tryz.prog 46 ch (.int .i64 (i:Int))=some (.ptr id off)∧loadV Tryz.prog h 180 (.ptr id off)=some (.agg [.int .i64 c.bg,.int .i64 c.pos,.bool c.whole,u]) ∧
   u.cells=[u]∧storable u=true∧u.beq u=true∧Sat h (.cy u c.b::.arr 4 ch cs::dx cs m::S):=by
 obtain ⟨a,b,q1,q2,q3⟩:=s.at (k:=1) rfl
 have DU:=(List.getElem?_eq_some_iff.1 hc).1
 have hl:=oE q3
 obtain ⟨u,e1,e2⟩:=Ea q3 hc
 obtain ⟨id,off,g1,J⟩:=R3 (P:=Tryz.prog) (i:=i) s (j:=0) rfl (by omega) (by decide) jm xx
 have J:=J TD
 rw [e1] at J
 have s2:Sat h (dx cs m::.arr 4 ch cs::S):=s.ae [1]
 have s3:=(s2.dup (aQ.o5 _ _)).hU (B:=.cy u c.b) fun a b h=>by
  obtain ⟨u',I,tQ⟩:=Ea h hc
  rw [e1] at I
  injection I with _ I
  injection I with _ I
  injection I with _ I
  injection I with I _
  subst I
  exact tQ
 have hu:=(s3.aG (k:=0) rfl (c8 _ _))
 exact ⟨id,off,u,g1,J,hu.cells.1,hu.cells.2,jd hu,s3.ae [0,1,0]⟩
theorem GQ {ch:V}{cs:List V}{m:List dr}{j1 j2:Nat}{P:Program}{t e:TypeId}(s:Sat h S)(I:getA S j1=some (.arr 4 ch cs))(J:getA S j2=some (dx cs m))(hu:P.underlying t=some (.slice e)): lenV P h t ch=some (.int .i64 m.length):=by
 obtain ⟨a,b,q1,q2,q3⟩:=s.at J
 exact s.dJ I (oE q3) (by decide) hu
theorem Sat.vW {ch:V}{cs:List V}{m:List dr}{j1 j2:Nat}{P:Program}{t e:TypeId}(s:Sat h S)(I:getA S j1=some (.arr 4 ch cs))(J:getA S j2=some (dx cs m))(hu:P.underlying t=some (.slice e)): lenV P h t ch=some (.int .i64 m.length):=GQ s I J hu
noncomputable def UM : Code:=eC [1,1,0,1,0,0] ((Tryz.f161.body).getD .skip)
theorem ID {p1:Nat}{ch:V}{cs:List V}{m:List dr}: ∀(j i:Nat) (h:H) (E:List (Nat×V)) (Q:Ex→List (Nat×V)→H→Prop),i+j=m.length→m.length<4294967296→(∀c∈m,c.b.length<9223372036854775808) →
  (∀c∈m, -4294967296≤c.pos∧c.pos≤4294967296)→Sat h (.arr 4 ch cs::dx cs m::S)→Has E [(1,.ptr p1 0),(14,ch),(15,.int .i64 m.length),(16,.int .i64 i)] →
  ((m.drop i).all (fun c=>decide c.Ok)=false→∀E' h',look E' 2=some (.bool false)→Sat h' (.arr 4 ch cs::dx cs m::S)→Q .ret E' h') →
  ((m.drop i).all (fun c=>decide c.Ok)=true→∀E' h',Sat h' (.arr 4 ch cs::dx cs m::S)→Q (.exit 0) E' h')→WP ⟨Tryz.prog,told⟩ 61 (.loop UM) E h Q:=by
 intro j
 induction j with
 | zero =>
  intro i h E Q hi hm hb J s hE hr hx
  refine WP.loop (WP.has hE (zg rfl (zh rfl (ag rfl rfl aR) (by simp; omega) ?_)))
  exact zk 3 rfl (WP.exit (hx (by rw [fI (by omega)]; rfl) _ _ s))
 | succ j ih =>
  intro i h E Q hi hm hb J s hE hr hx
  have hc:m[i]?=some (m[i]'(by omega)):=aM _
  generalize (m[i]'(by omega))=c at hc
  have KB:=aV hc
  have UN:=hb c KB
  have XS:=J c KB
  have qf:m.drop i=c::m.drop (i+1):=by
   have:=List.getElem?_eq_some_iff.1 hc
   obtain ⟨h1,rfl⟩:=this
   exact sI h1
  rw [qf,iB] at hr hx
  obtain ⟨id,off,u,e1,e2,u1,u2,u3,s⟩:=KA s hc
  refine WP.loop (WP.has hE (zg rfl (zt rfl (ag rfl rfl aR) (by simp; omega) ?_)))
  refine zk 5 rfl (WP.block (zg rfl (zo rfl (cn (r:=.ptr id off) rfl rfl e1) (zl rfl e2 ?_))))
  refine az.cJ s rfl rfl rfl (cE rZ) (fun p4 h s => ?_)
  dsimp only [V.cells,List.length_cons,List.length_nil,Nat.reduceAdd] at s
  refine zS rfl (s.iw (j:=0) rfl xx rfl (by simp only [iB,i_,u2]; rfl)) ?_
  intro h s
  dsimp only [setA] at s
  refine zk 4 rfl (zf rfl (BK _ _) (zl rfl (s.ld (k:=0) rfl dS rfl) ?_))
  refine zd rfl (ag rfl rfl aR) ?_ ?_
  ·intro rP
   have rP:c.bg<0:=by simp at rP; omega
   exact zk 30 rfl (WP.ret (hr (by rw [dm (fun q:c.Ok=>by have:=q.1; omega),f_]) _ _ rfl s.drop.drop))
  ·intro rP
   have rP:¬ (c.bg<0):=by simp at rP; omega
   refine zm rfl (zf rfl (BK _ _) (zl rfl (s.ld (k:=0) rfl dS rfl) ?_))
   refine zd rfl (ag rfl rfl sB) ?_ ?_
   ·intro AA
    have AA:65536≤c.bg:=by simp at AA; omega
    exact zk 26 rfl (WP.ret (hr (by rw [dm (fun q:c.Ok=>by have:=q.2.1; omega),f_]) _ _ rfl s.drop.drop))
   ·intro AA
    have AA:¬ (65536≤c.bg):=by simp at AA; omega
    refine zk 2 rfl (zf rfl (qJ _ _) (zl rfl (s.ld (k:=0) rfl dS rfl) ?_))
    refine zd rfl (ag rfl rfl aR) ?_ ?_
    ·intro gv
     have gv:c.pos<0:=by simp at gv; omega
     exact zk 21 rfl (WP.ret (hr (by rw [dm (fun q:c.Ok=>by have:=q.2.2.1; omega),f_]) _ _ rfl s.drop.drop))
    ·intro gv
     have gv:¬ (c.pos<0):=by simp at gv; omega
     refine zk 2 rfl (zf rfl (qJ _ _) (zl rfl (s.ld (k:=0) rfl dS rfl) ?_))
     refine zd rfl (ag rfl rfl gA) ?_ ?_
     ·intro KC
      have KC:512<c.pos:=by simp at KC; omega
      exact zk 16 rfl (WP.ret (hr (by rw [dm (fun q:c.Ok=>by have:=q.2.2.2.1; omega),f_]) _ _ rfl s.drop.drop))
     ·intro KC
      have KC:¬ (512<c.pos):=by simp at KC; omega
      refine zk 2 rfl (zf rfl (qK _ _) (zl rfl (s.ld (k:=0) rfl bK rfl) (zo rfl (aO rfl rfl rfl (aW aJ (s.aG (k:=1) rfl (c8 _ _)))) (zf rfl (qJ _ _) (zl rfl (s.ld (k:=0) rfl dS rfl) (zb rfl (by exact jj (aA (by omega) (by omega))) ?_))))))
      refine zd rfl (ag rfl rfl gA) ?_ ?_
      ·intro nh
       have nh:512-c.pos<(c.b.length:Int):=by simp at nh; omega
       exact zk 7 rfl (WP.ret (hr (by rw [dm (fun q:c.Ok=>by have:=q.2.2.2.2.1; omega),f_]) _ _ rfl s.drop.drop))
      ·intro nh
       have nh:¬ (512-c.pos<(c.b.length:Int)):=by simp at nh; omega
       refine zk 6 rfl (zf rfl (GG _ _) ?_)
       have pX:∀(h:H) (E:List (Nat×V)),c.Ok→Sat h (.arr 4 ch cs::dx cs m::S)→Has E [(1,.ptr p1 0),(14,ch),(15,.int .i64 m.length),(16,.int .i64 ((i:Int)+1))]→WP ⟨Tryz.prog,told⟩ 61 (.loop UM) E h Q:=by
        intro h E yl s hE
        rw [cZ yl,wU] at hr hx
        exact ih (i+1) h E Q (by omega) hm hb J s hE hr hx
       have Jq:c.whole=false∨c.whole=true:=by cases c.whole <;> simp
       rcases Jq with hw | hw
       ·skip
        refine zh rfl (aS rfl (by exact s.ld (k:=0) rfl nU rfl)) (hw) ?_
        refine zk 11 rfl (zv (zj rfl (WP.skip (zr rfl (zb rfl (by exact bp (aA (by omega) (by omega))) ?_)))))
        refine zm rfl (zv ?_)
        refine pX _ _ ?_ ?_ ?_
        ·exact ⟨by omega,by omega,by omega,by omega,by omega,fun e=>by rw [hw] at e; cases e⟩
        ·exact s.drop.drop
        ·exact ⟨rfl,rfl,rfl,rfl,aa⟩
       ·skip
        refine zt rfl (aS rfl (s.ld (k:=0) rfl nU rfl)) (hw) (zm rfl (zf rfl (qJ _ _) (zl rfl (s.ld (k:=0) rfl dS rfl) ?_)))
        refine zd rfl (ag rfl rfl aI) ?_ ?_
        ·intro hp
         have hp:c.pos≠0:=by simp at hp; omega
         exact zk 13 rfl (WP.ret (hr (by rw [dm (fun q:c.Ok=>hp (q.2.2.2.2.2 hw).1),f_]) _ _ rfl s.drop.drop))
        ·intro hp
         have hp:c.pos=0:=by simp at hp; omega
         refine zm rfl (zf rfl (qK _ _) (zl rfl (s.ld (k:=0) rfl bK rfl) (zo rfl (aO rfl rfl rfl (aW aJ (s.aG (k:=1) rfl (c8 _ _)))) ?_)))
         refine zd rfl (ag rfl rfl aI) ?_ ?_
         ·intro I
          have I:c.b.length≠512:=by simp at I; omega
          exact zk 8 rfl (WP.ret (hr (by rw [dm (fun q:c.Ok=>I (q.2.2.2.2.2 hw).2),f_]) _ _ rfl s.drop.drop))
         ·intro I
          have I:c.b.length=512:=by simp at I; omega
          refine zk 2 rfl (zv (zj rfl (WP.skip (zr rfl (zb rfl (by exact bp (aA (by omega) (by omega))) ?_)))))
          refine zm rfl (zv ?_)
          refine pX _ _ ?_ ?_ ?_
          ·exact ⟨by omega,by omega,by omega,by omega,by omega,fun _=>⟨hp,I⟩⟩
          ·exact s.drop.drop
          ·exact ⟨rfl,rfl,rfl,rfl,aa⟩
def AB (m:List dr): Prop:=m.length<4294967296∧(∀c∈m,c.b.length<4294967296)∧(∀c∈m, -4294967296≤c.pos∧c.pos≤4294967296)
theorem MH (hT:W told){kd:Int}{tx pv nx:Nat}{dt ch:V}{cs:List V}{m:List dr}(s:Sat h (.arr 4 ch cs::dx cs m::S))(hd:storable dt=true)(hm:AB m):
  Call ⟨Tryz.prog,told⟩ 161 [.agg (nL kd tx pv nx dt ch)] h fun r h'=>r=.bool (dZ kd m)∧Sat h' (.arr 4 ch cs::dx cs m::S):=by
 have r7:=s.kV (j:=0) rfl
 have jK:=vV (kd:=kd) (tx:=tx) (pv:=pv) (nx:=nx) hd r7.2.1
 refine Call.of_wp (hT.free _ rfl) Tryz.func161 rfl rfl (zg rfl (az.cJ s rfl rfl rfl (fR rfl jK) ?_))
 intro p1 h s
 refine zk 5 rfl (zf rfl (vH _ _) (zl rfl (s.ld (k:=0) rfl dS rfl) ?_))
 refine zd rfl (ag rfl rfl aR) ?_ ?_
 ·intro J
  have J:kd<1:=by simpa using J
  exact zk 11 rfl (WP.ret ⟨aa,_,rfl,by rw [dZ,dm (by omega),f_],s.drop⟩)
 ·intro J
  have J:1≤kd:=by simpa using J
  refine zm rfl (zf rfl (vH _ _) (zl rfl (s.ld (k:=0) rfl dS rfl) ?_))
  refine zd rfl (ag rfl rfl gA) ?_ ?_
  ·intro I
   have I:9<kd:=by simpa using I
   exact zk 7 rfl (WP.ret ⟨aa,_,rfl,by rw [dZ,dm (by omega),f_],s.drop⟩)
  ·intro I
   have I:kd≤9:=by simpa using I
   refine zk 7 rfl (zf rfl (rj _ _) (zl rfl (s.ld (k:=0) rfl BF rfl) (zo rfl (aO rfl rfl rfl (GQ s (j1:=1) (j2:=2) rfl rfl jm)) (zk 2 rfl (WP.block ?_)))))
   have hg:dZ kd m=m.all (fun c=>decide c.Ok):=by rw [dZ,cZ ⟨J,I⟩,wU]
   refine ID m.length 0 _ _ _ (by omega) hm.1 (fun c hc=>by have:=hm.2.1 c hc; omega) hm.2.2 s.drop ⟨rfl,rfl,rfl,rfl,aa⟩ (fun hf E' h' h2 s' => ?_) (fun hf E' h' s' => ?_)
   ·rw [hg]
    rw [fg] at hf
    rw [hf]
    exact ⟨aa,_,BE h2,rfl,s'⟩
   ·rw [hg]
    rw [fg] at hf
    rw [hf]
    exact WP.has (F:=[]) aa (zK 4 rfl (WP.ret ⟨aa,_,rfl,rfl,s'⟩))
end
def lJ (c:dr): List Nat:=digits 9 c.bg.toNat++digits 9 c.pos.toNat++[if c.whole then 1 else 0]++(digits 9 c.b.length++c.b)
def eD (kd:Int)(tx pv nx:Nat)(data:List Nat)(bX:List dr): List Nat :=
 [kd.toNat]++digits 9 tx++digits 9 pv++digits 9 nx++(digits 9 data.length++data)++digits 9 bX.length++bX.flatMap lJ
section
variable {told:cz} {h:H} {S:List aq} {X:aq} {k q p:Nat} {v w:V} {l m:List Nat}
theorem ni (I:W told){n:Nat}(s:Sat h (aU v l::S))(hn:n<18446744073709551616)(hl:l.length≤140737488355000):
  Call ⟨Tryz.prog,told⟩ 176 [v,.int .u64 (n:Int)] h fun r h'=>Sat h' (aU r (l++digits 9 n)::S) :=
 (Co I.Oq (k:=9) s.wf (s.buf (k:=0) rfl) (by omega) (by omega) (by omega)).mono fun _ _ ⟨J,h2,h3⟩=>s.xm h2 J h3
theorem BV (hT:W told)(s:Sat h (aU v l::X::S))(I:cT X (cY w m))(hl:l.length+m.length≤140737488355000):
  Call ⟨Tryz.prog,told⟩ 177 [v,w] h fun r h'=>Sat h' (aU r (l++(digits 9 m.length++m))::X::S) :=
 (PC hT.Oq (k:=9) s.wf (s.buf (k:=0) rfl) (s.aG (k:=1) rfl I) (s.R4 I) (by omega) (by omega) (by omega)).mono fun _ _ ⟨J,h2,h3⟩=>by
  rw [ep] at J
  exact s.xm h2 J h3
noncomputable def UO : Code:=eC [1,1,1,1,0,1,0,0] ((Tryz.f162.body).getD .skip)
theorem KD (hT:W told){p1:Nat}{ch:V}{cs:List V}{bX:List dr}(yl:∀c∈bX,c.Ok)(J:AB bX): ∀(j i:Nat) (sv:V) (l:List Nat) (h:H) (E:List (Nat×V)) (Q:Ex→List (Nat×V)→H→Prop),i+j=bX.length →
  l.length+((bX.drop i).flatMap lJ).length≤140737488355000 →
  Sat h (aU sv l::.arr 4 ch cs::dx cs bX::S)→Has E [(1,.ptr p1 0),(3,sv),(37,ch),(38,.int .i64 bX.length),(39,.int .i64 i)] →
  (∀E' h' I,look E' 3=some I→Sat h' (aU I (l++(bX.drop i).flatMap lJ)::.arr 4 ch cs::dx cs bX::S)→Q (.exit 2) E' h')→WP ⟨Tryz.prog,told⟩ 63 (.loop UO) E h Q:=by
 intro j
 induction j with
 | zero =>
  intro i sv l h E Q hi hlen s hE hx
  have hm:=J.1
  refine WP.loop (WP.has hE (zg rfl (zh rfl (ag rfl rfl aR) (by simp; omega) ?_)))
  refine zk 3 rfl (WP.exit (hx _ _ sv rfl ?_))
  rw [fI (by omega)]
  simpa using s
 | succ j ih =>
  intro i sv l h E Q hi hlen s hE hx
  have hm:=J.1
  have hc:bX[i]?=some (bX[i]'(by omega)):=aM _
  generalize (bX[i]'(by omega))=c at hc
  have KB:=aV hc
  have Wb:=yl c KB
  have UN:=J.2.1 c KB
  have qf:bX.drop i=c::bX.drop (i+1):=by
   obtain ⟨h1,rfl⟩:=List.getElem?_eq_some_iff.1 hc
   exact sI h1
  rw [qf,sU] at hlen hx
  obtain ⟨pg,ps,wh,bb⟩:=c
  obtain ⟨q1,q2,q3,q4,_⟩:=Wb
  dsimp only at q1 q2 q3 q4 UN
  obtain ⟨pg,rfl⟩:∃n:Nat,pg=n:=⟨pg.toNat,by omega⟩
  obtain ⟨ps,rfl⟩:∃n:Nat,ps=n:=⟨ps.toNat,by omega⟩
  have MI:lJ ⟨pg,ps,wh,bb⟩=digits 9 pg++digits 9 ps++[if wh then 1 else 0]++(digits 9 bb.length++bb):=by simp [lJ]
  have Gn:(lJ ⟨pg,ps,wh,bb⟩).length=(digits 9 pg).length+(digits 9 ps).length+1+(digits 9 bb.length).length+bb.length:=by rw [MI]; simp; omega
  rw [bD,Gn] at hlen
  obtain ⟨id,off,u,e1,e2,u1,u2,u3,s⟩:=KA (s.ae [1,1]) hc
  dsimp only at e2
  have s:=s.ae [3,0,0,0]
  dsimp only [aZ,bringA,getA] at s
  refine WP.loop (WP.has hE (zg rfl (zt rfl (ag rfl rfl aR) (by simp; omega) ?_)))
  refine zk 5 rfl (WP.block (zg rfl (zo rfl (cn (r:=.ptr id off) rfl rfl e1) (zl rfl e2 ?_))))
  refine az.cJ s rfl rfl rfl (cE rZ) (fun p7 h s => ?_)
  dsimp only [V.cells,List.length_cons,List.length_nil,Nat.reduceAdd] at s
  refine zS rfl (s.iw (j:=0) rfl xx rfl (by simp only [iB,i_,u2]; rfl)) ?_
  intro h s
  dsimp only [setA] at s
  refine zk 2 rfl ?_
  have s:=s.ae [1,0]
  dsimp only [bringA,getA,aZ] at s
  have s0:=s
  refine WP.drawn [ak,ak,ak,ak,ak,some (0,2),some (0,2),some (0,2),none,none] rfl (by kernel_rfl) (by kernel_rfl) ?_
  refine zM rfl (zF rfl (BK _ _) (zL rfl (s.ld (k:=1) rfl dS rfl) (aB.op rfl rfl rfl (by simp only [isEff,dg]) (cN rfl (by exact kn bR dg (gz (by omega) (by omega)))) ?_)))
  refine aB.any rfl rfl rfl rfl (OpR.call rfl rfl rfl rfl (ni hT s (by omega) (by omega))) ?_
  intro v1 h s
  have s1:=s
  refine zF rfl (qJ _ _) (zL rfl (s.ld (k:=1) rfl dS rfl) (aB.op rfl rfl rfl (by simp only [isEff,dg]) (cN rfl (by exact kn bR dg (gz (by omega) (by omega)))) ?_))
  refine aB.any rfl rfl rfl rfl (OpR.call rfl rfl rfl rfl (ni hT s (by omega) (by simp; omega))) ?_
  intro v2 h s
  refine zA rfl ?_
  refine aB.nil ⟨⟨aa,aa,aa,aa,aa,fun _ _=>.inr ⟨rfl,⟨_,nC rfl (qJ _ _)⟩,bP _ rfl⟩,eZ (.inr ⟨rfl,⟨_,aS rfl (s0.ld (k:=1) rfl dS rfl)⟩,bP _ rfl⟩) (.inr ⟨rfl,⟨_,aS rfl (s1.ld (k:=1) rfl dS rfl)⟩,bP _ rfl⟩),fun _ _=>.inr ⟨rfl,⟨_,cN rfl (by exact kn bR dg (gz (by omega) (by omega)))⟩,bP _ rfl⟩,aa,aa,aa⟩,?_⟩
  have Sb:∀(h:H) (E:List (Nat×V)) (I:V),Sat h (aU I (l++lJ ⟨pg,ps,wh,bb⟩)::.arr 4 ch cs::dx cs bX::S)→Has E [(1,.ptr p1 0),(3,I),(37,ch),(38,.int .i64 bX.length),(39,.int .i64 ((i:Int)+1))]→WP ⟨Tryz.prog,told⟩ 63 (.loop UO) E h Q:=by
   intro h E I s hE
   refine ih (i+1) I _ h E Q (by omega) (by rw [bD,Gn]; omega) s hE (fun E' h' XT zJ s'=>hx E' h' XT zJ ?_)
   rw [ep] at s'
   exact s'
  have Sc:=fq 9 pg
  have Z0:=fq 9 ps
  refine zK 7 rfl (zf rfl (GG _ _) ?_)
  have Jq:wh=false∨wh=true:=by cases wh <;> simp
  rcases Jq with hw | hw
  ·skip
   refine zh rfl (aS rfl (s.ld (k:=1) rfl nU rfl)) (hw) (zk 3 rfl ?_)
   have s0:=s
   have yh:=jd (s.buf (k:=0) rfl).view
   refine WP.drawn [some (0,2),ak,ak,ak,some (0,3),some (0,3),none,none] rfl (by kernel_rfl) (by kernel_rfl) ?_
   refine zM rfl (zM rfl (aB.any rfl rfl rfl rfl (OpR.Ip (n:=0) rfl s rfl rfl rfl (by decide)) ?_))
   intro v3 h s
   have s:=s.ae [1,1,0]
   dsimp only [bringA,getA,aZ] at s
   have s1:=s
   refine aB.any rfl rfl rfl rfl (OpR.pI rfl (s.ae [0,1]) (bj _ _) rfl rfl rfl rfl (by simp; omega)) ?_
   intro v4 h s
   have s:=s.del 1
   dsimp only [aZ,bringA] at s
   have s2:=s
   refine zF rfl (qK _ _) (zL rfl (s.ld (k:=1) rfl bK rfl) (aB.any rfl rfl rfl rfl (OpR.call rfl rfl rfl rfl (BV hT (s.ae [0,1]) (c8 _ _) (by simp; omega))) ?_))
   intro v5 h s
   dsimp only [aZ,bringA] at s
   refine zA rfl ?_
   refine aB.nil ⟨⟨fun _ _=>.inr ⟨rfl,⟨_,b8 rfl⟩,yh⟩,aa,aa,aa,fun _ _=>.inr ⟨rfl,⟨_,nC rfl (qK _ _)⟩,bP _ rfl⟩,oR (.inr ⟨rfl,⟨_,aS rfl (s0.ld (k:=1) rfl bK rfl)⟩,u3⟩) (.inr ⟨rfl,⟨_,aS rfl (s1.ld (k:=1) rfl bK rfl)⟩,u3⟩) (.inr ⟨rfl,⟨_,aS rfl (s2.ld (k:=1) rfl bK rfl)⟩,u3⟩),aa,aa,aa⟩,?_⟩
   refine zr rfl (zb rfl (by exact bp (aA (by omega) (by omega))) ?_)
   refine zm rfl (zv ?_)
   refine Sb _ _ v5 ?_ ?_
   ·rw [MI,hw]
    have s:=(s.del 1).del 1
    dsimp only [aZ] at s
    simpa [ep] using s
   ·exact ⟨rfl,rfl,rfl,rfl,rfl,aa⟩
  ·skip
   refine zt rfl (aS rfl (s.ld (k:=1) rfl nU rfl)) (hw) (zk 5 rfl ?_)
   have s0:=s
   have yh:=jd (s.buf (k:=0) rfl).view
   refine WP.drawn [some (0,2),ak,ak,ak,some (0,3),some (0,3),none,none] rfl (by kernel_rfl) (by kernel_rfl) ?_
   refine zM rfl (zM rfl (aB.any rfl rfl rfl rfl (OpR.Ip (n:=1) rfl s rfl rfl rfl (by decide)) ?_))
   intro v3 h s
   have s:=s.ae [1,1,0]
   dsimp only [bringA,getA,aZ] at s
   have s1:=s
   refine aB.any rfl rfl rfl rfl (OpR.pI rfl (s.ae [0,1]) (bj _ _) rfl rfl rfl rfl (by simp; omega)) ?_
   intro v4 h s
   have s:=s.del 1
   dsimp only [aZ,bringA] at s
   have s2:=s
   refine zF rfl (qK _ _) (zL rfl (s.ld (k:=1) rfl bK rfl) (aB.any rfl rfl rfl rfl (OpR.call rfl rfl rfl rfl (BV hT (s.ae [0,1]) (c8 _ _) (by simp; omega))) ?_))
   intro v5 h s
   dsimp only [aZ,bringA] at s
   refine zA rfl ?_
   refine aB.nil ⟨⟨fun _ _=>.inr ⟨rfl,⟨_,b8 rfl⟩,yh⟩,aa,aa,aa,fun _ _=>.inr ⟨rfl,⟨_,nC rfl (qK _ _)⟩,bP _ rfl⟩,oR (.inr ⟨rfl,⟨_,aS rfl (s0.ld (k:=1) rfl bK rfl)⟩,u3⟩) (.inr ⟨rfl,⟨_,aS rfl (s1.ld (k:=1) rfl bK rfl)⟩,u3⟩) (.inr ⟨rfl,⟨_,aS rfl (s2.ld (k:=1) rfl bK rfl)⟩,u3⟩),aa,aa,aa⟩,?_⟩
   refine zr rfl (zb rfl (by exact bp (aA (by omega) (by omega))) ?_)
   refine zm rfl (zv ?_)
   refine Sb _ _ v5 ?_ ?_
   ·rw [MI,hw]
    have s:=(s.del 1).del 1
    dsimp only [aZ] at s
    simpa [ep] using s
   ·exact ⟨rfl,rfl,rfl,rfl,rfl,aa⟩
theorem MJ (J:W told){kd:Nat}{tx pv nx:Nat}{dt ch:V}{cs:List V}{data:List Nat}{bX:List dr}(s:Sat h (X::.arr 4 ch cs::dx cs bX::S))(hX:cT X (cY dt data))(hg:dZ kd bX=true)(I:AB bX)
 (KE:tx<18446744073709551616)(Oz:pv<18446744073709551616)(Cq:nx<18446744073709551616)(hlen:data.length+(bX.flatMap lJ).length≤70368744177664):
  Call ⟨Tryz.prog,told⟩ 162 [.agg (nL kd tx pv nx dt ch)] h fun r h'=>Sat h' (aU r (eD kd tx pv nx data bX)::X::.arr 4 ch cs::dx cs bX::S):=by
 have r7:=s.kV (j:=1) rfl
 have uU:=s.aG (k:=0) rfl hX
 have DJ:=jd uU
 have jK:=vV (kd:=kd) (tx:=tx) (pv:=pv) (nx:=nx) uU.cells.2 r7.2.1
 have hk:1≤kd∧kd≤9:=by simp [dZ] at hg; omega
 have yl:∀c∈bX,c.Ok:=by
  simp only [dZ,aH,ob,dz] at hg
  exact hg.2
 have hm:=I.1
 have h1:=fq 9 tx
 have h2:=fq 9 pv
 have h3:=fq 9 nx
 have h4:=fq 9 data.length
 have h5:=fq 9 bX.length
 refine Call.of_wp (J.free _ rfl) Tryz.func162 rfl rfl (zg rfl (az.cJ s rfl rfl rfl (fR rfl jK) ?_))
 intro p1 h s
 dsimp only [V.cells] at s
 refine zk 4 rfl (zf rfl (vH _ _) (zl rfl (s.ld (k:=0) rfl dS rfl) (zo rfl (cN rfl (by exact kn bR Tryz.underlying5 (Ag (by omega) (by omega)))) ?_)))
 refine az.any rfl rfl rfl (OpR.Ip (n:=kd) rfl s rfl rfl rfl (by omega)) ?_
 intro v3 h s
 refine zk 5 rfl (zf rfl (RV _ _) (zl rfl (s.ld (k:=1) rfl nF rfl) (zf rfl (RW _ _) (zl rfl (s.ld (k:=1) rfl nF rfl) (zf rfl (RX _ _) (zl rfl (s.ld (k:=1) rfl nF rfl) (zo rfl (cM rfl (by rw [TM]; rfl)) ?_)))))))
 refine zk 2 rfl (WP.block (WP.loop (zg rfl (zt rfl (ag rfl rfl aR) (by decide) ?_))))
 refine zk 5 rfl (WP.block (zg rfl (zo rfl (DC rfl rfl (r:=.int .u64 (tx:Int)) (by simp only [indexV,D_,Ic,pU,nF]; rfl)) ?_)))
 refine zk 5 rfl (zc rfl (ni J s (by omega) (by simp only [bD,aN,bG]; omega)) ?_)
 intro v3 h s
 refine za rfl (zv (zr rfl (zb rfl (by exact bp (aA (by omega) (by omega))) ?_)))
 refine zm rfl (zv (WP.loop (zg rfl (zt rfl (ag rfl rfl aR) (by decide) ?_))))
 refine zk 5 rfl (WP.block (zg rfl (zo rfl (DC rfl rfl (r:=.int .u64 (pv:Int)) (by simp only [indexV,D_,Ic,pU,nF]; rfl)) ?_)))
 refine zk 5 rfl (zc rfl (ni J s (by omega) (by simp only [bD,aN,bG]; omega)) ?_)
 intro v3 h s
 refine za rfl (zv (zr rfl (zb rfl (by exact bp (aA (by omega) (by omega))) ?_)))
 refine zm rfl (zv (WP.loop (zg rfl (zt rfl (ag rfl rfl aR) (by decide) ?_))))
 refine zk 5 rfl (WP.block (zg rfl (zo rfl (DC rfl rfl (r:=.int .u64 (nx:Int)) (by simp only [indexV,D_,Ic,pU,nF]; rfl)) ?_)))
 refine zk 5 rfl (zc rfl (ni J s (by omega) (by simp only [bD,aN,bG]; omega)) ?_)
 intro v3 h s
 refine za rfl (zv (zr rfl (zb rfl (by exact bp (aA (by omega) (by omega))) ?_)))
 refine zm rfl (zv (WP.loop (zg rfl (zh rfl (ag rfl rfl aR) (by decide) ?_))))
 refine zk 3 rfl (WP.exit (zw ?_))
 have s0:=s
 have vg:=jd (s.buf (k:=0) rfl).view
 refine WP.drawn [ak,ak,ak,ak,some (0,2),some (0,2),some (0,2),some (0,2),none,none] rfl (by kernel_rfl) (by kernel_rfl) ?_
 refine zM rfl (zF rfl (RY _ _) (zL rfl (s.ld (k:=1) rfl bK rfl) (aB.any rfl rfl rfl rfl (OpR.call rfl rfl rfl rfl (BV J (s.ae [0,1]) hX (by simp only [bD,aN,bG]; omega))) ?_)))
 intro v4 h s
 have s:=s.ae [0,1,0]
 have s1:=s
 refine zF rfl (rj _ _) (zL rfl (s.ld (k:=1) rfl BF rfl) (zO rfl (aO rfl rfl rfl (s.vW (j1:=3) (j2:=4) rfl rfl jm)) (aB.op rfl rfl rfl (by simp only [isEff,dg]) (cN rfl (by exact kn bR dg (gz (by omega) (by omega)))) ?_)))
 refine aB.any rfl rfl rfl rfl (OpR.call rfl rfl rfl rfl (ni J s (by omega) (by simp only [bD,aN,bG]; omega))) ?_
 intro v5 h s
 refine zA rfl ?_
 refine aB.nil ⟨⟨aa,aa,aa,aa,fun _ _=>.inr ⟨rfl,⟨_,nC rfl (rj _ _)⟩,bP _ rfl⟩,eZ (.inr ⟨rfl,⟨_,aS rfl (s0.ld (k:=1) rfl BF rfl)⟩,r7.2.2⟩) (.inr ⟨rfl,⟨_,aS rfl (s1.ld (k:=1) rfl BF rfl)⟩,r7.2.2⟩),eZ (.inr ⟨rfl,⟨_,aO rfl rfl rfl (s0.vW (j1:=3) (j2:=4) rfl rfl jm)⟩,bP _ rfl⟩) (.inr ⟨rfl,⟨_,aO rfl rfl rfl (s1.vW (j1:=3) (j2:=4) rfl rfl jm)⟩,bP _ rfl⟩),fun _ _=>.inr ⟨rfl,⟨_,cN rfl (by exact kn bR dg (gz (by omega) (by omega)))⟩,bP _ rfl⟩,aa,aa,aa⟩,?_⟩
 refine zK 3 rfl (zf rfl (rj _ _) (zl rfl (s.ld (k:=1) rfl BF rfl) (zo rfl (aO rfl rfl rfl (s.vW (j1:=3) (j2:=4) rfl rfl jm)) (zk 2 rfl (WP.block ?_)))))
 have s:=s.ae [0,2,2,1]
 refine KD J yl I bX.length 0 v5 _ _ _ _ (by omega) (by rw [fg]; simp only [bD,aN,bG]; omega) s ⟨rfl,rfl,rfl,rfl,rfl,aa⟩ (fun E' h' Cr lI s' => ?_)
 refine WP.has (F:=[(3,Cr)]) ⟨lI,aa⟩ (zK 5 rfl (WP.ret ⟨aa,_,rfl,?_⟩))
 have UP:=(s'.ae [0,2,0,0]).del 4
 dsimp only [List.cons_append,List.nil_append,List.drop,aZ,bringA,getA] at UP
 simpa [eD,ep] using UP
end
def pJ (aP:Nat)(b:List Nat): List Nat:=le 4 b.length++le 4 (Au aP b)++b
theorem uz (aP:Nat)(b:List Nat): (pJ aP b).length=8+b.length:=by simp [pJ,dK]; omega
theorem mN : ∃i,Tryz.prog.info? 3=some i∧i.size=1∧i.bytes=8 :=
 ⟨_,(show Tryz.prog.info? 3=some ((Tryz.prog.info? 3).getD default) by kernel_rfl),by kernel_rfl,by kernel_rfl⟩
section
variable {told:cz} {h:H} {S:List aq} {X:aq} {k q p:Nat} {v w:V} {l m:List Nat} {μ:Lg} {δ:Dk}
theorem KF (I:W told){n:Nat}(s:Sat h S)(J:getA S k=some X)(hX:cT X (cY v l))(hl:l.length≤4611686018427387904):
  Call ⟨Tryz.prog,told⟩ 163 [.int .u64 (n:Int),v] h fun r h'=>r=.int .u32 (Au n l:Nat)∧Sat h' S :=
 (Kn I.Oq s.wf (s.aG J hX) hl).mono fun _ _ ⟨h1,h2⟩=>⟨h1,s.kU h2⟩
structure AD (tx pv nx:Nat)(data:List Nat)(bX:List dr): Prop where
 fit:AB bX
 tx:tx<18446744073709551616
 pv:pv<18446744073709551616
 nx:nx<18446744073709551616
 len:data.length+(bX.flatMap lJ).length≤70368744177664
theorem KG (J:W told){kd:Int}{tx pv nx aP:Nat}{dt ch:V}{cs:List V}{data:List Nat}{bX:List dr}(s:Sat h (X::.arr 4 ch cs::dx cs bX::S))(hX:cT X (cY dt data))(I:AD tx pv nx data bX):
  Call ⟨Tryz.prog,told⟩ 116 [.agg (nL kd tx pv nx dt ch),.int .u64 (aP:Int)] h fun r h' =>
  (dZ kd bX=false∧r=.aX [.bn,.int .i64 1]∧Sat h' (X::.arr 4 ch cs::dx cs bX::S)) ∨
  (dZ kd bX=true∧1048576<(eD kd tx pv nx data bX).length∧r=.aX [.bn,.int .i64 2]∧Sat h' (X::.arr 4 ch cs::dx cs bX::S)) ∨
  (dZ kd bX=true∧(eD kd tx pv nx data bX).length≤1048576∧∃u,r=.aX [u,.int .i64 0]∧Sat h' (aU u (pJ aP (eD kd tx pv nx data bX))::X::.arr 4 ch cs::dx cs bX::S)):=by
 have r7:=s.kV (j:=1) rfl
 have uU:=s.aG (k:=0) rfl hX
 have jK:=vV (kd:=kd) (tx:=tx) (pv:=pv) (nx:=nx) uU.cells.2 r7.2.1
 refine Call.of_wp (J.free _ rfl) Tryz.func116 rfl rfl (zg rfl (az.cJ s rfl rfl rfl (fR rfl jK) ?_))
 intro p1 h s
 dsimp only [V.cells] at s
 refine zk 6 rfl (zl rfl (s.c5 (k:=0) rfl BG ur) (zc rfl (MH J (s.ae [2,2]) uU.cells.2 I.fit) ?_))
 rintro r h' ⟨rfl,s⟩
 cases hg:dZ kd bX with
 | false =>
  exact zo rfl (eY rfl rfl) (zk 7 rfl (WP.ret ⟨aa,_,rfl,.inl ⟨rfl,rfl,(s.ae [3,0,0]).del 3⟩⟩))
 | true =>
  refine zo rfl (eY rfl rfl) (zk 5 rfl (zl rfl (s.c5 (k:=2) rfl BG ur) ?_))
  have hk:∃n:Nat,kd=n:=⟨kd.toNat,by simp [dZ] at hg; omega⟩
  obtain ⟨kd,rfl⟩:=hk
  refine zc rfl (MJ J (s.ae [3,0,0]) hX hg I.fit I.tx I.pv I.nx I.len) ?_
  intro u h s
  dsimp only [bringA,getA,aZ] at s
  have qT:(eD kd tx pv nx data bX).length<9223372036854775808:=by
   have h1:=fq 9 tx
   have h2:=fq 9 pv
   have h3:=fq 9 nx
   have h4:=fq 9 data.length
   have h5:=fq 9 bX.length
   have h6:=I.len
   simp only [eD,bD,aN,bG]
   omega
  generalize Gh:eD kd tx pv nx data bX=bd at s qT ⊢
  refine zk 6 rfl (zo rfl (aO rfl rfl rfl (aW aJ (s.aG (k:=0) rfl (bj _ _)))) ?_)
  by_cases MK:1048576<bd.length
  ·skip
   refine zt rfl (ag rfl rfl gA) (by simp; omega) ?_
   exact zk 7 rfl (WP.ret ⟨aa,_,rfl,.inr (.inl ⟨rfl,MK,rfl,(s.del 4).del 0⟩)⟩)
  ·skip
   refine zh rfl (ag rfl rfl gA) (by simp; omega) ?_
   refine zk 6 rfl (zo rfl (aO rfl rfl rfl (aW aJ (s.aG (k:=0) rfl (bj _ _)))) (zb rfl (by exact bp (aA (by omega) (by omega))) ?_))
   refine az.any rfl rfl rfl (OpR.rq (c:=8+bd.length) rfl s rfl rfl rfl rfl (by omega)) ?_
   intro v h s
   refine zm rfl (zo rfl (aO rfl rfl rfl (aW aJ (s.aG (k:=1) rfl (bj _ _)))) (zo rfl (cN rfl (by exact kn bR dg (gz (by omega) (by omega)))) ?_))
   refine zc rfl (D8 (z:=4) J s (by decide) (by simp)) ?_
   intro v h s
   have aY:=(s.buf (k:=1) rfl).1
   refine zk 7 rfl (zc rfl (KF (n:=aP) J s (k:=1) rfl (bj _ _) (by omega)) ?_)
   rintro r h ⟨rfl,s⟩
   have kZ:=MB (aP:=aP) aY
   refine zo rfl (cN rfl (by exact kn Tryz.underlying231 dg (gz (by omega) (by omega)))) ?_
   refine zc rfl (D8 (z:=4) J s (by decide) (by simp [dK])) ?_
   intro v h s
   refine zk 6 rfl (az.any rfl rfl rfl (OpR.pI rfl s (bj _ _) rfl rfl rfl rfl (by simp only [bD,dK,bG]; omega)) ?_)
   intro v h s
   refine zk 3 rfl (WP.ret ⟨aa,_,rfl,?_⟩)
   refine .inr (.inr ⟨rfl,by omega,v,rfl,?_⟩)
   have s:=(s.del 5).del 1
   dsimp only [aZ] at s
   simpa [pJ,ep] using s
def Lg.app (μ:Lg)(b:List Nat): Lg:={ μ with b:=μ.b++b,cx:=μ.cx++[μ.b.length] }
theorem IE (hT:W told){kd:Int}{tx pv nx:Nat}{dt ch:V}{cs:List V}{data:List Nat}{bX:List dr}(s:Sat h (cf q p μ::bz p δ::X::.arr 4 ch cs::dx cs bX::S))(hX:cT X (cY dt data))(eS:AD tx pv nx data bX)
 (J:μ.Ok)(hf:δ.bS<4294967296)(hl:δ.log.length≤16777216)(hr:δ.room≤16777216):
  Call ⟨Tryz.prog,told⟩ 59 [.ptr q 0,.agg (nL kd tx pv nx dt ch)] h fun r h' =>
  (∃e:Int,r=.aX [.int .u64 0,.int .i64 e]∧((dZ kd bX=false∧e=1)∨(dZ kd bX=true∧1048576<(eD kd tx pv nx data bX).length∧e=2)∨(dZ kd bX=true∧(eD kd tx pv nx data bX).length≤1048576∧δ.dead=true∧e=9) ∨
    (dZ kd bX=true∧(eD kd tx pv nx data bX).length≤1048576∧δ.dead=false∧δ.room<δ.log.length+(pJ (μ.base+μ.b.length) (eD kd tx pv nx data bX)).length∧e=7))∧Sat h' (cf q p μ::bz p δ::X::.arr 4 ch cs::dx cs bX::S)) ∨
  (dZ kd bX=true∧(eD kd tx pv nx data bX).length≤1048576∧δ.dead=false∧δ.log.length+(pJ (μ.base+μ.b.length) (eD kd tx pv nx data bX)).length≤δ.room∧δ.bS=0∧r=.aX [.int .u64 0,.int .i64 9] ∧
   Sat h' (cf q p μ::bz p { δ.die with tail:=pJ (μ.base+μ.b.length) (eD kd tx pv nx data bX) }::X::.arr 4 ch cs::dx cs bX::S)) ∨
  (dZ kd bX=true∧(eD kd tx pv nx data bX).length≤1048576∧δ.dead=false∧δ.log.length+(pJ (μ.base+μ.b.length) (eD kd tx pv nx data bX)).length≤δ.room∧δ.bS≠0∧r=.aX [.int .u64 ((μ.base+μ.b.length:Nat):Int),.int .i64 0] ∧
   Sat h' (cf q p (μ.app (pJ (μ.base+μ.b.length) (eD kd tx pv nx data bX)))::bz p { δ.fV with log:=δ.log++pJ (μ.base+μ.b.length) (eD kd tx pv nx data bX) }::X::.arr 4 ch cs::dx cs bX::S)):=by
 have r7:=s.kV (j:=3) rfl
 have uU:=s.aG (k:=2) rfl hX
 have jK:=vV (kd:=kd) (tx:=tx) (pv:=pv) (nx:=nx) uU.cells.2 r7.2.1
 have IC:=J.size
 refine Call.of_wp (hT.free _ rfl) Tryz.func59 rfl rfl (zg rfl (az.cJ s rfl rfl rfl (fR rfl jK) ?_))
 intro p1 h s
 dsimp only [V.cells] at s
 have s:=s.ae [1,0]
 refine zk 6 rfl (zc rfl (BT hT s J.size) ?_)
 rintro v h' ⟨rfl,rfl⟩
 refine zk 4 rfl (zl rfl (s.c5 (k:=1) rfl BG ur) (zm rfl (zc rfl (KG (aP:=μ.base+μ.b.length) hT (s.ae [3,3,3]) hX eS) ?_)))
 generalize XU:pJ (μ.base+μ.b.length) (eD kd tx pv nx data bX)=rc
 have XV:rc.length=8+(eD kd tx pv nx data bX).length:=by rw [←XU,uz]
 rintro r h' (⟨hg,rfl,s⟩ | ⟨hg,MK,rfl,s⟩ | ⟨hg,o6,u,rfl,s⟩)
 ·dsimp only [bringA,getA,aZ] at s
  exact zk 10 rfl (zt rfl (ag rfl rfl aI) (rfl) (zk 8 rfl (WP.ret ⟨aa,_,rfl,.inl ⟨1,rfl,.inl ⟨hg,rfl⟩,(s.ae [3,4,0,0,0]).del 5⟩⟩)))
 ·dsimp only [bringA,getA,aZ] at s
  exact zk 10 rfl (zt rfl (ag rfl rfl aI) (rfl) (zk 8 rfl (WP.ret ⟨aa,_,rfl,.inl ⟨2,rfl,.inr (.inl ⟨hg,MK,rfl⟩),(s.ae [3,4,0,0,0]).del 5⟩⟩)))
 ·dsimp only [bringA,getA,aZ] at s
  have aY:=(s.buf (k:=0) rfl).1
  obtain ⟨kD,_,cap,_,rfl,_⟩:=s.eH (by omega)
  obtain ⟨bv,sv,s⟩:=fX.1 (s.ae [4])
  refine zk 10 rfl (zh rfl (ag rfl rfl aI) (rfl) (zk 8 rfl (zf rfl (GD _ _) (zl rfl (s.ld (k:=0) rfl sD rfl) (zm rfl ?_)))))
  have s:=s.ae [8,3]
  refine zc rfl (Iw hT s (bj _ _) (by omega) hf (by omega) (by omega)) ?_
  rintro r h (⟨hd,rfl,s⟩ | ⟨hd,C5,rfl,s⟩ | ⟨hd,I,h0,rfl,s⟩ | ⟨hd,I,h0,rfl,s⟩)
  ·refine az.op rfl rfl rfl (fD rfl) ?_
   exact zk 4 rfl (zt rfl (ag rfl rfl aI) (rfl) (zk 8 rfl (WP.ret ⟨aa,_,rfl,.inl ⟨9,rfl,.inr (.inr (.inl ⟨hg,o6,hd,rfl⟩)),(fX.2 ⟨bv,sv,((s.ae [2,2,2,0,1,1,1]).del 8).del 7⟩)⟩⟩)))
  ·skip
   exact zk 5 rfl (zt rfl (ag rfl rfl aI) (rfl) (zk 8 rfl (WP.ret ⟨aa,_,rfl,.inl ⟨7,rfl,.inr (.inr (.inr ⟨hg,o6,hd,by omega,rfl⟩)),(fX.2 ⟨bv,sv,((s.ae [2,2,2,0,1,1,1]).del 8).del 7⟩)⟩⟩)))
  ·skip
   exact zk 5 rfl (zt rfl (ag rfl rfl aI) (rfl) (zk 8 rfl (WP.ret ⟨aa,_,rfl,.inr (.inl ⟨hg,o6,hd,I,h0,rfl,(fX.2 ⟨bv,sv,((s.ae [2,2,2,0,1,1,1]).del 8).del 7⟩)⟩)⟩)))
  ·skip
   have s:=s.ae [2,2,2,1,0,0,0,0]
   refine zk 5 rfl (zh rfl (ag rfl rfl aI) (rfl) (zk 4 rfl ?_))
   have s0:=s
   have R5:=jd (s.buf (k:=1) rfl).view
   have KH:=(s.kV (j:=2) rfl).2.2
   refine WP.drawn [some (0,3),some (0,2),some (0,2),some (0,2),some (0,2),ak,ak,ak,ak,ak,ak,ak,ak,ak,ak] rfl (by kernel_rfl) (by kernel_rfl) ?_
   refine zM rfl (zM rfl (zN rfl (zF rfl (oB _ _) (zL rfl (s.ld (k:=0) rfl mK rfl) (zM rfl (zN rfl (zF rfl (kq _ _) (zL rfl (s.ld (k:=0) rfl bK rfl) (zO rfl (aO rfl rfl rfl (aW aJ (s.aG (k:=1) rfl (bj _ _)))) ?_)))))))))
   obtain ⟨i1,iy,fF,pP⟩:=mN
   obtain ⟨iv,h1,e1,s1⟩:=ku (P:=Tryz.prog) (k:=1) (x:=.int .i64 (μ.b.length:Int)) s bO tG kC rfl (by decide) (by decide) rfl rfl
   dsimp only [V.cells] at s1
   refine aB.any rfl rfl rfl rfl (OpR.of (R:=fun v h'=>v=iv∧h'=h1) (kg rfl e1) ⟨rfl,rfl⟩) ?_
   rintro v h' ⟨rfl,rfl⟩
   have Oy:=J.many
   obtain ⟨Cr,h2,e2,s2⟩:=fS (s1.ae [3,0]) bO iy tG fF (by omega) rfl (by decide) (by simp only [eL,aN,bG]; omega)
   refine aB.any rfl rfl rfl rfl (OpR.of (R:=fun v h'=>v=Cr∧h'=h2) (jL rfl rfl e2) ⟨rfl,rfl⟩) ?_
   rintro v h' ⟨rfl,rfl⟩
   have hv:=s2.kV (j:=0) rfl
   refine zN rfl (zF rfl (oB _ _) (aB.ki rfl rfl rfl (OpR.tF rfl rfl rfl (s2.iX (k:=2) rfl Mn rfl (by decide) hv.1 hv.2.1)) ?_))
   rintro v h ⟨rfl,s⟩
   refine aB.nil ⟨⟨fun _ _=>.inr ⟨rfl,⟨_,b8 rfl⟩,bP _ rfl⟩,fun _ _=>.inr ⟨rfl,⟨_,b8 rfl⟩,bP _ rfl⟩,fun _ _=>.inr ⟨rfl,⟨_,uo rfl⟩,bP _ rfl⟩,fun _ _=>.inr ⟨rfl,⟨_,nC rfl (oB _ _)⟩,bP _ rfl⟩,eZ (.inr ⟨rfl,⟨_,aS rfl (s0.ld (k:=0) rfl mK rfl)⟩,KH⟩) (.inr ⟨rfl,⟨_,aS rfl (s1.ld (k:=1) rfl mK rfl)⟩,KH⟩),aa,aa,aa,aa,aa,aa,aa,aa,aa,aa,aa⟩,?_⟩
   refine zK 5 rfl (zf rfl (kq _ _) (zl rfl (s.ld (k:=2) rfl bK rfl) (zm rfl (az.any rfl rfl rfl (OpR.pI rfl (s.ae [3,3]) (bj _ _) rfl rfl rfl rfl (by have:=J.len; omega)) ?_))))
   intro OA h s
   have hv:=(s.buf (k:=0) rfl).view.cells
   refine zn rfl (zf rfl (kq _ _) (zS rfl (s.iX (k:=4) rfl kI rfl (by decide) hv.1 hv.2) ?_))
   intro h s
   refine zk 7 rfl (WP.ret ⟨aa,_,rfl,?_⟩)
   refine .inr (.inr ⟨hg,o6,hd,I,h0,rfl,fX.2 ⟨OA,v,?_⟩⟩)
   have s:=(((s.ae [4,0,1]).del 4).del 3).del 7
   have e:bA (μ.app rc).cx=bA μ.cx++[.int .i64 (μ.b.length:Int)]:=by simp [Lg.app,bA]
   rw [e]
   exact s
end
end Go.Proofs.YtefepnnfphdkpaaGreat.Am
