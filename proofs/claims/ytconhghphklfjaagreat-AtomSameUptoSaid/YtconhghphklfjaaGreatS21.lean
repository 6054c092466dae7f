/- AtomSame: a part of its proof; conditions: its statement's. -/
import Derived.Test.YtconhghphklfjaaGreatS20
set_option linter.defProp false
namespace Go.Proofs.YtconhghphklfjaaGreat.Am
open Go
def iJ:=@Tryz.underlying38
def G0:=@Tryz.underlying205
structure cm where
 aK:Int
 pos:Int
 whole:Bool
 b:List Nat
def cm.Ok (c:cm): Prop:=0≤c.aK∧c.aK<65536∧0≤c.pos∧c.pos≤512∧(c.b.length:Int)≤512-c.pos∧(c.whole=true→c.pos=0∧c.b.length=512)
instance (c:cm):Decidable c.Ok:=by unfold cm.Ok; infer_instance
def dM (kind:Int)(aP:List cm): Bool:=decide (1≤kind∧kind≤9)&&aP.all fun c=>decide c.Ok
def iy (kd:Int)(tx pv nx:Nat)(dt ch:V): List V:=[.int .i64 kd,.int .u64 (tx:Int),.int .u64 (pv:Int),.int .u64 (nx:Int),dt,ch]
theorem mP {kd:Int}{tx pv nx:Nat}{dt ch:V}(I:storable dt=true)(J:storable ch=true): (iy kd tx pv nx dt ch).all storable=true:=by
 simp only [iy,iZ,jH,I,J]
 rfl
def cT : List V→List cm→ax
 | [],[]=>.pu True
 | p::a::w::v::l,x::m=>.an (.an (.pu (p=.int .i64 x.aK∧a=.int .i64 x.pos∧w=.bool x.whole)) (.ct v x.b)) (cT l m)
 | _,_=>.pu False
theorem aE.mB : ∀(m:List cm) (l:List V),aE (cT l m):=by
 intro m
 induction m with
 | nil=>intro l; rcases l with _ | ⟨a,_ | ⟨b,_ | ⟨c,_ | ⟨d,l⟩⟩⟩⟩ <;> exact aE.pu _
 | cons x m I=>intro l; rcases l with _ | ⟨a,_ | ⟨b,_ | ⟨c,_ | ⟨d,l⟩⟩⟩⟩ <;> first | exact aE.pu _ | exact aE.an (aE.an (aE.pu _) (aE.ct _ _)) (I l)
theorem oJ {a b:PM}: ∀ {m:List cm} {l:List V},(cT l m).p a b→l.length=m.length*4:=by
 intro m
 induction m with
 | nil=>intro l h; rcases l with _ | ⟨x,_ | ⟨y,_ | ⟨z,_ | ⟨d,l⟩⟩⟩⟩ <;> first | rfl | exact h.elim
 | cons x m I =>
  intro l h
  rcases l with _ | ⟨x,_ | ⟨y,_ | ⟨z,_ | ⟨d,l⟩⟩⟩⟩ <;> first | exact h.elim | skip
  have:=I h.2
  simp only [bj]
  omega
theorem w5 {a b:PM}: ∀ {m m':List cm} {l I:List V},(cT l m).p a b→(cT I m').p a b→(cT (l++I) (m++m')).p a b:=by
 intro m
 induction m with
 | nil=>intro m' l I h h'; rcases l with _ | ⟨x,_ | ⟨y,_ | ⟨z,_ | ⟨d,l⟩⟩⟩⟩ <;> first | exact h' | exact h.elim
 | cons x m J =>
  intro m' l I h h'
  rcases l with _ | ⟨x,_ | ⟨y,_ | ⟨z,_ | ⟨d,l⟩⟩⟩⟩ <;> first | exact h.elim | exact ⟨h.1,J h.2 h'⟩
theorem G1 {a b:PM}: ∀ {m:List cm} {l:List V} {i:Nat} {c:cm},(cT l m).p a b→m[i]?=some c→∃u,(l.drop (i*4)).take 4=[.int .i64 c.aK,.int .i64 c.pos,.bool c.whole,u]∧(ax.ct u c.b).p a b:=by
 intro m
 induction m with
 | nil=>intro l i c h I; simp at I
 | cons x m J =>
  intro l i c h I
  rcases l with _ | ⟨p,_ | ⟨q,_ | ⟨w,_ | ⟨v,l⟩⟩⟩⟩ <;> first | exact h.elim | skip
  obtain ⟨⟨⟨U,h2,h3⟩,h4⟩,h5⟩:=h
  cases i with
  | zero=>simp at I; subst I; exact ⟨v,by rw [U,h2,h3]; rfl,h4⟩
  | succ i =>
   simp at I
   obtain ⟨u,e1,e2⟩:=J h5 I
   refine ⟨u,?_,e2⟩
   rw [←e1,show (i+1)*4=i*4+4 by omega]
   rfl
section
variable {told:dF} {h:H} {S:List ax} {X:ax} {k q p:Nat} {v:V} {l:List Nat}
theorem G2 {ch:V}{cs:List V}{m:List cm}{i:Nat}{c:cm}(s:Sat h (.arr 4 ch cs::cT cs m::S))(U:m[i]?=some c):
  ∃id off u,indexAddrV Tryz.prog 38 ch (.int .i64 (i:Int))=some (.ptr id off)∧loadV Tryz.prog h 54 (.ptr id off)=some (.agg [.int .i64 c.aK,.int .i64 c.pos,.bool c.whole,u]) ∧
   u.cells=[u]∧storable u=true∧u.beq u=true∧Sat h (.ct u c.b::.arr 4 ch cs::cT cs m::S):=by
 obtain ⟨a,b,q1,q2,q3⟩:=s.at (k:=1) rfl
 have Cq:=(List.getElem?_eq_some_iff.1 U).1
 have hl:=oJ q3
 obtain ⟨u,e1,e2⟩:=G1 q3 U
 obtain ⟨id,off,g1,J⟩:=GM (P:=Tryz.prog) (i:=i) s (j:=0) rfl (by omega) (by decide) iJ r9
 have J:=J Lc
 rw [e1] at J
 have s2:Sat h (cT cs m::.arr 4 ch cs::S):=s.ae [1]
 have s3:=(s2.dup (aE.mB _ _)).ga (B:=.ct u c.b) fun a b h=>by
  obtain ⟨u',I,um⟩:=G1 h U
  rw [e1] at I
  injection I with _ I
  injection I with _ I
  injection I with _ I
  injection I with I _
  subst I
  exact um
 have hu:=(s3.aG (k:=0) rfl (cL _ _))
 exact ⟨id,off,u,g1,J,hu.cells.1,hu.cells.2,cY hu,s3.ae [0,1,0]⟩
theorem J1 {ch:V}{cs:List V}{m:List cm}{j1 j2:Nat}{P:Program}{t e:TypeId}(s:Sat h S)(I:getA S j1=some (.arr 4 ch cs))(J:getA S j2=some (cT cs m))(hu:P.underlying t=some (.slice e)): lenV P h t ch=some (.int .i64 m.length):=by
 obtain ⟨a,b,q1,q2,U⟩:=s.at J
 exact s.iH I (oJ U) (by decide) hu
theorem Sat.vW {ch:V}{cs:List V}{m:List cm}{j1 j2:Nat}{P:Program}{t e:TypeId}(s:Sat h S)(I:getA S j1=some (.arr 4 ch cs))(J:getA S j2=some (cT cs m))(hu:P.underlying t=some (.slice e)): lenV P h t ch=some (.int .i64 m.length):=J1 s I J hu
noncomputable def Yn : Code:=cJ [1,1,0,1,0,0] ((Tryz.f120.body).getD .skip)
theorem Lt {p1:Nat}{ch:V}{cs:List V}{m:List cm}: ∀(j i:Nat) (h:H) (E:List (Nat×V)) (Q:Ex→List (Nat×V)→H→Prop),i+j=m.length→m.length<4294967296→(∀c∈m,c.b.length<9223372036854775808) →
  (∀c∈m, -4294967296≤c.pos∧c.pos≤4294967296)→Sat h (.arr 4 ch cs::cT cs m::S)→Has E [(1,.ptr p1 0),(14,ch),(15,.int .i64 m.length),(16,.int .i64 i)] →
  ((m.drop i).all (fun c=>decide c.Ok)=false→∀E' h',look E' 2=some (.bool false)→Sat h' (.arr 4 ch cs::cT cs m::S)→Q .ret E' h') →
  ((m.drop i).all (fun c=>decide c.Ok)=true→∀E' h',Sat h' (.arr 4 ch cs::cT cs m::S)→Q (.exit 0) E' h')→WP ⟨Tryz.prog,told⟩ 61 (.loop Yn) E h Q:=by
 intro j
 induction j with
 | zero =>
  intro i h E Q hi hm hb J s hE U hx
  refine WP.loop (WP.has hE (zg rfl (zh rfl (ag rfl rfl bx) (by simp; omega) ?_)))
  exact zk 3 rfl (WP.exit (hx (by rw [ig (by omega)]; rfl) _ _ s))
 | succ j ih =>
  intro i h E Q hi hm hb J s hE U hx
  have hc:m[i]?=some (m[i]'(by omega)):=bg _
  generalize (m[i]'(by omega))=c at hc
  have Ny:=bq hc
  have Yo:=hb c Ny
  have hcp:=J c Ny
  have lQ:m.drop i=c::m.drop (i+1):=by
   have:=List.getElem?_eq_some_iff.1 hc
   obtain ⟨h1,rfl⟩:=this
   exact kM h1
  rw [lQ,iZ] at U hx
  obtain ⟨id,off,u,e1,e2,u1,u2,u3,s⟩:=G2 s hc
  refine WP.loop (WP.has hE (zg rfl (zt rfl (ag rfl rfl bx) (by simp; omega) ?_)))
  refine zk 5 rfl (WP.block (zg rfl (zo rfl (dG (r:=.ptr id off) rfl rfl e1) (zl rfl e2 ?_))))
  refine aB.cO s rfl rfl rfl (cH qV) (fun p4 h s => ?_)
  dsimp only [V.cells,List.length_cons,List.length_nil,Nat.reduceAdd] at s
  refine zS rfl (s.gX (j:=0) rfl r9 rfl (by simp only [iZ,jH,u2]; rfl)) ?_
  intro h s
  dsimp only [setA] at s
  refine zk 4 rfl (zf rfl (qd _ _) (zl rfl (s.ld (k:=0) rfl c7 rfl) ?_))
  refine zd rfl (ag rfl rfl bx) ?_ ?_
  ·intro tN
   have tN:c.aK<0:=by simp at tN; omega
   exact zk 30 rfl (WP.ret (U (by rw [eB (fun q:c.Ok=>by have:=q.1; omega),eW]) _ _ rfl s.drop.drop))
  ·intro tN
   have tN:¬ (c.aK<0):=by simp at tN; omega
   refine zm rfl (zf rfl (qd _ _) (zl rfl (s.ld (k:=0) rfl c7 rfl) ?_))
   refine zd rfl (ag rfl rfl ng) ?_ ?_
   ·intro xL
    have xL:65536≤c.aK:=by simp at xL; omega
    exact zk 26 rfl (WP.ret (U (by rw [eB (fun q:c.Ok=>by have:=q.2.1; omega),eW]) _ _ rfl s.drop.drop))
   ·intro xL
    have xL:¬ (65536≤c.aK):=by simp at xL; omega
    refine zk 2 rfl (zf rfl (rN _ _) (zl rfl (s.ld (k:=0) rfl c7 rfl) ?_))
    refine zd rfl (ag rfl rfl bx) ?_ ?_
    ·intro iw
     have iw:c.pos<0:=by simp at iw; omega
     exact zk 21 rfl (WP.ret (U (by rw [eB (fun q:c.Ok=>by have:=q.2.2.1; omega),eW]) _ _ rfl s.drop.drop))
    ·intro iw
     have iw:¬ (c.pos<0):=by simp at iw; omega
     refine zk 2 rfl (zf rfl (rN _ _) (zl rfl (s.ld (k:=0) rfl c7 rfl) ?_))
     refine zd rfl (ag rfl rfl dR) ?_ ?_
     ·intro Nz
      have Nz:512<c.pos:=by simp at Nz; omega
      exact zk 16 rfl (WP.ret (U (by rw [eB (fun q:c.Ok=>by have:=q.2.2.2.1; omega),eW]) _ _ rfl s.drop.drop))
     ·intro Nz
      have Nz:¬ (512<c.pos):=by simp at Nz; omega
      refine zk 2 rfl (zf rfl (om _ _) (zl rfl (s.ld (k:=0) rfl bL rfl) (zo rfl (a_ rfl rfl rfl (bh aS (s.aG (k:=1) rfl (cL _ _)))) (zf rfl (rN _ _) (zl rfl (s.ld (k:=0) rfl c7 rfl) (zb rfl (by exact lE (aT (by omega) (by omega))) ?_))))))
      refine zd rfl (ag rfl rfl dR) ?_ ?_
      ·intro NA
       have NA:512-c.pos<(c.b.length:Int):=by simp at NA; omega
       exact zk 7 rfl (WP.ret (U (by rw [eB (fun q:c.Ok=>by have:=q.2.2.2.2.1; omega),eW]) _ _ rfl s.drop.drop))
      ·intro NA
       have NA:¬ (512-c.pos<(c.b.length:Int)):=by simp at NA; omega
       refine zk 6 rfl (zf rfl (yy _ _) ?_)
       have rA:∀(h:H) (E:List (Nat×V)),c.Ok→Sat h (.arr 4 ch cs::cT cs m::S)→Has E [(1,.ptr p1 0),(14,ch),(15,.int .i64 m.length),(16,.int .i64 ((i:Int)+1))]→WP ⟨Tryz.prog,told⟩ 61 (.loop Yn) E h Q:=by
        intro h E mQ s hE
        rw [dN mQ,zY] at U hx
        exact ih (i+1) h E Q (by omega) hm hb J s hE U hx
       have Ms:c.whole=false∨c.whole=true:=by cases c.whole <;> simp
       rcases Ms with hw | hw
       ·skip
        refine zh rfl (aV rfl (by exact s.ld (k:=0) rfl jV rfl)) (hw) ?_
        refine zk 11 rfl (zv (zj rfl (WP.skip (zr rfl (zb rfl (by exact bO (aT (by omega) (by omega))) ?_)))))
        refine zm rfl (zv ?_)
        refine rA _ _ ?_ ?_ ?_
        ·exact ⟨by omega,by omega,by omega,by omega,by omega,fun e=>by rw [hw] at e; cases e⟩
        ·exact s.drop.drop
        ·exact ⟨rfl,rfl,rfl,rfl,aa⟩
       ·skip
        refine zt rfl (aV rfl (s.ld (k:=0) rfl jV rfl)) (hw) (zm rfl (zf rfl (rN _ _) (zl rfl (s.ld (k:=0) rfl c7 rfl) ?_)))
        refine zd rfl (ag rfl rfl aX) ?_ ?_
        ·intro hp
         have hp:c.pos≠0:=by simp at hp; omega
         exact zk 13 rfl (WP.ret (U (by rw [eB (fun q:c.Ok=>hp (q.2.2.2.2.2 hw).1),eW]) _ _ rfl s.drop.drop))
        ·intro hp
         have hp:c.pos=0:=by simp at hp; omega
         refine zm rfl (zf rfl (om _ _) (zl rfl (s.ld (k:=0) rfl bL rfl) (zo rfl (a_ rfl rfl rfl (bh aS (s.aG (k:=1) rfl (cL _ _)))) ?_)))
         refine zd rfl (ag rfl rfl aX) ?_ ?_
         ·intro I
          have I:c.b.length≠512:=by simp at I; omega
          exact zk 8 rfl (WP.ret (U (by rw [eB (fun q:c.Ok=>I (q.2.2.2.2.2 hw).2),eW]) _ _ rfl s.drop.drop))
         ·intro I
          have I:c.b.length=512:=by simp at I; omega
          refine zk 2 rfl (zv (zj rfl (WP.skip (zr rfl (zb rfl (by exact bO (aT (by omega) (by omega))) ?_)))))
          refine zm rfl (zv ?_)
          refine rA _ _ ?_ ?_ ?_
          ·exact ⟨by omega,by omega,by omega,by omega,by omega,fun _=>⟨hp,I⟩⟩
          ·exact s.drop.drop
          ·exact ⟨rfl,rfl,rfl,rfl,aa⟩
def vX (m:List cm): Prop:=m.length<4294967296∧(∀c∈m,c.b.length<4294967296)∧(∀c∈m, -4294967296≤c.pos∧c.pos≤4294967296)
theorem G3 (hT:W told){kd:Int}{tx pv nx:Nat}{dt ch:V}{cs:List V}{m:List cm}(s:Sat h (.arr 4 ch cs::cT cs m::S))(hd:storable dt=true)(hm:vX m):
  Call ⟨Tryz.prog,told⟩ 120 [.agg (iy kd tx pv nx dt ch)] h fun r h'=>r=.bool (dM kd m)∧Sat h' (.arr 4 ch cs::cT cs m::S):=by
 have me:=s.kF (j:=0) rfl
 have gn:=mP (kd:=kd) (tx:=tx) (pv:=pv) (nx:=nx) hd me.2.1
 refine Call.of_wp (hT.free _ rfl) Tryz.func120 rfl rfl (zg rfl (aB.cO s rfl rfl rfl (gw rfl gn) ?_))
 intro p1 h s
 refine zk 5 rfl (zf rfl (tX _ _) (zl rfl (s.ld (k:=0) rfl c7 rfl) ?_))
 refine zd rfl (ag rfl rfl bx) ?_ ?_
 ·intro J
  have J:kd<1:=by simpa using J
  exact zk 11 rfl (WP.ret ⟨aa,_,rfl,by rw [dM,eB (by omega),eW],s.drop⟩)
 ·intro J
  have J:1≤kd:=by simpa using J
  refine zm rfl (zf rfl (tX _ _) (zl rfl (s.ld (k:=0) rfl c7 rfl) ?_))
  refine zd rfl (ag rfl rfl dR) ?_ ?_
  ·intro I
   have I:9<kd:=by simpa using I
   exact zk 7 rfl (WP.ret ⟨aa,_,rfl,by rw [dM,eB (by omega),eW],s.drop⟩)
  ·intro I
   have I:kd≤9:=by simpa using I
   refine zk 7 rfl (zf rfl (mO _ _) (zl rfl (s.ld (k:=0) rfl tW rfl) (zo rfl (a_ rfl rfl rfl (J1 s (j1:=1) (j2:=2) rfl rfl iJ)) (zk 2 rfl (WP.block ?_)))))
   have hg:dM kd m=m.all (fun c=>decide c.Ok):=by rw [dM,dN ⟨J,I⟩,zY]
   refine Lt m.length 0 _ _ _ (by omega) hm.1 (fun c hc=>by have:=hm.2.1 c hc; omega) hm.2.2 s.drop ⟨rfl,rfl,rfl,rfl,aa⟩ (fun U E' h' h2 s' => ?_) (fun U E' h' s' => ?_)
   ·rw [hg]
    rw [dS] at U
    rw [U]
    exact ⟨aa,_,oF h2,rfl,s'⟩
   ·rw [hg]
    rw [dS] at U
    rw [U]
    exact WP.has (F:=[]) aa (zK 4 rfl (WP.ret ⟨aa,_,rfl,rfl,s'⟩))
end
def kG (c:cm): List Nat:=digits 9 c.aK.toNat++digits 9 c.pos.toNat++[if c.whole then 1 else 0]++(digits 9 c.b.length++c.b)
def dm (kd:Int)(tx pv nx:Nat)(data:List Nat)(aP:List cm): List Nat :=
 [kd.toNat]++digits 9 tx++digits 9 pv++digits 9 nx++(digits 9 data.length++data)++digits 9 aP.length++aP.flatMap kG
section
variable {told:dF} {h:H} {S:List ax} {X:ax} {k q p:Nat} {v w:V} {l m:List Nat}
theorem pO (I:W told){n:Nat}(s:Sat h (bG v l::S))(hn:n<18446744073709551616)(hl:l.length≤140737488355000):
  Call ⟨Tryz.prog,told⟩ 135 [v,.int .u64 (n:Int)] h fun r h'=>Sat h' (bG r (l++digits 9 n)::S) :=
 (EN I.RT (k:=9) s.wf (s.buf (k:=0) rfl) (by omega) (by omega) (by omega)).mono fun _ _ ⟨J,U,h3⟩=>s.An U J h3
theorem D2 (U:W told)(s:Sat h (bG v l::X::S))(I:cR X (cV w m))(hl:l.length+m.length≤140737488355000):
  Call ⟨Tryz.prog,told⟩ 136 [v,w] h fun r h'=>Sat h' (bG r (l++(digits 9 m.length++m))::X::S) :=
 (SZ U.RT (k:=9) s.wf (s.buf (k:=0) rfl) (s.aG (k:=1) rfl I) (s.Vi I) (by omega) (by omega) (by omega)).mono fun _ _ ⟨J,h2,h3⟩=>by
  rw [bP] at J
  exact s.An h2 J h3
noncomputable def Yp : Code:=cJ [1,1,1,1,0,1,0,0] ((Tryz.f121.body).getD .skip)
theorem NB (hT:W told){p1:Nat}{ch:V}{cs:List V}{aP:List cm}(mQ:∀c∈aP,c.Ok)(J:vX aP): ∀(j i:Nat) (sv:V) (l:List Nat) (h:H) (E:List (Nat×V)) (Q:Ex→List (Nat×V)→H→Prop),i+j=aP.length →
  l.length+((aP.drop i).flatMap kG).length≤140737488355000 →
  Sat h (bG sv l::.arr 4 ch cs::cT cs aP::S)→Has E [(1,.ptr p1 0),(3,sv),(37,ch),(38,.int .i64 aP.length),(39,.int .i64 i)] →
  (∀E' h' I,look E' 3=some I→Sat h' (bG I (l++(aP.drop i).flatMap kG)::.arr 4 ch cs::cT cs aP::S)→Q (.exit 2) E' h')→WP ⟨Tryz.prog,told⟩ 63 (.loop Yp) E h Q:=by
 intro j
 induction j with
 | zero =>
  intro i sv l h E Q hi hlen s hE hx
  have hm:=J.1
  refine WP.loop (WP.has hE (zg rfl (zh rfl (ag rfl rfl bx) (by simp; omega) ?_)))
  refine zk 3 rfl (WP.exit (hx _ _ sv rfl ?_))
  rw [ig (by omega)]
  simpa using s
 | succ j ih =>
  intro i sv l h E Q hi hlen s hE hx
  have hm:=J.1
  have hc:aP[i]?=some (aP[i]'(by omega)):=bg _
  generalize (aP[i]'(by omega))=c at hc
  have Ny:=bq hc
  have ZO:=mQ c Ny
  have Yo:=J.2.1 c Ny
  have lQ:aP.drop i=c::aP.drop (i+1):=by
   obtain ⟨h1,rfl⟩:=List.getElem?_eq_some_iff.1 hc
   exact kM h1
  rw [lQ,qF] at hlen hx
  obtain ⟨pg,ps,wh,bb⟩:=c
  obtain ⟨q1,q2,q3,q4,_⟩:=ZO
  dsimp only at q1 q2 q3 q4 Yo
  obtain ⟨pg,rfl⟩:∃n:Nat,pg=n:=⟨pg.toNat,by omega⟩
  obtain ⟨ps,rfl⟩:∃n:Nat,ps=n:=⟨ps.toNat,by omega⟩
  have U:kG ⟨pg,ps,wh,bb⟩=digits 9 pg++digits 9 ps++[if wh then 1 else 0]++(digits 9 bb.length++bb):=by simp [kG]
  have JJ:(kG ⟨pg,ps,wh,bb⟩).length=(digits 9 pg).length+(digits 9 ps).length+1+(digits 9 bb.length).length+bb.length:=by rw [U]; simp; omega
  rw [bC,JJ] at hlen
  obtain ⟨id,off,u,e1,e2,u1,u2,u3,s⟩:=G2 (s.ae [1,1]) hc
  dsimp only at e2
  have s:=s.ae [3,0,0,0]
  dsimp only [aU,bringA,getA] at s
  refine WP.loop (WP.has hE (zg rfl (zt rfl (ag rfl rfl bx) (by simp; omega) ?_)))
  refine zk 5 rfl (WP.block (zg rfl (zo rfl (dG (r:=.ptr id off) rfl rfl e1) (zl rfl e2 ?_))))
  refine aB.cO s rfl rfl rfl (cH qV) (fun p7 h s => ?_)
  dsimp only [V.cells,List.length_cons,List.length_nil,Nat.reduceAdd] at s
  refine zS rfl (s.gX (j:=0) rfl r9 rfl (by simp only [iZ,jH,u2]; rfl)) ?_
  intro h s
  dsimp only [setA] at s
  refine zk 2 rfl ?_
  have s:=s.ae [1,0]
  dsimp only [bringA,getA,aU] at s
  have s0:=s
  refine WP.drawn [ai,ai,ai,ai,ai,some (0,2),some (0,2),some (0,2),none,none] rfl (by kernel_rfl) (by kernel_rfl) ?_
  refine zM rfl (zF rfl (qd _ _) (zL rfl (s.ld (k:=1) rfl c7 rfl) (aA.op rfl rfl rfl (by simp only [isEff,cq]) (b8 rfl (by exact jx bE cq (eR (by omega) (by omega)))) ?_)))
  refine aA.any rfl rfl rfl rfl (OpR.call rfl rfl rfl rfl (pO hT s (by omega) (by omega))) ?_
  intro v1 h s
  have s1:=s
  refine zF rfl (rN _ _) (zL rfl (s.ld (k:=1) rfl c7 rfl) (aA.op rfl rfl rfl (by simp only [isEff,cq]) (b8 rfl (by exact jx bE cq (eR (by omega) (by omega)))) ?_))
  refine aA.any rfl rfl rfl rfl (OpR.call rfl rfl rfl rfl (pO hT s (by omega) (by simp; omega))) ?_
  intro v2 h s
  refine zA rfl ?_
  refine aA.nil ⟨⟨aa,aa,aa,aa,aa,fun _ _=>.inr ⟨rfl,⟨_,jv rfl (rN _ _)⟩,aW _ rfl⟩,dP (.inr ⟨rfl,⟨_,aV rfl (s0.ld (k:=1) rfl c7 rfl)⟩,aW _ rfl⟩) (.inr ⟨rfl,⟨_,aV rfl (s1.ld (k:=1) rfl c7 rfl)⟩,aW _ rfl⟩),fun _ _=>.inr ⟨rfl,⟨_,b8 rfl (by exact jx bE cq (eR (by omega) (by omega)))⟩,aW _ rfl⟩,aa,aa,aa⟩,?_⟩
  have GZ:∀(h:H) (E:List (Nat×V)) (I:V),Sat h (bG I (l++kG ⟨pg,ps,wh,bb⟩)::.arr 4 ch cs::cT cs aP::S)→Has E [(1,.ptr p1 0),(3,I),(37,ch),(38,.int .i64 aP.length),(39,.int .i64 ((i:Int)+1))]→WP ⟨Tryz.prog,told⟩ 63 (.loop Yp) E h Q:=by
   intro h E I s hE
   refine ih (i+1) I _ h E Q (by omega) (by rw [bC,JJ]; omega) s hE (fun E' h' sv2 xI s'=>hx E' h' sv2 xI ?_)
   rw [bP] at s'
   exact s'
  have hlp:=gB 9 pg
  have hlq:=gB 9 ps
  refine zK 7 rfl (zf rfl (yy _ _) ?_)
  have Ms:wh=false∨wh=true:=by cases wh <;> simp
  rcases Ms with hw | hw
  ·skip
   refine zh rfl (aV rfl (s.ld (k:=1) rfl jV rfl)) (hw) (zk 3 rfl ?_)
   have s0:=s
   have ot:=cY (s.buf (k:=0) rfl).view
   refine WP.drawn [some (0,2),ai,ai,ai,some (0,3),some (0,3),none,none] rfl (by kernel_rfl) (by kernel_rfl) ?_
   refine zM rfl (zM rfl (aA.any rfl rfl rfl rfl (OpR.Ll (n:=0) rfl s rfl rfl rfl (by decide)) ?_))
   intro v3 h s
   have s:=s.ae [1,1,0]
   dsimp only [bringA,getA,aU] at s
   have s1:=s
   refine aA.any rfl rfl rfl rfl (OpR.oG rfl (s.ae [0,1]) (bI _ _) rfl rfl rfl rfl (by simp; omega)) ?_
   intro v4 h s
   have s:=s.del 1
   dsimp only [aU,bringA] at s
   have s2:=s
   refine zF rfl (om _ _) (zL rfl (s.ld (k:=1) rfl bL rfl) (aA.any rfl rfl rfl rfl (OpR.call rfl rfl rfl rfl (D2 hT (s.ae [0,1]) (cL _ _) (by simp; omega))) ?_))
   intro v5 h s
   dsimp only [aU,bringA] at s
   refine zA rfl ?_
   refine aA.nil ⟨⟨fun _ _=>.inr ⟨rfl,⟨_,bk rfl⟩,ot⟩,aa,aa,aa,fun _ _=>.inr ⟨rfl,⟨_,jv rfl (om _ _)⟩,aW _ rfl⟩,vN (.inr ⟨rfl,⟨_,aV rfl (s0.ld (k:=1) rfl bL rfl)⟩,u3⟩) (.inr ⟨rfl,⟨_,aV rfl (s1.ld (k:=1) rfl bL rfl)⟩,u3⟩) (.inr ⟨rfl,⟨_,aV rfl (s2.ld (k:=1) rfl bL rfl)⟩,u3⟩),aa,aa,aa⟩,?_⟩
   refine zr rfl (zb rfl (by exact bO (aT (by omega) (by omega))) ?_)
   refine zm rfl (zv ?_)
   refine GZ _ _ v5 ?_ ?_
   ·rw [U,hw]
    have s:=(s.del 1).del 1
    dsimp only [aU] at s
    simpa [bP] using s
   ·exact ⟨rfl,rfl,rfl,rfl,rfl,aa⟩
  ·skip
   refine zt rfl (aV rfl (s.ld (k:=1) rfl jV rfl)) (hw) (zk 5 rfl ?_)
   have s0:=s
   have ot:=cY (s.buf (k:=0) rfl).view
   refine WP.drawn [some (0,2),ai,ai,ai,some (0,3),some (0,3),none,none] rfl (by kernel_rfl) (by kernel_rfl) ?_
   refine zM rfl (zM rfl (aA.any rfl rfl rfl rfl (OpR.Ll (n:=1) rfl s rfl rfl rfl (by decide)) ?_))
   intro v3 h s
   have s:=s.ae [1,1,0]
   dsimp only [bringA,getA,aU] at s
   have s1:=s
   refine aA.any rfl rfl rfl rfl (OpR.oG rfl (s.ae [0,1]) (bI _ _) rfl rfl rfl rfl (by simp; omega)) ?_
   intro v4 h s
   have s:=s.del 1
   dsimp only [aU,bringA] at s
   have s2:=s
   refine zF rfl (om _ _) (zL rfl (s.ld (k:=1) rfl bL rfl) (aA.any rfl rfl rfl rfl (OpR.call rfl rfl rfl rfl (D2 hT (s.ae [0,1]) (cL _ _) (by simp; omega))) ?_))
   intro v5 h s
   dsimp only [aU,bringA] at s
   refine zA rfl ?_
   refine aA.nil ⟨⟨fun _ _=>.inr ⟨rfl,⟨_,bk rfl⟩,ot⟩,aa,aa,aa,fun _ _=>.inr ⟨rfl,⟨_,jv rfl (om _ _)⟩,aW _ rfl⟩,vN (.inr ⟨rfl,⟨_,aV rfl (s0.ld (k:=1) rfl bL rfl)⟩,u3⟩) (.inr ⟨rfl,⟨_,aV rfl (s1.ld (k:=1) rfl bL rfl)⟩,u3⟩) (.inr ⟨rfl,⟨_,aV rfl (s2.ld (k:=1) rfl bL rfl)⟩,u3⟩),aa,aa,aa⟩,?_⟩
   refine zr rfl (zb rfl (by exact bO (aT (by omega) (by omega))) ?_)
   refine zm rfl (zv ?_)
   refine GZ _ _ v5 ?_ ?_
   ·rw [U,hw]
    have s:=(s.del 1).del 1
    dsimp only [aU] at s
    simpa [bP] using s
   ·exact ⟨rfl,rfl,rfl,rfl,rfl,aa⟩
theorem PU (J:W told){kd:Nat}{tx pv nx:Nat}{dt ch:V}{cs:List V}{data:List Nat}{aP:List cm}(s:Sat h (X::.arr 4 ch cs::cT cs aP::S))(hX:cR X (cV dt data))(hg:dM kd aP=true)(I:vX aP)
 (NC:tx<18446744073709551616)(Yq:pv<18446744073709551616)(EU:nx<18446744073709551616)(hlen:data.length+(aP.flatMap kG).length≤70368744177664):
  Call ⟨Tryz.prog,told⟩ 121 [.agg (iy kd tx pv nx dt ch)] h fun r h'=>Sat h' (bG r (dm kd tx pv nx data aP)::X::.arr 4 ch cs::cT cs aP::S):=by
 have U:=s.kF (j:=1) rfl
 have jM:=s.aG (k:=0) rfl hX
 have A0:=cY jM
 have gn:=mP (kd:=kd) (tx:=tx) (pv:=pv) (nx:=nx) jM.cells.2 U.2.1
 have hk:1≤kd∧kd≤9:=by simp [dM] at hg; omega
 have mQ:∀c∈aP,c.Ok:=by
  simp only [dM,aY,oY,eA] at hg
  exact hg.2
 have hm:=I.1
 have h1:=gB 9 tx
 have h2:=gB 9 pv
 have h3:=gB 9 nx
 have h4:=gB 9 data.length
 have h5:=gB 9 aP.length
 refine Call.of_wp (J.free _ rfl) Tryz.func121 rfl rfl (zg rfl (aB.cO s rfl rfl rfl (gw rfl gn) ?_))
 intro p1 h s
 dsimp only [V.cells] at s
 refine zk 4 rfl (zf rfl (tX _ _) (zl rfl (s.ld (k:=0) rfl c7 rfl) (zo rfl (b8 rfl (by exact jx bE Tryz.underlying5 (U_ (by omega) (by omega)))) ?_)))
 refine aB.any rfl rfl rfl (OpR.Ll (n:=kd) rfl s rfl rfl rfl (by omega)) ?_
 intro v3 h s
 refine zk 5 rfl (zf rfl (M9 _ _) (zl rfl (s.ld (k:=1) rfl fX rfl) (zf rfl (M_ _ _) (zl rfl (s.ld (k:=1) rfl fX rfl) (zf rfl (Na _ _) (zl rfl (s.ld (k:=1) rfl fX rfl) (zo rfl (cX rfl (by rw [W9]; rfl)) ?_)))))))
 refine zk 2 rfl (WP.block (WP.loop (zg rfl (zt rfl (ag rfl rfl bx) (by decide) ?_))))
 refine zk 5 rfl (WP.block (zg rfl (zo rfl (DP rfl rfl (r:=.int .u64 (tx:Int)) (by simp only [indexV,G0,qT,oA,fX]; rfl)) ?_)))
 refine zk 5 rfl (zc rfl (pO J s (by omega) (by simp only [bC,bj,bY]; omega)) ?_)
 intro v3 h s
 refine za rfl (zv (zr rfl (zb rfl (by exact bO (aT (by omega) (by omega))) ?_)))
 refine zm rfl (zv (WP.loop (zg rfl (zt rfl (ag rfl rfl bx) (by decide) ?_))))
 refine zk 5 rfl (WP.block (zg rfl (zo rfl (DP rfl rfl (r:=.int .u64 (pv:Int)) (by simp only [indexV,G0,qT,oA,fX]; rfl)) ?_)))
 refine zk 5 rfl (zc rfl (pO J s (by omega) (by simp only [bC,bj,bY]; omega)) ?_)
 intro v3 h s
 refine za rfl (zv (zr rfl (zb rfl (by exact bO (aT (by omega) (by omega))) ?_)))
 refine zm rfl (zv (WP.loop (zg rfl (zt rfl (ag rfl rfl bx) (by decide) ?_))))
 refine zk 5 rfl (WP.block (zg rfl (zo rfl (DP rfl rfl (r:=.int .u64 (nx:Int)) (by simp only [indexV,G0,qT,oA,fX]; rfl)) ?_)))
 refine zk 5 rfl (zc rfl (pO J s (by omega) (by simp only [bC,bj,bY]; omega)) ?_)
 intro v3 h s
 refine za rfl (zv (zr rfl (zb rfl (by exact bO (aT (by omega) (by omega))) ?_)))
 refine zm rfl (zv (WP.loop (zg rfl (zh rfl (ag rfl rfl bx) (by decide) ?_))))
 refine zk 3 rfl (WP.exit (zw ?_))
 have s0:=s
 have AM:=cY (s.buf (k:=0) rfl).view
 refine WP.drawn [ai,ai,ai,ai,some (0,2),some (0,2),some (0,2),some (0,2),none,none] rfl (by kernel_rfl) (by kernel_rfl) ?_
 refine zM rfl (zF rfl (yx _ _) (zL rfl (s.ld (k:=1) rfl bL rfl) (aA.any rfl rfl rfl rfl (OpR.call rfl rfl rfl rfl (D2 J (s.ae [0,1]) hX (by simp only [bC,bj,bY]; omega))) ?_)))
 intro v4 h s
 have s:=s.ae [0,1,0]
 have s1:=s
 refine zF rfl (mO _ _) (zL rfl (s.ld (k:=1) rfl tW rfl) (zO rfl (a_ rfl rfl rfl (s.vW (j1:=3) (j2:=4) rfl rfl iJ)) (aA.op rfl rfl rfl (by simp only [isEff,cq]) (b8 rfl (by exact jx bE cq (eR (by omega) (by omega)))) ?_)))
 refine aA.any rfl rfl rfl rfl (OpR.call rfl rfl rfl rfl (pO J s (by omega) (by simp only [bC,bj,bY]; omega))) ?_
 intro v5 h s
 refine zA rfl ?_
 refine aA.nil ⟨⟨aa,aa,aa,aa,fun _ _=>.inr ⟨rfl,⟨_,jv rfl (mO _ _)⟩,aW _ rfl⟩,dP (.inr ⟨rfl,⟨_,aV rfl (s0.ld (k:=1) rfl tW rfl)⟩,U.2.2⟩) (.inr ⟨rfl,⟨_,aV rfl (s1.ld (k:=1) rfl tW rfl)⟩,U.2.2⟩),dP (.inr ⟨rfl,⟨_,a_ rfl rfl rfl (s0.vW (j1:=3) (j2:=4) rfl rfl iJ)⟩,aW _ rfl⟩) (.inr ⟨rfl,⟨_,a_ rfl rfl rfl (s1.vW (j1:=3) (j2:=4) rfl rfl iJ)⟩,aW _ rfl⟩),fun _ _=>.inr ⟨rfl,⟨_,b8 rfl (by exact jx bE cq (eR (by omega) (by omega)))⟩,aW _ rfl⟩,aa,aa,aa⟩,?_⟩
 refine zK 3 rfl (zf rfl (mO _ _) (zl rfl (s.ld (k:=1) rfl tW rfl) (zo rfl (a_ rfl rfl rfl (s.vW (j1:=3) (j2:=4) rfl rfl iJ)) (zk 2 rfl (WP.block ?_)))))
 have s:=s.ae [0,2,2,1]
 refine NB J mQ I aP.length 0 v5 _ _ _ _ (by omega) (by rw [dS]; simp only [bC,bj,bY]; omega) s ⟨rfl,rfl,rfl,rfl,rfl,aa⟩ (fun E' h' Vr gq s' => ?_)
 refine WP.has (F:=[(3,Vr)]) ⟨gq,aa⟩ (zK 5 rfl (WP.ret ⟨aa,_,rfl,?_⟩))
 have Yr:=(s'.ae [0,2,0,0]).del 4
 dsimp only [List.cons_append,List.nil_append,List.drop,aU,bringA,getA] at Yr
 simpa [dm,bP] using Yr
end
def ic (aF:Nat)(b:List Nat): List Nat:=le 4 b.length++le 4 (sG aF b)++b
theorem oK (aF:Nat)(b:List Nat): (ic aF b).length=8+b.length:=by simp [ic,dH]; omega
theorem w6 : ∃i,Tryz.prog.info? 3=some i∧i.size=1∧i.bytes=8 :=
 ⟨_,(show Tryz.prog.info? 3=some ((Tryz.prog.info? 3).getD default) by kernel_rfl),by kernel_rfl,by kernel_rfl⟩
section
variable {told:dF} {h:H} {S:List ax} {X:ax} {k q p:Nat} {v w:V} {l m:List Nat} {μ:Lg} {δ:Dk}
theorem EV (I:W told){n:Nat}(s:Sat h S)(J:getA S k=some X)(U:cR X (cV v l))(hl:l.length≤4611686018427387904):
  Call ⟨Tryz.prog,told⟩ 100 [.int .u64 (n:Int),v] h fun r h'=>r=.int .u32 (sG n l:Nat)∧Sat h' S :=
 (Nm I.RT s.wf (s.aG J U) hl).mono fun _ _ ⟨h1,h2⟩=>⟨h1,s.cS h2⟩
structure Cz (tx pv nx:Nat)(data:List Nat)(aP:List cm): Prop where
 fit:vX aP
 tx:tx<18446744073709551616
 pv:pv<18446744073709551616
 nx:nx<18446744073709551616
 len:data.length+(aP.flatMap kG).length≤70368744177664
theorem ND (J:W told){kd:Int}{tx pv nx aF:Nat}{dt ch:V}{cs:List V}{data:List Nat}{aP:List cm}(s:Sat h (X::.arr 4 ch cs::cT cs aP::S))(hX:cR X (cV dt data))(I:Cz tx pv nx data aP):
  Call ⟨Tryz.prog,told⟩ 88 [.agg (iy kd tx pv nx dt ch),.int .u64 (aF:Int)] h fun r h' =>
  (dM kd aP=false∧r=.bD [.bA,.int .i64 1]∧Sat h' (X::.arr 4 ch cs::cT cs aP::S)) ∨
  (dM kd aP=true∧1048576<(dm kd tx pv nx data aP).length∧r=.bD [.bA,.int .i64 2]∧Sat h' (X::.arr 4 ch cs::cT cs aP::S)) ∨
  (dM kd aP=true∧(dm kd tx pv nx data aP).length≤1048576∧∃u,r=.bD [u,.int .i64 0]∧Sat h' (bG u (ic aF (dm kd tx pv nx data aP))::X::.arr 4 ch cs::cT cs aP::S)):=by
 have me:=s.kF (j:=1) rfl
 have U:=s.aG (k:=0) rfl hX
 have gn:=mP (kd:=kd) (tx:=tx) (pv:=pv) (nx:=nx) U.cells.2 me.2.1
 refine Call.of_wp (J.free _ rfl) Tryz.func88 rfl rfl (zg rfl (aB.cO s rfl rfl rfl (gw rfl gn) ?_))
 intro p1 h s
 dsimp only [V.cells] at s
 refine zk 6 rfl (zl rfl (s.fE (k:=0) rfl ni gy) (zc rfl (G3 J (s.ae [2,2]) U.cells.2 I.fit) ?_))
 rintro r h' ⟨rfl,s⟩
 cases hg:dM kd aP with
 | false =>
  exact zo rfl (dA rfl rfl) (zk 7 rfl (WP.ret ⟨aa,_,rfl,.inl ⟨rfl,rfl,(s.ae [3,0,0]).del 3⟩⟩))
 | true =>
  refine zo rfl (dA rfl rfl) (zk 5 rfl (zl rfl (s.fE (k:=2) rfl ni gy) ?_))
  have hk:∃n:Nat,kd=n:=⟨kd.toNat,by simp [dM] at hg; omega⟩
  obtain ⟨kd,rfl⟩:=hk
  refine zc rfl (PU J (s.ae [3,0,0]) hX hg I.fit I.tx I.pv I.nx I.len) ?_
  intro u h s
  dsimp only [bringA,getA,aU] at s
  have xD:(dm kd tx pv nx data aP).length<9223372036854775808:=by
   have h1:=gB 9 tx
   have h2:=gB 9 pv
   have h3:=gB 9 nx
   have h4:=gB 9 data.length
   have h5:=gB 9 aP.length
   have h6:=I.len
   simp only [dm,bC,bj,bY]
   omega
  generalize BS:dm kd tx pv nx data aP=bd at s xD ⊢
  refine zk 6 rfl (zo rfl (a_ rfl rfl rfl (bh aS (s.aG (k:=0) rfl (bI _ _)))) ?_)
  by_cases D3:1048576<bd.length
  ·skip
   refine zt rfl (ag rfl rfl dR) (by simp; omega) ?_
   exact zk 7 rfl (WP.ret ⟨aa,_,rfl,.inr (.inl ⟨rfl,D3,rfl,(s.del 4).del 0⟩)⟩)
  ·skip
   refine zh rfl (ag rfl rfl dR) (by simp; omega) ?_
   refine zk 6 rfl (zo rfl (a_ rfl rfl rfl (bh aS (s.aG (k:=0) rfl (bI _ _)))) (zb rfl (by exact bO (aT (by omega) (by omega))) ?_))
   refine aB.any rfl rfl rfl (OpR.vR (c:=8+bd.length) rfl s rfl rfl rfl rfl (by omega)) ?_
   intro v h s
   refine zm rfl (zo rfl (a_ rfl rfl rfl (bh aS (s.aG (k:=1) rfl (bI _ _)))) (zo rfl (b8 rfl (by exact jx bE cq (eR (by omega) (by omega)))) ?_))
   refine zc rfl (vU (z:=4) J s (by decide) (by simp)) ?_
   intro v h s
   have bX:=(s.buf (k:=1) rfl).1
   refine zk 7 rfl (zc rfl (EV (n:=aF) J s (k:=1) rfl (bI _ _) (by omega)) ?_)
   rintro r h ⟨rfl,s⟩
   have lJ:=GS (aF:=aF) bX
   refine zo rfl (b8 rfl (by exact jx Tryz.underlying155 cq (eR (by omega) (by omega)))) ?_
   refine zc rfl (vU (z:=4) J s (by decide) (by simp [dH])) ?_
   intro v h s
   refine zk 6 rfl (aB.any rfl rfl rfl (OpR.oG rfl s (bI _ _) rfl rfl rfl rfl (by simp only [bC,dH,bY]; omega)) ?_)
   intro v h s
   refine zk 3 rfl (WP.ret ⟨aa,_,rfl,?_⟩)
   refine .inr (.inr ⟨rfl,by omega,v,rfl,?_⟩)
   have s:=(s.del 5).del 1
   dsimp only [aU] at s
   simpa [ic,bP] using s
def Lg.app (μ:Lg)(b:List Nat): Lg:={ μ with b:=μ.b++b,bw:=μ.bw++[μ.b.length] }
theorem Lu (hT:W told){kd:Int}{tx pv nx:Nat}{dt ch:V}{cs:List V}{data:List Nat}{aP:List cm}(s:Sat h (bf q p μ::aC p δ::X::.arr 4 ch cs::cT cs aP::S))(hX:cR X (cV dt data))(iE:Cz tx pv nx data aP)
 (J:μ.Ok)(hf:δ.aI<4294967296)(hl:δ.log.length≤16777216)(hr:δ.room≤16777216):
  Call ⟨Tryz.prog,told⟩ 48 [.ptr q 0,.agg (iy kd tx pv nx dt ch)] h fun r h' =>
  (∃e:Int,r=.bD [.int .u64 0,.int .i64 e]∧((dM kd aP=false∧e=1)∨(dM kd aP=true∧1048576<(dm kd tx pv nx data aP).length∧e=2)∨(dM kd aP=true∧(dm kd tx pv nx data aP).length≤1048576∧δ.dead=true∧e=9) ∨
    (dM kd aP=true∧(dm kd tx pv nx data aP).length≤1048576∧δ.dead=false∧δ.room<δ.log.length+(ic (μ.base+μ.b.length) (dm kd tx pv nx data aP)).length∧e=7))∧Sat h' (bf q p μ::aC p δ::X::.arr 4 ch cs::cT cs aP::S)) ∨
  (dM kd aP=true∧(dm kd tx pv nx data aP).length≤1048576∧δ.dead=false∧δ.log.length+(ic (μ.base+μ.b.length) (dm kd tx pv nx data aP)).length≤δ.room∧δ.aI=0∧r=.bD [.int .u64 0,.int .i64 9] ∧
   Sat h' (bf q p μ::aC p { δ.die with tail:=ic (μ.base+μ.b.length) (dm kd tx pv nx data aP) }::X::.arr 4 ch cs::cT cs aP::S)) ∨
  (dM kd aP=true∧(dm kd tx pv nx data aP).length≤1048576∧δ.dead=false∧δ.log.length+(ic (μ.base+μ.b.length) (dm kd tx pv nx data aP)).length≤δ.room∧δ.aI≠0∧r=.bD [.int .u64 ((μ.base+μ.b.length:Nat):Int),.int .i64 0] ∧
   Sat h' (bf q p (μ.app (ic (μ.base+μ.b.length) (dm kd tx pv nx data aP)))::aC p { δ.c_ with log:=δ.log++ic (μ.base+μ.b.length) (dm kd tx pv nx data aP) }::X::.arr 4 ch cs::cT cs aP::S)):=by
 have me:=s.kF (j:=3) rfl
 have jM:=s.aG (k:=2) rfl hX
 have gn:=mP (kd:=kd) (tx:=tx) (pv:=pv) (nx:=nx) jM.cells.2 me.2.1
 have wZ:=J.size
 refine Call.of_wp (hT.free _ rfl) Tryz.func48 rfl rfl (zg rfl (aB.cO s rfl rfl rfl (gw rfl gn) ?_))
 intro p1 h s
 dsimp only [V.cells] at s
 have s:=s.ae [1,0]
 refine zk 6 rfl (zc rfl (nQ hT s J.size) ?_)
 rintro v h' ⟨rfl,rfl⟩
 refine zk 4 rfl (zl rfl (s.fE (k:=1) rfl ni gy) (zm rfl (zc rfl (ND (aF:=μ.base+μ.b.length) hT (s.ae [3,3,3]) hX iE) ?_)))
 generalize hrc:ic (μ.base+μ.b.length) (dm kd tx pv nx data aP)=rc
 have EW:rc.length=8+(dm kd tx pv nx data aP).length:=by rw [←hrc,oK]
 rintro r h' (⟨hg,rfl,s⟩ | ⟨hg,D3,rfl,s⟩ | ⟨hg,U,u,rfl,s⟩)
 ·dsimp only [bringA,getA,aU] at s
  exact zk 10 rfl (zt rfl (ag rfl rfl aX) (rfl) (zk 8 rfl (WP.ret ⟨aa,_,rfl,.inl ⟨1,rfl,.inl ⟨hg,rfl⟩,(s.ae [3,4,0,0,0]).del 5⟩⟩)))
 ·dsimp only [bringA,getA,aU] at s
  exact zk 10 rfl (zt rfl (ag rfl rfl aX) (rfl) (zk 8 rfl (WP.ret ⟨aa,_,rfl,.inl ⟨2,rfl,.inr (.inl ⟨hg,D3,rfl⟩),(s.ae [3,4,0,0,0]).del 5⟩⟩)))
 ·dsimp only [bringA,getA,aU] at s
  have bX:=(s.buf (k:=0) rfl).1
  obtain ⟨xP,_,cap,_,rfl,_⟩:=s.ku (by omega)
  obtain ⟨bv,sv,s⟩:=c8.1 (s.ae [4])
  refine zk 10 rfl (zh rfl (ag rfl rfl aX) (rfl) (zk 8 rfl (zf rfl (pF _ _) (zl rfl (s.ld (k:=0) rfl jQ rfl) (zm rfl ?_)))))
  have s:=s.ae [8,3]
  refine zc rfl (Lq hT s (bI _ _) (by omega) hf (by omega) (by omega)) ?_
  rintro r h (⟨hd,rfl,s⟩ | ⟨hd,RX,rfl,s⟩ | ⟨hd,I,h0,rfl,s⟩ | ⟨hd,I,h0,rfl,s⟩)
  ·refine aB.op rfl rfl rfl (eV rfl) ?_
   exact zk 4 rfl (zt rfl (ag rfl rfl aX) (rfl) (zk 8 rfl (WP.ret ⟨aa,_,rfl,.inl ⟨9,rfl,.inr (.inr (.inl ⟨hg,U,hd,rfl⟩)),(c8.2 ⟨bv,sv,((s.ae [2,2,2,0,1,1,1]).del 8).del 7⟩)⟩⟩)))
  ·skip
   exact zk 5 rfl (zt rfl (ag rfl rfl aX) (rfl) (zk 8 rfl (WP.ret ⟨aa,_,rfl,.inl ⟨7,rfl,.inr (.inr (.inr ⟨hg,U,hd,by omega,rfl⟩)),(c8.2 ⟨bv,sv,((s.ae [2,2,2,0,1,1,1]).del 8).del 7⟩)⟩⟩)))
  ·skip
   exact zk 5 rfl (zt rfl (ag rfl rfl aX) (rfl) (zk 8 rfl (WP.ret ⟨aa,_,rfl,.inr (.inl ⟨hg,U,hd,I,h0,rfl,(c8.2 ⟨bv,sv,((s.ae [2,2,2,0,1,1,1]).del 8).del 7⟩)⟩)⟩)))
  ·skip
   have s:=s.ae [2,2,2,1,0,0,0,0]
   refine zk 5 rfl (zh rfl (ag rfl rfl aX) (rfl) (zk 4 rfl ?_))
   have s0:=s
   have Vs:=cY (s.buf (k:=1) rfl).view
   have A4:=(s.kF (j:=2) rfl).2.2
   refine WP.drawn [some (0,3),some (0,2),some (0,2),some (0,2),some (0,2),ai,ai,ai,ai,ai,ai,ai,ai,ai,ai] rfl (by kernel_rfl) (by kernel_rfl) ?_
   refine zM rfl (zM rfl (zN rfl (zF rfl (iS _ _) (zL rfl (s.ld (k:=0) rfl qf rfl) (zM rfl (zN rfl (zF rfl (eD _ _) (zL rfl (s.ld (k:=0) rfl bL rfl) (zO rfl (a_ rfl rfl rfl (bh aS (s.aG (k:=1) rfl (bI _ _)))) ?_)))))))))
   obtain ⟨i1,lp,jL,sn⟩:=w6
   obtain ⟨iv,h1,e1,s1⟩:=nN (P:=Tryz.prog) (k:=1) (x:=.int .i64 (μ.b.length:Int)) s eu EE jK rfl (by decide) (by decide) rfl rfl
   dsimp only [V.cells] at s1
   refine aA.any rfl rfl rfl rfl (OpR.of (R:=fun v h'=>v=iv∧h'=h1) (p_ rfl e1) ⟨rfl,rfl⟩) ?_
   rintro v h' ⟨rfl,rfl⟩
   have wY:=J.many
   obtain ⟨Vr,h2,e2,s2⟩:=jo (s1.ae [3,0]) eu lp EE jL (by omega) rfl (by decide) (by simp only [j8,bj,bY]; omega)
   refine aA.any rfl rfl rfl rfl (OpR.of (R:=fun v h'=>v=Vr∧h'=h2) (oB rfl rfl e2) ⟨rfl,rfl⟩) ?_
   rintro v h' ⟨rfl,rfl⟩
   have hv:=s2.kF (j:=0) rfl
   refine zN rfl (zF rfl (iS _ _) (aA.gV rfl rfl rfl (OpR.eU rfl rfl rfl (s2.dZ (k:=2) rfl PB rfl (by decide) hv.1 hv.2.1)) ?_))
   rintro v h ⟨rfl,s⟩
   refine aA.nil ⟨⟨fun _ _=>.inr ⟨rfl,⟨_,bk rfl⟩,aW _ rfl⟩,fun _ _=>.inr ⟨rfl,⟨_,bk rfl⟩,aW _ rfl⟩,fun _ _=>.inr ⟨rfl,⟨_,jZ rfl⟩,aW _ rfl⟩,fun _ _=>.inr ⟨rfl,⟨_,jv rfl (iS _ _)⟩,aW _ rfl⟩,dP (.inr ⟨rfl,⟨_,aV rfl (s0.ld (k:=0) rfl qf rfl)⟩,A4⟩) (.inr ⟨rfl,⟨_,aV rfl (s1.ld (k:=1) rfl qf rfl)⟩,A4⟩),aa,aa,aa,aa,aa,aa,aa,aa,aa,aa,aa⟩,?_⟩
   refine zK 5 rfl (zf rfl (eD _ _) (zl rfl (s.ld (k:=2) rfl bL rfl) (zm rfl (aB.any rfl rfl rfl (OpR.oG rfl (s.ae [3,3]) (bI _ _) rfl rfl rfl rfl (by have:=J.len; omega)) ?_))))
   intro CA h s
   have hv:=(s.buf (k:=0) rfl).view.cells
   refine zn rfl (zf rfl (eD _ _) (zS rfl (s.dZ (k:=4) rfl jy rfl (by decide) hv.1 hv.2) ?_))
   intro h s
   refine zk 7 rfl (WP.ret ⟨aa,_,rfl,?_⟩)
   refine .inr (.inr ⟨hg,U,hd,I,h0,rfl,c8.2 ⟨CA,v,?_⟩⟩)
   have s:=(((s.ae [4,0,1]).del 4).del 3).del 7
   have e:gD (μ.app rc).bw=gD μ.bw++[.int .i64 (μ.b.length:Int)]:=by simp [Lg.app,gD]
   rw [e]
   exact s
end
end Go.Proofs.YtconhghphklfjaaGreat.Am
