/- AtomTorn: a part of its proof; conditions: its statement's. -/
import Derived.Test.YtconhghphklfjaaGreatT20
set_option linter.defProp false
namespace Go.Proofs.YtconhghphklfjaaGreat.Am
open Go
def iR:=@Tryz.underlying38
def HG:=@Tryz.underlying205
structure cn where
 aM:Int
 pos:Int
 whole:Bool
 b:List Nat
def cn.Ok (c:cn): Prop:=0≤c.aM∧c.aM<65536∧0≤c.pos∧c.pos≤512∧(c.b.length:Int)≤512-c.pos∧(c.whole=true→c.pos=0∧c.b.length=512)
instance (c:cn):Decidable c.Ok:=by unfold cn.Ok; infer_instance
def dU (kind:Int)(aR:List cn): Bool:=decide (1≤kind∧kind≤9)&&aR.all fun c=>decide c.Ok
def iI (kd:Int)(tx pv nx:Nat)(dt ch:V): List V:=[.int .i64 kd,.int .u64 (tx:Int),.int .u64 (pv:Int),.int .u64 (nx:Int),dt,ch]
theorem mZ {kd:Int}{tx pv nx:Nat}{dt ch:V}(I:storable dt=true)(J:storable ch=true): (iI kd tx pv nx dt ch).all storable=true:=by
 simp only [iI,jl,jY,I,J]
 rfl
def cZ : List V→List cn→ax
 | [],[]=>.pu True
 | p::a::w::v::l,x::m=>.an (.an (.pu (p=.int .i64 x.aM∧a=.int .i64 x.pos∧w=.bool x.whole)) (.ct v x.b)) (cZ l m)
 | _,_=>.pu False
theorem aH.mD : ∀(m:List cn) (l:List V),aH (cZ l m):=by
 intro m
 induction m with
 | nil=>intro l; rcases l with _ | ⟨a,_ | ⟨b,_ | ⟨c,_ | ⟨d,l⟩⟩⟩⟩ <;> exact aH.pu _
 | cons x m I=>intro l; rcases l with _ | ⟨a,_ | ⟨b,_ | ⟨c,_ | ⟨d,l⟩⟩⟩⟩ <;> first | exact aH.pu _ | exact aH.an (aH.an (aH.pu _) (aH.ct _ _)) (I l)
theorem o9 {a b:PM}: ∀ {m:List cn} {l:List V},(cZ l m).p a b→l.length=m.length*4:=by
 intro m
 induction m with
 | nil=>intro l h; rcases l with _ | ⟨x,_ | ⟨y,_ | ⟨z,_ | ⟨d,l⟩⟩⟩⟩ <;> first | rfl | exact h.elim
 | cons x m I =>
  intro l h
  rcases l with _ | ⟨x,_ | ⟨y,_ | ⟨z,_ | ⟨d,l⟩⟩⟩⟩ <;> first | exact h.elim | skip
  have:=I h.2
  simp only [bl]
  omega
theorem xI {a b:PM}: ∀ {m m':List cn} {l I:List V},(cZ l m).p a b→(cZ I m').p a b→(cZ (l++I) (m++m')).p a b:=by
 intro m
 induction m with
 | nil=>intro m' l I h h'; rcases l with _ | ⟨x,_ | ⟨y,_ | ⟨z,_ | ⟨d,l⟩⟩⟩⟩ <;> first | exact h' | exact h.elim
 | cons x m J =>
  intro m' l I h h'
  rcases l with _ | ⟨x,_ | ⟨y,_ | ⟨z,_ | ⟨d,l⟩⟩⟩⟩ <;> first | exact h.elim | exact ⟨h.1,J h.2 h'⟩
theorem HH {a b:PM}: ∀ {m:List cn} {l:List V} {i:Nat} {c:cn},(cZ l m).p a b→m[i]?=some c→∃u,(l.drop (i*4)).take 4=[.int .i64 c.aM,.int .i64 c.pos,.bool c.whole,u]∧(ax.ct u c.b).p a b:=by
 intro m
 induction m with
 | nil=>intro l i c h I; simp at I
 | cons x m J =>
  intro l i c h I
  rcases l with _ | ⟨p,_ | ⟨q,_ | ⟨w,_ | ⟨v,l⟩⟩⟩⟩ <;> first | exact h.elim | skip
  obtain ⟨⟨⟨U,h2,h3⟩,h4⟩,h5⟩:=h
  cases i with
  | zero=>simp at I; subst I; exact ⟨v,by rw [U,h2,h3]; rfl,h4⟩
  | succ i =>
   simp at I
   obtain ⟨u,e1,e2⟩:=J h5 I
   refine ⟨u,?_,e2⟩
   rw [←e1,show (i+1)*4=i*4+4 by omega]
   rfl
section
variable {told:dM} {h:H} {S:List ax} {X:ax} {k q p:Nat} {v:V} {l:List Nat}
theorem HI {ch:V}{cs:List V}{m:List cn}{i:Nat}{c:cn}(s:Sat h (.arr 4 ch cs::cZ cs m::S))(U:m[i]?=some c):
  ∃id off u,indexAddrV Tryz.prog 38 ch (.int .i64 (i:Int))=some (.ptr id off)∧loadV Tryz.prog h 54 (.ptr id off)=some (.agg [.int .i64 c.aM,.int .i64 c.pos,.bool c.whole,u]) ∧
   u.cells=[u]∧storable u=true∧u.beq u=true∧Sat h (.ct u c.b::.arr 4 ch cs::cZ cs m::S):=by
 obtain ⟨a,b,q1,q2,q3⟩:=s.at (k:=1) rfl
 have C9:=(List.getElem?_eq_some_iff.1 U).1
 have hl:=o9 q3
 obtain ⟨u,e1,e2⟩:=HH q3 U
 obtain ⟨id,off,g1,J⟩:=Hq (P:=Tryz.prog) (i:=i) s (j:=0) rfl (by omega) (by decide) iR sM
 have J:=J LO
 rw [e1] at J
 have s2:Sat h (cZ cs m::.arr 4 ch cs::S):=s.ae [1]
 have s3:=(s2.dup (aH.mD _ _)).fY (B:=.ct u c.b) fun a b h=>by
  obtain ⟨u',I,uO⟩:=HH h U
  rw [e1] at I
  injection I with _ I
  injection I with _ I
  injection I with _ I
  injection I with I _
  subst I
  exact uO
 have hu:=(s3.aL (k:=0) rfl (cJ _ _))
 exact ⟨id,off,u,g1,J,hu.cells.1,hu.cells.2,dc hu,s3.ae [0,1,0]⟩
theorem Kw {ch:V}{cs:List V}{m:List cn}{j1 j2:Nat}{P:Program}{t e:TypeId}(s:Sat h S)(I:getA S j1=some (.arr 4 ch cs))(J:getA S j2=some (cZ cs m))(hu:P.underlying t=some (.slice e)): lenV P h t ch=some (.int .i64 m.length):=by
 obtain ⟨a,b,q1,q2,U⟩:=s.at J
 exact s.iP I (o9 U) (by decide) hu
theorem Sat.wM {ch:V}{cs:List V}{m:List cn}{j1 j2:Nat}{P:Program}{t e:TypeId}(s:Sat h S)(I:getA S j1=some (.arr 4 ch cs))(J:getA S j2=some (cZ cs m))(hu:P.underlying t=some (.slice e)): lenV P h t ch=some (.int .i64 m.length):=Kw s I J hu
noncomputable def ZI : Code:=cM [1,1,0,1,0,0] ((Tryz.f120.body).getD .skip)
theorem L8 {p1:Nat}{ch:V}{cs:List V}{m:List cn}: ∀(j i:Nat) (h:H) (E:List (Nat×V)) (Q:Ex→List (Nat×V)→H→Prop),i+j=m.length→m.length<4294967296→(∀c∈m,c.b.length<9223372036854775808) →
  (∀c∈m, -4294967296≤c.pos∧c.pos≤4294967296)→Sat h (.arr 4 ch cs::cZ cs m::S)→Has E [(1,.ptr p1 0),(14,ch),(15,.int .i64 m.length),(16,.int .i64 i)] →
  ((m.drop i).all (fun c=>decide c.Ok)=false→∀E' h',look E' 2=some (.bool false)→Sat h' (.arr 4 ch cs::cZ cs m::S)→Q .ret E' h') →
  ((m.drop i).all (fun c=>decide c.Ok)=true→∀E' h',Sat h' (.arr 4 ch cs::cZ cs m::S)→Q (.exit 0) E' h')→WP ⟨Tryz.prog,told⟩ 61 (.loop ZI) E h Q:=by
 intro j
 induction j with
 | zero =>
  intro i h E Q hi hm hb J s hE U hx
  refine WP.loop (WP.has hE (zg rfl (zh rfl (ah rfl rfl bB) (by simp; omega) ?_)))
  exact zk 3 rfl (WP.exit (hx (by rw [iB (by omega)]; rfl) _ _ s))
 | succ j ih =>
  intro i h E Q hi hm hb J s hE U hx
  have hc:m[i]?=some (m[i]'(by omega)):=bg _
  generalize (m[i]'(by omega))=c at hc
  have Oj:=bw hc
  have ZJ:=hb c Oj
  have hcp:=J c Oj
  have jD:m.drop i=c::m.drop (i+1):=by
   have:=List.getElem?_eq_some_iff.1 hc
   obtain ⟨h1,rfl⟩:=this
   exact lq h1
  rw [jD,jl] at U hx
  obtain ⟨id,off,u,e1,e2,u1,u2,u3,s⟩:=HI s hc
  refine WP.loop (WP.has hE (zg rfl (zt rfl (ah rfl rfl bB) (by simp; omega) ?_)))
  refine zk 5 rfl (WP.block (zg rfl (zo rfl (ej (r:=.ptr id off) rfl rfl e1) (zl rfl e2 ?_))))
  refine aB.cT s rfl rfl rfl (cI rJ) (fun p4 h s => ?_)
  dsimp only [V.cells,List.length_cons,List.length_nil,Nat.reduceAdd] at s
  refine zS rfl (s.ia (j:=0) rfl sM rfl (by simp only [jl,jY,u2]; rfl)) ?_
  intro h s
  dsimp only [setA] at s
  refine zk 4 rfl (zf rfl (qz _ _) (zl rfl (s.ld (k:=0) rfl dA rfl) ?_))
  refine zd rfl (ah rfl rfl bB) ?_ ?_
  ·intro uo
   have uo:c.aM<0:=by simp at uo; omega
   exact zk 30 rfl (WP.ret (U (by rw [ew (fun q:c.Ok=>by have:=q.1; omega),fh]) _ _ rfl s.drop.drop))
  ·intro uo
   have uo:¬ (c.aM<0):=by simp at uo; omega
   refine zm rfl (zf rfl (qz _ _) (zl rfl (s.ld (k:=0) rfl dA rfl) ?_))
   refine zd rfl (ah rfl rfl nC) ?_ ?_
   ·intro yo
    have yo:65536≤c.aM:=by simp at yo; omega
    exact zk 26 rfl (WP.ret (U (by rw [ew (fun q:c.Ok=>by have:=q.2.1; omega),fh]) _ _ rfl s.drop.drop))
   ·intro yo
    have yo:¬ (65536≤c.aM):=by simp at yo; omega
    refine zk 2 rfl (zf rfl (su _ _) (zl rfl (s.ld (k:=0) rfl dA rfl) ?_))
    refine zd rfl (ah rfl rfl bB) ?_ ?_
    ·intro iG
     have iG:c.pos<0:=by simp at iG; omega
     exact zk 21 rfl (WP.ret (U (by rw [ew (fun q:c.Ok=>by have:=q.2.2.1; omega),fh]) _ _ rfl s.drop.drop))
    ·intro iG
     have iG:¬ (c.pos<0):=by simp at iG; omega
     refine zk 2 rfl (zf rfl (su _ _) (zl rfl (s.ld (k:=0) rfl dA rfl) ?_))
     refine zd rfl (ah rfl rfl ep) ?_ ?_
     ·intro Ol
      have Ol:512<c.pos:=by simp at Ol; omega
      exact zk 16 rfl (WP.ret (U (by rw [ew (fun q:c.Ok=>by have:=q.2.2.2.1; omega),fh]) _ _ rfl s.drop.drop))
     ·intro Ol
      have Ol:¬ (512<c.pos):=by simp at Ol; omega
      refine zk 2 rfl (zf rfl (oM _ _) (zl rfl (s.ld (k:=0) rfl bO rfl) (zo rfl (bf rfl rfl rfl (bj aS (s.aL (k:=1) rfl (cJ _ _)))) (zf rfl (su _ _) (zl rfl (s.ld (k:=0) rfl dA rfl) (zb rfl (by exact lV (aY (by omega) (by omega))) ?_))))))
      refine zd rfl (ah rfl rfl ep) ?_ ?_
      ·intro Om
       have Om:512-c.pos<(c.b.length:Int):=by simp at Om; omega
       exact zk 7 rfl (WP.ret (U (by rw [ew (fun q:c.Ok=>by have:=q.2.2.2.2.1; omega),fh]) _ _ rfl s.drop.drop))
      ·intro Om
       have Om:¬ (512-c.pos<(c.b.length:Int)):=by simp at Om; omega
       refine zk 6 rfl (zf rfl (zE _ _) ?_)
       have rV:∀(h:H) (E:List (Nat×V)),c.Ok→Sat h (.arr 4 ch cs::cZ cs m::S)→Has E [(1,.ptr p1 0),(14,ch),(15,.int .i64 m.length),(16,.int .i64 ((i:Int)+1))]→WP ⟨Tryz.prog,told⟩ 61 (.loop ZI) E h Q:=by
        intro h E kV s hE
        rw [dQ kV,AM] at U hx
        exact ih (i+1) h E Q (by omega) hm hb J s hE U hx
       have M6:c.whole=false∨c.whole=true:=by cases c.whole <;> simp
       rcases M6 with hw | hw
       ·skip
        refine zh rfl (aW rfl (by exact s.ld (k:=0) rfl ke rfl)) (hw) ?_
        refine zk 11 rfl (zv (zj rfl (WP.skip (zr rfl (zb rfl (by exact bU (aY (by omega) (by omega))) ?_)))))
        refine zm rfl (zv ?_)
        refine rV _ _ ?_ ?_ ?_
        ·exact ⟨by omega,by omega,by omega,by omega,by omega,fun e=>by rw [hw] at e; cases e⟩
        ·exact s.drop.drop
        ·exact ⟨rfl,rfl,rfl,rfl,aa⟩
       ·skip
        refine zt rfl (aW rfl (s.ld (k:=0) rfl ke rfl)) (hw) (zm rfl (zf rfl (su _ _) (zl rfl (s.ld (k:=0) rfl dA rfl) ?_)))
        refine zd rfl (ah rfl rfl aV) ?_ ?_
        ·intro hp
         have hp:c.pos≠0:=by simp at hp; omega
         exact zk 13 rfl (WP.ret (U (by rw [ew (fun q:c.Ok=>hp (q.2.2.2.2.2 hw).1),fh]) _ _ rfl s.drop.drop))
        ·intro hp
         have hp:c.pos=0:=by simp at hp; omega
         refine zm rfl (zf rfl (oM _ _) (zl rfl (s.ld (k:=0) rfl bO rfl) (zo rfl (bf rfl rfl rfl (bj aS (s.aL (k:=1) rfl (cJ _ _)))) ?_)))
         refine zd rfl (ah rfl rfl aV) ?_ ?_
         ·intro I
          have I:c.b.length≠512:=by simp at I; omega
          exact zk 8 rfl (WP.ret (U (by rw [ew (fun q:c.Ok=>I (q.2.2.2.2.2 hw).2),fh]) _ _ rfl s.drop.drop))
         ·intro I
          have I:c.b.length=512:=by simp at I; omega
          refine zk 2 rfl (zv (zj rfl (WP.skip (zr rfl (zb rfl (by exact bU (aY (by omega) (by omega))) ?_)))))
          refine zm rfl (zv ?_)
          refine rV _ _ ?_ ?_ ?_
          ·exact ⟨by omega,by omega,by omega,by omega,by omega,fun _=>⟨hp,I⟩⟩
          ·exact s.drop.drop
          ·exact ⟨rfl,rfl,rfl,rfl,aa⟩
def wN (m:List cn): Prop:=m.length<4294967296∧(∀c∈m,c.b.length<4294967296)∧(∀c∈m, -4294967296≤c.pos∧c.pos≤4294967296)
theorem HJ (hT:W told){kd:Int}{tx pv nx:Nat}{dt ch:V}{cs:List V}{m:List cn}(s:Sat h (.arr 4 ch cs::cZ cs m::S))(hd:storable dt=true)(hm:wN m):
  Call ⟨Tryz.prog,told⟩ 120 [.agg (iI kd tx pv nx dt ch)] h fun r h'=>r=.bool (dU kd m)∧Sat h' (.arr 4 ch cs::cZ cs m::S):=by
 have ki:=s.kU (j:=0) rfl
 have gF:=mZ (kd:=kd) (tx:=tx) (pv:=pv) (nx:=nx) hd ki.2.1
 refine Call.of_wp (hT.free _ rfl) Tryz.func120 rfl rfl (zg rfl (aB.cT s rfl rfl rfl (gL rfl gF) ?_))
 intro p1 h s
 refine zk 5 rfl (zf rfl (uC _ _) (zl rfl (s.ld (k:=0) rfl dA rfl) ?_))
 refine zd rfl (ah rfl rfl bB) ?_ ?_
 ·intro J
  have J:kd<1:=by simpa using J
  exact zk 11 rfl (WP.ret ⟨aa,_,rfl,by rw [dU,ew (by omega),fh],s.drop⟩)
 ·intro J
  have J:1≤kd:=by simpa using J
  refine zm rfl (zf rfl (uC _ _) (zl rfl (s.ld (k:=0) rfl dA rfl) ?_))
  refine zd rfl (ah rfl rfl ep) ?_ ?_
  ·intro I
   have I:9<kd:=by simpa using I
   exact zk 7 rfl (WP.ret ⟨aa,_,rfl,by rw [dU,ew (by omega),fh],s.drop⟩)
  ·intro I
   have I:kd≤9:=by simpa using I
   refine zk 7 rfl (zf rfl (mY _ _) (zl rfl (s.ld (k:=0) rfl uB rfl) (zo rfl (bf rfl rfl rfl (Kw s (j1:=1) (j2:=2) rfl rfl iR)) (zk 2 rfl (WP.block ?_)))))
   have hg:dU kd m=m.all (fun c=>decide c.Ok):=by rw [dU,dQ ⟨J,I⟩,AM]
   refine L8 m.length 0 _ _ _ (by omega) hm.1 (fun c hc=>by have:=hm.2.1 c hc; omega) hm.2.2 s.drop ⟨rfl,rfl,rfl,rfl,aa⟩ (fun U E' h' h2 s' => ?_) (fun U E' h' s' => ?_)
   ·rw [hg]
    rw [d_] at U
    rw [U]
    exact ⟨aa,_,qy h2,rfl,s'⟩
   ·rw [hg]
    rw [d_] at U
    rw [U]
    exact WP.has (F:=[]) aa (zK 4 rfl (WP.ret ⟨aa,_,rfl,rfl,s'⟩))
end
def kW (c:cn): List Nat:=digits 9 c.aM.toNat++digits 9 c.pos.toNat++[if c.whole then 1 else 0]++(digits 9 c.b.length++c.b)
def dB (kd:Int)(tx pv nx:Nat)(data:List Nat)(aR:List cn): List Nat :=
 [kd.toNat]++digits 9 tx++digits 9 pv++digits 9 nx++(digits 9 data.length++data)++digits 9 aR.length++aR.flatMap kW
section
variable {told:dM} {h:H} {S:List ax} {X:ax} {k q p:Nat} {v w:V} {l m:List Nat}
theorem qd (I:W told){n:Nat}(s:Sat h (bK v l::S))(hn:n<18446744073709551616)(hl:l.length≤140737488355000):
  Call ⟨Tryz.prog,told⟩ 135 [v,.int .u64 (n:Int)] h fun r h'=>Sat h' (bK r (l++digits 9 n)::S) :=
 (Fw I.SN (k:=9) s.wf (s.buf (k:=0) rfl) (by omega) (by omega) (by omega)).mono fun _ _ ⟨J,U,h3⟩=>s.A3 U J h3
theorem EE (U:W told)(s:Sat h (bK v l::X::S))(I:cU X (cY w m))(hl:l.length+m.length≤140737488355000):
  Call ⟨Tryz.prog,told⟩ 136 [v,w] h fun r h'=>Sat h' (bK r (l++(digits 9 m.length++m))::X::S) :=
 (TW U.SN (k:=9) s.wf (s.buf (k:=0) rfl) (s.aL (k:=1) rfl I) (s.Wg I) (by omega) (by omega) (by omega)).mono fun _ _ ⟨J,h2,h3⟩=>by
  rw [bH] at J
  exact s.A3 h2 J h3
noncomputable def ZK : Code:=cM [1,1,1,1,0,1,0,0] ((Tryz.f121.body).getD .skip)
theorem On (hT:W told){p1:Nat}{ch:V}{cs:List V}{aR:List cn}(kV:∀c∈aR,c.Ok)(J:wN aR): ∀(j i:Nat) (sv:V) (l:List Nat) (h:H) (E:List (Nat×V)) (Q:Ex→List (Nat×V)→H→Prop),i+j=aR.length →
  l.length+((aR.drop i).flatMap kW).length≤140737488355000 →
  Sat h (bK sv l::.arr 4 ch cs::cZ cs aR::S)→Has E [(1,.ptr p1 0),(3,sv),(37,ch),(38,.int .i64 aR.length),(39,.int .i64 i)] →
  (∀E' h' I,look E' 3=some I→Sat h' (bK I (l++(aR.drop i).flatMap kW)::.arr 4 ch cs::cZ cs aR::S)→Q (.exit 2) E' h')→WP ⟨Tryz.prog,told⟩ 63 (.loop ZK) E h Q:=by
 intro j
 induction j with
 | zero =>
  intro i sv l h E Q hi hlen s hE hx
  have hm:=J.1
  refine WP.loop (WP.has hE (zg rfl (zh rfl (ah rfl rfl bB) (by simp; omega) ?_)))
  refine zk 3 rfl (WP.exit (hx _ _ sv rfl ?_))
  rw [iB (by omega)]
  simpa using s
 | succ j ih =>
  intro i sv l h E Q hi hlen s hE hx
  have hm:=J.1
  have hc:aR[i]?=some (aR[i]'(by omega)):=bg _
  generalize (aR[i]'(by omega))=c at hc
  have Oj:=bw hc
  have aaQ:=kV c Oj
  have ZJ:=J.2.1 c Oj
  have jD:aR.drop i=c::aR.drop (i+1):=by
   obtain ⟨h1,rfl⟩:=List.getElem?_eq_some_iff.1 hc
   exact lq h1
  rw [jD,q_] at hlen hx
  obtain ⟨pg,ps,wh,bb⟩:=c
  obtain ⟨q1,q2,q3,q4,_⟩:=aaQ
  dsimp only at q1 q2 q3 q4 ZJ
  obtain ⟨pg,rfl⟩:∃n:Nat,pg=n:=⟨pg.toNat,by omega⟩
  obtain ⟨ps,rfl⟩:∃n:Nat,ps=n:=⟨ps.toNat,by omega⟩
  have U:kW ⟨pg,ps,wh,bb⟩=digits 9 pg++digits 9 ps++[if wh then 1 else 0]++(digits 9 bb.length++bb):=by simp [kW]
  have Kb:(kW ⟨pg,ps,wh,bb⟩).length=(digits 9 pg).length+(digits 9 ps).length+1+(digits 9 bb.length).length+bb.length:=by rw [U]; simp; omega
  rw [bC,Kb] at hlen
  obtain ⟨id,off,u,e1,e2,u1,u2,u3,s⟩:=HI (s.ae [1,1]) hc
  dsimp only at e2
  have s:=s.ae [3,0,0,0]
  dsimp only [aU,bringA,getA] at s
  refine WP.loop (WP.has hE (zg rfl (zt rfl (ah rfl rfl bB) (by simp; omega) ?_)))
  refine zk 5 rfl (WP.block (zg rfl (zo rfl (ej (r:=.ptr id off) rfl rfl e1) (zl rfl e2 ?_))))
  refine aB.cT s rfl rfl rfl (cI rJ) (fun p7 h s => ?_)
  dsimp only [V.cells,List.length_cons,List.length_nil,Nat.reduceAdd] at s
  refine zS rfl (s.ia (j:=0) rfl sM rfl (by simp only [jl,jY,u2]; rfl)) ?_
  intro h s
  dsimp only [setA] at s
  refine zk 2 rfl ?_
  have s:=s.ae [1,0]
  dsimp only [bringA,getA,aU] at s
  have s0:=s
  refine WP.drawn [ai,ai,ai,ai,ai,some (0,2),some (0,2),some (0,2),none,none] rfl (by kernel_rfl) (by kernel_rfl) ?_
  refine zM rfl (zF rfl (qz _ _) (zL rfl (s.ld (k:=1) rfl dA rfl) (aA.op rfl rfl rfl (by simp only [isEff,cx]) (bZ rfl (by exact jJ bG cx (fb (by omega) (by omega)))) ?_)))
  refine aA.any rfl rfl rfl rfl (OpR.call rfl rfl rfl rfl (qd hT s (by omega) (by omega))) ?_
  intro v1 h s
  have s1:=s
  refine zF rfl (su _ _) (zL rfl (s.ld (k:=1) rfl dA rfl) (aA.op rfl rfl rfl (by simp only [isEff,cx]) (bZ rfl (by exact jJ bG cx (fb (by omega) (by omega)))) ?_))
  refine aA.any rfl rfl rfl rfl (OpR.call rfl rfl rfl rfl (qd hT s (by omega) (by simp; omega))) ?_
  intro v2 h s
  refine zA rfl ?_
  refine aA.nil ⟨⟨aa,aa,aa,aa,aa,fun _ _=>.inr ⟨rfl,⟨_,jI rfl (su _ _)⟩,aX _ rfl⟩,dX (.inr ⟨rfl,⟨_,aW rfl (s0.ld (k:=1) rfl dA rfl)⟩,aX _ rfl⟩) (.inr ⟨rfl,⟨_,aW rfl (s1.ld (k:=1) rfl dA rfl)⟩,aX _ rfl⟩),fun _ _=>.inr ⟨rfl,⟨_,bZ rfl (by exact jJ bG cx (fb (by omega) (by omega)))⟩,aX _ rfl⟩,aa,aa,aa⟩,?_⟩
  have HF:∀(h:H) (E:List (Nat×V)) (I:V),Sat h (bK I (l++kW ⟨pg,ps,wh,bb⟩)::.arr 4 ch cs::cZ cs aR::S)→Has E [(1,.ptr p1 0),(3,I),(37,ch),(38,.int .i64 aR.length),(39,.int .i64 ((i:Int)+1))]→WP ⟨Tryz.prog,told⟩ 63 (.loop ZK) E h Q:=by
   intro h E I s hE
   refine ih (i+1) I _ h E Q (by omega) (by rw [bC,Kb]; omega) s hE (fun E' h' sv2 yl s'=>hx E' h' sv2 yl ?_)
   rw [bH] at s'
   exact s'
  have hlp:=gP 9 pg
  have hlq:=gP 9 ps
  refine zK 7 rfl (zf rfl (zE _ _) ?_)
  have M6:wh=false∨wh=true:=by cases wh <;> simp
  rcases M6 with hw | hw
  ·skip
   refine zh rfl (aW rfl (s.ld (k:=1) rfl ke rfl)) (hw) (zk 3 rfl ?_)
   have s0:=s
   have oz:=dc (s.buf (k:=0) rfl).view
   refine WP.drawn [some (0,2),ai,ai,ai,some (0,3),some (0,3),none,none] rfl (by kernel_rfl) (by kernel_rfl) ?_
   refine zM rfl (zM rfl (aA.any rfl rfl rfl rfl (OpR.L0 (n:=0) rfl s rfl rfl rfl (by decide)) ?_))
   intro v3 h s
   have s:=s.ae [1,1,0]
   dsimp only [bringA,getA,aU] at s
   have s1:=s
   refine aA.any rfl rfl rfl rfl (OpR.oX rfl (s.ae [0,1]) (bM _ _) rfl rfl rfl rfl (by simp; omega)) ?_
   intro v4 h s
   have s:=s.del 1
   dsimp only [aU,bringA] at s
   have s2:=s
   refine zF rfl (oM _ _) (zL rfl (s.ld (k:=1) rfl bO rfl) (aA.any rfl rfl rfl rfl (OpR.call rfl rfl rfl rfl (EE hT (s.ae [0,1]) (cJ _ _) (by simp; omega))) ?_))
   intro v5 h s
   dsimp only [aU,bringA] at s
   refine zA rfl ?_
   refine aA.nil ⟨⟨fun _ _=>.inr ⟨rfl,⟨_,bn rfl⟩,oz⟩,aa,aa,aa,fun _ _=>.inr ⟨rfl,⟨_,jI rfl (oM _ _)⟩,aX _ rfl⟩,wE (.inr ⟨rfl,⟨_,aW rfl (s0.ld (k:=1) rfl bO rfl)⟩,u3⟩) (.inr ⟨rfl,⟨_,aW rfl (s1.ld (k:=1) rfl bO rfl)⟩,u3⟩) (.inr ⟨rfl,⟨_,aW rfl (s2.ld (k:=1) rfl bO rfl)⟩,u3⟩),aa,aa,aa⟩,?_⟩
   refine zr rfl (zb rfl (by exact bU (aY (by omega) (by omega))) ?_)
   refine zm rfl (zv ?_)
   refine HF _ _ v5 ?_ ?_
   ·rw [U,hw]
    have s:=(s.del 1).del 1
    dsimp only [aU] at s
    simpa [bH] using s
   ·exact ⟨rfl,rfl,rfl,rfl,rfl,aa⟩
  ·skip
   refine zt rfl (aW rfl (s.ld (k:=1) rfl ke rfl)) (hw) (zk 5 rfl ?_)
   have s0:=s
   have oz:=dc (s.buf (k:=0) rfl).view
   refine WP.drawn [some (0,2),ai,ai,ai,some (0,3),some (0,3),none,none] rfl (by kernel_rfl) (by kernel_rfl) ?_
   refine zM rfl (zM rfl (aA.any rfl rfl rfl rfl (OpR.L0 (n:=1) rfl s rfl rfl rfl (by decide)) ?_))
   intro v3 h s
   have s:=s.ae [1,1,0]
   dsimp only [bringA,getA,aU] at s
   have s1:=s
   refine aA.any rfl rfl rfl rfl (OpR.oX rfl (s.ae [0,1]) (bM _ _) rfl rfl rfl rfl (by simp; omega)) ?_
   intro v4 h s
   have s:=s.del 1
   dsimp only [aU,bringA] at s
   have s2:=s
   refine zF rfl (oM _ _) (zL rfl (s.ld (k:=1) rfl bO rfl) (aA.any rfl rfl rfl rfl (OpR.call rfl rfl rfl rfl (EE hT (s.ae [0,1]) (cJ _ _) (by simp; omega))) ?_))
   intro v5 h s
   dsimp only [aU,bringA] at s
   refine zA rfl ?_
   refine aA.nil ⟨⟨fun _ _=>.inr ⟨rfl,⟨_,bn rfl⟩,oz⟩,aa,aa,aa,fun _ _=>.inr ⟨rfl,⟨_,jI rfl (oM _ _)⟩,aX _ rfl⟩,wE (.inr ⟨rfl,⟨_,aW rfl (s0.ld (k:=1) rfl bO rfl)⟩,u3⟩) (.inr ⟨rfl,⟨_,aW rfl (s1.ld (k:=1) rfl bO rfl)⟩,u3⟩) (.inr ⟨rfl,⟨_,aW rfl (s2.ld (k:=1) rfl bO rfl)⟩,u3⟩),aa,aa,aa⟩,?_⟩
   refine zr rfl (zb rfl (by exact bU (aY (by omega) (by omega))) ?_)
   refine zm rfl (zv ?_)
   refine HF _ _ v5 ?_ ?_
   ·rw [U,hw]
    have s:=(s.del 1).del 1
    dsimp only [aU] at s
    simpa [bH] using s
   ·exact ⟨rfl,rfl,rfl,rfl,rfl,aa⟩
theorem QG (J:W told){kd:Nat}{tx pv nx:Nat}{dt ch:V}{cs:List V}{data:List Nat}{aR:List cn}(s:Sat h (X::.arr 4 ch cs::cZ cs aR::S))(hX:cU X (cY dt data))(hg:dU kd aR=true)(I:wN aR)
 (Kx:tx<18446744073709551616)(ZL:pv<18446744073709551616)(FB:nx<18446744073709551616)(hlen:data.length+(aR.flatMap kW).length≤70368744177664):
  Call ⟨Tryz.prog,told⟩ 121 [.agg (iI kd tx pv nx dt ch)] h fun r h'=>Sat h' (bK r (dB kd tx pv nx data aR)::X::.arr 4 ch cs::cZ cs aR::S):=by
 have U:=s.kU (j:=1) rfl
 have j5:=s.aL (k:=0) rfl hX
 have BA:=dc j5
 have gF:=mZ (kd:=kd) (tx:=tx) (pv:=pv) (nx:=nx) j5.cells.2 U.2.1
 have hk:1≤kd∧kd≤9:=by simp [dU] at hg; omega
 have kV:∀c∈aR,c.Ok:=by
  simp only [dU,aZ,pK,dZ] at hg
  exact hg.2
 have hm:=I.1
 have h1:=gP 9 tx
 have h2:=gP 9 pv
 have h3:=gP 9 nx
 have h4:=gP 9 data.length
 have h5:=gP 9 aR.length
 refine Call.of_wp (J.free _ rfl) Tryz.func121 rfl rfl (zg rfl (aB.cT s rfl rfl rfl (gL rfl gF) ?_))
 intro p1 h s
 dsimp only [V.cells] at s
 refine zk 4 rfl (zf rfl (uC _ _) (zl rfl (s.ld (k:=0) rfl dA rfl) (zo rfl (bZ rfl (by exact jJ bG Tryz.underlying5 (V9 (by omega) (by omega)))) ?_)))
 refine aB.any rfl rfl rfl (OpR.L0 (n:=kd) rfl s rfl rfl rfl (by omega)) ?_
 intro v3 h s
 refine zk 5 rfl (zf rfl (NQ _ _) (zl rfl (s.ld (k:=1) rfl gx rfl) (zf rfl (NR _ _) (zl rfl (s.ld (k:=1) rfl gx rfl) (zf rfl (NS _ _) (zl rfl (s.ld (k:=1) rfl gx rfl) (zo rfl (c8 rfl (by rw [Yq]; rfl)) ?_)))))))
 refine zk 2 rfl (WP.block (WP.loop (zg rfl (zt rfl (ah rfl rfl bB) (by decide) ?_))))
 refine zk 5 rfl (WP.block (zg rfl (zo rfl (Ep rfl rfl (r:=.int .u64 (tx:Int)) (by simp only [indexV,HG,rH,oS,gx]; rfl)) ?_)))
 refine zk 5 rfl (zc rfl (qd J s (by omega) (by simp only [bC,bl,bY]; omega)) ?_)
 intro v3 h s
 refine za rfl (zv (zr rfl (zb rfl (by exact bU (aY (by omega) (by omega))) ?_)))
 refine zm rfl (zv (WP.loop (zg rfl (zt rfl (ah rfl rfl bB) (by decide) ?_))))
 refine zk 5 rfl (WP.block (zg rfl (zo rfl (Ep rfl rfl (r:=.int .u64 (pv:Int)) (by simp only [indexV,HG,rH,oS,gx]; rfl)) ?_)))
 refine zk 5 rfl (zc rfl (qd J s (by omega) (by simp only [bC,bl,bY]; omega)) ?_)
 intro v3 h s
 refine za rfl (zv (zr rfl (zb rfl (by exact bU (aY (by omega) (by omega))) ?_)))
 refine zm rfl (zv (WP.loop (zg rfl (zt rfl (ah rfl rfl bB) (by decide) ?_))))
 refine zk 5 rfl (WP.block (zg rfl (zo rfl (Ep rfl rfl (r:=.int .u64 (nx:Int)) (by simp only [indexV,HG,rH,oS,gx]; rfl)) ?_)))
 refine zk 5 rfl (zc rfl (qd J s (by omega) (by simp only [bC,bl,bY]; omega)) ?_)
 intro v3 h s
 refine za rfl (zv (zr rfl (zb rfl (by exact bU (aY (by omega) (by omega))) ?_)))
 refine zm rfl (zv (WP.loop (zg rfl (zh rfl (ah rfl rfl bB) (by decide) ?_))))
 refine zk 3 rfl (WP.exit (zw ?_))
 have s0:=s
 have Bp:=dc (s.buf (k:=0) rfl).view
 refine WP.drawn [ai,ai,ai,ai,some (0,2),some (0,2),some (0,2),some (0,2),none,none] rfl (by kernel_rfl) (by kernel_rfl) ?_
 refine zM rfl (zF rfl (zD _ _) (zL rfl (s.ld (k:=1) rfl bO rfl) (aA.any rfl rfl rfl rfl (OpR.call rfl rfl rfl rfl (EE J (s.ae [0,1]) hX (by simp only [bC,bl,bY]; omega))) ?_)))
 intro v4 h s
 have s:=s.ae [0,1,0]
 have s1:=s
 refine zF rfl (mY _ _) (zL rfl (s.ld (k:=1) rfl uB rfl) (zO rfl (bf rfl rfl rfl (s.wM (j1:=3) (j2:=4) rfl rfl iR)) (aA.op rfl rfl rfl (by simp only [isEff,cx]) (bZ rfl (by exact jJ bG cx (fb (by omega) (by omega)))) ?_)))
 refine aA.any rfl rfl rfl rfl (OpR.call rfl rfl rfl rfl (qd J s (by omega) (by simp only [bC,bl,bY]; omega))) ?_
 intro v5 h s
 refine zA rfl ?_
 refine aA.nil ⟨⟨aa,aa,aa,aa,fun _ _=>.inr ⟨rfl,⟨_,jI rfl (mY _ _)⟩,aX _ rfl⟩,dX (.inr ⟨rfl,⟨_,aW rfl (s0.ld (k:=1) rfl uB rfl)⟩,U.2.2⟩) (.inr ⟨rfl,⟨_,aW rfl (s1.ld (k:=1) rfl uB rfl)⟩,U.2.2⟩),dX (.inr ⟨rfl,⟨_,bf rfl rfl rfl (s0.wM (j1:=3) (j2:=4) rfl rfl iR)⟩,aX _ rfl⟩) (.inr ⟨rfl,⟨_,bf rfl rfl rfl (s1.wM (j1:=3) (j2:=4) rfl rfl iR)⟩,aX _ rfl⟩),fun _ _=>.inr ⟨rfl,⟨_,bZ rfl (by exact jJ bG cx (fb (by omega) (by omega)))⟩,aX _ rfl⟩,aa,aa,aa⟩,?_⟩
 refine zK 3 rfl (zf rfl (mY _ _) (zl rfl (s.ld (k:=1) rfl uB rfl) (zo rfl (bf rfl rfl rfl (s.wM (j1:=3) (j2:=4) rfl rfl iR)) (zk 2 rfl (WP.block ?_)))))
 have s:=s.ae [0,2,2,1]
 refine On J kV I aR.length 0 v5 _ _ _ _ (by omega) (by rw [d_]; simp only [bC,bl,bY]; omega) s ⟨rfl,rfl,rfl,rfl,rfl,aa⟩ (fun E' h' Wp iH s' => ?_)
 refine WP.has (F:=[(3,Wp)]) ⟨iH,aa⟩ (zK 5 rfl (WP.ret ⟨aa,_,rfl,?_⟩))
 have ZM:=(s'.ae [0,2,0,0]).del 4
 dsimp only [List.cons_append,List.nil_append,List.drop,aU,bringA,getA] at ZM
 simpa [dB,bH] using ZM
end
def iA (aK:Nat)(b:List Nat): List Nat:=le 4 b.length++le 4 (tq aK b)++b
theorem rN (aK:Nat)(b:List Nat): (iA aK b).length=8+b.length:=by simp [iA,cR]; omega
theorem xJ : ∃i,Tryz.prog.info? 3=some i∧i.size=1∧i.bytes=8 :=
 ⟨_,(show Tryz.prog.info? 3=some ((Tryz.prog.info? 3).getD default) by kernel_rfl),by kernel_rfl,by kernel_rfl⟩
section
variable {told:dM} {h:H} {S:List ax} {X:ax} {k q p:Nat} {v w:V} {l m:List Nat} {μ:Lg} {δ:Dk}
theorem FC (I:W told){n:Nat}(s:Sat h S)(J:getA S k=some X)(U:cU X (cY v l))(hl:l.length≤4611686018427387904):
  Call ⟨Tryz.prog,told⟩ 100 [.int .u64 (n:Int),v] h fun r h'=>r=.int .u32 (tq n l:Nat)∧Sat h' S :=
 (N8 I.SN s.wf (s.aL J U) hl).mono fun _ _ ⟨h1,h2⟩=>⟨h1,s.cX h2⟩
structure Df (tx pv nx:Nat)(data:List Nat)(aR:List cn): Prop where
 fit:wN aR
 tx:tx<18446744073709551616
 pv:pv<18446744073709551616
 nx:nx<18446744073709551616
 len:data.length+(aR.flatMap kW).length≤70368744177664
theorem Oo (J:W told){kd:Int}{tx pv nx aK:Nat}{dt ch:V}{cs:List V}{data:List Nat}{aR:List cn}(s:Sat h (X::.arr 4 ch cs::cZ cs aR::S))(hX:cU X (cY dt data))(I:Df tx pv nx data aR):
  Call ⟨Tryz.prog,told⟩ 88 [.agg (iI kd tx pv nx dt ch),.int .u64 (aK:Int)] h fun r h' =>
  (dU kd aR=false∧r=.bE [.bz,.int .i64 1]∧Sat h' (X::.arr 4 ch cs::cZ cs aR::S)) ∨
  (dU kd aR=true∧1048576<(dB kd tx pv nx data aR).length∧r=.bE [.bz,.int .i64 2]∧Sat h' (X::.arr 4 ch cs::cZ cs aR::S)) ∨
  (dU kd aR=true∧(dB kd tx pv nx data aR).length≤1048576∧∃u,r=.bE [u,.int .i64 0]∧Sat h' (bK u (iA aK (dB kd tx pv nx data aR))::X::.arr 4 ch cs::cZ cs aR::S)):=by
 have ki:=s.kU (j:=1) rfl
 have U:=s.aL (k:=0) rfl hX
 have gF:=mZ (kd:=kd) (tx:=tx) (pv:=pv) (nx:=nx) U.cells.2 ki.2.1
 refine Call.of_wp (J.free _ rfl) Tryz.func88 rfl rfl (zg rfl (aB.cT s rfl rfl rfl (gL rfl gF) ?_))
 intro p1 h s
 dsimp only [V.cells] at s
 refine zk 6 rfl (zl rfl (s.fM (k:=0) rfl nE gM) (zc rfl (HJ J (s.ae [2,2]) U.cells.2 I.fit) ?_))
 rintro r h' ⟨rfl,s⟩
 cases hg:dU kd aR with
 | false =>
  exact zo rfl (dS rfl rfl) (zk 7 rfl (WP.ret ⟨aa,_,rfl,.inl ⟨rfl,rfl,(s.ae [3,0,0]).del 3⟩⟩))
 | true =>
  refine zo rfl (dS rfl rfl) (zk 5 rfl (zl rfl (s.fM (k:=2) rfl nE gM) ?_))
  have hk:∃n:Nat,kd=n:=⟨kd.toNat,by simp [dU] at hg; omega⟩
  obtain ⟨kd,rfl⟩:=hk
  refine zc rfl (QG J (s.ae [3,0,0]) hX hg I.fit I.tx I.pv I.nx I.len) ?_
  intro u h s
  dsimp only [bringA,getA,aU] at s
  have uq:(dB kd tx pv nx data aR).length<9223372036854775808:=by
   have h1:=gP 9 tx
   have h2:=gP 9 pv
   have h3:=gP 9 nx
   have h4:=gP 9 data.length
   have h5:=gP 9 aR.length
   have h6:=I.len
   simp only [dB,bC,bl,bY]
   omega
  generalize Cz:dB kd tx pv nx data aR=bd at s uq ⊢
  refine zk 6 rfl (zo rfl (bf rfl rfl rfl (bj aS (s.aL (k:=0) rfl (bM _ _)))) ?_)
  by_cases EF:1048576<bd.length
  ·skip
   refine zt rfl (ah rfl rfl ep) (by simp; omega) ?_
   exact zk 7 rfl (WP.ret ⟨aa,_,rfl,.inr (.inl ⟨rfl,EF,rfl,(s.del 4).del 0⟩)⟩)
  ·skip
   refine zh rfl (ah rfl rfl ep) (by simp; omega) ?_
   refine zk 6 rfl (zo rfl (bf rfl rfl rfl (bj aS (s.aL (k:=0) rfl (bM _ _)))) (zb rfl (by exact bU (aY (by omega) (by omega))) ?_))
   refine aB.any rfl rfl rfl (OpR.wI (c:=8+bd.length) rfl s rfl rfl rfl rfl (by omega)) ?_
   intro v h s
   refine zm rfl (zo rfl (bf rfl rfl rfl (bj aS (s.aL (k:=1) rfl (bM _ _)))) (zo rfl (bZ rfl (by exact jJ bG cx (fb (by omega) (by omega)))) ?_))
   refine zc rfl (wK (z:=4) J s (by decide) (by simp)) ?_
   intro v h s
   have bV:=(s.buf (k:=1) rfl).1
   refine zk 7 rfl (zc rfl (FC (n:=aK) J s (k:=1) rfl (bM _ _) (by omega)) ?_)
   rintro r h ⟨rfl,s⟩
   have lK:=Hx (aK:=aK) bV
   refine zo rfl (bZ rfl (by exact jJ Tryz.underlying155 cx (fb (by omega) (by omega)))) ?_
   refine zc rfl (wK (z:=4) J s (by decide) (by simp [cR])) ?_
   intro v h s
   refine zk 6 rfl (aB.any rfl rfl rfl (OpR.oX rfl s (bM _ _) rfl rfl rfl rfl (by simp only [bC,cR,bY]; omega)) ?_)
   intro v h s
   refine zk 3 rfl (WP.ret ⟨aa,_,rfl,?_⟩)
   refine .inr (.inr ⟨rfl,by omega,v,rfl,?_⟩)
   have s:=(s.del 5).del 1
   dsimp only [aU] at s
   simpa [iA,bH] using s
def Lg.app (μ:Lg)(b:List Nat): Lg:={ μ with b:=μ.b++b,bu:=μ.bu++[μ.b.length] }
theorem L9 (hT:W told){kd:Int}{tx pv nx:Nat}{dt ch:V}{cs:List V}{data:List Nat}{aR:List cn}(s:Sat h (bh q p μ::aG p δ::X::.arr 4 ch cs::cZ cs aR::S))(hX:cU X (cY dt data))(jq:Df tx pv nx data aR)
 (J:μ.Ok)(hf:δ.aD<4294967296)(hl:δ.log.length≤16777216)(hr:δ.room≤16777216):
  Call ⟨Tryz.prog,told⟩ 48 [.ptr q 0,.agg (iI kd tx pv nx dt ch)] h fun r h' =>
  (∃e:Int,r=.bE [.int .u64 0,.int .i64 e]∧((dU kd aR=false∧e=1)∨(dU kd aR=true∧1048576<(dB kd tx pv nx data aR).length∧e=2)∨(dU kd aR=true∧(dB kd tx pv nx data aR).length≤1048576∧δ.dead=true∧e=9) ∨
    (dU kd aR=true∧(dB kd tx pv nx data aR).length≤1048576∧δ.dead=false∧δ.room<δ.log.length+(iA (μ.base+μ.b.length) (dB kd tx pv nx data aR)).length∧e=7))∧Sat h' (bh q p μ::aG p δ::X::.arr 4 ch cs::cZ cs aR::S)) ∨
  (dU kd aR=true∧(dB kd tx pv nx data aR).length≤1048576∧δ.dead=false∧δ.log.length+(iA (μ.base+μ.b.length) (dB kd tx pv nx data aR)).length≤δ.room∧δ.aD=0∧r=.bE [.int .u64 0,.int .i64 9] ∧
   Sat h' (bh q p μ::aG p { δ.die with tail:=iA (μ.base+μ.b.length) (dB kd tx pv nx data aR) }::X::.arr 4 ch cs::cZ cs aR::S)) ∨
  (dU kd aR=true∧(dB kd tx pv nx data aR).length≤1048576∧δ.dead=false∧δ.log.length+(iA (μ.base+μ.b.length) (dB kd tx pv nx data aR)).length≤δ.room∧δ.aD≠0∧r=.bE [.int .u64 ((μ.base+μ.b.length:Nat):Int),.int .i64 0] ∧
   Sat h' (bh q p (μ.app (iA (μ.base+μ.b.length) (dB kd tx pv nx data aR)))::aG p { δ.c9 with log:=δ.log++iA (μ.base+μ.b.length) (dB kd tx pv nx data aR) }::X::.arr 4 ch cs::cZ cs aR::S)):=by
 have ki:=s.kU (j:=3) rfl
 have j5:=s.aL (k:=2) rfl hX
 have gF:=mZ (kd:=kd) (tx:=tx) (pv:=pv) (nx:=nx) j5.cells.2 ki.2.1
 have xH:=J.size
 refine Call.of_wp (hT.free _ rfl) Tryz.func48 rfl rfl (zg rfl (aB.cT s rfl rfl rfl (gL rfl gF) ?_))
 intro p1 h s
 dsimp only [V.cells] at s
 have s:=s.ae [1,0]
 refine zk 6 rfl (zc rfl (oh hT s J.size) ?_)
 rintro v h' ⟨rfl,rfl⟩
 refine zk 4 rfl (zl rfl (s.fM (k:=1) rfl nE gM) (zm rfl (zc rfl (Oo (aK:=μ.base+μ.b.length) hT (s.ae [3,3,3]) hX jq) ?_)))
 generalize hrc:iA (μ.base+μ.b.length) (dB kd tx pv nx data aR)=rc
 have FD:rc.length=8+(dB kd tx pv nx data aR).length:=by rw [←hrc,rN]
 rintro r h' (⟨hg,rfl,s⟩ | ⟨hg,EF,rfl,s⟩ | ⟨hg,U,u,rfl,s⟩)
 ·dsimp only [bringA,getA,aU] at s
  exact zk 10 rfl (zt rfl (ah rfl rfl aV) (rfl) (zk 8 rfl (WP.ret ⟨aa,_,rfl,.inl ⟨1,rfl,.inl ⟨hg,rfl⟩,(s.ae [3,4,0,0,0]).del 5⟩⟩)))
 ·dsimp only [bringA,getA,aU] at s
  exact zk 10 rfl (zt rfl (ah rfl rfl aV) (rfl) (zk 8 rfl (WP.ret ⟨aa,_,rfl,.inl ⟨2,rfl,.inr (.inl ⟨hg,EF,rfl⟩),(s.ae [3,4,0,0,0]).del 5⟩⟩)))
 ·dsimp only [bringA,getA,aU] at s
  have bV:=(s.buf (k:=0) rfl).1
  obtain ⟨yx,_,cap,_,rfl,_⟩:=s.kM (by omega)
  obtain ⟨bv,sv,s⟩:=dm.1 (s.ae [4])
  refine zk 10 rfl (zh rfl (ah rfl rfl aV) (rfl) (zk 8 rfl (zf rfl (pU _ _) (zl rfl (s.ld (k:=0) rfl jL rfl) (zm rfl ?_)))))
  have s:=s.ae [8,3]
  refine zc rfl (L5 hT s (bM _ _) (by omega) hf (by omega) (by omega)) ?_
  rintro r h (⟨hd,rfl,s⟩ | ⟨hd,SR,rfl,s⟩ | ⟨hd,I,h0,rfl,s⟩ | ⟨hd,I,h0,rfl,s⟩)
  ·refine aB.op rfl rfl rfl (fg rfl) ?_
   exact zk 4 rfl (zt rfl (ah rfl rfl aV) (rfl) (zk 8 rfl (WP.ret ⟨aa,_,rfl,.inl ⟨9,rfl,.inr (.inr (.inl ⟨hg,U,hd,rfl⟩)),(dm.2 ⟨bv,sv,((s.ae [2,2,2,0,1,1,1]).del 8).del 7⟩)⟩⟩)))
  ·skip
   exact zk 5 rfl (zt rfl (ah rfl rfl aV) (rfl) (zk 8 rfl (WP.ret ⟨aa,_,rfl,.inl ⟨7,rfl,.inr (.inr (.inr ⟨hg,U,hd,by omega,rfl⟩)),(dm.2 ⟨bv,sv,((s.ae [2,2,2,0,1,1,1]).del 8).del 7⟩)⟩⟩)))
  ·skip
   exact zk 5 rfl (zt rfl (ah rfl rfl aV) (rfl) (zk 8 rfl (WP.ret ⟨aa,_,rfl,.inr (.inl ⟨hg,U,hd,I,h0,rfl,(dm.2 ⟨bv,sv,((s.ae [2,2,2,0,1,1,1]).del 8).del 7⟩)⟩)⟩)))
  ·skip
   have s:=s.ae [2,2,2,1,0,0,0,0]
   refine zk 5 rfl (zh rfl (ah rfl rfl aV) (rfl) (zk 4 rfl ?_))
   have s0:=s
   have Wq:=dc (s.buf (k:=1) rfl).view
   have BD:=(s.kU (j:=2) rfl).2.2
   refine WP.drawn [some (0,3),some (0,2),some (0,2),some (0,2),some (0,2),ai,ai,ai,ai,ai,ai,ai,ai,ai,ai] rfl (by kernel_rfl) (by kernel_rfl) ?_
   refine zM rfl (zM rfl (zN rfl (zF rfl (jc _ _) (zL rfl (s.ld (k:=0) rfl qB rfl) (zM rfl (zN rfl (zF rfl (eO _ _) (zL rfl (s.ld (k:=0) rfl bO rfl) (zO rfl (bf rfl rfl rfl (bj aS (s.aL (k:=1) rfl (bM _ _)))) ?_)))))))))
   obtain ⟨i1,lZ,kf,sR⟩:=xJ
   obtain ⟨iv,h1,e1,s1⟩:=oc (P:=Tryz.prog) (k:=1) (x:=.int .i64 (μ.b.length:Int)) s eH Fo jK rfl (by decide) (by decide) rfl rfl
   dsimp only [V.cells] at s1
   refine aA.any rfl rfl rfl rfl (OpR.of (R:=fun v h'=>v=iv∧h'=h1) (qu rfl e1) ⟨rfl,rfl⟩) ?_
   rintro v h' ⟨rfl,rfl⟩
   have xG:=J.many
   obtain ⟨Wp,h2,e2,s2⟩:=jB (s1.ae [3,0]) eH lZ Fo kf (by omega) rfl (by decide) (by simp only [kz,bl,bY]; omega)
   refine aA.any rfl rfl rfl rfl (OpR.of (R:=fun v h'=>v=Wp∧h'=h2) (oT rfl rfl e2) ⟨rfl,rfl⟩) ?_
   rintro v h' ⟨rfl,rfl⟩
   have hv:=s2.kU (j:=0) rfl
   refine zN rfl (zF rfl (jc _ _) (aA.h_ rfl rfl rfl (OpR.eA rfl rfl rfl (s2.ee (k:=2) rfl Qr rfl (by decide) hv.1 hv.2.1)) ?_))
   rintro v h ⟨rfl,s⟩
   refine aA.nil ⟨⟨fun _ _=>.inr ⟨rfl,⟨_,bn rfl⟩,aX _ rfl⟩,fun _ _=>.inr ⟨rfl,⟨_,bn rfl⟩,aX _ rfl⟩,fun _ _=>.inr ⟨rfl,⟨_,kq rfl⟩,aX _ rfl⟩,fun _ _=>.inr ⟨rfl,⟨_,jI rfl (jc _ _)⟩,aX _ rfl⟩,dX (.inr ⟨rfl,⟨_,aW rfl (s0.ld (k:=0) rfl qB rfl)⟩,BD⟩) (.inr ⟨rfl,⟨_,aW rfl (s1.ld (k:=1) rfl qB rfl)⟩,BD⟩),aa,aa,aa,aa,aa,aa,aa,aa,aa,aa,aa⟩,?_⟩
   refine zK 5 rfl (zf rfl (eO _ _) (zl rfl (s.ld (k:=2) rfl bO rfl) (zm rfl (aB.any rfl rfl rfl (OpR.oX rfl (s.ae [3,3]) (bM _ _) rfl rfl rfl rfl (by have:=J.len; omega)) ?_))))
   intro bv' h s
   have hv:=(s.buf (k:=0) rfl).view.cells
   refine zn rfl (zf rfl (eO _ _) (zS rfl (s.ee (k:=4) rfl jM rfl (by decide) hv.1 hv.2) ?_))
   intro h s
   refine zk 7 rfl (WP.ret ⟨aa,_,rfl,?_⟩)
   refine .inr (.inr ⟨hg,U,hd,I,h0,rfl,dm.2 ⟨bv',v,?_⟩⟩)
   have s:=(((s.ae [4,0,1]).del 4).del 3).del 7
   have e:gR (μ.app rc).bu=gR μ.bu++[.int .i64 (μ.b.length:Int)]:=by simp [Lg.app,gR]
   rw [e]
   exact s
end
end Go.Proofs.YtconhghphklfjaaGreat.Am
