/- SpacePlays: a part of its proof; conditions: its statement's. -/
import Derived.Test.YtefepnnfphdkpaaGreatE20
set_option linter.defProp false
namespace Go.Proofs.YtefepnnfphdkpaaGreat.Am
open Go
def jW:=@Tryz.underlying46
def FN:=@Tryz.underlying244
structure dG where
 bn:Int
 pos:Int
 whole:Bool
 b:List Nat
def dG.Ok (c:dG): Prop:=0≤c.bn∧c.bn<65536∧0≤c.pos∧c.pos≤512∧(c.b.length:Int)≤512-c.pos∧(c.whole=true→c.pos=0∧c.b.length=512)
instance (c:dG):Decidable c.Ok:=by unfold dG.Ok; infer_instance
def eU (kind:Int)(cm:List dG): Bool:=decide (1≤kind∧kind≤9)&&cm.all fun c=>decide c.Ok
def oD (kd:Int)(tx pv nx:Nat)(I ch:V): List V:=[.int .i64 kd,.int .u64 (tx:Int),.int .u64 (pv:Int),.int .u64 (nx:Int),I,ch]
theorem xR {kd:Int}{tx pv nx:Nat}{I ch:V}(J:storable I=true)(hc:storable ch=true): (oD kd tx pv nx I ch).all storable=true:=by
 simp only [oD,gU,k_,J,hc]
 rfl
def dN : List V→List dG→au
 | [],[]=>.pu True
 | p::a::w::v::l,x::m=>.an (.an (.pu (p=.int .i64 x.bn∧a=.int .i64 x.pos∧w=.bool x.whole)) (.c5 v x.b)) (dN l m)
 | _,_=>.pu False
theorem aX.pq : ∀(m:List dG) (l:List V),aX (dN l m):=by
 intro m
 induction m with
 | nil=>intro l; rcases l with _ | ⟨a,_ | ⟨b,_ | ⟨c,_ | ⟨d,l⟩⟩⟩⟩ <;> exact aX.pu _
 | cons x m I=>intro l; rcases l with _ | ⟨a,_ | ⟨b,_ | ⟨c,_ | ⟨d,l⟩⟩⟩⟩ <;> first | exact aX.pu _ | exact aX.an (aX.an (aX.pu _) (aX.c5 _ _)) (I l)
theorem qb {a b:PM}: ∀ {m:List dG} {l:List V},(dN l m).p a b→l.length=m.length*4:=by
 intro m
 induction m with
 | nil=>intro l h; rcases l with _ | ⟨x,_ | ⟨y,_ | ⟨z,_ | ⟨d,l⟩⟩⟩⟩ <;> first | rfl | exact h.elim
 | cons x m I =>
  intro l h
  rcases l with _ | ⟨x,_ | ⟨y,_ | ⟨z,_ | ⟨d,l⟩⟩⟩⟩ <;> first | exact h.elim | skip
  have:=I h.2
  simp only [aH]
  omega
theorem AO {a b:PM}: ∀ {m m':List dG} {l I:List V},(dN l m).p a b→(dN I m').p a b→(dN (l++I) (m++m')).p a b:=by
 intro m
 induction m with
 | nil=>intro m' l I h h'; rcases l with _ | ⟨x,_ | ⟨y,_ | ⟨z,_ | ⟨d,l⟩⟩⟩⟩ <;> first | exact h' | exact h.elim
 | cons x m J =>
  intro m' l I h h'
  rcases l with _ | ⟨x,_ | ⟨y,_ | ⟨z,_ | ⟨d,l⟩⟩⟩⟩ <;> first | exact h.elim | exact ⟨h.1,J h.2 h'⟩
theorem FO {a b:PM}: ∀ {m:List dG} {l:List V} {i:Nat} {c:dG},(dN l m).p a b→m[i]?=some c→∃u,(l.drop (i*4)).take 4=[.int .i64 c.bn,.int .i64 c.pos,.bool c.whole,u]∧(au.c5 u c.b).p a b:=by
 intro m
 induction m with
 | nil=>intro l i c h I; simp at I
 | cons x m J =>
  intro l i c h I
  rcases l with _ | ⟨p,_ | ⟨q,_ | ⟨w,_ | ⟨v,l⟩⟩⟩⟩ <;> first | exact h.elim | skip
  obtain ⟨⟨⟨h1,h2,h3⟩,h4⟩,h5⟩:=h
  cases i with
  | zero=>simp at I; subst I; exact ⟨v,by rw [h1,h2,h3]; rfl,h4⟩
  | succ i =>
   simp at I
   obtain ⟨u,e1,e2⟩:=J h5 I
   refine ⟨u,?_,e2⟩
   rw [←e1,show (i+1)*4=i*4+4 by omega]
   rfl
section
variable {told:cZ} {h:H} {S:List au} {X:au} {k q p:Nat} {v:V} {l:List Nat}
theorem L5 {ch:V}{cs:List V}{m:List dG}{i:Nat}{c:dG}(s:Sat h (.arr 4 ch cs::dN cs m::S))(hc:m[i]?=some c):
  ∃id off u,indexAddrV Tryz.prog 46 ch (.int .i64 (i:Int))=some (.ptr id off)∧loadV Tryz.prog h 180 (.ptr id off)=some (.agg [.int .i64 c.bn,.int .i64 c.pos,.bool c.whole,u]) ∧
   u.cells=[u]∧storable u=true∧u.beq u=true∧Sat h (.c5 u c.b::.arr 4 ch cs::dN cs m::S):=by
 obtain ⟨a,b,q1,q2,q3⟩:=s.at (k:=1) rfl
 have tW:=(List.getElem?_eq_some_iff.1 hc).1
 have hl:=qb q3
 obtain ⟨u,e1,e2⟩:=FO q3 hc
 obtain ⟨id,off,g1,J⟩:=LL (P:=Tryz.prog) (i:=i) s (j:=0) rfl (by omega) (by decide) jW zP
 have J:=J VR
 rw [e1] at J
 have s2:Sat h (dN cs m::.arr 4 ch cs::S):=s.ae [1]
 have s3:=(s2.dup (aX.pq _ _)).iU (B:=.c5 u c.b) fun a b h=>by
  obtain ⟨u',I,qF⟩:=FO h hc
  rw [e1] at I
  injection I with _ I
  injection I with _ I
  injection I with _ I
  injection I with I _
  subst I
  exact qF
 have hu:=(s3.aU (k:=0) rfl (fe _ _))
 exact ⟨id,off,u,g1,J,hu.cells.1,hu.cells.2,gY hu,s3.ae [0,1,0]⟩
theorem IE {ch:V}{cs:List V}{m:List dG}{j1 j2:Nat}{P:Program}{t e:TypeId}(s:Sat h S)(I:getA S j1=some (.arr 4 ch cs))(J:getA S j2=some (dN cs m))(hu:P.underlying t=some (.slice e)): lenV P h t ch=some (.int .i64 m.length):=by
 obtain ⟨a,b,q1,q2,q3⟩:=s.at J
 exact s.eY I (qb q3) (by decide) hu
theorem Sat.xS {ch:V}{cs:List V}{m:List dG}{j1 j2:Nat}{P:Program}{t e:TypeId}(s:Sat h S)(I:getA S j1=some (.arr 4 ch cs))(J:getA S j2=some (dN cs m))(hu:P.underlying t=some (.slice e)): lenV P h t ch=some (.int .i64 m.length):=IE s I J hu
noncomputable def Xe : Code:=cV [1,1,0,1,0,0] ((Tryz.f161.body).getD .skip)
theorem J1 {p1:Nat}{ch:V}{cs:List V}{m:List dG}: ∀(j i:Nat) (h:H) (E:List (Nat×V)) (Q:Ex→List (Nat×V)→H→Prop),i+j=m.length→m.length<4294967296→(∀c∈m,c.b.length<9223372036854775808) →
  (∀c∈m, -4294967296≤c.pos∧c.pos≤4294967296)→Sat h (.arr 4 ch cs::dN cs m::S)→Has E [(1,.ptr p1 0),(14,ch),(15,.int .i64 m.length),(16,.int .i64 i)] →
  ((m.drop i).all (fun c=>decide c.Ok)=false→∀E' h',look E' 2=some (.bool false)→Sat h' (.arr 4 ch cs::dN cs m::S)→Q .ret E' h') →
  ((m.drop i).all (fun c=>decide c.Ok)=true→∀E' h',Sat h' (.arr 4 ch cs::dN cs m::S)→Q (.exit 0) E' h')→WP ⟨Tryz.prog,told⟩ 61 (.loop Xe) E h Q:=by
 intro j
 induction j with
 | zero =>
  intro i h E Q hi hm hb J s hE hr hx
  refine WP.loop (WP.has hE (zg rfl (zh rfl (af rfl rfl aK) (by simp; omega) ?_)))
  exact zk 3 rfl (WP.exit (hx (by rw [gR (by omega)]; rfl) _ _ s))
 | succ j ih =>
  intro i h E Q hi hm hb J s hE hr hx
  have hc:m[i]?=some (m[i]'(by omega)):=aN _
  generalize (m[i]'(by omega))=c at hc
  have L6:=a_ hc
  have Xf:=hb c L6
  have Z7:=J c L6
  have oY:m.drop i=c::m.drop (i+1):=by
   have:=List.getElem?_eq_some_iff.1 hc
   obtain ⟨h1,rfl⟩:=this
   exact rG h1
  rw [oY,gU] at hr hx
  obtain ⟨id,off,u,e1,e2,u1,u2,u3,s⟩:=L5 s hc
  refine WP.loop (WP.has hE (zg rfl (zt rfl (af rfl rfl aK) (by simp; omega) ?_)))
  refine zk 5 rfl (WP.block (zg rfl (zo rfl (cn (r:=.ptr id off) rfl rfl e1) (zl rfl e2 ?_))))
  refine az.cz s rfl rfl rfl (cy tT) (fun p4 h s => ?_)
  dsimp only [V.cells,List.length_cons,List.length_nil,Nat.reduceAdd] at s
  refine zS rfl (s.eZ (j:=0) rfl zP rfl (by simp only [gU,k_,u2]; rfl)) ?_
  intro h s
  dsimp only [setA] at s
  refine zk 4 rfl (zf rfl (CT _ _) (zl rfl (s.ld (k:=0) rfl cA rfl) ?_))
  refine zd rfl (af rfl rfl aK) ?_ ?_
  ·intro tK
   have tK:c.bn<0:=by simp at tK; omega
   exact zk 30 rfl (WP.ret (hr (by rw [eA (fun q:c.Ok=>by have:=q.1; omega),gT]) _ _ rfl s.drop.drop))
  ·intro tK
   have tK:¬ (c.bn<0):=by simp at tK; omega
   refine zm rfl (zf rfl (CT _ _) (zl rfl (s.ld (k:=0) rfl cA rfl) ?_))
   refine zd rfl (af rfl rfl jq) ?_ ?_
   ·intro Ap
    have Ap:65536≤c.bn:=by simp at Ap; omega
    exact zk 26 rfl (WP.ret (hr (by rw [eA (fun q:c.Ok=>by have:=q.2.1; omega),gT]) _ _ rfl s.drop.drop))
   ·intro Ap
    have Ap:¬ (65536≤c.bn):=by simp at Ap; omega
    refine zk 2 rfl (zf rfl (sg _ _) (zl rfl (s.ld (k:=0) rfl cA rfl) ?_))
    refine zd rfl (af rfl rfl aK) ?_ ?_
    ·intro iz
     have iz:c.pos<0:=by simp at iz; omega
     exact zk 21 rfl (WP.ret (hr (by rw [eA (fun q:c.Ok=>by have:=q.2.2.1; omega),gT]) _ _ rfl s.drop.drop))
    ·intro iz
     have iz:¬ (c.pos<0):=by simp at iz; omega
     refine zk 2 rfl (zf rfl (sg _ _) (zl rfl (s.ld (k:=0) rfl cA rfl) ?_))
     refine zd rfl (af rfl rfl er) ?_ ?_
     ·intro L7
      have L7:512<c.pos:=by simp at L7; omega
      exact zk 16 rfl (WP.ret (hr (by rw [eA (fun q:c.Ok=>by have:=q.2.2.2.1; omega),gT]) _ _ rfl s.drop.drop))
     ·intro L7
      have L7:¬ (512<c.pos):=by simp at L7; omega
      refine zk 2 rfl (zf rfl (si _ _) (zl rfl (s.ld (k:=0) rfl cS rfl) (zo rfl (aT rfl rfl rfl (bO aV (s.aU (k:=1) rfl (fe _ _)))) (zf rfl (sg _ _) (zl rfl (s.ld (k:=0) rfl cA rfl) (zb rfl (by exact iB (aB (by omega) (by omega))) ?_))))))
      refine zd rfl (af rfl rfl er) ?_ ?_
      ·intro oC
       have oC:512-c.pos<(c.b.length:Int):=by simp at oC; omega
       exact zk 7 rfl (WP.ret (hr (by rw [eA (fun q:c.Ok=>by have:=q.2.2.2.2.1; omega),gT]) _ _ rfl s.drop.drop))
      ·intro oC
       have oC:¬ (512-c.pos<(c.b.length:Int)):=by simp at oC; omega
       refine zk 6 rfl (zf rfl (It _ _) ?_)
       have ql:∀(h:H) (E:List (Nat×V)),c.Ok→Sat h (.arr 4 ch cs::dN cs m::S)→Has E [(1,.ptr p1 0),(14,ch),(15,.int .i64 m.length),(16,.int .i64 ((i:Int)+1))]→WP ⟨Tryz.prog,told⟩ 61 (.loop Xe) E h Q:=by
        intro h E wQ s hE
        rw [dX wQ,yT] at hr hx
        exact ih (i+1) h E Q (by omega) hm hb J s hE hr hx
       have KU:c.whole=false∨c.whole=true:=by cases c.whole <;> simp
       rcases KU with hw | hw
       ·skip
        refine zh rfl (aR rfl (by exact s.ld (k:=0) rfl kB rfl)) (hw) ?_
        refine zk 11 rfl (zv (zj rfl (WP.skip (zr rfl (zb rfl (by exact bg (aB (by omega) (by omega))) ?_)))))
        refine zm rfl (zv ?_)
        refine ql _ _ ?_ ?_ ?_
        ·exact ⟨by omega,by omega,by omega,by omega,by omega,fun e=>by rw [hw] at e; cases e⟩
        ·exact s.drop.drop
        ·exact ⟨rfl,rfl,rfl,rfl,aa⟩
       ·skip
        refine zt rfl (aR rfl (s.ld (k:=0) rfl kB rfl)) (hw) (zm rfl (zf rfl (sg _ _) (zl rfl (s.ld (k:=0) rfl cA rfl) ?_)))
        refine zd rfl (af rfl rfl aG) ?_ ?_
        ·intro hp
         have hp:c.pos≠0:=by simp at hp; omega
         exact zk 13 rfl (WP.ret (hr (by rw [eA (fun q:c.Ok=>hp (q.2.2.2.2.2 hw).1),gT]) _ _ rfl s.drop.drop))
        ·intro hp
         have hp:c.pos=0:=by simp at hp; omega
         refine zm rfl (zf rfl (si _ _) (zl rfl (s.ld (k:=0) rfl cS rfl) (zo rfl (aT rfl rfl rfl (bO aV (s.aU (k:=1) rfl (fe _ _)))) ?_)))
         refine zd rfl (af rfl rfl aG) ?_ ?_
         ·intro I
          have I:c.b.length≠512:=by simp at I; omega
          exact zk 8 rfl (WP.ret (hr (by rw [eA (fun q:c.Ok=>I (q.2.2.2.2.2 hw).2),gT]) _ _ rfl s.drop.drop))
         ·intro I
          have I:c.b.length=512:=by simp at I; omega
          refine zk 2 rfl (zv (zj rfl (WP.skip (zr rfl (zb rfl (by exact bg (aB (by omega) (by omega))) ?_)))))
          refine zm rfl (zv ?_)
          refine ql _ _ ?_ ?_ ?_
          ·exact ⟨by omega,by omega,by omega,by omega,by omega,fun _=>⟨hp,I⟩⟩
          ·exact s.drop.drop
          ·exact ⟨rfl,rfl,rfl,rfl,aa⟩
def xT (m:List dG): Prop:=m.length<4294967296∧(∀c∈m,c.b.length<4294967296)∧(∀c∈m, -4294967296≤c.pos∧c.pos≤4294967296)
theorem Ow (hT:W told){kd:Int}{tx pv nx:Nat}{dt ch:V}{cs:List V}{m:List dG}(s:Sat h (.arr 4 ch cs::dN cs m::S))(hd:storable dt=true)(hm:xT m):
  Call ⟨Tryz.prog,told⟩ 161 [.agg (oD kd tx pv nx dt ch)] h fun r h'=>r=.bool (eU kd m)∧Sat h' (.arr 4 ch cs::dN cs m::S):=by
 have xU:=s.lD (j:=0) rfl
 have gq:=xR (kd:=kd) (tx:=tx) (pv:=pv) (nx:=nx) hd xU.2.1
 refine Call.of_wp (hT.free _ rfl) Tryz.func161 rfl rfl (zg rfl (az.cz s rfl rfl rfl (fc rfl gq) ?_))
 intro p1 h s
 refine zk 5 rfl (zf rfl (xG _ _) (zl rfl (s.ld (k:=0) rfl cA rfl) ?_))
 refine zd rfl (af rfl rfl aK) ?_ ?_
 ·intro J
  have J:kd<1:=by simpa using J
  exact zk 11 rfl (WP.ret ⟨aa,_,rfl,by rw [eU,eA (by omega),gT],s.drop⟩)
 ·intro J
  have J:1≤kd:=by simpa using J
  refine zm rfl (zf rfl (xG _ _) (zl rfl (s.ld (k:=0) rfl cA rfl) ?_))
  refine zd rfl (af rfl rfl er) ?_ ?_
  ·intro I
   have I:9<kd:=by simpa using I
   exact zk 7 rfl (WP.ret ⟨aa,_,rfl,by rw [eU,eA (by omega),gT],s.drop⟩)
  ·intro I
   have I:kd≤9:=by simpa using I
   refine zk 7 rfl (zf rfl (sU _ _) (zl rfl (s.ld (k:=0) rfl CQ rfl) (zo rfl (aT rfl rfl rfl (IE s (j1:=1) (j2:=2) rfl rfl jW)) (zk 2 rfl (WP.block ?_)))))
   have hg:eU kd m=m.all (fun c=>decide c.Ok):=by rw [eU,dX ⟨J,I⟩,yT]
   refine J1 m.length 0 _ _ _ (by omega) hm.1 (fun c hc=>by have:=hm.2.1 c hc; omega) hm.2.2 s.drop ⟨rfl,rfl,rfl,rfl,aa⟩ (fun hf E' h' h2 s' => ?_) (fun hf E' h' s' => ?_)
   ·rw [hg]
    rw [eP] at hf
    rw [hf]
    exact ⟨aa,_,qQ h2,rfl,s'⟩
   ·rw [hg]
    rw [eP] at hf
    rw [hf]
    exact WP.has (F:=[]) aa (zK 4 rfl (WP.ret ⟨aa,_,rfl,rfl,s'⟩))
end
def mW (c:dG): List Nat:=digits 9 c.bn.toNat++digits 9 c.pos.toNat++[if c.whole then 1 else 0]++(digits 9 c.b.length++c.b)
def eN (kd:Int)(tx pv nx:Nat)(data:List Nat)(cm:List dG): List Nat :=
 [kd.toNat]++digits 9 tx++digits 9 pv++digits 9 nx++(digits 9 data.length++data)++digits 9 cm.length++cm.flatMap mW
section
variable {told:cZ} {h:H} {S:List au} {X:au} {k q p:Nat} {v w:V} {l m:List Nat}
theorem oE (I:W told){n:Nat}(s:Sat h (aZ v l::S))(hn:n<18446744073709551616)(hl:l.length≤140737488355000):
  Call ⟨Tryz.prog,told⟩ 176 [v,.int .u64 (n:Int)] h fun r h'=>Sat h' (aZ r (l++digits 9 n)::S) :=
 (DO I.Qu (k:=9) s.wf (s.buf (k:=0) rfl) (by omega) (by omega) (by omega)).mono fun _ _ ⟨J,h2,h3⟩=>s.zB h2 J h3
theorem C7 (hT:W told)(s:Sat h (aZ v l::X::S))(I:c8 X (c9 w m))(hl:l.length+m.length≤140737488355000):
  Call ⟨Tryz.prog,told⟩ 177 [v,w] h fun r h'=>Sat h' (aZ r (l++(digits 9 m.length++m))::X::S) :=
 (RE hT.Qu (k:=9) s.wf (s.buf (k:=0) rfl) (s.aU (k:=1) rfl I) (s.Uh I) (by omega) (by omega) (by omega)).mono fun _ _ ⟨J,h2,h3⟩=>by
  rw [gS] at J
  exact s.zB h2 J h3
noncomputable def Xg : Code:=cV [1,1,1,1,0,1,0,0] ((Tryz.f162.body).getD .skip)
theorem L8 (hT:W told){p1:Nat}{ch:V}{cs:List V}{cm:List dG}(wQ:∀c∈cm,c.Ok)(J:xT cm): ∀(j i:Nat) (sv:V) (l:List Nat) (h:H) (E:List (Nat×V)) (Q:Ex→List (Nat×V)→H→Prop),i+j=cm.length →
  l.length+((cm.drop i).flatMap mW).length≤140737488355000 →
  Sat h (aZ sv l::.arr 4 ch cs::dN cs cm::S)→Has E [(1,.ptr p1 0),(3,sv),(37,ch),(38,.int .i64 cm.length),(39,.int .i64 i)] →
  (∀E' h' I,look E' 3=some I→Sat h' (aZ I (l++(cm.drop i).flatMap mW)::.arr 4 ch cs::dN cs cm::S)→Q (.exit 2) E' h')→WP ⟨Tryz.prog,told⟩ 63 (.loop Xg) E h Q:=by
 intro j
 induction j with
 | zero =>
  intro i sv l h E Q hi hlen s hE hx
  have hm:=J.1
  refine WP.loop (WP.has hE (zg rfl (zh rfl (af rfl rfl aK) (by simp; omega) ?_)))
  refine zk 3 rfl (WP.exit (hx _ _ sv rfl ?_))
  rw [gR (by omega)]
  simpa using s
 | succ j ih =>
  intro i sv l h E Q hi hlen s hE hx
  have hm:=J.1
  have hc:cm[i]?=some (cm[i]'(by omega)):=aN _
  generalize (cm[i]'(by omega))=c at hc
  have L6:=a_ hc
  have Yv:=wQ c L6
  have Xf:=J.2.1 c L6
  have oY:cm.drop i=c::cm.drop (i+1):=by
   obtain ⟨h1,rfl⟩:=List.getElem?_eq_some_iff.1 hc
   exact rG h1
  rw [oY,uO] at hlen hx
  obtain ⟨pg,ps,wh,bb⟩:=c
  obtain ⟨q1,q2,q3,q4,_⟩:=Yv
  dsimp only at q1 q2 q3 q4 Xf
  obtain ⟨pg,rfl⟩:∃n:Nat,pg=n:=⟨pg.toNat,by omega⟩
  obtain ⟨ps,rfl⟩:∃n:Nat,ps=n:=⟨ps.toNat,by omega⟩
  have Ox:mW ⟨pg,ps,wh,bb⟩=digits 9 pg++digits 9 ps++[if wh then 1 else 0]++(digits 9 bb.length++bb):=by simp [mW]
  have Ii:(mW ⟨pg,ps,wh,bb⟩).length=(digits 9 pg).length+(digits 9 ps).length+1+(digits 9 bb.length).length+bb.length:=by rw [Ox]; simp; omega
  rw [bU,Ii] at hlen
  obtain ⟨id,off,u,e1,e2,u1,u2,u3,s⟩:=L5 (s.ae [1,1]) hc
  dsimp only at e2
  have s:=s.ae [3,0,0,0]
  dsimp only [bf,bringA,getA] at s
  refine WP.loop (WP.has hE (zg rfl (zt rfl (af rfl rfl aK) (by simp; omega) ?_)))
  refine zk 5 rfl (WP.block (zg rfl (zo rfl (cn (r:=.ptr id off) rfl rfl e1) (zl rfl e2 ?_))))
  refine az.cz s rfl rfl rfl (cy tT) (fun p7 h s => ?_)
  dsimp only [V.cells,List.length_cons,List.length_nil,Nat.reduceAdd] at s
  refine zS rfl (s.eZ (j:=0) rfl zP rfl (by simp only [gU,k_,u2]; rfl)) ?_
  intro h s
  dsimp only [setA] at s
  refine zk 2 rfl ?_
  have s:=s.ae [1,0]
  dsimp only [bringA,getA,bf] at s
  have s0:=s
  refine WP.drawn [ai,ai,ai,ai,ai,some (0,2),some (0,2),some (0,2),none,none] rfl (by kernel_rfl) (by kernel_rfl) ?_
  refine zM rfl (zF rfl (CT _ _) (zL rfl (s.ld (k:=1) rfl cA rfl) (aA.op rfl rfl rfl (by simp only [isEff,cG]) (b9 rfl (by exact ji bI cG (ff (by omega) (by omega)))) ?_)))
  refine aA.any rfl rfl rfl rfl (OpR.call rfl rfl rfl rfl (oE hT s (by omega) (by omega))) ?_
  intro v1 h s
  have s1:=s
  refine zF rfl (sg _ _) (zL rfl (s.ld (k:=1) rfl cA rfl) (aA.op rfl rfl rfl (by simp only [isEff,cG]) (b9 rfl (by exact ji bI cG (ff (by omega) (by omega)))) ?_))
  refine aA.any rfl rfl rfl rfl (OpR.call rfl rfl rfl rfl (oE hT s (by omega) (by simp; omega))) ?_
  intro v2 h s
  refine zA rfl ?_
  refine aA.nil ⟨⟨aa,aa,aa,aa,aa,fun _ _=>.inr ⟨rfl,⟨_,jS rfl (sg _ _)⟩,aS _ rfl⟩,dB (.inr ⟨rfl,⟨_,aR rfl (s0.ld (k:=1) rfl cA rfl)⟩,aS _ rfl⟩) (.inr ⟨rfl,⟨_,aR rfl (s1.ld (k:=1) rfl cA rfl)⟩,aS _ rfl⟩),fun _ _=>.inr ⟨rfl,⟨_,b9 rfl (by exact ji bI cG (ff (by omega) (by omega)))⟩,aS _ rfl⟩,aa,aa,aa⟩,?_⟩
  have FM:∀(h:H) (E:List (Nat×V)) (I:V),Sat h (aZ I (l++mW ⟨pg,ps,wh,bb⟩)::.arr 4 ch cs::dN cs cm::S)→Has E [(1,.ptr p1 0),(3,I),(37,ch),(38,.int .i64 cm.length),(39,.int .i64 ((i:Int)+1))]→WP ⟨Tryz.prog,told⟩ 63 (.loop Xg) E h Q:=by
   intro h E I s hE
   refine ih (i+1) I _ h E Q (by omega) (by rw [bU,Ii]; omega) s hE (fun E' h' Z8 vf s'=>hx E' h' Z8 vf ?_)
   rw [gS] at s'
   exact s'
  have hlp:=fX 9 pg
  have hlq:=fX 9 ps
  refine zK 7 rfl (zf rfl (It _ _) ?_)
  have KU:wh=false∨wh=true:=by cases wh <;> simp
  rcases KU with hw | hw
  ·skip
   refine zh rfl (aR rfl (s.ld (k:=1) rfl kB rfl)) (hw) (zk 3 rfl ?_)
   have s0:=s
   have Fx:=gY (s.buf (k:=0) rfl).view
   refine WP.drawn [some (0,2),ai,ai,ai,some (0,3),some (0,3),none,none] rfl (by kernel_rfl) (by kernel_rfl) ?_
   refine zM rfl (zM rfl (aA.any rfl rfl rfl rfl (OpR.EA (n:=0) rfl s rfl rfl rfl (by decide)) ?_))
   intro v3 h s
   have s:=s.ae [1,1,0]
   dsimp only [bringA,getA,bf] at s
   have s1:=s
   refine aA.any rfl rfl rfl rfl (OpR.oU rfl (s.ae [0,1]) (bz _ _) rfl rfl rfl rfl (by simp; omega)) ?_
   intro v4 h s
   have s:=s.del 1
   dsimp only [bf,bringA] at s
   have s2:=s
   refine zF rfl (si _ _) (zL rfl (s.ld (k:=1) rfl cS rfl) (aA.any rfl rfl rfl rfl (OpR.call rfl rfl rfl rfl (C7 hT (s.ae [0,1]) (fe _ _) (by simp; omega))) ?_))
   intro v5 h s
   dsimp only [bf,bringA] at s
   refine zA rfl ?_
   refine aA.nil ⟨⟨fun _ _=>.inr ⟨rfl,⟨_,bF rfl⟩,Fx⟩,aa,aa,aa,fun _ _=>.inr ⟨rfl,⟨_,jS rfl (si _ _)⟩,aS _ rfl⟩,vl (.inr ⟨rfl,⟨_,aR rfl (s0.ld (k:=1) rfl cS rfl)⟩,u3⟩) (.inr ⟨rfl,⟨_,aR rfl (s1.ld (k:=1) rfl cS rfl)⟩,u3⟩) (.inr ⟨rfl,⟨_,aR rfl (s2.ld (k:=1) rfl cS rfl)⟩,u3⟩),aa,aa,aa⟩,?_⟩
   refine zr rfl (zb rfl (by exact bg (aB (by omega) (by omega))) ?_)
   refine zm rfl (zv ?_)
   refine FM _ _ v5 ?_ ?_
   ·rw [Ox,hw]
    have s:=(s.del 1).del 1
    dsimp only [bf] at s
    simpa [gS] using s
   ·exact ⟨rfl,rfl,rfl,rfl,rfl,aa⟩
  ·skip
   refine zt rfl (aR rfl (s.ld (k:=1) rfl kB rfl)) (hw) (zk 5 rfl ?_)
   have s0:=s
   have Fx:=gY (s.buf (k:=0) rfl).view
   refine WP.drawn [some (0,2),ai,ai,ai,some (0,3),some (0,3),none,none] rfl (by kernel_rfl) (by kernel_rfl) ?_
   refine zM rfl (zM rfl (aA.any rfl rfl rfl rfl (OpR.EA (n:=1) rfl s rfl rfl rfl (by decide)) ?_))
   intro v3 h s
   have s:=s.ae [1,1,0]
   dsimp only [bringA,getA,bf] at s
   have s1:=s
   refine aA.any rfl rfl rfl rfl (OpR.oU rfl (s.ae [0,1]) (bz _ _) rfl rfl rfl rfl (by simp; omega)) ?_
   intro v4 h s
   have s:=s.del 1
   dsimp only [bf,bringA] at s
   have s2:=s
   refine zF rfl (si _ _) (zL rfl (s.ld (k:=1) rfl cS rfl) (aA.any rfl rfl rfl rfl (OpR.call rfl rfl rfl rfl (C7 hT (s.ae [0,1]) (fe _ _) (by simp; omega))) ?_))
   intro v5 h s
   dsimp only [bf,bringA] at s
   refine zA rfl ?_
   refine aA.nil ⟨⟨fun _ _=>.inr ⟨rfl,⟨_,bF rfl⟩,Fx⟩,aa,aa,aa,fun _ _=>.inr ⟨rfl,⟨_,jS rfl (si _ _)⟩,aS _ rfl⟩,vl (.inr ⟨rfl,⟨_,aR rfl (s0.ld (k:=1) rfl cS rfl)⟩,u3⟩) (.inr ⟨rfl,⟨_,aR rfl (s1.ld (k:=1) rfl cS rfl)⟩,u3⟩) (.inr ⟨rfl,⟨_,aR rfl (s2.ld (k:=1) rfl cS rfl)⟩,u3⟩),aa,aa,aa⟩,?_⟩
   refine zr rfl (zb rfl (by exact bg (aB (by omega) (by omega))) ?_)
   refine zm rfl (zv ?_)
   refine FM _ _ v5 ?_ ?_
   ·rw [Ox,hw]
    have s:=(s.del 1).del 1
    dsimp only [bf] at s
    simpa [gS] using s
   ·exact ⟨rfl,rfl,rfl,rfl,rfl,aa⟩
theorem Oy (J:W told){kd:Nat}{tx pv nx:Nat}{dt ch:V}{cs:List V}{data:List Nat}{cm:List dG}(s:Sat h (X::.arr 4 ch cs::dN cs cm::S))(hX:c8 X (c9 dt data))(hg:eU kd cm=true)(I:xT cm)
 (IF:tx<18446744073709551616)(Qz:pv<18446744073709551616)(DR:nx<18446744073709551616)(hlen:data.length+(cm.flatMap mW).length≤70368744177664):
  Call ⟨Tryz.prog,told⟩ 162 [.agg (oD kd tx pv nx dt ch)] h fun r h'=>Sat h' (aZ r (eN kd tx pv nx data cm)::X::.arr 4 ch cs::dN cs cm::S):=by
 have xU:=s.lD (j:=1) rfl
 have qG:=s.aU (k:=0) rfl hX
 have LF:=gY qG
 have gq:=xR (kd:=kd) (tx:=tx) (pv:=pv) (nx:=nx) qG.cells.2 xU.2.1
 have hk:1≤kd∧kd≤9:=by simp [eU] at hg; omega
 have wQ:∀c∈cm,c.Ok:=by
  simp only [eU,aJ,m9,eu] at hg
  exact hg.2
 have hm:=I.1
 have h1:=fX 9 tx
 have h2:=fX 9 pv
 have h3:=fX 9 nx
 have h4:=fX 9 data.length
 have h5:=fX 9 cm.length
 refine Call.of_wp (J.free _ rfl) Tryz.func162 rfl rfl (zg rfl (az.cz s rfl rfl rfl (fc rfl gq) ?_))
 intro p1 h s
 dsimp only [V.cells] at s
 refine zk 4 rfl (zf rfl (xG _ _) (zl rfl (s.ld (k:=0) rfl cA rfl) (zo rfl (b9 rfl (by exact ji bI Tryz.underlying5 (xE (by omega) (by omega)))) ?_)))
 refine az.any rfl rfl rfl (OpR.EA (n:=kd) rfl s rfl rfl rfl (by omega)) ?_
 intro v3 h s
 refine zk 5 rfl (zf rfl (T7 _ _) (zl rfl (s.ld (k:=1) rfl iP rfl) (zf rfl (T8 _ _) (zl rfl (s.ld (k:=1) rfl iP rfl) (zf rfl (T9 _ _) (zl rfl (s.ld (k:=1) rfl iP rfl) (zo rfl (dA rfl (by rw [V0]; rfl)) ?_)))))))
 refine zk 2 rfl (WP.block (WP.loop (zg rfl (zt rfl (af rfl rfl aK) (by decide) ?_))))
 refine zk 5 rfl (WP.block (zg rfl (zo rfl (Ff rfl rfl (r:=.int .u64 (tx:Int)) (by simp only [indexV,FN,AI,qZ,iP]; rfl)) ?_)))
 refine zk 5 rfl (zc rfl (oE J s (by omega) (by simp only [bU,aH,bM]; omega)) ?_)
 intro v3 h s
 refine za rfl (zv (zr rfl (zb rfl (by exact bg (aB (by omega) (by omega))) ?_)))
 refine zm rfl (zv (WP.loop (zg rfl (zt rfl (af rfl rfl aK) (by decide) ?_))))
 refine zk 5 rfl (WP.block (zg rfl (zo rfl (Ff rfl rfl (r:=.int .u64 (pv:Int)) (by simp only [indexV,FN,AI,qZ,iP]; rfl)) ?_)))
 refine zk 5 rfl (zc rfl (oE J s (by omega) (by simp only [bU,aH,bM]; omega)) ?_)
 intro v3 h s
 refine za rfl (zv (zr rfl (zb rfl (by exact bg (aB (by omega) (by omega))) ?_)))
 refine zm rfl (zv (WP.loop (zg rfl (zt rfl (af rfl rfl aK) (by decide) ?_))))
 refine zk 5 rfl (WP.block (zg rfl (zo rfl (Ff rfl rfl (r:=.int .u64 (nx:Int)) (by simp only [indexV,FN,AI,qZ,iP]; rfl)) ?_)))
 refine zk 5 rfl (zc rfl (oE J s (by omega) (by simp only [bU,aH,bM]; omega)) ?_)
 intro v3 h s
 refine za rfl (zv (zr rfl (zb rfl (by exact bg (aB (by omega) (by omega))) ?_)))
 refine zm rfl (zv (WP.loop (zg rfl (zh rfl (af rfl rfl aK) (by decide) ?_))))
 refine zk 3 rfl (WP.exit (zw ?_))
 have s0:=s
 have u9:=gY (s.buf (k:=0) rfl).view
 refine WP.drawn [ai,ai,ai,ai,some (0,2),some (0,2),some (0,2),some (0,2),none,none] rfl (by kernel_rfl) (by kernel_rfl) ?_
 refine zM rfl (zF rfl (T_ _ _) (zL rfl (s.ld (k:=1) rfl cS rfl) (aA.any rfl rfl rfl rfl (OpR.call rfl rfl rfl rfl (C7 J (s.ae [0,1]) hX (by simp only [bU,aH,bM]; omega))) ?_)))
 intro v4 h s
 have s:=s.ae [0,1,0]
 have s1:=s
 refine zF rfl (sU _ _) (zL rfl (s.ld (k:=1) rfl CQ rfl) (zO rfl (aT rfl rfl rfl (s.xS (j1:=3) (j2:=4) rfl rfl jW)) (aA.op rfl rfl rfl (by simp only [isEff,cG]) (b9 rfl (by exact ji bI cG (ff (by omega) (by omega)))) ?_)))
 refine aA.any rfl rfl rfl rfl (OpR.call rfl rfl rfl rfl (oE J s (by omega) (by simp only [bU,aH,bM]; omega))) ?_
 intro v5 h s
 refine zA rfl ?_
 refine aA.nil ⟨⟨aa,aa,aa,aa,fun _ _=>.inr ⟨rfl,⟨_,jS rfl (sU _ _)⟩,aS _ rfl⟩,dB (.inr ⟨rfl,⟨_,aR rfl (s0.ld (k:=1) rfl CQ rfl)⟩,xU.2.2⟩) (.inr ⟨rfl,⟨_,aR rfl (s1.ld (k:=1) rfl CQ rfl)⟩,xU.2.2⟩),dB (.inr ⟨rfl,⟨_,aT rfl rfl rfl (s0.xS (j1:=3) (j2:=4) rfl rfl jW)⟩,aS _ rfl⟩) (.inr ⟨rfl,⟨_,aT rfl rfl rfl (s1.xS (j1:=3) (j2:=4) rfl rfl jW)⟩,aS _ rfl⟩),fun _ _=>.inr ⟨rfl,⟨_,b9 rfl (by exact ji bI cG (ff (by omega) (by omega)))⟩,aS _ rfl⟩,aa,aa,aa⟩,?_⟩
 refine zK 3 rfl (zf rfl (sU _ _) (zl rfl (s.ld (k:=1) rfl CQ rfl) (zo rfl (aT rfl rfl rfl (s.xS (j1:=3) (j2:=4) rfl rfl jW)) (zk 2 rfl (WP.block ?_)))))
 have s:=s.ae [0,2,2,1]
 refine L8 J wQ I cm.length 0 v5 _ _ _ _ (by omega) (by rw [eP]; simp only [bU,aH,bM]; omega) s ⟨rfl,rfl,rfl,rfl,rfl,aa⟩ (fun E' h' Uu jl s' => ?_)
 refine WP.has (F:=[(3,Uu)]) ⟨jl,aa⟩ (zK 5 rfl (WP.ret ⟨aa,_,rfl,?_⟩))
 have Xh:=(s'.ae [0,2,0,0]).del 4
 dsimp only [List.cons_append,List.nil_append,List.drop,bf,bringA,getA] at Xh
 simpa [eN,gS] using Xh
end
def qS (aW:Nat)(b:List Nat): List Nat:=le 4 b.length++le 4 (BJ aW b)++b
theorem nR (aW:Nat)(b:List Nat): (qS aW b).length=8+b.length:=by simp [qS,cJ]; omega
theorem tf : ∃i,Tryz.prog.info? 3=some i∧i.size=1∧i.bytes=8 :=
 ⟨_,(show Tryz.prog.info? 3=some ((Tryz.prog.info? 3).getD default) by kernel_rfl),by kernel_rfl,by kernel_rfl⟩
section
variable {told:cZ} {h:H} {S:List au} {X:au} {k q p:Nat} {v w:V} {l m:List Nat} {μ:Lg} {δ:Dk}
theorem L9 (I:W told){n:Nat}(s:Sat h S)(J:getA S k=some X)(hX:c8 X (c9 v l))(hl:l.length≤4611686018427387904):
  Call ⟨Tryz.prog,told⟩ 163 [.int .u64 (n:Int),v] h fun r h'=>r=.int .u32 (BJ n l:Nat)∧Sat h' S :=
 (LS I.Qu s.wf (s.aU J hX) hl).mono fun _ _ ⟨h1,h2⟩=>⟨h1,s.j5 h2⟩
structure BO (tx pv nx:Nat)(data:List Nat)(cm:List dG): Prop where
 fit:xT cm
 tx:tx<18446744073709551616
 pv:pv<18446744073709551616
 nx:nx<18446744073709551616
 len:data.length+(cm.flatMap mW).length≤70368744177664
theorem L_ (J:W told){kd:Int}{tx pv nx aW:Nat}{dt ch:V}{cs:List V}{data:List Nat}{cm:List dG}(s:Sat h (X::.arr 4 ch cs::dN cs cm::S))(hX:c8 X (c9 dt data))(I:BO tx pv nx data cm):
  Call ⟨Tryz.prog,told⟩ 116 [.agg (oD kd tx pv nx dt ch),.int .u64 (aW:Int)] h fun r h' =>
  (eU kd cm=false∧r=.aY [.bu,.int .i64 1]∧Sat h' (X::.arr 4 ch cs::dN cs cm::S)) ∨
  (eU kd cm=true∧1048576<(eN kd tx pv nx data cm).length∧r=.aY [.bu,.int .i64 2]∧Sat h' (X::.arr 4 ch cs::dN cs cm::S)) ∨
  (eU kd cm=true∧(eN kd tx pv nx data cm).length≤1048576∧∃u,r=.aY [u,.int .i64 0]∧Sat h' (aZ u (qS aW (eN kd tx pv nx data cm))::X::.arr 4 ch cs::dN cs cm::S)):=by
 have xU:=s.lD (j:=1) rfl
 have qG:=s.aU (k:=0) rfl hX
 have gq:=xR (kd:=kd) (tx:=tx) (pv:=pv) (nx:=nx) qG.cells.2 xU.2.1
 refine Call.of_wp (J.free _ rfl) Tryz.func116 rfl rfl (zg rfl (az.cz s rfl rfl rfl (fc rfl gq) ?_))
 intro p1 h s
 dsimp only [V.cells] at s
 refine zk 6 rfl (zl rfl (s.bZ (k:=0) rfl CR vV) (zc rfl (Ow J (s.ae [2,2]) qG.cells.2 I.fit) ?_))
 rintro r h' ⟨rfl,s⟩
 cases hg:eU kd cm with
 | false =>
  exact zo rfl (cX rfl rfl) (zk 7 rfl (WP.ret ⟨aa,_,rfl,.inl ⟨rfl,rfl,(s.ae [3,0,0]).del 3⟩⟩))
 | true =>
  refine zo rfl (cX rfl rfl) (zk 5 rfl (zl rfl (s.bZ (k:=2) rfl CR vV) ?_))
  have hk:∃n:Nat,kd=n:=⟨kd.toNat,by simp [eU] at hg; omega⟩
  obtain ⟨kd,rfl⟩:=hk
  refine zc rfl (Oy J (s.ae [3,0,0]) hX hg I.fit I.tx I.pv I.nx I.len) ?_
  intro u h s
  dsimp only [bringA,getA,bf] at s
  have Dt:(eN kd tx pv nx data cm).length<9223372036854775808:=by
   have h1:=fX 9 tx
   have h2:=fX 9 pv
   have h3:=fX 9 nx
   have h4:=fX 9 data.length
   have h5:=fX 9 cm.length
   have h6:=I.len
   simp only [eN,bU,aH,bM]
   omega
  generalize Ib:eN kd tx pv nx data cm=bd at s Dt ⊢
  refine zk 6 rfl (zo rfl (aT rfl rfl rfl (bO aV (s.aU (k:=0) rfl (bz _ _)))) ?_)
  by_cases J2:1048576<bd.length
  ·skip
   refine zt rfl (af rfl rfl er) (by simp; omega) ?_
   exact zk 7 rfl (WP.ret ⟨aa,_,rfl,.inr (.inl ⟨rfl,J2,rfl,(s.del 4).del 0⟩)⟩)
  ·skip
   refine zh rfl (af rfl rfl er) (by simp; omega) ?_
   refine zk 6 rfl (zo rfl (aT rfl rfl rfl (bO aV (s.aU (k:=0) rfl (bz _ _)))) (zb rfl (by exact bg (aB (by omega) (by omega))) ?_))
   refine az.any rfl rfl rfl (OpR.vt (c:=8+bd.length) rfl s rfl rfl rfl rfl (by omega)) ?_
   intro v h s
   refine zm rfl (zo rfl (aT rfl rfl rfl (bO aV (s.aU (k:=1) rfl (bz _ _)))) (zo rfl (b9 rfl (by exact ji bI cG (ff (by omega) (by omega)))) ?_))
   refine zc rfl (tc (z:=4) J s (by decide) (by simp)) ?_
   intro v h s
   have bC:=(s.buf (k:=1) rfl).1
   refine zk 7 rfl (zc rfl (L9 (n:=aW) J s (k:=1) rfl (bz _ _) (by omega)) ?_)
   rintro r h ⟨rfl,s⟩
   have ku:=Ol (aW:=aW) bC
   refine zo rfl (b9 rfl (by exact ji Tryz.underlying231 cG (ff (by omega) (by omega)))) ?_
   refine zc rfl (tc (z:=4) J s (by decide) (by simp [cJ])) ?_
   intro v h s
   refine zk 6 rfl (az.any rfl rfl rfl (OpR.oU rfl s (bz _ _) rfl rfl rfl rfl (by simp only [bU,cJ,bM]; omega)) ?_)
   intro v h s
   refine zk 3 rfl (WP.ret ⟨aa,_,rfl,?_⟩)
   refine .inr (.inr ⟨rfl,by omega,v,rfl,?_⟩)
   have s:=(s.del 5).del 1
   dsimp only [bf] at s
   simpa [qS,gS] using s
def Lg.app (μ:Lg)(b:List Nat): Lg:={ μ with b:=μ.b++b,bD:=μ.bD++[μ.b.length] }
theorem J3 (hT:W told){kd:Int}{tx pv nx:Nat}{dt ch:V}{cs:List V}{data:List Nat}{cm:List dG}(s:Sat h (bx q p μ::aL p δ::X::.arr 4 ch cs::dN cs cm::S))(hX:c8 X (c9 dt data))(fS:BO tx pv nx data cm)
 (J:μ.Ok)(hf:δ.bj<4294967296)(hl:δ.log.length≤16777216)(hr:δ.room≤16777216):
  Call ⟨Tryz.prog,told⟩ 59 [.ptr q 0,.agg (oD kd tx pv nx dt ch)] h fun r h' =>
  (∃e:Int,r=.aY [.int .u64 0,.int .i64 e]∧((eU kd cm=false∧e=1)∨(eU kd cm=true∧1048576<(eN kd tx pv nx data cm).length∧e=2)∨(eU kd cm=true∧(eN kd tx pv nx data cm).length≤1048576∧δ.dead=true∧e=9) ∨
    (eU kd cm=true∧(eN kd tx pv nx data cm).length≤1048576∧δ.dead=false∧δ.room<δ.log.length+(qS (μ.base+μ.b.length) (eN kd tx pv nx data cm)).length∧e=7))∧Sat h' (bx q p μ::aL p δ::X::.arr 4 ch cs::dN cs cm::S)) ∨
  (eU kd cm=true∧(eN kd tx pv nx data cm).length≤1048576∧δ.dead=false∧δ.log.length+(qS (μ.base+μ.b.length) (eN kd tx pv nx data cm)).length≤δ.room∧δ.bj=0∧r=.aY [.int .u64 0,.int .i64 9] ∧
   Sat h' (bx q p μ::aL p { δ.die with tail:=qS (μ.base+μ.b.length) (eN kd tx pv nx data cm) }::X::.arr 4 ch cs::dN cs cm::S)) ∨
  (eU kd cm=true∧(eN kd tx pv nx data cm).length≤1048576∧δ.dead=false∧δ.log.length+(qS (μ.base+μ.b.length) (eN kd tx pv nx data cm)).length≤δ.room∧δ.bj≠0∧r=.aY [.int .u64 ((μ.base+μ.b.length:Nat):Int),.int .i64 0] ∧
   Sat h' (bx q p (μ.app (qS (μ.base+μ.b.length) (eN kd tx pv nx data cm)))::aL p { δ.c6 with log:=δ.log++qS (μ.base+μ.b.length) (eN kd tx pv nx data cm) }::X::.arr 4 ch cs::dN cs cm::S)):=by
 have xU:=s.lD (j:=3) rfl
 have qG:=s.aU (k:=2) rfl hX
 have gq:=xR (kd:=kd) (tx:=tx) (pv:=pv) (nx:=nx) qG.cells.2 xU.2.1
 have wg:=J.size
 refine Call.of_wp (hT.free _ rfl) Tryz.func59 rfl rfl (zg rfl (az.cz s rfl rfl rfl (fc rfl gq) ?_))
 intro p1 h s
 dsimp only [V.cells] at s
 have s:=s.ae [1,0]
 refine zk 6 rfl (zc rfl (qa hT s J.size) ?_)
 rintro v h' ⟨rfl,rfl⟩
 refine zk 4 rfl (zl rfl (s.bZ (k:=1) rfl CR vV) (zm rfl (zc rfl (L_ (aW:=μ.base+μ.b.length) hT (s.ae [3,3,3]) hX fS) ?_)))
 generalize Z9:qS (μ.base+μ.b.length) (eN kd tx pv nx data cm)=rc
 have Ma:rc.length=8+(eN kd tx pv nx data cm).length:=by rw [←Z9,nR]
 rintro r h' (⟨hg,rfl,s⟩ | ⟨hg,J2,rfl,s⟩ | ⟨hg,BP,u,rfl,s⟩)
 ·dsimp only [bringA,getA,bf] at s
  exact zk 10 rfl (zt rfl (af rfl rfl aG) (rfl) (zk 8 rfl (WP.ret ⟨aa,_,rfl,.inl ⟨1,rfl,.inl ⟨hg,rfl⟩,(s.ae [3,4,0,0,0]).del 5⟩⟩)))
 ·dsimp only [bringA,getA,bf] at s
  exact zk 10 rfl (zt rfl (af rfl rfl aG) (rfl) (zk 8 rfl (WP.ret ⟨aa,_,rfl,.inl ⟨2,rfl,.inr (.inl ⟨hg,J2,rfl⟩),(s.ae [3,4,0,0,0]).del 5⟩⟩)))
 ·dsimp only [bringA,getA,bf] at s
  have bC:=(s.buf (k:=0) rfl).1
  obtain ⟨sZ,_,cap,_,rfl,_⟩:=s.fB (by omega)
  obtain ⟨bv,sv,s⟩:=dr.1 (s.ae [4])
  refine zk 10 rfl (zh rfl (af rfl rfl aG) (rfl) (zk 8 rfl (zf rfl (oz _ _) (zl rfl (s.ld (k:=0) rfl jU rfl) (zm rfl ?_)))))
  have s:=s.ae [8,3]
  refine zc rfl (JX hT s (bz _ _) (by omega) hf (by omega) (by omega)) ?_
  rintro r h (⟨hd,rfl,s⟩ | ⟨hd,QA,rfl,s⟩ | ⟨hd,I,h0,rfl,s⟩ | ⟨hd,I,h0,rfl,s⟩)
  ·refine az.op rfl rfl rfl (gj rfl) ?_
   exact zk 4 rfl (zt rfl (af rfl rfl aG) (rfl) (zk 8 rfl (WP.ret ⟨aa,_,rfl,.inl ⟨9,rfl,.inr (.inr (.inl ⟨hg,BP,hd,rfl⟩)),(dr.2 ⟨bv,sv,((s.ae [2,2,2,0,1,1,1]).del 8).del 7⟩)⟩⟩)))
  ·skip
   exact zk 5 rfl (zt rfl (af rfl rfl aG) (rfl) (zk 8 rfl (WP.ret ⟨aa,_,rfl,.inl ⟨7,rfl,.inr (.inr (.inr ⟨hg,BP,hd,by omega,rfl⟩)),(dr.2 ⟨bv,sv,((s.ae [2,2,2,0,1,1,1]).del 8).del 7⟩)⟩⟩)))
  ·skip
   exact zk 5 rfl (zt rfl (af rfl rfl aG) (rfl) (zk 8 rfl (WP.ret ⟨aa,_,rfl,.inr (.inl ⟨hg,BP,hd,I,h0,rfl,(dr.2 ⟨bv,sv,((s.ae [2,2,2,0,1,1,1]).del 8).del 7⟩)⟩)⟩)))
  ·skip
   have s:=s.ae [2,2,2,1,0,0,0,0]
   refine zk 5 rfl (zh rfl (af rfl rfl aG) (rfl) (zk 4 rfl ?_))
   have s0:=s
   have Qo:=gY (s.buf (k:=1) rfl).view
   have FP:=(s.lD (j:=2) rfl).2.2
   refine WP.drawn [some (0,3),some (0,2),some (0,2),some (0,2),some (0,2),ai,ai,ai,ai,ai,ai,ai,ai,ai,ai] rfl (by kernel_rfl) (by kernel_rfl) ?_
   refine zM rfl (zM rfl (zN rfl (zF rfl (jj _ _) (zL rfl (s.ld (k:=0) rfl pS rfl) (zM rfl (zN rfl (zF rfl (jM _ _) (zL rfl (s.ld (k:=0) rfl cS rfl) (zO rfl (aT rfl rfl rfl (bO aV (s.aU (k:=1) rfl (bz _ _)))) ?_)))))))))
   obtain ⟨i1,jk,iE,tY⟩:=tf
   obtain ⟨iv,h1,e1,s1⟩:=lE (P:=Tryz.prog) (k:=1) (x:=.int .i64 (μ.b.length:Int)) s cM As kA rfl (by decide) (by decide) rfl rfl
   dsimp only [V.cells] at s1
   refine aA.any rfl rfl rfl rfl (OpR.of (R:=fun v h'=>v=iv∧h'=h1) (mD rfl e1) ⟨rfl,rfl⟩) ?_
   rintro v h' ⟨rfl,rfl⟩
   have zW:=J.many
   obtain ⟨Uu,h2,e2,s2⟩:=g_ (s1.ae [3,0]) cM jk As iE (by omega) rfl (by decide) (by simp only [eH,aH,bM]; omega)
   refine aA.any rfl rfl rfl rfl (OpR.of (R:=fun v h'=>v=Uu∧h'=h2) (mH rfl rfl e2) ⟨rfl,rfl⟩) ?_
   rintro v h' ⟨rfl,rfl⟩
   have hv:=s2.lD (j:=0) rfl
   refine zN rfl (zF rfl (jj _ _) (aA.j6 rfl rfl rfl (OpR.vm rfl rfl rfl (s2.gO (k:=2) rfl T5 rfl (by decide) hv.1 hv.2.1)) ?_))
   rintro v h ⟨rfl,s⟩
   refine aA.nil ⟨⟨fun _ _=>.inr ⟨rfl,⟨_,bF rfl⟩,aS _ rfl⟩,fun _ _=>.inr ⟨rfl,⟨_,bF rfl⟩,aS _ rfl⟩,fun _ _=>.inr ⟨rfl,⟨_,ni rfl⟩,aS _ rfl⟩,fun _ _=>.inr ⟨rfl,⟨_,jS rfl (jj _ _)⟩,aS _ rfl⟩,dB (.inr ⟨rfl,⟨_,aR rfl (s0.ld (k:=0) rfl pS rfl)⟩,FP⟩) (.inr ⟨rfl,⟨_,aR rfl (s1.ld (k:=1) rfl pS rfl)⟩,FP⟩),aa,aa,aa,aa,aa,aa,aa,aa,aa,aa,aa⟩,?_⟩
   refine zK 5 rfl (zf rfl (jM _ _) (zl rfl (s.ld (k:=2) rfl cS rfl) (zm rfl (az.any rfl rfl rfl (OpR.oU rfl (s.ae [3,3]) (bz _ _) rfl rfl rfl rfl (by have:=J.len; omega)) ?_))))
   intro Z_ h s
   have hv:=(s.buf (k:=0) rfl).view.cells
   refine zn rfl (zf rfl (jM _ _) (zS rfl (s.gO (k:=4) rfl jT rfl (by decide) hv.1 hv.2) ?_))
   intro h s
   refine zk 7 rfl (WP.ret ⟨aa,_,rfl,?_⟩)
   refine .inr (.inr ⟨hg,BP,hd,I,h0,rfl,dr.2 ⟨Z_,v,?_⟩⟩)
   have s:=(((s.ae [4,0,1]).del 4).del 3).del 7
   have e:dH (μ.app rc).bD=dH μ.bD++[.int .i64 (μ.b.length:Int)]:=by simp [Lg.app,dH]
   rw [e]
   exact s
end
end Go.Proofs.YtefepnnfphdkpaaGreat.Am
