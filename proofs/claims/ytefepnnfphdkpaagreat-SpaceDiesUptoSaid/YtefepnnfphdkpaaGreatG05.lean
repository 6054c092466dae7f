/- SpaceDies: a part of its proof; conditions: its statement's. -/
import Derived.Test.YtefepnnfphdkpaaGreatG04
set_option linter.defProp false
namespace Go.Proofs.YtefepnnfphdkpaaGreat.Am
open Go
def mo:=@Tryz.underlying26
def rY:=@Tryz.underlying24
def Ir:=@Tryz.func145
def Is:=@Tryz.func84
def It:=@Tryz.underlying270
variable {X Y:aO} {δ:Dk} {ε ah:aZ} {es:cm} {Q:Ex→List (Nat×V)→H→Prop} {f:Fm} {h:H} {e n pg:Int} {μ:Lg} {d:List (Int×(Nat×Bool))} {now bR:List (Int×List Nat)} {E:List (Nat×V)} {S:List aO} {cs:List cn} {ks:List Int} {seen b l data d_ GY:List Nat} {c r k q c8 id j i a g aB o aM tx pv nx acc:Nat} {y:Operand} {π bN:Pl} {P:Program} {α:Type} {t kt et:TypeId} {x wh di u kv dt:V}
def og : V→Bool
 |.agg [_,.bool b]=>b
 |_=>true
def ny (seen:List Nat)(e:Int×V×Nat): Bool := !inL seen e.2.2||og e.2.1
theorem MR : ∀ {l:cm},leftV seen ((l.filter (ny seen)).map eP)=leftV seen (l.map eP):=by
 intro l
 induction l<;>grind[eP,ny,leftV]
theorem MS {b:Nat}: ∀ {l:cm},(∀e∈l,e.2.2≠b)→leftV (seen++[b]) (l.map eP)=leftV seen (l.map eP):=by
 intro l
 induction l<;>grind[eP,leftV,mj,eD]
theorem MT : ∀ {l:cm} {b:Nat} {e:Int×V×Nat},fh c b l→e∈l→inL seen e.2.2=false→(leftV (seen++[e.2.2]) (l.map eP)).length+1=(leftV seen (l.map eP)).length:=by
 intro l
 induction l with
 |nil=>simp
 |cons y l ih =>
  intro b e I he hs
  have hm:(eP y).2.2=y.2.2:=rfl
  rcases List.mem_cons.1 he with rfl|he
  ·simp only[iu,leftV,hm,mj,hs,gZ,Bool.or_true,aj,a_,aX]
   rw[MS fun e' J=>by have:=pE I.2.2 e' J;omega]
  ·have:=pE I.2.2 e he
   have:=ih I.2.2 he hs
   grind[leftV,mj,eD]
theorem Sj : ∀ {l:cm},(∀e∈l,inL seen e.2.2=true)→l.filter (ny seen)=l.filter (fun e=>og e.2.1):=by
 grind[List.filter_congr,ny]
theorem Sk {l:cm}: l.filter (ny [])=l:=List.filter_eq_self.2 fun e _=>rfl
theorem Sl {l:cm}{e:Int×V×Nat}{b:Nat}(hb:fh c b l)(he:e∈l)(hf:og e.2.1=true): l.filter (ny (seen++[e.2.2]))=l.filter (ny seen):=by
 refine AE fun e' J => ?_
 simp only[ny,mj]
 by_cases h:e.2.2=e'.2.2
 ·have I:=qC hb he
  have h2:=qC hb J
  rw[h,h2] at I
  have h3:e'.2.1=e.2.1:=by injection I with I;injection I with _ I;rw[I]
  rw[h3,hf];simp
 ·rw[eD h,Bool.or_false]
theorem VV : ∀ {l:cm},(l.map (·.1)).Nodup→nm n l=l.filter (fun e=>decide (e.1≠n)):=by
 intro l
 induction l<;>grind[nm,List.filter_eq_self]
theorem VW {l:cm}{e:Int×V×Nat}{b:Nat}(hb:fh c b l)(hn:(l.map (·.1)).Nodup)(he:e∈l)(hf:og e.2.1=false)(hs:inL seen e.2.2=false):
  l.filter (ny (seen++[e.2.2]))=nm e.1 (l.filter (ny seen)):=by
 rw[VV (hn.sublist ((List.filter_sublist).map _)),List.filter_filter]
 refine AE fun I CK => ?_
 simp only[ny,mj]
 have acy:e.1=I.1↔e.2.2=I.2.2:=by
  have key:∀ {l:cm} {b:Nat},fh c b l→(l.map (·.1)).Nodup→e∈l→I∈l→(e.1=I.1↔e.2.2=I.2.2):=by
   intro l
   induction l with
   |nil=>simp
   |cons y l ih =>
    intro b hb hn J h2
    simp only[iu,Ej] at hn
    rcases List.mem_cons.1 J with q1|h3<;>rcases List.mem_cons.1 h2 with q2|h4
    ·grind
    ·have:=pE hb.2.2 I h4
     grind
    ·have:=pE hb.2.2 e h3
     grind
    ·exact ih hb.2.2 hn.2 h3 h4
  exact key hb hn he CK
 by_cases h:e.2.2=I.2.2
 ·have J:=qC hb he
  have h2:=qC hb CK
  rw[h,h2] at J
  have h3:I.2.1=e.2.1:=by injection J with J;injection J with _ J;rw[J]
  grind[Nat.beq_refl]
 ·grind[eD]
theorem z_ {f:Int×V×Nat→Bool}: ∀ {l:cm} {b:Nat},fh c b l→fh c b (l.filter f):=by
 intro l
 induction l with
 |nil=>simp
 |cons e l I =>
  intro b h
  simp only[Ed]
  split
  ·exact⟨h.1,h.2.1,I h.2.2⟩
  ·exact Dg (by have:=h.1;omega) (I h.2.2)
section
variable {told:dc} {p:Nat} {v:V} {m:List Fm}
theorem aap {n:Nat}{cs l:List V}(J:T.get h.tr id=some (.cells n cs false))(hs:bJ P t=some l.length)(hl:cs.length=n)(hn:l.length=n)(I:l.all storable=true):
  hG P h t (.ptr id 0) (.agg l)=some (h.put id (some (.cells n l false))):=by
 grind[hG,V.cells,Nat.beq_refl,wrN,bg]
theorem VX {k:IntKind}{l:cm}{u:TypeId}(s:Sat h S)(hj:getA S j=some (gv id l c))(hu:P.underlying t=some (.map kt et))(hk:P.underlying kt=some (.int k)):
  ∃v h',builtinV P h .delete #[t,u] [.map id,.int .i64 n]=some (v,h')∧(fun(_:V) (h':H)=>h'.next=h.next∧(∀i,i≠id→T.get h'.tr i=T.get h.tr i)∧Sat h' (setA S j (gv id (nm n l) c))) v h':=by
 have hg:=s.row hj
 have key:∃h',m_ P h t (.map id) (.int .i64 n)=some h'∧h'.next=h.next∧(∀i,i≠id→T.get h'.tr i=T.get h.tr i)∧Sat h' (setA S j (gv id (nm n l) c)):=by
  obtain⟨h',I,J⟩:=s.delete (n:=n) hj hu hk
  refine⟨h',I,?_⟩
  simp only[m_,hu,hk,hg,keyBeq,dD,aj,ru] at I
  cases hq:idxE n l 0 with
  |none =>
   grind
  |some q =>
   rw[hq] at I
   simp only[aC] at I
   subst I
   exact⟨rfl,fun i hi=>by rw[dP,ak hi],J⟩
 obtain⟨h',I,J⟩:=key
 refine⟨.bf [],h',?_,J⟩<;>grind[builtinV]
theorem Sn (I:W told){a:Int}{b:Bool}: Call ⟨Tryz.prog,told⟩ 146 [.int .i64 n,.agg [.int .u64 a,.bool b]] h fun v h'=>v=.bool (!b)∧h'=newRow h [.int .u64 a,.bool b]:=by
 refine Call.of_wp (I.free _ rfl) Tryz.func146 rfl rfl (zg rfl (zo rfl (fg rfl rfl) (zk 4 rfl (zf rfl (EO _ _) (zl rfl (OI (off:=1) (n:=2) (cs:=[.int .u64 a,.bool b]) (st:=false) jK (by grind[newRow,V.cells,gB]) rfl) ?_)))))
 exact zo rfl (dQ rfl rfl) (zk 2 rfl (WP.ret ⟨aa,_,rfl,rfl,rfl⟩))
noncomputable def dfA : Code:=cD [0] ((Tryz.f145.body).getD .skip)
noncomputable def Yy : Code:=cD [1,0,0,0] ((Tryz.f145.body).getD .skip)
noncomputable def dfD : Code:=cD [1,0,0,1,1,0] ((Tryz.f145.body).getD .skip)
theorem Sq : Tryz.f145.body=some (.seq dfA (.block 0 (.loop (.seq Yy (.seq (.cond (.tmp 9) .skip (.exit 0)) (.block 1 dfD)))))):=rfl
theorem VY : ∃id I J,Yy=.region id #[I,J] false∧I.guard=none∧J.guard=none∧I.op=.next (.tmp 7) false∧I.dst=some 8∧J.op=.extract (.tmp 8) 0∧J.dst=some 9:=⟨_,_,_,rfl,rfl,rfl,rfl,rfl,rfl,rfl⟩
abbrev rZ : V:=.fn (.func 146) [] []
def dfJ (h₀:H)(it mid clock:Nat)(es:cm)(S:List aO)(j:Nat)(E:List (Nat×V))(h:H): Prop :=
 ∃seen,Has E [(0,.map mid),(1,rZ),(7,.ptr it 0)]∧j=(leftV seen (es.map eP)).length∧h.next+2*j=h₀.next+1+2*es.length∧(∀i,i<h₀.next→i≠mid→i≠it→T.get h.tr i=T.get h₀.tr i) ∧
  Sat h (pt it (.iter mid clock clock seen)::gv mid (es.filter (ny seen)) clock::S)
theorem Sr {h₀:H}{it mid clock:Nat}(z6:it<h₀.next+1)(hb:fh clock 0 es)(hn:(es.map (·.1)).Nodup)(hv:∀e∈es,∃a b,e.2.1=.agg [.int .u64 a,.bool b])(h0:dfJ h₀ it mid clock es S j E h):
  WPO CB 19 (.loop (.seq Yy (.seq (.cond (.tmp 9) .skip (.exit 0)) (.block 1 dfD)))) E h fun ex E' h'=>ex=.exit 0∧h'.next=h₀.next+1+2*es.length∧(∀i,i<h₀.next→i≠mid→i≠it→T.get h'.tr i=T.get h₀.tr i) ∧
   ∃seen,Sat h' (pt it (.iter mid clock clock seen)::gv mid (es.filter (fun e=>og e.2.1)) clock::S):=by
 refine WPO.loop (dfJ h₀ it mid clock es S) ?_ h0
 rintro j E h ⟨seen,hE,rfl,yt,hs,s⟩
 have g1:=s.row (k:=0) rfl
 have g2:=s.row (k:=1) rfl
 have ot:=z_ (f:=ny seen) hb
 obtain⟨id,LQ,JC,q0,q1,q2,q3,q4,q5,q6⟩:=VY
 refine WPO.seq ?_
 rw[q0]
 have hL:=next_at g1 (aU _) g2 ot
 refine WPO.next iD fQ q1 q2 q3 q4 q5 rfl q6 rfl rfl (r:=it) ?_ hL fun q hq => ?_
 ·exact hE.2.2.1
 ·rcases Ip g1 (aU _) g2 ot hL q hq with⟨rfl,sD⟩|⟨e,he,Uw,_,rfl⟩
  ·have acz:∀e∈es,inL seen e.2.2=true:=fun e he=>by
    grind[ny]
   have xk:leftV seen (es.map eP)=[]:=by
    grind[MR]
   refine⟨.bool false,[],rfl,?_⟩
   refine WPO.seq (WPO.cond (t:=false) rfl ?_)<;>grind[WPO.of,iD,fQ,WP.exit,Sj]
  ·refine⟨.bool true,_,rfl,?_⟩
   refine WPO.seq (WPO.cond (t:=true) rfl ?_)
   refine WPO.of iD fQ (WP.skip ?_)
   refine WPO.block (WPO.of iD fQ ?_)
   have I:=(List.mem_filter.1 he).1
   have sV:=MT hb I Uw
   have s:=s.put (o':=.iter mid clock clock (seen++[e.2.2])) (k:=0) rfl
   have hs:∀i,i<h₀.next→i≠mid→i≠it→T.get (h.put it (some (.iter mid clock clock (seen++[e.2.2])))).tr i=T.get h₀.tr i:=fun i h1 h2 h3=>by grind[dP]
   have yt:(h.put it (some (.iter mid clock clock (seen++[e.2.2])))).next+2*(leftV seen (es.map eP)).length=h₀.next+1+2*es.length:=yt
   have hle:h₀.next≤(h.put it (some (.iter mid clock clock (seen++[e.2.2])))).next:=by
    have:(leftV seen (es.map eP)).length≤(es.map eP).length:=by
     have:∀l:List (V×V×Nat),(leftV seen l).length≤l.length:=by
      intro l
      induction l<;>grind[leftV]
     exact this _
    grind
   generalize h.put it (some (.iter mid clock clock (seen++[e.2.2])))=h' at s hs yt hle
   have g1:=s.row (k:=0) rfl
   have g2:=s.row (k:=1) rfl
   obtain⟨a,b,oH⟩:=hv e I
   have J:=Io g1 g2 ot he
   rw[oH] at J
   refine WP.has (F:=[(0,.map mid),(1,rZ),(7,.ptr it 0),(9,.bool true)]) ⟨hE.1,hE.2.1,hE.2.2.1,rfl,aa⟩ (zg rfl (ay.any rfl rfl rfl (OpR.entry rfl rfl J) ?_))
   rintro v h ⟨rfl,rfl⟩
   refine zk 2 rfl (zo rfl (bU xB) ?_)
   have s1:=s.new (.cells 2 [.int .u64 0,.bool false] false)
   have e1:=aap (P:=Tryz.prog) (t:=199) (l:=[.int .u64 a,.bool b]) (s1.row (k:=0) rfl) u5 rfl rfl rfl
   have s2:=s1.put (o':=.cells 2 [.int .u64 a,.bool b] false) (k:=0) rfl
   refine za rfl (ay.T1 rfl rfl (wF rfl rfl e1) (zk 5 rfl (zl rfl (s2.bZ (k:=0) rfl Mx u5) (zc rfl (Sn W.base (n:=e.1) (a:=a) (b:=b)) ?_))))
   rintro v h'' ⟨rfl,rfl⟩
   have s3:=s2.new (.cells 2 [.int .u64 a,.bool b] false)
   have mS:∀i,i<h₀.next→i≠mid→i≠it→T.get (newRow ((h.new (.cells 2 [.int .u64 0,.bool false] false)).put h.next (some (.cells 2 [.int .u64 a,.bool b] false))) [.int .u64 a,.bool b]).tr i=T.get h₀.tr i:=fun i h1 h2 h3=>by
    rw[newRow,gB,ak (by show i≠h.next+1;omega),dP,ak (by omega),gB,ak (by omega)]
    exact hs i h1 h2 h3
   refine zv ?_
   refine WP.split rfl ?_ ?_
   ·intro hq
    have tU:b=false:=by grind
    subst tU
    have s4:=(s3.ae [2,2])
    refine zK 3 rfl (ay.iB rfl rfl (OpR.builtin rfl rfl rfl (VX (n:=e.1) s4 (j:=1) rfl uq bF)) ?_)
    rintro v h5 ⟨k1,k2,k3⟩
    refine zv ?_
    refine⟨_,?_,seen++[e.2.2],⟨rfl,rfl,rfl,aa⟩,rfl,?_,?_,?_⟩
    ·omega
    ·rw[k1]
     show h.next+1+1+_=_
     omega
    ·grind
    ·rw[VW hb hn I (by rw[oH];rfl) Uw]
     exact(k3.del 3).del 2
   ·intro hq
    have tU:b=true:=by grind
    subst tU
    refine WP.skip ?_
    refine⟨_,?_,seen++[e.2.2],⟨rfl,rfl,rfl,aa⟩,rfl,?_,mS,?_⟩
    ·omega
    ·show h.next+1+1+_=_
     omega
    ·rw[Sl hb I (by rw[oH];rfl)]
     exact(s3.del 1).del 0
end
def Iu (args:List V)(h:H)(r:V×H): Prop:=∃(mid:Nat) (es:cm) (clock:Nat),args=[.map mid,rZ]∧T.get h.tr mid=some (.map (es.map eP) clock) ∧
 r=(.bf [],⟨h.next+1+2*es.length,(h.put mid (some (.map ((es.filter (fun e=>og e.2.1)).map eP) clock))).tr⟩)
structure W2 (told:dc): Prop where
 w:W told
 sync:told 139=some (kE Tryz.prog 139 EY)
 del:told 145=some (kE Tryz.prog 145 Iu)
theorem Lf : ∀ {l m:cm},l.map eP=m.map eP→l=m:=by
 intro l
 induction l with
 |nil=>intro m h;cases m with
  |nil=>rfl
  |cons _ _=>cases h
 |cons e l J=>intro m h;cases m with
  |nil=>cases h
  |cons x m =>
   simp only[iu,List.cons.injEq] at h
   obtain⟨I,h2⟩:=h
   rw[J h2]
   obtain⟨e1,e2⟩:=e
   obtain⟨x1,x2⟩:=x
   simp only[eP,bL,V.int.injEq,true_and] at I
   rw[I.1,I.2]
theorem MU {a b:PM}: ∀ {l:cm} {m:List (Int×(Nat×Bool))},(eV (fun v x=>.pu (v=.agg [.int .u64 (x.1:Int),.bool x.2])) l m).p a b →
  (eV (fun v x=>.pu (v=.agg [.int .u64 (x.1:Int),.bool x.2])) (l.filter fun e=>og e.2.1) (m.filter fun e=>e.2.2)).p a b:=by
 intro l
 induction l with
 |nil=>intro m h;cases m with
  |nil=>exact h
  |cons _ _=>exact h.elim
 |cons e l I=>intro m h;cases m with
  |nil=>exact h.elim
  |cons x m =>
   obtain⟨⟨h1,J⟩,h3⟩:=h
   have h4:e.2.1=.agg [.int .u64 (x.2.1:Int),.bool x.2.2]:=J
   have hf:og e.2.1=x.2.2:=by rw[h4];rfl
   simp only[Ed,hf]
   split
   ·exact⟨⟨h1,J⟩,I h3⟩
   ·exact I h3
def Dk.dO (δ:Dk): Int×Dk:=if δ.dead=true then(9,δ) else if δ.aS=0 then(9,δ.die) else(0,δ.cY.sync)
section
variable {told:dc} {p:Nat} {v:V} {m:List (Int×(Nat×Bool))}
theorem uy {a b:Obj}(J:T.get h.tr id=some a)(I:T.get h.tr id=some b): a=b:=by rw[J] at I;exact cx I
theorem Lh (hT:W2 told)(s:Sat h (aR p δ::S))(ob:δ.Ok)(hk:∀e∈δ.now,0≤e.1∧e.1<δ.aq.length): Call ⟨Tryz.prog,told⟩ 139 [.ptr p 0] h fun v h'=>v=.int .i64 δ.dO.1∧Sat h' (aR p δ.dO.2::S):=by
 obtain⟨r,h1,h2⟩:=Pv s ob hk
 obtain⟨r,h3,h4⟩:=vg h1 h2
 refine⟨r.1,r.2,h_.told hT.sync zQ rfl h3,?_⟩
 clear h1 h2 h3
 obtain⟨p',cs,e1,gp',h4⟩:=h4
 injection e1 with e1 _
 injection e1 with e1 _
 subst e1
 obtain⟨pg,wt,nw,lg,mk,tn,tl,ops,s1⟩:=bE.1 s
 have gp:=s1.row (k:=0) rfl
 have e2:=uy gp gp'
 injection e2 with _ e2 _
 subst e2
 rcases h4 with⟨hd,rfl⟩|⟨hd,v1,h1,yT,h4⟩
 ·have hd:δ.dead=true:=by injection (cx hd)
  simp only[Dk.dO,aJ hd]
  exact⟨aa,s⟩
 ·have hd:δ.dead=false:=by injection (cx hd)
  obtain⟨v2,h2,abr,hR⟩:=qb W.base s ob.aS
  obtain⟨rfl,rfl⟩:=h_.det yT abr
  simp only[Dk.dO,hd,kM,fM]
  rcases hR with⟨h0,rfl,s2⟩|⟨h0,rfl,s2⟩
  ·rcases h4 with⟨_,rfl⟩|⟨hv,_⟩
   ·rw[aJ h0];exact⟨rfl,s2⟩
   ·cases hv
  ·rcases h4 with⟨hv,_⟩|⟨_,cs,im,N,row,mid,es,clock,g0,c1,c3,g1,g2,rfl⟩
   ·cases hv
   ·rw[ak h0]
    refine⟨rfl,?_⟩
    obtain⟨pg,wt,nw,lg,mk,tn,tl,ops,s3⟩:=bE.1 s2
    obtain⟨im',row',rfl,s4⟩:=gH.1 (s3.ae [1])
    obtain⟨J,es',I,rfl,hb,hn,s5⟩:=eH.1 (s4.ae [4])
    have s6:=s5.ae [4,2,0,0,0,0]
    have e3:=uy (s6.row (k:=0) rfl) g0
    injection e3 with _ e3 _
    subst e3
    have c1:=cx c1
    injection c1 with c1 _ c2 _
    subst c1;subst c2
    have c3:=cx c3
    injection c3 with c3
    subst c3
    have e4:=uy (s6.row (k:=1) rfl) g1
    injection e4 with _ e4 _
    subst e4
    have e5:=uy (s6.row (k:=2) rfl) g2
    injection e5 with e5 e6
    have e5:=Lf e5
    subst e5;subst e6
    have s7:=s6.new (.iter J I I [])
    have s8:=s7.put (o':=.cells δ.cY.aq.length (nI es' row') false) (k:=2) rfl
    have s9:=s8.put (o':=.cells 12 (List.set (wL δ.cY.room (.sl im' 0 δ.cY.aq.length (.exact δ.cY.aq.length)) wt (.map J) lg δ.cY.bh mk δ.cY.aS ops δ.cY.dead tn tl) 2 .bC) false) (k:=1) rfl
    have s10:=s9.put (o':=.map [] I) (k:=3) rfl
    have s11:=s10.kill
    have s12:Sat _ (each k_ row' δ.cY.aq::eV (fun v b=>.cg v b) es' δ.cY.now::_):=s11.ae [4,3]
    have s13:=s12.two (C:=each k_ (nI es' row') (laidP δ.cY.now δ.cY.aq)) (aY.each aY.k_ _ _) (aY.HR (fun _ _=>aY.cg _ _) _ _) fun a b q1 q2=>J_ q2 (fun e he=>by
     have:=ob.now e he
     rintro hq;rw[hq] at this;simp at this) q1
    have s14:=(eH (f:=fun v b=>.cg v b) (v:=.map J) (m:=([]:List (Int×List Nat)))).2 ⟨J,[],I,rfl,aa,kO,((s13.ae [3]).gM aa).ae [1,0]⟩
    have hlen:(laidP δ.cY.now δ.cY.aq).length=δ.cY.aq.length:=nJ
    have s15:=gH.2 ⟨im',nI es' row',rfl,by rw[hlen];exact s14.ae [3,1]⟩
    rw[hlen] at s15
    have s16:=(mD (v:=.bC) (m:=[])).2 ⟨[],((s15.del 3).gM aa).oO⟩
    exact bE.2 ⟨_,_,_,_,_,_,_,ops,s16.ae [3,1,0,0]⟩
theorem Ss (s:Sat h (Dv di m::S)): ∃r,Iu [di,rZ] h r∧∀(c:Ctx) (w:World),Rel c h w→(∀x∈[di,rZ],wf c x)→gq Tryz.prog 145 [di,rZ] c w r.1 r.2:=by
 obtain⟨mid,es,clock,rfl,hb,hn,s1⟩:=eH.1 s
 have gm:=s1.row (k:=0) rfl
 obtain⟨a,b,_,_,q3⟩:=s1.at (k:=1) rfl
 have I:=tc q3
 have hv:∀e∈es,∃a b,e.2.1=.agg [.int .u64 a,.bool b]:=fun e he=>by
  obtain⟨x,_,k2⟩:=z8 q3 e he
  exact⟨_,_,k2⟩
 refine⟨_,⟨mid,es,clock,rfl,gm,rfl⟩,fun c w hr ha => ?_⟩
 refine gq.Dy (C:=CB) (args:=[.map mid,rZ]) Ir Sq (show 2≤Tryz.f145.ntmps by decide) ?_ hr ha
 refine WPO.seq (WPO.of iD fQ ?_)
 have s:=s1
 refine zK 2 rfl (ay.any rfl rfl rfl (OpR.range rfl rfl (show rangeV Tryz.prog h 187 (.map mid)=some (.ptr h.next 0,h.new (.iter mid clock clock [])) by simp only[rangeV,uq,gm])) ?_)
 rintro v h' ⟨rfl,rfl⟩
 refine zv ?_
 have s7:=s.new (.iter mid clock clock [])
 refine WPO.block ((Sr (h₀:=h) (es:=es) (it:=h.next) (mid:=mid) (clock:=clock) (S:=eV (fun v (x:Nat×Bool)=>.pu (v=.agg [.int .u64 (x.1:Int),.bool x.2])) es m::S) (by omega) hb (by rw[I];exact hn) hv ⟨[],⟨rfl,rfl,rfl,aa⟩,rfl,?_,?_,?_⟩).mono ?_)
 ·have:(leftV [] (es.map eP)).length=es.length:=by
   have:∀l:List (V×V×Nat),leftV [] l=l:=by
    intro l
    induction l with
    |nil=>rfl
    |cons y l ih=>simp only[leftV,inL,a_,ih]
   rw[this,jw]
  rw[this]
  rfl
 ·intro i J h2 h3
  rw[gB,ak h3]
 ·rw[Sk];exact s7
 ·rintro ex E' h' ⟨rfl,yt,hs,seen,s'⟩
  refine⟨aa,rfl,yt.symm,fun id o ho => ?_⟩
  rw[dP] at ho
  by_cases J:id=mid
  ·rw[aJ J] at ho;rw[J,s'.row (k:=1) rfl];exact ho
  ·rw[ak J] at ho
   have:=s.wf id o ho
   rw[hs id this J (by omega)]
   exact ho
theorem Yz (hT:W2 told)(s:Sat h (Dv di m::S)): Call ⟨Tryz.prog,told⟩ 145 [di,rZ] h fun v h'=>v=.bf []∧Sat h' (Dv di (m.filter fun e=>e.2.2)::S):=by
 obtain⟨r,h1,h2⟩:=Ss s
 obtain⟨r,h3,h4⟩:=vg h1 h2
 refine⟨r.1,r.2,h_.told hT.del Ir rfl h3,?_⟩
 clear h1 h2 h3
 obtain⟨mid,es,clock,e1,g1,rfl⟩:=h4
 injection e1 with e1 _
 subst e1
 refine⟨rfl,?_⟩
 obtain⟨acR,es',I,e2,hb,hn,s1⟩:=eH.1 s
 injection e2 with e2
 subst e2
 have J:=uy (s1.row (k:=0) rfl) g1
 injection J with J e4
 have J:=Lf J
 subst J;subst e4
 have s2:Sat h (eV _ es' m::gv mid es' I::S):=s1.ae [1]
 have s3:=s2.gX (B:=eV (fun v x=>.pu (v=.agg [.int .u64 (x.1:Int),.bool x.2])) (es'.filter fun e=>og e.2.1) (m.filter fun e=>e.2.2)) fun a b q=>MU q
 have s4:=s3.put (o':=.map ((es'.filter fun e=>og e.2.1).map eP) I) (k:=1) rfl
 have s5:=s4.lU (k:=1+2*es'.length) (h':=⟨h.next+1+2*es'.length,(h.put mid (some (.map ((es'.filter fun e=>og e.2.1).map eP) I))).tr⟩)
  ⟨fun id o ho=>by have h1:=s4.wf id o ho;have h2:(h.put mid (some (.map ((es'.filter fun e=>og e.2.1).map eP) I))).next=h.next:=rfl;show id<h.next+1+2*es'.length;omega,
   by show h.next≤h.next+1+2*es'.length;omega,by show h.next+1+2*es'.length≤h.next+(1+2*es'.length);omega,fun _ _ _=>rfl⟩
 exact eH.2 ⟨mid,es'.filter (fun e=>og e.2.1),I,rfl,z_ hb,hn.sublist ((List.filter_sublist).map _),s5.ae [1,0]⟩
def dJ (π:Pl)(δ:Dk): Int×Pl×Dk:=if δ.dO.1≠0 then(δ.dO.1,π,δ.dO.2) else(0,{ π with bq:=π.bq.filter fun e=>e.2.2 },δ.dO.2)
theorem Su (I:W2 told)(s:Sat h (dK r p q π::aR p δ::S))(J:δ.Ok)(hk:∀e∈δ.now,0≤e.1∧e.1<δ.aq.length):
  Call ⟨Tryz.prog,told⟩ 93 [.ptr r 0] h fun v h'=>v=.int .i64 (dJ π δ).1∧Sat h' (dK r p q (dJ π δ).2.1::aR p (dJ π δ).2.2::S):=by
 obtain⟨c8,wh,di,s⟩:=dV.1 s
 refine Call.of_wp (I.w.free _ rfl) Tryz.func93 rfl rfl (zK 9 rfl (zY s 0 wK o9 rfl (zc rfl (Lh I (s.ae [4]) J hk) ?_)))
 rintro v h ⟨rfl,s⟩
 refine zk 5 rfl ?_
 by_cases he:δ.dO.1=0
 ·skip
  refine zC rfl aD (by simp;exact he) ?_
  refine zk 7 rfl (zY s 1 q_ xA rfl (zc rfl (Yz I (s.ae [4])) ?_))
  rintro v h ⟨rfl,s⟩
  refine zk 5 rfl (WP.ret ⟨aa,_,rfl,?_⟩)
  rw[dJ,ak (by simpa using he)]
  exact⟨rfl,(dV.2 ⟨c8,wh,di,s.ae [2,2,2,0,0]⟩)⟩
 ·skip
  refine zB rfl aD (by simp;exact he) ?_
  refine zk 7 rfl (WP.ret ⟨aa,_,rfl,?_⟩)
  rw[dJ,aJ he]
  exact⟨rfl,(dV.2 ⟨c8,wh,di,s.ae [1,1,1,1,0]⟩)⟩
end
theorem fT.ai (I:fT π bN): ∀g∈bN.ai,∃f∈π.ai,∃t,g={ f with gh:=t }:=by
 intro g hg
 obtain⟨i,hi,rfl⟩:=List.mem_iff_getElem.1 hg
 have hf:π.ai[i]?=some (π.ai[i]'(by rw[←I.len];exact hi)):=bA _
 obtain⟨t,J⟩:=I.get i _ hf
 rw[bA hi] at J
 exact⟨_,AH _,t,cx J⟩
theorem fT.ok (I:fT π bN)(h:π.Ok)(hh:bN.hand<bN.ai.length): bN.Ok:=by
 refine⟨hh,by rw[I.len];exact h.many,by rw[I.aG,I.len];exact h.aG,fun g J => ?_,fun g J => ?_⟩
 ·obtain⟨f,hf,t,rfl⟩:=I.ai g J
  exact h.len f hf
 ·obtain⟨f,hf,t,rfl⟩:=I.ai g J
  exact h.pins f hf
theorem Pl.Ok.set {w:List (Int×Int)}(h:π.Ok)(hw:∀e∈w,0≤e.2∧e.2<π.ai.length)(J:f.b.length≤512)(hp:0≤f.pins∧f.pins≤4294967296): Pl.Ok { π with ai:=π.ai.set i f,aG:=w,bq:=d }:=by
 refine⟨by simp only[bY];exact h.hand,by simp only[bY];exact h.many,fun e he=>by simp only[bY];exact hw e he,fun g I => ?_,fun g I => ?_⟩
 ·rcases mV I with I|rfl
  ·exact h.len g I
  ·exact J
 ·rcases mV I with I|rfl
  ·exact h.pins g I
  ·exact hp
theorem VZ : ∀ {l:List (Int×α)} {e:Int×α},e∈oD n l→e∈l:=by
 intro l
 induction l with
 |nil=>intro e h;exact h
 |cons x l I =>
  intro e h
  simp only[oD] at h
  split at h
  ·exact b5 _ h
  ·rcases List.mem_cons.1 h with rfl|h
   ·exact b7
   ·exact b5 _ (I h)
theorem V0 {x:α}: ∀ {l:List (Int×α)} {e:Int×α},e∈cG n x l→e=(n,x)∨e∈l:=by
 intro l
 induction l with
 |nil=>intro e h;simp only[cG,List.mem_singleton] at h;exact .inl h
 |cons y l I =>
  intro e h
  simp only[cG] at h
  split at h
  ·rcases List.mem_cons.1 h with rfl|h
   ·exact .inl rfl
   ·exact .inr (b5 _ h)
  ·rcases List.mem_cons.1 h with rfl|h
   ·exact .inr b7
   ·rcases I h with h|h
    ·exact .inl h
    ·exact .inr (b5 _ h)
theorem Ch (h:π.Ok): (dN π i f).Ok:=by
 unfold dN
 refine h.set (fun e he => ?_) (by simp[fq]) (by simp[fq])
 split at he
 ·exact h.aG e he
 ·exact h.aG e (VZ he)
theorem fC.ok (hr:fC ε n e b ah)(h:rB ε)(hp:∀f∈ε.1.ai,f.pins=0): rB ah:=by
 cases hr with
 |arg _=>exact h
 |z6 i f h1 h2 hl hf =>
  have hm:=bI hf
  exact⟨h.pl.set h.pl.aG (h.pl.len f hm) (by have:=hp f hm;simp only;omega),h.lg,h.dk⟩
 |out bN i f h1 h2 hl I hf J he=>exact rC (ε:=(bN,ε.2)) ⟨I.ok h.pl J,h.lg,h.dk⟩
 |read bN i f h1 h2 hl I hf J he hr =>
  have:=rC (i:=i) (ε:=(bN,ε.2)) ⟨I.ok h.pl J,h.lg,h.dk⟩
  exact⟨Ch this.pl,this.lg,this.dk⟩
 |bad bN i f h1 h2 hl I hf J he hr hc =>
  have:=rC (i:=i) (ε:=(bN,ε.2)) ⟨I.ok h.pl J,h.lg,h.dk⟩
  exact⟨Ch this.pl,this.lg,this.dk⟩
 |load bN i f h1 h2 hl I hf J he hr hc =>
  have:=rC (i:=i) (ε:=(bN,ε.2)) ⟨I.ok h.pl J,h.lg,h.dk⟩
  have h3:=Ch (i:=i) (f:=f) this.pl
  have hlen:i<(dN (outF (bN,ε.2) i).2.1 i f).ai.length:=by
   obtain⟨c,hc⟩:=od (ε:=(bN,ε.2)) hf
   have:=(List.getElem?_eq_some_iff.1 hc).1
   simpa[dN] using this
  refine⟨h3.set (fun e he => ?_) (by simp only;rw[this.dk.at];omega) (by simp),this.lg,this.dk⟩
  rcases V0 he with rfl|he
  ·simp only;omega
  ·exact h3.aG e he
theorem FZ (h:π.Ok): (unpinF π n).2.Ok:=by
 unfold unpinF
 split
 ·exact h
 ·rename_i i hi
  split
  ·exact h
  ·rename_i f I
   have hm:=bI I
   refine h.set h.aG (h.len f hm) ?_
   have:=h.pins f hm
   have J:f.pins≠0:=by
    unfold heldI at hi
    split at hi
    ·cases hi
    ·split at hi
     ·cases hi
     ·rename_i g hg
      split at hi
      ·cases hi
      ·rename_i hp
       have:=cx hi
       subst this
       rw[hg] at I
       have:=cx I
       subst this
       exact hp
   simp only;omega
inductive mq (ε:aZ)(n:Int): Int→List Nat→aZ→Prop where
 |dead (h:ε.2.2.dead=true):mq ε n 9 [] ε
 |jt (e:Int) (b:List Nat) (ah:aZ) (h:ε.2.2.dead=false) (hr:fC ε n e b ah) (he:e≠0):mq ε n e [] ah
 |th (b:List Nat) (ah:aZ) (h:ε.2.2.dead=false) (hr:fC ε n 0 b ah) (he:(unpinF ah.1 n).1≠0):mq ε n (unpinF ah.1 n).1 [] ((unpinF ah.1 n).2,ah.2)
 |read (b:List Nat) (ah:aZ) (h:ε.2.2.dead=false) (hr:fC ε n 0 b ah) (he:(unpinF ah.1 n).1=0):mq ε n 0 b ((unpinF ah.1 n).2,ah.2)
theorem mq.ok (I:mq ε n e b ah)(h:rB ε)(J:∀f∈ε.1.ai,f.pins=0): rB ah:=by
 cases I with
 |dead _=>exact h
 |jt e b ah hd I he=>exact I.ok h J
 |th b ah hd I he=>have:=I.ok h J;exact⟨FZ this.pl,this.lg,this.dk⟩
 |read b ah hd I he=>have:=I.ok h J;exact⟨FZ this.pl,this.lg,this.dk⟩
def r_ (a p q r:Nat)(op dv:V)(aB:Nat): List V:=[.ptr p 0,.ptr q 0,.ptr r 0,op,dv,.int .u64 (aB:Int)]
def eA (a p q r:Nat)(op:V)(data:List Nat)(aB:Nat): aO:=xs fun dv:V=>star [pt a (.cells 6 (r_ a p q r op dv aB) false),.cg dv data]
def gE (g a:Nat)(now:List (Int×List Nat))(cz:Bool): aO:=xs fun I:V=>star [pt g (.cells 3 [.ptr a 0,I,.bool cz] false),ju (fun v b=>.cg v b) I now]
section
variable {told:dc} {p:Nat} {op v:V} {m:List Fm} {cz:Bool}
theorem cC : Sat h (eA a p q r op data aB::S)↔∃dv,Sat h (pt a (.cells 6 (r_ a p q r op dv aB) false)::.cg dv data::S):=by
 simp only[eA,ic,br,jk,eB]
theorem e_ : Sat h (gE g a now cz::S)↔∃I,Sat h (pt g (.cells 3 [.ptr a 0,I,.bool cz] false)::ju (fun v b=>.cg v b) I now::S):=by
 simp only[gE,ic,br,jk,eB]
theorem Ci (hT:W told)(s:Sat h (eA a p q r op data aB::dK r p q π::bS q p μ::aR p δ::S))(I:rB (π,μ,δ))(J:∀f∈π.ai,f.pins=0)(hw:δ.waiting.length≤268435456):
  Call ⟨Tryz.prog,told⟩ 113 [.ptr a 0,.int .i64 n] h fun v h'=>∃(e:Int) (b:List Nat) (ε:aZ),mq (π,μ,δ) n e b ε ∧
   ((e≠0∧v=.bf [.bC,.int .i64 e]∧Sat h' (eA a p q r op data aB::dK r p q ε.1::bS q p ε.2.1::aR p ε.2.2::S)) ∨
    (e=0∧∃u,v=.bf [u,.int .i64 0]∧Sat h' (aV u b::eA a p q r op data aB::dK r p q ε.1::bS q p ε.2.1::aR p ε.2.2::S))):=by
 have s0:=s
 obtain⟨dv,s⟩:=cC.1 s
 refine Call.of_wp (hT.free _ rfl) Tryz.func113 rfl rfl (zK 10 rfl (zY s 0 pW o9 rfl (zc rfl (rz hT (s.ae [4])) ?_)))
 rintro v h ⟨rfl,rfl⟩
 refine zv ?_
 cases hd:δ.dead with
 |true =>
  exact zK 6 rfl (WP.ret ⟨aa,_,rfl,9,[],_,.dead hd,.inl ⟨by decide,rfl,s0⟩⟩)
 |false =>
  refine zK 6 rfl (zY s 0 pX uZ rfl (zm rfl (zc rfl (Pk (n:=n) hT (s.ae [2,2,2]) I.pl J I.lg I.dk hw) ?_)))
  rintro v h ⟨e,b,ε,hr,(⟨he,rfl,s⟩|⟨rfl,u,rfl,s⟩)⟩
  ·dsimp only[bringA,getA,aL] at s
   refine zk 10 rfl (zB rfl aD (by simp;exact he) ?_)
   exact zk 8 rfl (WP.ret ⟨aa,_,rfl,e,[],ε,.jt e b ε hd hr he,.inl ⟨he,rfl,cC.2 ⟨dv,s.ae [3,3,0,0,0]⟩⟩⟩)
  ·dsimp only[bringA,getA,aL] at s
   refine zk 10 rfl (zC rfl aD (rfl) ?_)
   have s:=s.ae [4,4,0,0,0,0]
   refine zk 8 rfl (zY s 0 pX uZ rfl (zm rfl ?_))
   have iH:=hr.ok I J
   refine zc rfl (Ii (n:=n) hT (s.ae [3]) iH.pl) ?_
   rintro v h ⟨rfl,s⟩
   refine zk 5 rfl ?_
   by_cases he:(unpinF ε.1 n).1=0
   ·skip
    refine zC rfl aD (by simp;exact he) ?_
    exact zk 9 rfl (WP.ret ⟨aa,_,rfl,0,b,_,.read b ε hd hr he,.inr ⟨rfl,u,rfl,(cC.2 ⟨dv,s.ae [1,1,0,1,1,0]⟩).ae [4,0,0,0,0]⟩⟩)
   ·skip
    refine zB rfl aD (by simp;exact he) ?_
    exact zk 8 rfl (WP.ret ⟨aa,_,rfl,_,[],_,.th b ε hd hr he,.inl ⟨he,rfl,(cC.2 ⟨dv,(s.ae [1,1,0,1,1,0]).del 5⟩)⟩⟩)
end
structure Pl.Full (π:Pl): Prop where
 nodup:(π.aG.map (·.1)).Nodup
 jU:∀n i,lookL n π.aG=some i→0≤n∧∃f,π.ai[i.toNat]?=some f∧f.aK=n∧f.b.length=512
structure fD (ε:aZ): Prop where
 ok:rB ε
 pins:∀f∈ε.1.ai,f.pins=0
 full:ε.1.Full
theorem Pl.Full.set {g:Fm}(h:π.Full)(hf:π.ai[i]?=some f)(hp:g.aK=f.aK)(hl:f.b.length=512→g.b.length=512): Pl.Full { π with ai:=π.ai.set i g,bq:=d }:=by
 refine⟨h.nodup,fun n j hj => ?_⟩
 obtain⟨h1,f',J,h3,h4⟩:=h.jU n j hj
 refine⟨h1,?_⟩
 by_cases I:i=j.toNat
 ·subst I
  rw[hf] at J
  have:=cx J
  subst this
  exact⟨g,iM (List.getElem?_eq_some_iff.1 hf).1,hp.trans h3,hl h4⟩
 ·exact⟨f',by simp only[kL I];exact J,h3,h4⟩
theorem fT.full (I:fT π bN)(h:π.Full): bN.Full:=by
 refine⟨by rw[I.aG];exact h.nodup,fun n j J => ?_⟩
 rw[I.aG] at J
 obtain⟨h1,f',h2,h3,h4⟩:=h.jU n j J
 obtain⟨t,ht⟩:=I.get _ _ h2
 exact⟨h1,_,ht,h3,h4⟩
theorem sg (h:ε.1.Full): (outF ε i).2.1.Full:=by
 unfold outF
 split
 ·exact h
 ·rename_i f I
  split
  ·exact h
  ·split
   ·exact h
   ·split
    ·exact h
    ·split
     ·exact h
     ·exact h.set I rfl fun J=>J
theorem xL {g:Fm}(h:π.Full)(hg:π.ai[i]?=some g)(hp:g.aK=f.aK): (dN π i f).Full∧∀n j,lookL n (dN π i f).aG=some j→j.toNat≠i:=by
 have key:∀n j,lookL n (dN π i f).aG=some j→lookL n π.aG=some j∧j.toNat≠i:=by
  intro n j I
  by_cases hf:f.aK<0
  ·have hw:(dN π i f).aG=π.aG:=by simp only[dN,aJ hf]
   rw[hw] at I
   refine⟨I,fun hi => ?_⟩
   obtain⟨h1,f',J,h3,_⟩:=h.jU n j I
   rw[hi,hg] at J
   have:=cx J
   subst this
   omega
  ·have hw:(dN π i f).aG=oD f.aK π.aG:=by simp only[dN,ak hf]
   rw[hw,FN h.nodup] at I
   by_cases hn:f.aK=n
   ·rw[aJ hn] at I;cases I
   ·rw[ak hn] at I
    refine⟨I,fun hi => ?_⟩
    obtain⟨h1,f',J,h3,_⟩:=h.jU n j I
    rw[hi,hg] at J
    have:=cx J
    subst this
    omega
 refine⟨⟨?_,fun n j I => ?_⟩,fun n j I=>(key n j I).2⟩
 ·unfold dN
  simp only
  split
  ·exact h.nodup
  ·exact xD h.nodup
 ·obtain⟨h1,J⟩:=key n j I
  obtain⟨h3,f',h4,h5,h6⟩:=h.jU n j h1
  exact⟨h3,f',by simp only[dN,kL (qU J)];exact h4,h5,h6⟩
theorem Ka (h:π.Full)(hi:i<π.ai.length)(J:∀n j,lookL n π.aG=some j→j.toNat≠i)(hn:0≤n)(hb:b.length=512): (jM π i n b).Full:=by
 refine⟨jd h.nodup,fun m j I => ?_⟩
 simp only[jM,gD] at I
 by_cases hm:n=m
 ·rw[aJ hm] at I
  have:=cx I
  subst this;subst hm
  exact⟨hn,⟨n,b,1,true,false⟩,iM hi,rfl,hb⟩
 ·rw[ak hm] at I
  obtain⟨h3,f',h4,h5,h6⟩:=h.jU m j I
  exact⟨h3,f',by simp only[jM,kL (qU (J m j I))];exact h4,h5,h6⟩
theorem fC.full (hr:fC ε n e b ah)(hd:ε.2.2.Ok)(h:ε.1.Full): ah.1.Full∧(e=0→b.length=512):=by
 cases hr with
 |arg _=>exact⟨h,fun h=>(by cases h)⟩
 |z6 i f h1 h2 hl J =>
  refine⟨h.set J rfl fun hl=>hl,fun _ => ?_⟩
  obtain⟨_,f',h4,_,h6⟩:=h.jU n i hl
  rw[cS,J] at h4
  have:=cx h4
  subst this
  exact h6
 |out bN i f h1 h2 hl hn J hh he=>exact⟨sg (ε:=(bN,ε.2)) (hn.full h),fun h=>absurd h he⟩
 |read bN i f h1 h2 hl hn J hh he hr =>
  obtain⟨c,I⟩:=od (ε:=(bN,ε.2)) J
  exact⟨(xL (f:=f) (sg (ε:=(bN,ε.2)) (hn.full h)) I rfl).1,fun h=>absurd h hr⟩
 |bad bN i f h1 h2 hl hn J hh he hr hc =>
  obtain⟨c,I⟩:=od (ε:=(bN,ε.2)) J
  exact⟨(xL (f:=f) (sg (ε:=(bN,ε.2)) (hn.full h)) I rfl).1,fun h=>absurd h hc⟩
 |load bN i f h1 h2 hl hn J hh he hr hc =>
  obtain⟨c,I⟩:=od (ε:=(bN,ε.2)) J
  have hi:=(List.getElem?_eq_some_iff.1 I).1
  obtain⟨k1,k2⟩:=xL (f:=f) (sg (ε:=(bN,ε.2)) (hn.full h)) I rfl
  have BS:=(Cf (ε:=(bN,ε.2)) (i:=i) hd).at n
  exact⟨Ka k1 (by simp only[dN,bY];exact hi) k2 h1 BS,fun _=>BS⟩
theorem BT (h:π.Full): (unpinF π n).2.Full:=by
 unfold unpinF
 split
 ·exact h
 ·split
  ·exact h
  ·rename_i f I
   exact h.set I rfl fun J=>J
theorem fT.pins (I:fT π bN)(h:∀f∈π.ai,f.pins=0): ∀f∈bN.ai,f.pins=0:=fun g J=>by
 obtain⟨f,hf,t,rfl⟩:=I.ai g J
 exact h f hf
theorem si {ε:aZ}{i:Nat}(h:∀f∈ε.1.ai,f.pins=0): ∀f∈(outF ε i).2.1.ai,f.pins=0:=by
 unfold outF
 split
 ·exact h
 ·rename_i f J
  have hm:=bI J
  split
  ·exact h
  ·split
   ·exact h
   ·split
    ·exact h
    ·split
     ·exact h
     ·intro g I
      rcases mV I with I|rfl
      ·exact h g I
      ·exact h f hm
theorem xM {π:Pl}{i:Nat}{f:Fm}(h:∀f∈π.ai,f.pins=0): ∀f∈(dN π i f).ai,f.pins=0:=by
 intro g I
 rcases mV I with I|rfl
 ·exact h g I
 ·rfl
theorem fC.Li {ε ah:aZ}{n e:Int}{b:List Nat}(J:fC ε n e b ah)(he:e≠0)(hp:∀f∈ε.1.ai,f.pins=0): ∀f∈ah.1.ai,f.pins=0:=by
 cases J with
 |arg _=>exact hp
 |z6 i f h1 h2 hl hf=>exact absurd rfl he
 |out bN i f h1 h2 hl I hf hh he=>exact si (ε:=(bN,ε.2)) (I.pins hp)
 |read bN i f h1 h2 hl I hf hh he J=>exact xM (f:=f) (si (ε:=(bN,ε.2)) (I.pins hp))
 |bad bN i f h1 h2 hl I hf hh he J hc=>exact xM (f:=f) (si (ε:=(bN,ε.2)) (I.pins hp))
 |load bN i f h1 h2 hl I hf hh he J hc=>exact absurd rfl he
theorem Iv {m:List Fm}{i:Nat}{f g:Fm}(h:∀f∈m,f.pins=0)(J:g.pins=0): ∀x∈(m.set i f).set i g,x.pins=0:=by
 intro x I
 rw[List.set_set] at I
 rcases mV I with I|rfl
 ·exact h x I
 ·exact J
theorem uz (hl:lookL n π.aG=some (i:Int))(I:π.ai[i]?=some f)(J:f.pins=1): heldI π n=some i∧unpinF π n=(0,{ π with ai:=π.ai.set i { f with pins:=0 } }):=by
 have h1:heldI π n=some i:=by
  simp only[heldI,hl,cS,I,J]
  rfl
 refine⟨h1,?_⟩
 simp only[unpinF,h1,I,J]
 rfl
theorem Sv {α:Type}{n:Int}{x:α}{l:List (Int×α)}: lookL n (cG n x l)=some x:=by rw[gD,aJ rfl]
theorem fC.at {ε ah:aZ}{n:Int}{b:List Nat}(hr:fC ε n 0 b ah)(hp:∀f∈ε.1.ai,f.pins=0):
  ∃(i:Nat) (f:Fm),lookL n ah.1.aG=some (i:Int)∧ah.1.ai[i]?=some f∧f.pins=1∧f.b=b∧∀g:Fm,g.pins=0→∀x∈ah.1.ai.set i g,x.pins=0:=by
 generalize I:(0:Int)=e at hr
 cases hr with
 |arg _=>cases I
 |z6 i f h1 h2 hl J =>
  have hi:=(List.getElem?_eq_some_iff.1 J).1
  refine⟨i,{ f with gh:=true,pins:=f.pins+1 },hl,by simp[hi],by have:=hp f (bI J);show f.pins+1=1;omega,rfl,fun g hg=>Iv hp hg⟩
 |out bN i f h1 h2 hl hn J hh he=>exact absurd I.symm he
 |read bN i f h1 h2 hl hn J hh he hr=>exact absurd I.symm hr
 |bad bN i f h1 h2 hl hn J hh he hr hc=>exact absurd I.symm hc
 |load bN i f h1 h2 hl hn J hh he hr hc =>
  obtain⟨c,hc'⟩:=od (ε:=(bN,ε.2)) J
  have hi:=(List.getElem?_eq_some_iff.1 hc').1
  refine⟨i,⟨n,_,1,true,false⟩,Sv,iM (by show i<(List.set _ i _).length;rw[bY];exact hi),rfl,rfl,fun g hg=>Iv (xM (f:=f) (si (ε:=(bN,ε.2)) (hn.pins hp))) hg⟩
theorem fC.Cj (I:fC ε n 0 b ah)(J:∀f∈ε.1.ai,f.pins=0): (unpinF ah.1 n).1=0∧∀f∈(unpinF ah.1 n).2.ai,f.pins=0:=by
 obtain⟨i,f,h1,h2,h3,h4,h5⟩:=I.at J
 rw[(uz h1 h2 h3).2]
 exact⟨rfl,h5 _ rfl⟩
theorem mq.jg (I:mq ε n e b ah)(h:fD ε): fD ah:=by
 refine⟨I.ok h.ok h.pins,?_,?_⟩
 ·cases I with
  |dead _=>exact h.pins
  |jt e b ah J I he=>exact I.Li he h.pins
  |th b ah J I he=>exact(I.Cj h.pins).2
  |read b ah J I he=>exact(I.Cj h.pins).2
 ·cases I with
  |dead _=>exact h.full
  |jt e b ah J I he=>exact(I.full h.ok.dk h.full).1
  |th b ah J I he=>exact BT (I.full h.ok.dk h.full).1
  |read b ah J I he=>exact BT (I.full h.ok.dk h.full).1
theorem mq.len (J:mq ε n 0 b ah)(h:fD ε): b.length=512:=by
 generalize I:(0:Int)=e at J
 cases J with
 |dead _=>cases I
 |jt e b ah hd J he=>exact absurd I.symm he
 |th b ah hd J he=>exact absurd I.symm he
 |read b ah hd J he=>exact(J.full h.ok.dk h.full).2 rfl
inductive GRd (ε:aZ)(now:List (Int×List Nat))(cz:Bool)(n:Int): Int→List Nat→aZ→Prop where
 |arg (h:¬(0≤n∧n<ε.2.2.aq.length)):GRd ε now cz n 1 [] ε
 |cz (h1:0≤n) (h2:n<ε.2.2.aq.length) (h:cz=true):GRd ε now cz n 18 [] ε
 |own (b:List Nat) (h1:0≤n) (h2:n<ε.2.2.aq.length) (h:cz=false) (hl:lookL n now=some b):GRd ε now cz n 0 b ε
 |read (e:Int) (b:List Nat) (ah:aZ) (h1:0≤n) (h2:n<ε.2.2.aq.length) (h:cz=false) (hl:lookL n now=none) (hr:mq ε n e b ah):GRd ε now cz n e b ah
theorem GRd.jg {cz:Bool}(I:GRd ε now cz n e b ah)(h:fD ε): fD ah:=by
 cases I with
 |arg _=>exact h
 |cz _ _ _=>exact h
 |own _ _ _ _ _=>exact h
 |read e b ah J h2 h3 hl I=>exact I.jg h
theorem OpR.invoke {C:fH}{o:Oper}{cl:Go.Call}{x:Operand}{m:String}{k:FuncId}{args:List V}{R:V→H→Prop}(J:o.op=.call cl)(hc:cl.callee=.invoke x m)
 (hx:bB E x=some (.iface t u))(hm:methV C.P t m=some k)(ha:lookArgs E cl.args.toList=some args)(I:Am.Call C k (u::args) h R): OpR C E h o R:=by
 obtain⟨v,h₁,⟨N,hN⟩,hr⟩:=I
 exact⟨v,h₁,hr,fun env hE=>⟨N,by simp only[evOp,J,evCall,nc hE ha,hc,bX hE hx,hm];exact hN⟩⟩
theorem Bj : methV Tryz.prog 26 "Read" = some 76 := by kernel_rfl
theorem V1 : methV Tryz.prog 24 "Read" = some 113 := by kernel_rfl
theorem MV {e:TypeId}{x:Operand}(hu:Tryz.prog.underlying t=some (.pointer e)): binV Tryz.prog h .neq t x y .cy .cy=some (.bool false):=by simp only[binV,eqV,hu];rfl
theorem aaq {e:TypeId}{x:Operand}(hu:Tryz.prog.underlying t=some (.pointer e)): binV Tryz.prog h .neq t x y (.ptr i o) .cy=some (.bool true):=by simp only[binV,eqV,hu];rfl
theorem vh {e:TypeId}{x:Operand}(hu:Tryz.prog.underlying t=some (.pointer e)): binV Tryz.prog h .eql t x y (.ptr i o) .cy=some (.bool false):=by simp only[binV,eqV,hu];rfl
theorem aar {e:TypeId}{x:Operand}(hu:Tryz.prog.underlying t=some (.pointer e)): binV Tryz.prog h .eql t x y .cy (.ptr i o)=some (.bool false):=by simp only[binV,eqV,hu];rfl
theorem aas {e k:TypeId}{x:Operand}{n m:Nat}{cs ds:List V}(hu:Tryz.prog.underlying t=some (.pointer e))(I:bJ Tryz.prog e=some k)(J:1≤k)(hi:T.get h.tr i=some (.cells n cs false))(hj:T.get h.tr j=some (.cells m ds false))(hn:1≤n)(hm:1≤m):
  binV Tryz.prog h .eql t x y (.ptr i 0) (.ptr j 0)=some (.bool (Nat.beq i j)):=by
 simp only[binV,eqV,hu,I,bg.2 J,aj,hi,hj,bg.2 hn,bg.2 hm,jl,gZ,Bool.and_true,m5]
section
variable {told:dc} {p:Nat} {op v:V} {m:List Fm} {cz:Bool}
theorem F0 (I:W told)(s:Sat h (eA a p q r .cy data aB::S)): Call ⟨Tryz.prog,told⟩ 45 [.ptr a 0] h fun v h'=>∃g,v=.bf [.ptr g 0,.int .i64 0]∧Sat h' (gE g a [] false::eA a p q r (.ptr g 0) data aB::S):=by
 obtain⟨dv,s⟩:=cC.1 s
 refine Call.of_wp (I.free _ rfl) Tryz.func45 rfl rfl (zK 10 rfl (zY s 0 qY HL rfl (zC rfl (MV mo) (rfl) (zk 7 rfl ?_))))
 refine ay.y8 s rfl rfl rfl rfl (fun J h s => ?_)
 refine zo rfl (dn rfl (by rw[Z5];rfl)) ?_
 refine ay.b8 s rfl rfl rfl (fg rfl rfl) (fun p13 h s => ?_)
 refine zn rfl (zf rfl (qY _ _) ?_)
 refine zS rfl (by exact s.eX (k:=2) rfl X7 rfl (by decide) rfl rfl) (fun h s => ?_)
 refine zk 5 rfl (zY s 2 qY HL rfl (zk 3 rfl (WP.ret ⟨aa,_,rfl,?_⟩)))
 have s1:=uo (f:=fun v (b:List Nat)=>.cg v b) (s.ae [1])
 have s:=e_.2 ⟨_,s1.ae [1]⟩
 exact⟨_,rfl,(cC.2 ⟨dv,s.ae [1,1,0]⟩).ae [1]⟩
theorem xN (hT:W told)(s:Sat h (gE g a now cz::eA a p q r op data aB::dK r p q π::bS q p μ::aR p δ::S))(gj:fD (π,μ,δ))(hw:δ.waiting.length≤268435456)(sF:∀e∈now,e.2.length=512):
  Call ⟨Tryz.prog,told⟩ 76 [.ptr g 0,.int .i64 n] h fun v h'=>∃(e:Int) (b:List Nat) (ε:aZ),GRd (π,μ,δ) now cz n e b ε ∧
   ((e≠0∧v=.bf [.bC,.int .i64 e]∧Sat h' (gE g a now cz::eA a p q r op data aB::dK r p q ε.1::bS q p ε.2.1::aR p ε.2.2::S)) ∨
    (e=0∧∃u,v=.bf [u,.int .i64 0]∧Sat h' (aV u b::gE g a now cz::eA a p q r op data aB::dK r p q ε.1::bS q p ε.2.1::aR p ε.2.2::S))):=by
 have s0:=s
 obtain⟨nv,s⟩:=e_.1 s
 obtain⟨dv,s⟩:=cC.1 (s.ae [2])
 dsimp only[bringA,getA,aL] at s
 refine Call.of_wp (hT.free _ rfl) Tryz.func76 rfl rfl (zK 6 rfl (WP.block (zK 3 rfl ?_)))
 refine zd rfl (az rfl rfl aN) ?_ ?_
 ·intro J
  have J:n<0:=by simpa using J
  exact zk 20 rfl (WP.ret ⟨aa,_,rfl,1,[],_,.arg (by simp only;omega),.inl ⟨by decide,rfl,s0⟩⟩)
 ·intro J
  have J:0≤n:=by simp at J;omega
  refine zk 4 rfl (zY s 2 pV y9 rfl (zn rfl (zY s 0 pW o9 rfl (zc rfl (xG hT (s.ae [6])) ?_))))
  rintro v h ⟨rfl,rfl⟩
  refine zd rfl (az rfl rfl jJ) ?_ ?_
  ·intro I
   have I:(δ.aq.length:Int)≤n:=by simpa using I
   exact zk 9 rfl (WP.ret ⟨aa,_,rfl,1,[],_,.arg (by simp only;omega),.inl ⟨by decide,rfl,s0⟩⟩)
  ·intro I
   have I:n<(δ.aq.length:Int):=by simp at I;omega
   refine zk 8 rfl (zf rfl (A7 _ _) ?_)
   cases cz with
   |true =>
    exact zt rfl (aW rfl (s.ld (k:=2) rfl jK rfl)) (rfl) (zk 8 rfl (WP.ret ⟨aa,_,rfl,18,[],_,.cz J I rfl,.inl ⟨by decide,rfl,s0⟩⟩))
   |false =>
    refine zh rfl (aW rfl (by exact s.ld (k:=2) rfl jK rfl)) (rfl) ?_
    refine za rfl (zv (zj rfl (WP.skip (zw (zg rfl (zk 2 rfl (zf rfl (qX _ _) (zl rfl (by exact s.ld (k:=2) rfl jQ rfl) ?_))))))))
    refine zm rfl ?_
    rcases mC (n:=n) (fun _ _=>aY.cg _ _) (s.ae [3]) kZ bF o8 with⟨g1,g2,_⟩|⟨u,b,g1,g2,_,s2⟩
    ·refine ay.op rfl rfl rfl (iC rfl rfl g2) ?_
     refine zk 5 rfl (zv (zg rfl (zm rfl (zv (zj rfl (WP.skip (zg rfl (zk 2 rfl (zf rfl (pV _ _) (zl rfl (by exact s.ld (k:=2) rfl y9 rfl) ?_))))))))))
     refine zm rfl (zc rfl (Ci (n:=n) hT (s0.ae [1,1,1,1]) gj.ok gj.pins hw) ?_)
     rintro v h ⟨e,b,ε,hr,(⟨he,rfl,s⟩|⟨rfl,u,rfl,s⟩)⟩
     ·dsimp only[bringA,getA,aL] at s
      exact zk 5 rfl (WP.ret ⟨aa,_,rfl,e,b,ε,.read e b ε J I rfl g1 hr,.inl ⟨he,rfl,s.ae [4]⟩⟩)
     ·dsimp only[bringA,getA,aL] at s
      exact zk 5 rfl (WP.ret ⟨aa,_,rfl,0,b,ε,.read 0 b ε J I rfl g1 hr,.inr ⟨rfl,u,rfl,s.ae [0,4]⟩⟩)
    ·dsimp only[bringA,getA,aL] at s2
     refine zo rfl (iC rfl rfl g2) (zk 14 rfl ?_)
     have hb:=sF _ (fI g1)
     refine zc rfl (mH hT s2 (dF _ _) (by simp only at hb;omega)) ?_
     intro v h s
     refine zk 3 rfl (WP.ret ⟨aa,_,rfl,?_⟩)
     have s:=cC.2 ⟨dv,s.ae [3,3,0,0,0,0,0,0,0]⟩
     have s:=e_.2 ⟨nv,s.ae [4,3]⟩
     exact⟨0,b,_,.own b J I rfl g1,.inr ⟨rfl,v,rfl,((s.ae [2,0,0,1,1,1]).del 6)⟩⟩
end
inductive nK (ε:aZ)(now:List (Int×List Nat))(cz:Bool)(n:Int)(b:List Nat): Int→List (Int×List Nat)→aZ→Prop where
 |may (e:Int) (c:List Nat) (ah:aZ) (hr:GRd ε now cz n e c ah) (he:e≠0):nK ε now cz n b e now ah
 |bad (c:List Nat) (ah:aZ) (hr:GRd ε now cz n 0 c ah) (hg:bW b=false):nK ε now cz n b 4 now ah
 |done (c:List Nat) (ah:aZ) (hr:GRd ε now cz n 0 c ah) (hg:bW b=true):nK ε now cz n b 0 (cG n b now) ah
theorem nK.jg {cz:Bool}(I:nK ε now cz n b e bR ah)(h:fD ε): fD ah:=by
 cases I with
 |may e c ah I he=>exact I.jg h
 |bad c ah I J=>exact I.jg h
 |done c ah I J=>exact I.jg h
section
variable {told:dc} {p:Nat} {op v:V} {m:List Fm} {cz:Bool}
theorem YA (hT:W told)(s:Sat h (gE g a now cz::eA a p q r op data aB::dK r p q π::bS q p μ::aR p δ::S))(J:fD (π,μ,δ))(hw:δ.waiting.length≤268435456)(I:∀e∈now,e.2.length=512):
  Call ⟨Tryz.prog,told⟩ 106 [.iface 26 (.ptr g 0),.int .i64 n] h fun v h'=>∃(e:Int) (b:List Nat) (ε:aZ),GRd (π,μ,δ) now cz n e b ε∧v=.int .i64 e ∧
   Sat h' (gE g a now cz::eA a p q r op data aB::dK r p q ε.1::bS q p ε.2.1::aR p ε.2.2::S):=by
 refine Call.of_wp (hT.free _ rfl) Tryz.func106 rfl rfl (zK 8 rfl (ay.any rfl rfl rfl (OpR.invoke rfl rfl rfl Bj rfl (xN (n:=n) hT s J hw I)) ?_))
 rintro v h ⟨e,b,ε,hr,(⟨he,rfl,s⟩|⟨rfl,u,rfl,s⟩)⟩
 ·refine ay.op rfl rfl rfl (bD rfl) ?_
  exact zk 10 rfl (WP.ret ⟨aa,_,rfl,e,b,ε,hr,rfl,s⟩)
 ·skip
  exact zk 11 rfl (WP.ret ⟨aa,_,rfl,0,b,ε,hr,rfl,s.drop⟩)
theorem F1 (hT:W told)(s:Sat h (gE g a now cz::eA a p q r op data aB::dK r p q π::bS q p μ::aR p δ::X::S))(hX:cQ X (cW x b))(hb:b.length<9223372036854775808)(gj:fD (π,μ,δ))(hw:δ.waiting.length≤268435456)(J:∀e∈now,e.2.length=512):
  Call ⟨Tryz.prog,told⟩ 49 [.ptr g 0,.int .i64 n,x] h fun v h'=>∃(e:Int) (bR:List (Int×List Nat)) (ε:aZ),nK (π,μ,δ) now cz n b e bR ε∧v=.int .i64 e ∧
   Sat h' (gE g a bR cz::eA a p q r op data aB::dK r p q ε.1::bS q p ε.2.1::aR p ε.2.2::X::S):=by
 refine Call.of_wp (hT.free _ rfl) Tryz.func49 rfl rfl (zK 8 rfl (zo rfl (rL rfl (mki_of mo rfl)) (zm rfl (zc rfl (YA (n:=n) hT s gj hw J) ?_))))
 rintro v h ⟨e,c,ε,hr,rfl,s⟩
 refine zk 5 rfl ?_
 by_cases he:e=0
 ·skip
  subst he
  refine zC rfl aD (rfl) (zk 7 rfl (zc rfl (K5 hT (s.ae [5]) hX hb) ?_))
  rintro v h ⟨rfl,s⟩
  refine zo rfl (dQ rfl rfl) (zv ?_)
  by_cases I:bW b=true
  ·skip
   refine WP.T_ rfl (by rw[I];rfl) ?_
   have abj:=eC I
   obtain⟨nv,s⟩:=e_.1 (s.ae [1])
   have s:=s.ae [2,0,0]
   obtain⟨wN,rfl⟩:=Dh s (j:=2) rfl
   refine zK 2 rfl ?_
   have s0:=s
   refine WP.drawn [some (0,2),some (0,2),some (0,2),some (0,2),some (0,2),af,af,af] rfl (by kernel_rfl) (by kernel_rfl) ?_
   refine zM rfl (zN rfl (zF rfl (qX _ _) (zL rfl (s.ld (k:=1) rfl jQ rfl) (zM rfl (zM rfl (ax.any rfl rfl rfl rfl (OpR.call rfl rfl rfl rfl (mH hT s hX (by omega))) ?_))))))
   intro u h s
   obtain⟨qM,_,cap,_,rfl,_⟩:=s.fZ (by omega)
   have s:=s.gC
   have s1:=s
   refine ax.iB rfl rfl rfl (OpR.mapUpdate rfl rfl rfl rfl (pn (f:=fun v b=>aO.cg v b) (x:=b) (fun _ _=>aY.cg _ _) (s.ae [0,2]) kZ bF)) ?_
   intro w h s
   refine ax.nil ⟨⟨fun _ _=>.inr ⟨rfl,⟨_,bD rfl⟩,bn _ rfl⟩,fun _ _=>.inr ⟨rfl,⟨_,oU rfl⟩,bn _ rfl⟩,fun _ _=>.inr ⟨rfl,⟨_,jS rfl (qX _ _)⟩,bn _ rfl⟩,dw (.inr ⟨rfl,⟨_,aW rfl (s0.ld (k:=1) rfl jQ rfl)⟩,bn _ rfl⟩) (.inr ⟨rfl,⟨_,aW rfl (s1.ld (k:=2) rfl jQ rfl)⟩,bn _ rfl⟩),fun _ _=>.inr ⟨rfl,⟨_,bD rfl⟩,bn _ rfl⟩,aa,aa,aa,aa⟩,?_⟩
   exact zK 4 rfl (WP.ret ⟨aa,_,rfl,0,_,ε,.done c ε hr I,rfl,e_.2 ⟨.map wN,s.ae [2,0,1,1,1,1,0]⟩⟩)
  ·have I:bW b=false:=by simpa using I
   refine WP.Mt rfl (by rw[I];rfl) ?_
   exact zK 4 rfl (WP.ret ⟨aa,_,rfl,4,_,ε,.bad c ε hr I,rfl,s.ae [1,1,1,1,1,0]⟩)
 ·skip
  refine zB rfl aD (by simp;exact he) ?_
  exact zk 7 rfl (WP.ret ⟨aa,_,rfl,e,_,ε,.may e c ε hr he,rfl,s⟩)
theorem Pw (I:W told)(s:Sat h (gE g a now cz::eA a p q r (.ptr g 0) data aB::S)): Call ⟨Tryz.prog,told⟩ 60 [.ptr g 0] h fun v h'=>v=.bf []∧Sat h' (gE g a now true::eA a p q r .cy data aB::S):=by
 obtain⟨J,s⟩:=e_.1 s
 obtain⟨dv,s⟩:=cC.1 (s.ae [2])
 refine Call.of_wp (I.free _ rfl) Tryz.func60 rfl rfl (zK 4 rfl (zf rfl (A7 _ _) ?_))
 refine zS rfl (by exact s.eX (k:=2) rfl ox rfl (by decide) rfl rfl) (fun h s => ?_)
 refine zk 5 rfl (zY s 2 pV y9 rfl (zn rfl (zY s 0 qY HL rfl (zm rfl (zB rfl (aas mo Z4 (by decide) (s.row (k:=2) rfl) (s.row (k:=2) rfl) (by decide) (by decide)) (gZ g) ?_)))))
 refine zk 5 rfl (zY s 2 pV y9 rfl (zn rfl (zf rfl (qY _ _) ?_)))
 refine zS rfl (by exact s.eX (k:=0) rfl X7 rfl (by decide) rfl rfl) (fun h s => ?_)
 refine zv ?_
 have s:=e_.2 ⟨J,(cC.2 ⟨dv,s⟩).ae [1,1]⟩
 exact⟨aa,_,rfl,rfl,s⟩
theorem Kb (I:W told)(s:Sat h (gE g a now cz::eA a p q r .cy data aB::S)): Call ⟨Tryz.prog,told⟩ 60 [.ptr g 0] h fun v h'=>v=.bf []∧Sat h' (gE g a now true::eA a p q r .cy data aB::S):=by
 obtain⟨J,s⟩:=e_.1 s
 obtain⟨dv,s⟩:=cC.1 (s.ae [2])
 dsimp only[bringA,getA,aL] at s
 refine Call.of_wp (I.free _ rfl) Tryz.func60 rfl rfl (zK 4 rfl (zf rfl (A7 _ _) ?_))
 refine zS rfl (by exact s.eX (k:=2) rfl ox rfl (by decide) rfl rfl) (fun h s => ?_)
 dsimp only[r_,Nat.reduceAdd,List.set,setA] at s
 refine zv (zg rfl (zk 2 rfl (zf rfl (pV _ _) (zl rfl (by exact s.ld (k:=2) rfl y9 rfl) ?_))))
 refine zn rfl (zf rfl (qY _ _) (zl rfl (by exact s.ld (k:=0) rfl HL rfl) ?_))
 refine zm rfl (zh rfl (az rfl rfl (aar mo)) (rfl) (zv (zj rfl (WP.skip ?_))))
 have s:=e_.2 ⟨J,(cC.2 ⟨dv,s⟩).ae [1,1]⟩
 exact⟨aa,_,rfl,rfl,s⟩
theorem MW (I:W told)(s:Sat h (gE g a now cz::eA a p q r .cy data aB::S)): Call ⟨Tryz.prog,told⟩ 33 [.ptr g 0] h fun v h'=>v=.bf []∧Sat h' (gE g a now true::eA a p q r .cy data aB::S):=by
 refine Call.of_wp (I.free _ rfl) Tryz.func33 rfl rfl (zK 2 rfl (zc rfl (Kb I s) ?_))
 rintro v h ⟨rfl,s⟩
 exact zv ⟨aa,_,rfl,rfl,s⟩
end
inductive uA (aK:Int)(d_ now:List Nat): Nat→List cn→Prop where
 |done (i:Nat) (h:now.length≤i):uA aK d_ now i []
 |skip (i:Nat) (l:List cn) (h:i<now.length) (he:d_[i]?=now[i]?) (hr:uA aK d_ now (i+1) l):uA aK d_ now i l
 |take (i e:Nat) (l:List cn) (h1:i<e) (h2:e≤now.length) (h3:d_[i]?≠now[i]?) (h4:∀k,e≤k→k<e+8→d_[k]?=now[k]?) (hr:uA aK d_ now e l):uA aK d_ now i (⟨aK,i,false,(now.take e).drop i⟩::l)
def F3 (aK:Int)(d_ now:List Nat)(c:List cn): Prop:=∃l,uA aK d_ now 12 l∧c=if l=[] then[⟨aK,0,false,[]⟩] else l
theorem uB : ∃i,Tryz.prog.info? 180=some i∧i.size=4∧i.bytes=48 :=
 ⟨_,(show Tryz.prog.info? 180=some ((Tryz.prog.info? 180).getD default) by kernel_rfl),by kernel_rfl,by kernel_rfl⟩
section
variable {told:dc} {p:Nat} {op v:V} {now:List Nat}
noncomputable def rgO : Code:=cD [1,1,0,1,0,0] ((Tryz.f115.body).getD .skip)
noncomputable def rgI : Code:=cD [1,1,0,1,0,0,1,0,1,1,0,1,0,0] ((Tryz.f115.body).getD .skip)
theorem Sw {I:Nat}{t7:V}{k1 k2:Nat}(s:Sat h S)(Hh:getA S k1=some X)(hX:cQ X (cW u d_))(O2:getA S k2=some Y)(hY:cQ Y (cW v now))(mc:d_.length=512)(js:now.length=512): ∀(j i e:Nat) (E:List (Nat×V)) (Q:Ex→List (Nat×V)→H→Prop),i+j=512→I<e→e≤i→(∀k,e≤k→k<i→d_[k]?=now[k]?) →
  Has E [(0,.int .i64 pg),(1,u),(2,v),(7,t7),(8,.int .i64 (I:Int)),(9,.int .i64 (e:Int)),(10,.int .i64 (i:Int))] →
  (∀J E',I<J→J≤512→(∀k,J≤k→k<J+8→d_[k]?=now[k]?)→Has E' [(0,.int .i64 pg),(1,u),(2,v),(7,t7),(8,.int .i64 (I:Int)),(9,.int .i64 (J:Int))]→Q (.exit 2) E' h) →
  WP ⟨Tryz.prog,told⟩ 71 (.loop rgI) E h Q:=by
 have hv:=s.aH O2 hY
 have hu:=s.aH Hh hX
 have hlen:lenV Tryz.prog h 28 v=some (.int .i64 now.length):=bj aT hv
 intro j
 induction j with
 |zero =>
  intro i e E Q hi h1 h2 hg hE hq
  refine WP.loop (WP.has hE (zK 5 rfl (zo rfl (aP rfl rfl rfl hlen) (zC rfl aN (by grind) ?_))))
  refine zk 8 rfl (WP.exit ?_)
  refine hq e _ h1 (by omega) (fun k k1 _ => ?_) ⟨rfl,rfl,rfl,rfl,rfl,rfl,aa⟩
  by_cases hk:k<i
  ·grind
  ·grind
 |succ j ih =>
  intro i e E Q hi h1 h2 hg hE hq
  have hb:now[i]?=some (now[i]'(by omega)):=bA _
  generalize (now[i]'(by omega))=b at hb
  have hc:d_[i]?=some (d_[i]'(by omega)):=bA _
  generalize (d_[i]'(by omega))=c at hc
  obtain⟨id,off,e1,e2⟩:=eo hv hb
  obtain⟨BE,off',e3,e4⟩:=eo hu hc
  refine WP.loop (WP.has hE (zK 5 rfl (zo rfl (aP rfl rfl rfl hlen) (zB rfl aN (by grind) ?_))))
  refine zk 3 rfl (zb rfl (by exact bx (aA (by omega) (by omega))) ?_)
  by_cases hd:i<e+8
  ·skip
   refine zB rfl aN (by grind) ?_
   refine zk 5 rfl (WP.block (zw ?_))
   have s0:=s
   refine WP.drawn [af,af,af,af,af,af,af,af,af] rfl (by kernel_rfl) (by kernel_rfl) ?_
   refine zM rfl (zM rfl (zO rfl (cj (r:=.ptr BE off') rfl rfl e3) (zL rfl e4 (zM rfl (zM rfl (zO rfl (cj (r:=.ptr id off) rfl rfl e1) (zL rfl e2 ?_)))))))
   by_cases hbc:c=b
   ·skip
    refine ax.kC rfl rfl rfl rfl (az rfl rfl aD) (by grind) ?_
    refine ax.nil ⟨⟨aa,aa,aa,aa,aa,aa,aa,aa,aa,aa⟩,?_⟩
    refine zj rfl (WP.skip (zr rfl (zm rfl (zb rfl (by exact bx (aA (by omega) (by omega))) ?_))))
    refine za rfl (zv ?_)
    exact ih (i+1) e _ Q (by omega) h1 (by omega) (fun k k1 k2=>(by
     grind)) ⟨rfl,rfl,rfl,rfl,rfl,rfl,rfl,aa⟩ hq
   ·skip
    refine ax.pU rfl rfl rfl rfl (az rfl rfl aD) (by grind) ?_
    refine ax.nil ⟨⟨aa,aa,aa,aa,aa,aa,aa,aa,aa,aa⟩,?_⟩
    refine zK 3 rfl (zb rfl (by exact bx (aA (by omega) (by omega))) ?_)
    refine za rfl (zv (zr rfl (zm rfl (zb rfl (by exact bx (aA (by omega) (by omega))) ?_))))
    refine za rfl (zv ?_)
    exact ih (i+1) (i+1) _ Q (by omega) (by omega) (by omega) (fun k k1 k2=>absurd k2 (by omega)) ⟨rfl,rfl,rfl,rfl,rfl,rfl,rfl,aa⟩ hq
  ·skip
   refine zC rfl aN (by grind) ?_
   exact zk 3 rfl (WP.exit (hq e _ h1 (by omega) (fun k k1 k2=>hg k k1 (by omega)) ⟨rfl,rfl,rfl,rfl,rfl,rfl,aa⟩))
theorem Sx (hT:W told)(hX:cQ X (cW u d_))(hY:cQ Y (cW v now))(mc:d_.length=512)(js:now.length=512): ∀(j i:Nat) (acc:List cn) (av:V) (cs:List V) (h:H) (E:List (Nat×V)) (Q:Ex→List (Nat×V)→H→Prop),512≤i+j→i≤512→acc.length≤i →
  Sat h (.arr 4 av cs::dh cs acc::X::Y::S)→(∀l,uA pg d_ now i l→uA pg d_ now 12 (acc++l)) →
  Has E [(0,.int .i64 pg),(1,u),(2,v),(7,av),(8,.int .i64 (i:Int))] →
  (∀vi cs' l E' h',uA pg d_ now 12 l→l.length≤512→Sat h' (.arr 4 vi cs'::dh cs' l::X::Y::S)→Has E' [(0,.int .i64 pg),(7,vi)]→Q (.exit 0) E' h') →
  WP ⟨Tryz.prog,told⟩ 71 (.loop rgO) E h Q:=by
 intro j
 induction j with
 |zero =>
  intro i acc av cs h E Q hj hi YB s I hE hq
  have hlen:lenV Tryz.prog h 28 v=some (.int .i64 now.length):=bj aT (s.aH (k:=3) rfl hY)
  refine WP.loop (WP.has hE (zK 5 rfl (zo rfl (aP rfl rfl rfl hlen) (zC rfl aN (by grind) ?_))))
  refine zk 2 rfl (WP.exit ?_)
  have:=I [] (.done _ (by omega))
  rw[ej] at this
  exact hq av cs acc _ _ this (by omega) s ⟨rfl,rfl,aa⟩
 |succ j ih =>
  intro i acc av cs h E Q hj hi YB s I hE hq
  have hv:=s.aH (k:=3) rfl hY
  have hu:=s.aH (k:=2) rfl hX
  have hlen:lenV Tryz.prog h 28 v=some (.int .i64 now.length):=bj aT hv
  by_cases cE:i<512
  ·have hb:now[i]?=some (now[i]'(by omega)):=bA _
   generalize (now[i]'(by omega))=b at hb
   have hc:d_[i]?=some (d_[i]'(by omega)):=bA _
   generalize (d_[i]'(by omega))=c at hc
   obtain⟨id,off,e1,e2⟩:=eo hv hb
   obtain⟨BE,off',e3,e4⟩:=eo hu hc
   refine WP.loop (WP.has hE (zK 5 rfl (zo rfl (aP rfl rfl rfl hlen) (zB rfl aN (by grind) ?_))))
   refine zk 3 rfl (WP.block (zK 2 rfl ?_))
   have s0:=s
   refine WP.drawn [af,af,af,af,af,af,af,af,af] rfl (by kernel_rfl) (by kernel_rfl) ?_
   refine zM rfl (zM rfl (zO rfl (cj (r:=.ptr BE off') rfl rfl e3) (zL rfl e4 (zM rfl (zM rfl (zO rfl (cj (r:=.ptr id off) rfl rfl e1) (zL rfl e2 ?_)))))))
   by_cases hbc:c=b
   ·skip
    refine ax.pU rfl rfl rfl rfl (az rfl rfl dG) (by grind) ?_
    refine ax.nil ⟨⟨aa,aa,aa,aa,aa,aa,aa,aa,aa,aa⟩,?_⟩
    refine zK 4 rfl (zb rfl (by exact bx (aA (by omega) (by omega))) ?_)
    exact zk 2 rfl (WP.exit (ih (i+1) acc av cs h _ Q (by omega) (by omega) (by omega) s (fun l hl=>I l (.skip i l (by omega) (by grind) hl)) ⟨rfl,rfl,rfl,rfl,rfl,aa⟩ hq))
   ·skip
    refine ax.kC rfl rfl rfl rfl (az rfl rfl dG) (by grind) ?_
    refine ax.nil ⟨⟨aa,aa,aa,aa,aa,aa,aa,aa,aa,aa⟩,?_⟩
    refine zK 5 rfl (zb rfl (by exact bx (aA (by omega) (by omega))) ?_)
    refine zk 8 rfl (WP.block ?_)
    refine Sw s (k1:=2) (k2:=3) rfl hX rfl hY mc js (512-(i+1)) (i+1) (i+1) _ _ (by omega) (vW i) (aU _) (fun k k1 k2=>absurd k2 (by omega)) ⟨rfl,rfl,rfl,rfl,rfl,rfl,rfl,aa⟩ (fun e' E' he1 Iw he3 jf => ?_)
    refine WP.has jf ?_
    have YC:=eU hv (a:=i) (b:=e') (by omega) (by omega)
    refine zK 8 rfl (zo rfl (bV (p:=some (.int .i64 (i:Int))) (q:=some (.int .i64 (e':Int))) (m:=none) (p':=some i) (q':=some e') (m':=none) rfl rfl rfl rfl (by rfl) (by rfl) rfl YC.1) ?_)
    refine zc rfl (mH hT (s.ae [3]) (lE hY (a:=i) (b:=e') (by omega) (by omega)) (by grind)) ?_
    intro w h s
    dsimp only[bringA,getA,aL] at s
    obtain⟨wid,_,J,_,rfl,_⟩:=s.fZ (by grind)
    have s:=s.gC
    generalize HB:(now.take e').drop i=bs at s
    refine zo rfl (dn rfl (by rw[Mw];rfl)) ?_
    obtain⟨rv,h1,qN,s1⟩:=kq (P:=Tryz.prog) (k:=4) (x:=.agg [.int .i64 pg,.int .i64 (i:Int),.bool false,.sl wid 0 bs.length J]) s je nY oV rfl (by decide) (by decide) rfl rfl
    dsimp only[V.cells] at s1
    refine ay.any rfl rfl rfl (OpR.of (R:=fun v h'=>v=rv∧h'=h1) (nk rfl qN) ⟨rfl,rfl⟩) ?_
    rintro v' h' ⟨rfl,rfl⟩
    obtain⟨i1,jZ,jv,u_⟩:=uB
    have kz:cs.length=acc.length*4:=by
     obtain⟨a,b,q1,q2,q3⟩:=s1.at (k:=4) rfl
     exact pq q3
    obtain⟨vi,h2,rW,s2⟩:=iG (s1.ae [3,0]) je jZ nY jv (by omega) rfl (by decide) (by grind)
    dsimp only[bringA,getA,aL] at s2
    refine ay.any rfl rfl rfl (OpR.of (R:=fun v h'=>v=vi∧h'=h2) (lP rfl rfl rW) ⟨rfl,rfl⟩) ?_
    rintro v' h' ⟨rfl,rfl⟩
    refine za rfl (zv (zr rfl (zk 2 rfl (zv ?_))))
    have s3:Sat _ (dh cs acc::.cg (.sl wid 0 bs.length J) bs::_):=s2.ae [4,2]
    have s4:=s3.two (C:=dh (cs++[.int .i64 pg,.int .i64 (i:Int),.bool false,.sl wid 0 bs.length J]) (acc++[⟨pg,i,false,bs⟩])) (aY.kf _ _) (aY.cg _ _) fun a b q1 q2=>xJ q1 ⟨⟨⟨rfl,rfl,rfl⟩,q2⟩,aa⟩
    have s5:=(s4.ae [1,0,2,1]).del 4
    dsimp only[bringA,getA,aL] at s5
    refine ih e' (acc++[⟨pg,(i:Int),false,bs⟩]) _ _ _ _ Q (by omega) Iw (by grind) s5 (fun l hl => ?_) ⟨rfl,rfl,rfl,rfl,rfl,aa⟩ hq
    have:=I _ (.take i e' l he1 (by omega) (fun hx=>by grind) he3 hl)
    rw[HB] at this
    rwa [c9]
  ·have hi5:i=512:=by omega
   refine WP.loop (WP.has hE (zK 5 rfl (zo rfl (aP rfl rfl rfl hlen) (zC rfl aN (by simp<;>omega) ?_))))
   refine zk 2 rfl (WP.exit ?_)
   have:=I [] (.done _ (by omega))
   rw[ej] at this
   exact hq av cs acc _ _ this (by omega) s ⟨rfl,rfl,aa⟩
theorem Px (hT:W told)(s:Sat h (X::Y::S))(hX:cQ X (cW u d_))(hY:cQ Y (cW v now))(I:d_.length=512)(J:now.length=512):
  Call ⟨Tryz.prog,told⟩ 115 [.int .i64 pg,u,v] h fun w h'=>∃cs l,F3 pg d_ now l∧l.length≤512∧Sat h' (.arr 4 w cs::dh cs l::X::Y::S):=by
 refine Call.of_wp (hT.free _ rfl) Tryz.func115 rfl rfl (zK 13 rfl (WP.block ?_))
 refine Sx hT (pg:=pg) hX hY I J 500 12 [] .bC [] _ _ _ (by omega) (by omega) (by simp) ((s.gM aa).oO) (fun l hl=>hl) ⟨rfl,rfl,rfl,rfl,rfl,aa⟩ (fun vi cs' l E' h' hr F4 s' jf => ?_)
 have s:=s'
 have hlen:=s.wM (j1:=0) (j2:=1) rfl rfl je
 have DB:=s.iY (j:=0) rfl
 refine WP.has jf (zK 4 rfl (zo rfl (aP rfl rfl rfl hlen) ?_))
 by_cases xk:l=[]
 ·skip
  refine zB rfl dG (by grind) ?_
  refine zk 5 rfl (zo rfl (dn rfl (by rw[Mw];rfl)) ?_)
  obtain⟨rv,h1,qN,s1⟩:=kq (P:=Tryz.prog) (k:=4) (x:=.agg [.int .i64 pg,.int .i64 0,.bool false,.bC]) s je nY oV rfl (by decide) (by decide) rfl rfl
  dsimp only[V.cells] at s1
  refine ay.any rfl rfl rfl (OpR.of (R:=fun v h'=>v=rv∧h'=h1) (nk rfl qN) ⟨rfl,rfl⟩) ?_
  rintro v' h' ⟨rfl,rfl⟩
  refine zk 2 rfl (WP.ret ⟨aa,_,rfl,?_⟩)
  refine⟨[.int .i64 pg,.int .i64 0,.bool false,.bC],[⟨pg,0,false,[]⟩],⟨l,hr,by grind⟩,by simp,?_⟩
  have s2:=(s1.del 2).del 1
  have s3:Sat _ (.cg .bC []::.arr 4 v' _::X::Y::S):=s2.rN
  have s4:=s3.gX (B:=dh [.int .i64 pg,.int .i64 0,.bool false,.bC] [⟨pg,0,false,[]⟩]) fun a b q=>⟨⟨⟨rfl,rfl,rfl⟩,q⟩,aa⟩
  exact s4.ae [1,0]
 ·skip
  refine zC rfl dG (by simp_all) ?_
  exact zk 8 rfl (WP.ret ⟨aa,_,rfl,_,l,⟨l,hr,by grind⟩,F4,s⟩)
end
def fR (m:List Fm): Nat:=(m.map (·.changed)).count true
theorem ni {g:Fm}: ∀ {m:List Fm} {i:Nat},m[i]?=some f→fR (m.set i g)+f.changed.toNat=fR m+g.changed.toNat:=by
 intro m
 induction m with
 |nil=>simp
 |cons x m I =>
  intro i h
  cases i<;>grind[fR]
theorem DC {g:Fm}(I:g.changed=false): ∀ {m:List Fm} {i:Nat},fR (m.set i g)≤fR m:=by
 intro m i
 cases h:m[i]? with
 |none =>
  grind[List.set_eq_of_length_le]
 |some f =>
  have:=ni (g:=g) h
  grind
def bG (ε:aZ): Nat:=ε.2.2.waiting.length+fR ε.1.ai
theorem kF : ε.2.2.waiting.length≤bG ε:=AI _ _
theorem fT.count (I:fT π bN): fR bN.ai=fR π.ai:=by
 have:bN.ai.map (·.changed)=π.ai.map (·.changed):=by
  refine tB fun i => ?_
  rw[nP,nP]
  cases h:π.ai[i]? with
  |none =>
   have J:π.ai.length≤i:=by grind
   have:bN.ai[i]?=none:=by simp[I.len,J]
   rw[this]
  |some f =>
   obtain⟨t,ht⟩:=I.get i f h
   rw[ht];rfl
 simp only[fR,this]
theorem Iy (h:(δ.bw n b).1≠0): (δ.bw n b).2.waiting=δ.waiting:=by
 unfold Dk.bw at h ⊢
 split
 ·rfl
 ·rename_i I
  split
  ·rfl
  ·rename_i J
   split
   ·rfl
   grind
theorem Iz : bG (outF ε i).2≤bG ε:=by
 grind[outF,bG,me,Iy,BQ,ni]
theorem Aa : fR (dN π i f).ai≤fR π.ai:=DC rfl
theorem fC.bG (J:fC ε n e b ah): Am.bG ah≤Am.bG ε:=by
 have rD:∀ {bN:Pl},fT ε.1 bN→∀i,Am.bG (outF (bN,ε.2) i).2≤Am.bG ε:=fun {bN} I i=>by
  have:=Iz (ε:=(bN,ε.2)) (i:=i)
  refine bT this ?_
  simp only[Am.bG,I.count]
  exact aU _
 cases J with
 |arg _=>simp
 |z6 i f h1 h2 hl hf =>
  grind[ni,Am.bG]
 |out bN i f h1 h2 hl I hf hh he=>grind
 |read bN i f h1 h2 hl I hf hh he J=>exact bT (vT Aa _) (rD I i)
 |bad bN i f h1 h2 hl I hf hh he J hc=>exact bT (vT Aa _) (rD I i)
 |load bN i f h1 h2 hl I hf hh he J hc=>exact bT (vT (bT (DC rfl) Aa) _) (rD I i)
theorem DD : fR (unpinF π n).2.ai=fR π.ai:=by
 grind[unpinF,ni]
theorem mq.bG (I:mq ε n e b ah): Am.bG ah≤Am.bG ε:=by
 cases I with
 |dead _=>simp
 |jt e b ah J I he=>exact I.bG
 |th b ah J I he=>have:=I.bG;grind[Am.bG,DD]
 |read b ah J I he=>have:=I.bG;grind[Am.bG,DD]
theorem GRd.bG {cz:Bool}(I:GRd ε now cz n e b ah): Am.bG ah≤Am.bG ε:=by
 cases I with
 |arg _=>simp
 |cz _ _ _=>simp
 |own _ _ _ _ _=>simp
 |read e b ah J h2 h3 hl I=>exact I.bG
theorem nK.bG {cz:Bool}(I:nK ε now cz n b e bR ah): Am.bG ah≤Am.bG ε:=by
 cases I with
 |may e c ah I he=>exact I.bG
 |bad c ah I J=>exact I.bG
 |done c ah I J=>exact I.bG
inductive ChR (now:List (Int×List Nat)): List Int→aZ→Int→List cn→aZ→Prop where
 |nil (ε:aZ):ChR now [] ε 0 [] ε
 |err (n:Int) (l:List Int) (ε:aZ) (e:Int) (b:List Nat) (ah:aZ) (hr:mq ε n e b ah) (he:e≠0):ChR now (n::l) ε e [] ah
 |part (n:Int) (l:List Int) (ε:aZ) (d_ b:List Nat) (ah:aZ) (c:List cn) (e:Int) (cs:List cn) (lp:aZ) (hr:mq ε n 0 d_ ah) (hb:lookL n now=some b) (hd:(lookL n ah.1.bq).isSome=true) (hc:F3 n d_ b c) (hl:c.length≤512) (ht:ChR now l ah e cs lp):ChR now (n::l) ε e (c++cs) lp
 |whole (n:Int) (l:List Int) (ε:aZ) (d_ b:List Nat) (ah:aZ) (e:Int) (cs:List cn) (lp:aZ) (hr:mq ε n 0 d_ ah) (hb:lookL n now=some b) (hd:(lookL n ah.1.bq).isSome=false) (ht:ChR now l ah e cs lp):ChR now (n::l) ε e (⟨n,0,true,b⟩::cs) lp
theorem ChR.jg {l:List Int}(I:ChR now l ε e cs ah)(h:fD ε): fD ah:=by
 induction I with
 |nil ε=>exact h
 |err n l ε e b ah I he=>exact I.jg h
 |part n l ε d_ b ah c e cs J I hb hd hc hl ht ih=>exact ih (I.jg h)
 |whole n l ε d_ b ah e cs J I hb hd ht ih=>exact ih (I.jg h)
theorem ChR.bG {l:List Int}(I:ChR now l ε e cs ah): Am.bG ah≤Am.bG ε:=by
 induction I with
 |nil ε=>simp
 |err n l ε e b ah I he=>exact I.bG
 |part n l ε d_ b ah c e cs J I hb hd hc hl ht ih=>exact bT ih I.bG
 |whole n l ε d_ b ah e cs J I hb hd ht ih=>exact bT ih I.bG
theorem uC {b:Nat}{v w:V}(I:look E a=some v)(J:look E b=some w): resLE P E h [.tmp a,.tmp b]=some (.bf [v,w]):=by grind[resLE,mapO,resE]
section
variable {told:dc} {p:Nat} {op v:V} {cz:Bool}
theorem xO (I:W told)(s:Sat h S): Call ⟨Tryz.prog,told⟩ 62 [.map id] h fun v h'=>∃b,v=.fn (.func 120) [] [.ptr b 0]∧Sat h' (pt b (.cells 1 [.map id] false)::S):=by
 refine Call.of_wp (I.free _ rfl) Tryz.func62 rfl rfl (zg rfl ?_)
 refine ay.b8 s rfl rfl rfl (fg rfl rfl) (fun p1 h s => ?_)
 exact zk 4 rfl (zo rfl (CX rfl rfl) (zk 2 rfl (WP.ret ⟨aa,_,rfl,_,rfl,s⟩)))
theorem Py (I:W told)(s:Sat h (gE g a now cz::S))(hm:now.length≤1048576)(hk:∀n∈now.map (·.1),(Lit.int .i64 n).wf=true):
  Call ⟨Tryz.prog,told⟩ 112 [.ptr g 0] h fun v h'=>Sat h' (.arr 1 v (fJ (aE now))::gE g a now cz::S):=by
 obtain⟨nv,s⟩:=e_.1 s
 obtain⟨J,rfl⟩:=Dh s (j:=1) rfl
 refine Call.of_wp (I.free _ rfl) Tryz.func112 rfl rfl (zK 8 rfl (zY s 0 qX jQ rfl (zc rfl (xO I s) ?_)))
 rintro v h ⟨b,rfl,s⟩
 refine zc rfl (rX I (s.ae [0,1]) (by decide) hm hk) ?_
 intro kv h s
 exact zk 2 rfl (WP.ret ⟨aa,_,rfl,(e_.2 ⟨.map J,(s.ae [3,2,0]).del 3⟩).ae [1]⟩)
noncomputable def cgL : Code:=cD [1,1,0,1,0,0] ((Tryz.f58.body).getD .skip)
theorem IA (hT:W told)(Yr:ks.length≤65536)(vj:∀n∈ks,(lookL n now).isSome=true)(sF:∀e∈now,e.2.length=512): ∀(j i:Nat) (acc:List cn) (av:V) (cs:List V) (ε:aZ) (h:H) (E:List (Nat×V)) (Q:Ex→List (Nat×V)→H→Prop),i+j=ks.length →
  fD ε→bG ε≤268435456→acc.length≤512*i →
  Sat h (.arr 4 av cs::dh cs acc::gE g a now cz::eA a p q r op data aB::dK r p q ε.1::bS q p ε.2.1::aR p ε.2.2::.arr 1 kv (fJ ks)::S) →
  Has E [(0,.ptr g 0),(4,av),(13,kv),(14,.int .i64 ks.length),(15,.int .i64 i)] →
  (∀e c ah E' h',ChR now (ks.drop i) ε e c ah→e≠0→look E' 2=some .bC→look E' 3=some (.int .i64 e)→Sat h' (gE g a now cz::eA a p q r op data aB::dK r p q ah.1::bS q p ah.2.1::aR p ah.2.2::S)→Q .ret E' h') →
  (∀c ah E' h' vi cs',ChR now (ks.drop i) ε 0 c ah→acc.length+c.length≤512*ks.length→Has E' [(4,vi)]→Sat h' (.arr 4 vi cs'::dh cs' (acc++c)::gE g a now cz::eA a p q r op data aB::dK r p q ah.1::bS q p ah.2.1::aR p ah.2.2::S)→Q (.exit 0) E' h') →
  WP ⟨Tryz.prog,told⟩ 65 (.loop cgL) E h Q:=by
 intro j
 induction j with
 |zero =>
  intro i acc av cs ε h E Q hj gj hw YB s hE hr hx
  refine WP.loop (WP.has hE (zg rfl (zC rfl aN (by grind) ?_)))
  refine zk 3 rfl (WP.exit ?_)
  rw[kK (by omega)] at hx
  have s1:=s.del 7
  dsimp only[aL] at s1
  refine hx [] ε _ _ av cs (.nil ε) (by grind) ⟨rfl,aa⟩ ?_
  rw[ej]
  exact s1
 |succ j ih =>
  intro i acc av cs ε h E Q hj gj hw YB s hE hr hx
  have hn:ks[i]?=some (ks[i]'(by omega)):=bA _
  have yN:ks[i]'(by omega)∈ks:=AH _
  have n_:ks.drop i=ks[i]'(by omega)::ks.drop (i+1):=pL (by omega)
  generalize (ks[i]'(by omega))=n at hn yN n_
  have hc:(fJ ks)[i]?=some (.int .i64 n):=by simp[fJ,hn]
  obtain⟨b,hb⟩:=Option.isSome_iff_exists.1 (vj n yN)
  have GZ:=sF _ (fI hb)
  simp only at GZ
  rw[n_] at hr hx
  obtain⟨id,off,e1,e2⟩:=iz (P:=Tryz.prog) s (k:=7) rfl hc dI ke
  refine WP.loop (WP.has hE (zg rfl (zB rfl aN (by grind) ?_)))
  refine zk 5 rfl (WP.block (zg rfl (zo rfl (cj (r:=.ptr id off) rfl rfl e1) (zl rfl (e2 _ cL) ?_))))
  obtain⟨nv,s⟩:=e_.1 (s.ae [2])
  dsimp only[bringA,getA,aL] at s
  refine zk 6 rfl (zY s 0 pV y9 rfl (zm rfl (zc rfl (Ci (n:=n) hT (s.ae [4,4,4,4]) gj.ok gj.pins (bT kF hw)) ?_)))
  rintro v h ⟨e,w,ah,J,(⟨he,rfl,s⟩|⟨rfl,u,rfl,s⟩)⟩
  ·dsimp only[bringA,getA,aL] at s
   refine zk 10 rfl (zB rfl aD (by grind) ?_)
   refine zk 8 rfl (WP.ret (hr e [] ah _ _ (.err n _ ε e w ah J he) he rfl rfl ?_))
   have s:=e_.2 ⟨nv,s.ae [4,4]⟩
   dsimp only[bringA,getA,aL] at s
   exact((s.del 7).del 6).del 5
  ·dsimp only[bringA,getA,aL] at s
   have F5:=J.jg gj
   have ue:=bT J.bG hw
   have hlen:=J.len gj
   refine zk 10 rfl (zC rfl aD (rfl) ?_)
   have s:=s.gC
   have s:=s.ae [5,5,1,1,1,1,1,1,1,0]
   dsimp only[bringA,getA,aL] at s
   rcases mC (n:=n) (fun _ _=>aY.cg _ _) (s.ae [1]) kZ bF o8 with⟨g1,g2,_⟩|⟨nw,b',g1,_,g2,s2⟩
   ·grind
   rw[hb] at g1
   have:=cx g1
   subst this
   refine zk 7 rfl (zY s 0 qX jQ rfl (zm rfl (zo rfl (iC rfl rfl g2) ?_)))
   obtain⟨dv,s⟩:=cC.1 (s2.ae [3])
   dsimp only[bringA,getA,aL] at s
   have s:=s.ae [4]
   dsimp only[bringA,getA,aL] at s
   refine zk 6 rfl (zY s 0 pV y9 rfl (zn rfl (zY s 1 pX uZ rfl (zm rfl (zc rfl (Yp (n:=n) hT (s.ae [5])) ?_)))))
   rintro v h ⟨rfl,s⟩
   dsimp only[bringA,getA,aL] at s
   refine zk 10 rfl ?_
   cases hd:(lookL n ah.1.bq).isSome with
   |true =>
    refine zK 6 rfl (zc rfl (Px hT (u:=u) (v:=nw) (pg:=n) (s.ae [11,4]) (dF _ _) (dF _ _) hlen GZ) ?_)
    rintro rv h ⟨YD,c,hc,kz,s⟩
    dsimp only[bringA,getA,aL] at s
    obtain⟨i1,jZ,jv,u_⟩:=uB
    have Sy:cs.length=acc.length*4:=by
     obtain⟨a,b,q1,q2,q3⟩:=s.at (k:=12) rfl
     exact pq q3
    have acS:YD.length=c.length*4:=by
     obtain⟨a,b,q1,q2,q3⟩:=s.at (k:=1) rfl
     exact pq q3
    obtain⟨vi,h2,rW,s2⟩:=iG (s.ae [11,0]) je jZ nY jv (by omega) rfl (by decide) (by omega)
    dsimp only[bringA,getA,aL] at s2
    refine ay.any rfl rfl rfl (OpR.of (R:=fun v h'=>v=vi∧h'=h2) (lP rfl rfl rW) ⟨rfl,rfl⟩) ?_
    rintro v' h' ⟨rfl,rfl⟩
    refine za rfl (zv (zr rfl (zb rfl (by exact bx (aA (by omega) (by omega))) ?_)))
    refine zm rfl (zv ?_)
    have s3:Sat _ (dh cs acc::dh YD c::_):=s2.ae [12,2]
    have s4:=s3.two (C:=dh (cs++YD) (acc++c)) (aY.kf _ _) (aY.kf _ _) fun a b q1 q2=>xJ q1 q2
    dsimp only[bringA,getA,aL] at s4
    have s5:=cC.2 ⟨dv,s4.ae [7,7]⟩
    dsimp only[bringA,getA,aL] at s5
    have s6:=e_.2 ⟨nv,s5.ae [7,7]⟩
    dsimp only[bringA,getA,aL] at s6
    have s7:=(((s6.ae [3,2,0,0,3,3,3,3]).del 10).del 9).del 8
    dsimp only[bringA,getA,aL] at s7
    refine ih (i+1) (acc++c) _ _ ah _ _ Q (by omega) F5 ue (by grind) s7 ⟨rfl,rfl,rfl,rfl,rfl,aa⟩ (fun e c' I E' h' ht he l2 l3 s' => ?_) (fun c' I E' h' Sz SB ht hl jf s' => ?_)
    ·exact hr e _ I E' h' (.part n _ ε w b ah c e c' I J hb hd hc kz ht) he l2 l3 s'
    ·refine hx (c++c') I E' h' Sz SB (.part n _ ε w b ah c 0 c' I J hb hd hc kz ht) (by grind) jf ?_<;>grind
   |false =>
    refine zK 5 rfl (zc rfl (mH hT (s.ae [4]) (dF _ _) (by omega)) ?_)
    intro cw h s
    dsimp only[bringA,getA,aL] at s
    obtain⟨wid,_,SC,_,rfl,_⟩:=s.fZ (by omega)
    have s:=s.gC
    refine zo rfl (dn rfl (by rw[Mw];rfl)) ?_
    obtain⟨rv,h1,qN,s1⟩:=kq (P:=Tryz.prog) (k:=4) (x:=.agg [.int .i64 n,.int .i64 0,.bool true,.sl wid 0 b.length SC]) s je nY oV rfl (by decide) (by decide) rfl rfl
    dsimp only[V.cells] at s1
    refine ay.any rfl rfl rfl (OpR.of (R:=fun v h'=>v=rv∧h'=h1) (nk rfl qN) ⟨rfl,rfl⟩) ?_
    rintro v' h' ⟨rfl,rfl⟩
    obtain⟨i1,jZ,jv,u_⟩:=uB
    have Sy:cs.length=acc.length*4:=by
     obtain⟨a,b,q1,q2,q3⟩:=s1.at (k:=11) rfl
     exact pq q3
    obtain⟨vi,h2,rW,s2⟩:=iG (s1.ae [10,0]) je jZ nY jv (by omega) rfl (by decide) (by grind)
    dsimp only[bringA,getA,aL] at s2
    refine ay.any rfl rfl rfl (OpR.of (R:=fun v h'=>v=vi∧h'=h2) (lP rfl rfl rW) ⟨rfl,rfl⟩) ?_
    rintro v' h' ⟨rfl,rfl⟩
    refine za rfl (zv (zr rfl (zb rfl (by exact bx (aA (by omega) (by omega))) ?_)))
    refine zm rfl (zv ?_)
    have s3:Sat _ (dh cs acc::.cg (.sl wid 0 b.length SC) b::_):=s2.ae [11,2]
    have s4:=s3.two (C:=dh (cs++[.int .i64 n,.int .i64 0,.bool true,.sl wid 0 b.length SC]) (acc++[⟨n,0,true,b⟩])) (aY.kf _ _) (aY.cg _ _) fun a b q1 q2=>xJ q1 ⟨⟨⟨rfl,rfl,rfl⟩,q2⟩,aa⟩
    have s5:=cC.2 ⟨dv,s4.ae [6,6]⟩
    have s6:=e_.2 ⟨nv,s5.ae [6,6]⟩
    have s7:=(((s6.ae [3,2,0,0,2,2,2,2]).del 10).del 9).del 8
    dsimp only[bringA,getA,aL] at s7
    refine ih (i+1) (acc++[⟨n,0,true,b⟩]) _ _ ah _ _ Q (by omega) F5 ue (by grind) s7 ⟨rfl,rfl,rfl,rfl,rfl,aa⟩ (fun e c' I E' h' ht he l2 l3 s' => ?_) (fun c' I E' h' Sz SB ht hl jf s' => ?_)
    ·exact hr e _ I E' h' (.whole n _ ε w b ah e c' I J hb hd ht) he l2 l3 s'
    ·refine hx (⟨n,0,true,b⟩::c') I E' h' Sz SB (.whole n _ ε w b ah 0 c' I J hb hd ht) (by grind) jf ?_<;>grind
theorem MX (J:W told)(s:Sat h (gE g a now cz::eA a p q r op data aB::dK r p q ε.1::bS q p ε.2.1::aR p ε.2.2::S))(gj:fD ε)(hw:bG ε≤268435456)(I:∀e∈now,e.2.length=512)(hm:now.length≤65536)(hk:∀n∈now.map (·.1),(Lit.int .i64 n).wf=true):
  Call ⟨Tryz.prog,told⟩ 58 [.ptr g 0] h fun v h'=>∃e c ah,ChR now (aE now) ε e c ah ∧
   ((e≠0∧v=.bf [.bC,.int .i64 e]∧Sat h' (gE g a now cz::eA a p q r op data aB::dK r p q ah.1::bS q p ah.2.1::aR p ah.2.2::S)) ∨
    (e=0∧c.length≤33554432∧∃av cs,v=.bf [av,.int .i64 0]∧Sat h' (.arr 4 av cs::dh cs c::gE g a now cz::eA a p q r op data aB::dK r p q ah.1::bS q p ah.2.1::aR p ah.2.2::S))):=by
 have hl:(aE now).length=now.length:=by rw[aE,(eF _).length_eq,jw]
 refine Call.of_wp (J.free _ rfl) Tryz.func58 rfl rfl (zK 13 rfl (zc rfl (Py J s (by omega) hk) ?_))
 intro kv h s
 refine zo rfl (aP rfl rfl rfl (s.ew (n:=(aE now).length) (j:=0) rfl (by simp[fJ]) (by decide) dI)) ?_
 refine zk 2 rfl (WP.block ?_)
 have s1:=(((s.gM aa).oO (k:=4)).gX fun a b q=>q).ae [0,0,1,1,1,1,1,0]
 refine IA J (ks:=aE now) (now:=now) (by omega) (fun n hn => ?_) I (aE now).length 0 [] .bC [] ε _ _ _ (by omega) gj hw (by simp) s1 ⟨rfl,rfl,rfl,rfl,rfl,aa⟩ (fun e c ah E' h' hr he l2 l3 s' => ?_) (fun c ah E' h' av cs hr kz jf s' => ?_)
 ·have:n∈now.map (·.1):=(eF _).mem_iff.1 hn
  cases hq:lookL n now<;>grind[f_]
 ·exact⟨aa,_,uC l2 l3,e,c,ah,hr,.inl ⟨he,rfl,s'⟩⟩
 ·have s:=s'
  exact WP.has jf (zK 6 rfl (WP.ret ⟨aa,_,rfl,0,c,ah,hr,.inr ⟨rfl,by omega,_,_,rfl,s⟩⟩))
end
theorem Ab {n:Nat}(I:bW b=true): (cT b n).length=512:=by
 have J:=xI (n:=n) (eC I)
 rw[cT,cJ (by rw[cR];omega),J]
def iV (π:Pl)(n:Int)(b:List Nat)(aM:Nat): Int×Pl :=
 (if (lH π n b aM).1=0 then(unpinF (lH π n b aM).2 n).1 else(lH π n b aM).1,(unpinF (lH π n b aM).2 n).2)
def vG (π:Pl)(n:Int)(i:Nat)(f:Fm)(b:List Nat)(aM:Nat): Pl :=
 { π with ai:=π.ai.set i { f with b:=cT b aM,changed:=true,pins:=0 },bq:=cG n (dirtOf π n aM,true) π.bq }
theorem tj (J:lookL n π.aG=some (i:Int))(I:π.ai[i]?=some f)(hp:f.pins=1)(hg:bW b=true): iV π n b aM=(0,vG π n i f b aM):=by
 have h1:=(uz J I hp).1
 have hi:=(List.getElem?_eq_some_iff.1 I).1
 have e1:lH π n b aM=(0,{ π with ai:=π.ai.set i { f with b:=cT b aM,changed:=true },bq:=cG n (dirtOf π n aM,true) π.bq }):=by
  simp only[lH,h1,I,hg,Bool.true_eq_false,fM]
 have e2:=(uz (π:={ π with ai:=π.ai.set i { f with b:=cT b aM,changed:=true },bq:=cG n (dirtOf π n aM,true) π.bq }) (n:=n) (f:={ f with b:=cT b aM,changed:=true }) J (iM hi) hp).2
 simp only[iV,e1,e2,cX,List.set_set]
 rfl
theorem Pz (J:lookL n π.aG=some (i:Int))(I:π.ai[i]?=some f)(hp:f.pins=1)(hg:bW b=false): iV π n b aM=(4,{ π with ai:=π.ai.set i { f with pins:=0 } }):=by
 have h1:=(uz J I hp).1
 have e1:lH π n b aM=(4,π):=by simp only[lH,h1,I,hg,cX]
 have e2:=(uz J I hp).2
 simp only[iV,e1,e2]
 rfl
theorem V2 (h:π.Ok): (lH π n b aM).2.Ok:=by
 unfold lH
 split
 ·exact h
 ·split
  ·exact h
  ·rename_i f J
   have hm:=bI J
   split
   ·exact h
   ·rename_i I
    have I:bW b=true:=by simpa using I
    exact h.set h.aG (by simp only[Ab I];omega) (h.pins f hm)
theorem fC.put {b0:List Nat}(hr:fC ε n 0 b0 ah)(h:fD ε): fD ((iV ah.1 n b aM).2,ah.2)∧Am.bG ((iV ah.1 n b aM).2,ah.2)≤Am.bG ε+1∧(bW b=true→(iV ah.1 n b aM).1=0):=by
 have I:=hr.ok h.ok h.pins
 have J:=(hr.full h.ok.dk h.full).1
 obtain⟨i,f,h1,h2,h3,h4,h5⟩:=hr.at h.pins
 have hm:=bI h2
 have uD:=hr.bG
 cases hg:bW b with
 |true =>
  rw[tj h1 h2 h3 hg]
  refine⟨⟨⟨I.pl.set I.pl.aG (by simp only[Ab hg];omega) (by simp),I.lg,I.dk⟩,h5 _ rfl,J.set h2 rfl fun _=>Ab hg⟩,?_,fun _=>rfl⟩
  have h6:=ni (g:={ f with b:=cT b aM,changed:=true,pins:=0 }) h2
  simp only[Bool.toNat_true] at h6
  simp only[Am.bG,vG] at uD ⊢
  omega
 |false =>
  rw[Pz h1 h2 h3 hg]
  refine⟨⟨⟨I.pl.set I.pl.aG (I.pl.len f hm) (by simp),I.lg,I.dk⟩,h5 _ rfl,J.set h2 rfl fun hl=>hl⟩,?_,fun h=>by cases h⟩
  have h6:=ni (g:={ f with pins:=0 }) h2
  simp only[Am.bG] at uD h6 ⊢
  omega
inductive PtR (now:List (Int×List Nat))(aM:Nat): List Int→aZ→Int→aZ→Prop where
 |nil (ε:aZ):PtR now aM [] ε 0 ε
 |jt (n:Int) (l:List Int) (ε:aZ) (e:Int) (b:List Nat) (ah:aZ) (hr:fC ε n e b ah) (he:e≠0):PtR now aM (n::l) ε e ah
 |bad (n:Int) (l:List Int) (ε:aZ) (b0 b:List Nat) (ah:aZ) (hr:fC ε n 0 b0 ah) (hb:lookL n now=some b) (he:(iV ah.1 n b aM).1≠0):PtR now aM (n::l) ε (iV ah.1 n b aM).1 ((iV ah.1 n b aM).2,ah.2)
 |put (n:Int) (l:List Int) (ε:aZ) (b0 b:List Nat) (ah:aZ) (e:Int) (lp:aZ) (hr:fC ε n 0 b0 ah) (hb:lookL n now=some b) (he:(iV ah.1 n b aM).1=0) (ht:PtR now aM l ((iV ah.1 n b aM).2,ah.2) e lp):PtR now aM (n::l) ε e lp
theorem PtR.jg {l:List Int}(I:PtR now aM l ε e ah)(h:fD ε): fD ah:=by
 induction I with
 |nil ε=>exact h
 |jt n l ε e b ah I he=>exact⟨I.ok h.ok h.pins,I.Li he h.pins,(I.full h.ok.dk h.full).1⟩
 |bad n l ε b0 b ah I hb he=>exact(I.put h).1
 |put n l ε b0 b ah e J I hb he ht ih=>exact ih (I.put h).1
theorem PtR.bG {l:List Int}(I:PtR now aM l ε e ah)(h:fD ε): Am.bG ah≤Am.bG ε+l.length:=by
 induction I with
 |nil ε=>exact aU _
 |jt n l ε e b ah I he=>have:=I.bG;omega
 |bad n l ε b0 b ah I hb he=>have:=(I.put (b:=b) (aM:=aM) h).2.1;simp only[aX];omega
 |put n l ε b0 b ah e J I hb he ht ih=>have h1:=ih (I.put h).1;have:=(I.put (b:=b) (aM:=aM) h).2.1;simp only[aX];omega
theorem aat {k:IntKind}{z:V}(J:T.get h.tr id=some (.map (es.map eP) c))(he:lookE n es=some u)(hu:Tryz.prog.underlying t=some (.map kt et))(hk:Tryz.prog.underlying kt=some (.int k))(hz:zeroT Tryz.prog et=some z):
  fN Tryz.prog h t (.map id) (.int .i64 n) false=some u:=by
 have hi:=qa (n:=n) es 0
 simp only[fN,lookupV,hu,hk,hz,J,keyBeq,dD,aj,ru]
 cases I:idxE n es 0 with
 |none=>rw[I] at hi;rw[he] at hi;cases hi
 |some q=>rw[I] at hi;rw[he] at hi;obtain⟨j,w⟩:=q;have:=cx hi;simp only at this;subst this;rfl
section
variable {told:dc} {p:Nat} {op v:V} {cz:Bool}
noncomputable def dnL : Code:=cD [1,1,1,1,1,1,1,1,0,1,0,0] ((Tryz.f26.body).getD .skip)
theorem PA (hT:W told){dv:V}{wN:Nat}(Yr:ks.length≤65536)(vj:∀n∈ks,(lookL n now).isSome=true)(sF:∀e∈now,e.2.length=512): ∀(j i:Nat) (ε:aZ) (h:H) (E:List (Nat×V)) (Q:Ex→List (Nat×V)→H→Prop),i+j=ks.length →
  fD ε→bG ε+j≤268435456 →
  Sat h (pt g (.cells 3 [.ptr a 0,.map wN,.bool cz] false)::gv wN es c::eV (fun v b=>.cg v b) es now::pt a (.cells 6 (r_ a p q r op dv aB) false)::dK r p q ε.1::bS q p ε.2.1::aR p ε.2.2::.arr 1 kv (fJ ks)::S) →
  Has E [(0,.ptr g 0),(6,.ptr a 0),(8,.int .u64 (aM:Int)),(73,kv),(74,.int .i64 ks.length),(75,.int .i64 i)] →
  (∀e ah E' h',PtR now aM (ks.drop i) ε e ah→e≠0→look E' 4=some (.int .u64 0)→look E' 5=some (.int .i64 e)→Sat h' (pt g (.cells 3 [.ptr a 0,.map wN,.bool cz] false)::gv wN es c::eV (fun v b=>.cg v b) es now::pt a (.cells 6 (r_ a p q r op dv aB) false)::dK r p q ah.1::bS q p ah.2.1::aR p ah.2.2::S)→Q .ret E' h') →
  (∀ah E' h',PtR now aM (ks.drop i) ε 0 ah→Has E' [(8,.int .u64 (aM:Int))]→Sat h' (pt g (.cells 3 [.ptr a 0,.map wN,.bool cz] false)::gv wN es c::eV (fun v b=>.cg v b) es now::pt a (.cells 6 (r_ a p q r op dv aB) false)::dK r p q ah.1::bS q p ah.2.1::aR p ah.2.2::S)→Q (.exit 1) E' h') →
  WP ⟨Tryz.prog,told⟩ 118 (.loop dnL) E h Q:=by
 intro j
 induction j with
 |zero =>
  intro i ε h E Q hj I hw s hE hr hx
  refine WP.loop (WP.has hE (zg rfl (zC rfl aN (by simp<;>omega) ?_)))
  refine zk 3 rfl (WP.exit ?_)
  rw[kK (by omega)] at hx
  exact hx ε _ _ (.nil ε) ⟨rfl,aa⟩ (s.del 7)
 |succ j ih =>
  intro i ε h E Q hj I hw s hE hr hx
  have hn:ks[i]?=some (ks[i]'(by omega)):=bA _
  have yN:ks[i]'(by omega)∈ks:=AH _
  have n_:ks.drop i=ks[i]'(by omega)::ks.drop (i+1):=pL (by omega)
  generalize (ks[i]'(by omega))=n at hn yN n_
  have hc:(fJ ks)[i]?=some (.int .i64 n):=by simp[fJ,hn]
  obtain⟨b,hb⟩:=Option.isSome_iff_exists.1 (vj n yN)
  have GZ:=sF _ (fI hb)
  simp only at GZ
  rw[n_] at hr hx
  obtain⟨id,off,e1,e2⟩:=iz (P:=Tryz.prog) s (k:=7) rfl hc dI ke
  refine WP.loop (WP.has hE (zg rfl (zB rfl aN (by simp<;>omega) ?_)))
  refine zk 5 rfl (WP.block (zg rfl (zo rfl (cj (r:=.ptr id off) rfl rfl e1) (zl rfl (e2 _ cL) (zk 7 rfl (zY s 3 pX uZ rfl (zm rfl (zc rfl (Pk (n:=n) hT (s.ae [4,4,4]) I.ok.pl I.pins I.ok.lg I.ok.dk (by have:=kF (ε:=ε);omega)) ?_))))))))
  rintro v h ⟨e,b0,ah,IB,(⟨he,rfl,s⟩|⟨rfl,u0,rfl,s⟩)⟩
  ·dsimp only[bringA,getA,aL] at s
   refine zk 9 rfl (zB rfl aD (by simp;exact he) ?_)
   exact zk 8 rfl (WP.ret (hr e ah _ _ (.jt n _ ε e b0 ah IB he) he rfl rfl ((s.ae [3,3,3,3,0,0,0]).del 7)))
  ·dsimp only[bringA,getA,aL] at s
   have s:=s.drop
   have SD:=IB.put (b:=b) (aM:=aM) I
   have iH:=IB.ok I.ok I.pins
   refine zk 9 rfl (zC rfl aD (rfl) (zk 4 rfl ?_))
   have s1:Sat h (eV (fun v b=>.cg v b) es now::_):=s.ae [5]
   obtain⟨_,_,_,_,q3⟩:=s1.at (k:=0) rfl
   rcases tf (n:=n) q3 with⟨_,q4⟩|⟨u,b',g1,g2,_⟩
   ·rw[hb] at q4;cases q4
   rw[hb] at g2
   have:=cx g2
   subst this
   have s2:=(s1.dup (aY.HR (fun _ _=>aY.cg _ _) _ _)).gX (B:=.cg u b) fun a' b' h'=>by
    rcases tf (n:=n) h' with⟨_,q4⟩|⟨u',b'',g1',g2',g3'⟩
    ·rw[hb] at q4;cases q4
    ·rw[g1] at g1';rw[hb] at g2'
     have h5:=cx g1'
     have h6:=cx g2'
     subst h5;subst h6
     exact g3'
   dsimp only[bringA,getA,aL] at s2
   obtain⟨uid,acT,acU,rfl⟩:=iS (s2.aH (k:=0) rfl (dF _ _)) (by omega)
   have s:=s2.ae [2,0]
   dsimp only[bringA,getA,aL] at s
   have s0:=s
   refine WP.drawn [af,af,af,af,af,af,af,af,af,af,af,af,af,af] rfl (by kernel_rfl) (by kernel_rfl) ?_
   refine zM rfl (zN rfl (zF rfl (pX _ _) (zL rfl (s.ld (k:=7) rfl uZ rfl) (zM rfl (zM rfl (zN rfl (zF rfl (qX _ _) (zL rfl (s.ld (k:=5) rfl jQ rfl) (zM rfl (zO rfl (iC rfl rfl (aat (s.row (k:=6) rfl) g1 kZ bF o8)) (zM rfl (ax.any rfl rfl rfl rfl (OpR.call rfl rfl rfl rfl (VS (n:=n) (aM:=aM) (b:=b) hT s (dF _ _) iH.pl (by omega))) ?_))))))))))))
   rintro v h ⟨rfl,s⟩
   refine zA rfl ?_
   refine ax.nil ⟨⟨aa,aa,aa,aa,aa,aa,aa,aa,aa,aa,aa,aa,aa,aa,aa⟩,?_⟩
   refine zK 5 rfl (zY s 7 pX uZ rfl (zm rfl (zc rfl (Ii (n:=n) hT s (V2 iH.pl)) ?_)))
   rintro v h ⟨rfl,s⟩
   refine zk 5 rfl ?_
   by_cases hg:(lH ah.1 n b aM).1=0
   ·have Lj:(iV ah.1 n b aM).1=(unpinF (lH ah.1 n b aM).2 n).1:=by simp only[iV,hg,cX]
    have Ux:(iV ah.1 n b aM).2=(unpinF (lH ah.1 n b aM).2 n).2:=rfl
    rw[←Lj,←Ux] at *
    refine zB rfl dG (by simp;exact hg) ?_
    refine zk 9 rfl ?_
    by_cases he:(iV ah.1 n b aM).1=0
    ·skip
     refine zC rfl aD (by simp;exact he) ?_
     refine zv (zj rfl (WP.skip (zr rfl (zb rfl (by exact bx (aA (by omega) (by omega))) ?_))))
     refine zm rfl (zv ?_)
     have s9:=(s.ae [5,5,2,4,0,1,1,1]).del 8
     refine ih (i+1) ((iV ah.1 n b aM).2,ah.2) _ _ Q (by omega) SD.1 (by have h9:bG ((iV ah.1 n b aM).2,ah.2)≤bG ε+1:=SD.2.1;omega) s9 ⟨rfl,rfl,rfl,rfl,rfl,rfl,aa⟩ (fun e J E' h' ht CK l4 l5 s' => ?_) (fun J E' h' ht jf s' => ?_)
     ·exact hr e J E' h' (.put n _ ε b0 b ah e J IB hb he ht) CK l4 l5 s'
     ·exact hx J E' h' (.put n _ ε b0 b ah 0 J IB hb he ht) jf s'
    ·skip
     refine zB rfl aD (by simp;exact he) ?_
     exact zk 8 rfl (WP.ret (hr _ _ _ _ (.bad n _ ε b0 b ah IB hb he) he rfl rfl (((s.ae [5,5,2,4,0,1,1,1]).del 8).del 7)))
   ·have Lj:(iV ah.1 n b aM).1=(lH ah.1 n b aM).1:=by simp only[iV,hg,fM]
    have Ux:(iV ah.1 n b aM).2=(unpinF (lH ah.1 n b aM).2 n).2:=rfl
    rw[←Lj] at hg
    refine zC rfl dG (by simp;rw[←Lj];exact hg) ?_
    refine zk 6 rfl (zB rfl aD (by simp;rw[←Lj];exact hg) ?_)
    refine zk 8 rfl (WP.ret (hr _ _ _ _ (.bad n _ ε b0 b ah IB hb hg) hg rfl (by rw[Lj];rfl) ?_))
    exact((s.ae [5,5,2,4,0,1,1,1]).del 8).del 7
end
theorem uA.fit {now:List Nat}{l:List cn}(J:uA pg d_ now i l)(hn:now.length=512)(h0:0≤pg)(h1:pg<65536): ∀c∈l,c.Ok∧c.b.length≤512:=by
 induction J with
 |done i h=>intro c I;cases I
 |skip i l h he J ih=>exact ih
 |take i e l h2 h3 _ _ J ih =>
  intro c I
  rcases List.mem_cons.1 I with rfl|I
  ·have hl:((now.take e).drop i).length=e-i:=by simp;omega
   refine⟨⟨h0,h1,by simp,by simp only;omega,by simp only[hl];omega,by simp⟩,by simp only[hl];omega⟩
  ·exact ih c I
theorem F3.fit {now:List Nat}{l:List cn}(hr:F3 pg d_ now l)(hn:now.length=512)(I:0≤pg)(J:pg<65536): ∀c∈l,c.Ok∧c.b.length≤512:=by
 obtain⟨m,h2,rfl⟩:=hr
 split
 ·intro c hc
  rw[List.mem_singleton.1 hc]
  exact⟨⟨I,J,by simp,by simp,by simp,by simp⟩,by simp⟩
 ·exact h2.fit hn I J
theorem ChR.fit {l:List Int}(hr:ChR now l ε e cs ah)(J:∀x∈now,x.2.length=512)(hl:∀n∈l,0≤n∧n<65536): ∀c∈cs,c.Ok∧c.b.length≤512:=by
 induction hr with
 |nil ε=>intro c hc;cases hc
 |err n l ε e b ah hr he=>intro c hc;cases hc
 |part n l ε d_ b ah c e cs lp hr hb hd hc kz ht ih =>
  intro x I
  have hn:=hl n b7
  rcases List.mem_append.1 I with I|I
  ·exact hc.fit (J _ (fI hb)) hn.1 hn.2 x I
  ·exact ih (fun m hm=>hl m (b5 _ hm)) x I
 |whole n l ε d_ b ah e cs lp hr hb hd ht ih =>
  intro x I
  have hn:=hl n b7
  have hb:=J _ (fI hb)
  rcases List.mem_cons.1 I with rfl|I
  ·exact⟨⟨hn.1,hn.2,by simp,by simp,by simp only at hb ⊢;omega,fun _=>⟨rfl,hb⟩⟩,by simp only at hb ⊢;omega⟩
  ·exact ih (fun m hm=>hl m (b5 _ hm)) x I
theorem vk : ∀(f n:Nat),(digits f n).length≤f+1:=by
 intro f
 induction f with
 |zero=>intro n;simp[digits]
 |succ f I =>
  intro n
  unfold digits
  split
  ·simp
  ·have:=I (n/128)
   simp only[aX]
   omega
theorem YE {c:cn}(I:c.b.length≤512): (kD c).length≤543:=by
 have J:=vk 9 c.aK.toNat
 have h2:=vk 9 c.pos.toNat
 have h3:=vk 9 c.b.length
 simp only[kD,bO,aX,cI]
 omega
theorem V3 : ∀ {l:List cn},(∀c∈l,c.b.length≤512)→(l.flatMap kD).length≤543*l.length:=by
 intro l
 induction l with
 |nil=>intro _;simp
 |cons c l I =>
  intro h
  have h1:=YE (h c b7)
  have h2:=I fun x J=>h x (b5 _ J)
  simp only[vV,bO,aX]
  omega
theorem V4 {l:List cn}(hl:l.length≤33554432)(h:∀c∈l,c.Ok∧c.b.length≤512)(J:tx<18446744073709551616)(Ut:pv<18446744073709551616)(yt:nx<18446744073709551616)(hd:data.length≤35184372088832): Dt tx pv nx data l:=by
 have h2:=V3 fun c I=>(h c I).2
 refine⟨⟨by omega,fun c I=>by have:=(h c I).2;omega,fun c I => ?_⟩,J,Ut,yt,by omega⟩
 have:=(h c I).1
 simp only[cn.Ok] at this
 omega
theorem xP {l:List cn}{kd:Int}(I:1≤kd∧kd≤9)(h:∀c∈l,c.Ok∧c.b.length≤512): dY kd l=true:=by
 simp only[dY,bK,ir,nQ]
 exact⟨I,fun c J=>(h c J).1⟩
inductive DnR (ε:aZ)(now:List (Int×List Nat))(kd:Int)(tx pv nx:Nat)(data:List Nat)(oQ:Nat): Nat→Int→Bool→aZ→Prop where
 |arg (h:¬(1≤kd∧kd≤7)∨0<oQ):DnR ε now kd tx pv nx data oQ 0 1 false ε
 |dead (h1:1≤kd) (h2:kd≤7) (h3:oQ=0) (h:ε.2.2.dead=true):DnR ε now kd tx pv nx data oQ 0 9 false ε
 |kf (e:Int) (c:List cn) (ah:aZ) (h1:1≤kd) (h2:kd≤7) (h3:oQ=0) (h:ε.2.2.dead=false) (hc:ChR now (aE now) ε e c ah) (he:e≠0):DnR ε now kd tx pv nx data oQ 0 e false ah
 |app (c:List cn) (ah:aZ) (h1:1≤kd) (h2:kd≤7) (h3:oQ=0) (h:ε.2.2.dead=false) (hc:ChR now (aE now) ε 0 c ah) (he:(aF ah.2 kd tx pv nx data c).1.2≠0):DnR ε now kd tx pv nx data oQ 0 (aF ah.2 kd tx pv nx data c).1.2 false (ah.1,(aF ah.2 kd tx pv nx data c).2)
 |put (c:List cn) (ah:aZ) (e:Int) (lp:aZ) (h1:1≤kd) (h2:kd≤7) (h3:oQ=0) (h:ε.2.2.dead=false) (hc:ChR now (aE now) ε 0 c ah) (ha:(aF ah.2 kd tx pv nx data c).1.2=0) (hp:PtR now (aF ah.2 kd tx pv nx data c).1.1 (aE now) (ah.1,(aF ah.2 kd tx pv nx data c).2) e lp) :
   DnR ε now kd tx pv nx data oQ (if e=0 then(aF ah.2 kd tx pv nx data c).1.1 else 0) e true lp
structure vl (ε ah:aZ): Prop where
 base:ah.2.1.base=ε.2.1.base
 b:ah.2.1.b=ε.2.1.b
 cB:ah.2.1.cB=ε.2.1.cB
 check:ah.2.1.check=ε.2.1.check
 log:ah.2.2.log=ε.2.2.log
 room:ah.2.2.room=ε.2.2.room
 aq:ah.2.2.aq=ε.2.2.aq
theorem vl.refl (ε:aZ): vl ε ε:=⟨rfl,rfl,rfl,rfl,rfl,rfl,rfl⟩
theorem vl.trans {a b c:aZ}(x:vl a b)(y:vl b c): vl a c :=
 ⟨y.base.trans x.base,y.b.trans x.b,y.cB.trans x.cB,y.check.trans x.check,y.log.trans x.log,y.room.trans x.room,y.aq.trans x.aq⟩
theorem oh : δ.cq.2.log=δ.log∧δ.cq.2.room=δ.room∧δ.cq.2.aq=δ.aq:=by
 unfold Dk.cq
 split
 ·simp
 ·split<;>exact⟨rfl,rfl,rfl⟩
theorem xQ : (δ.bw n b).2.log=δ.log∧(δ.bw n b).2.room=δ.room∧(δ.bw n b).2.aq=δ.aq:=by
 unfold Dk.bw
 split
 ·simp
 ·split
  ·simp
  ·split<;>exact⟨rfl,rfl,rfl⟩
theorem IC {x:LD}{n:Nat}: vl (π,x) (π,(aI x n).2):=by
 unfold aI
 split
 ·exact vl.refl _
 ·split
  ·exact⟨rfl,rfl,rfl,rfl,oh.1,oh.2.1,oh.2.2⟩
  ·exact⟨rfl,rfl,rfl,rfl,oh.1,oh.2.1,oh.2.2⟩
theorem vl.to (h:vl ε ah): vl ε (π,ah.2):=⟨h.base,h.b,h.cB,h.check,h.log,h.room,h.aq⟩
structure jV (R:LD→Prop): Prop where
 force:∀(x:LD) (n:Nat),R x→R (aI x n).2
 write:∀(x:LD) (n:Int) (b:List Nat),R x→R (x.1,(x.2.bw n b).2)
section
variable {R:LD→Prop} {cz:Bool} {l:List Int}
theorem jV.out (h:jV R)(I:R ε.2): R (outF ε i).2.2:=by
 unfold outF
 split
 ·exact I
 ·split
  ·exact I
  ·split
   ·exact I
   ·split
    ·exact h.force _ _ I
    ·split
     ·exact h.write _ _ _ (h.force _ _ I)
     ·exact h.write _ _ _ (h.force _ _ I)
theorem jV.jt (h:jV R)(I:fC ε n e b ah)(J:R ε.2): R ah.2:=by
 cases I<;>grind[out]
theorem jV.rd (h:jV R)(I:mq ε n e b ah)(J:R ε.2): R ah.2:=by
 cases I<;>grind[jt]
theorem jV.qh (h:jV R)(J:GRd ε now cz n e b ah)(I:R ε.2): R ah.2:=by
 cases J with
 |arg hn=>exact I
 |cz _ _ _=>exact I
 |own b h1 h2 _ hl=>exact I
 |read e b ah h1 h2 _ hl J=>exact h.rd J I
theorem jV.yu (h:jV R)(I:nK ε now cz n b e bR ah)(J:R ε.2): R ah.2:=by
 cases I with
 |may e c ah I he=>exact h.qh I J
 |bad c ah I hg=>exact h.qh I J
 |done c ah I hg=>exact h.qh I J
theorem jV.ch (h:jV R)(I:ChR now l ε e cs ah): R ε.2→R ah.2:=by
 induction I with
 |nil ε=>simp
 |err n l ε e b ah I he=>exact h.rd I
 |part n l ε d_ b ah c e cs J I hb hd hc kz ht ih=>exact fun hx=>ih (h.rd I hx)
 |whole n l ε d_ b ah e cs J I hb hd ht ih=>exact fun hx=>ih (h.rd I hx)
theorem jV.pt (h:jV R)(I:PtR now aM l ε e ah): R ε.2→R ah.2:=by
 induction I<;>grind[jt]
theorem PB (ε:aZ): jV fun y=>vl ε (ε.1,y) :=
 ⟨fun _ _ h=>h.trans IC,fun _ _ _ h=>h.trans ⟨rfl,rfl,rfl,rfl,xQ.1,xQ.2.1,xQ.2.2⟩⟩
theorem ChR.same (I:ChR now l ε e cs ah): vl ε ah:=((PB ε).ch I (vl.refl ε)).to
end
theorem SE {m:Nat}: ∀ {l:List Nat},l.Pairwise (· < ·)→(∀s∈l,s<m)→l.length≤m:=by
 intro l I J
 have key:∀(l:List Nat) (k:Nat),l.Pairwise (· < ·)→(∀s∈l,k≤s∧s<m)→k+l.length≤m∨l=[]:=by
  intro l
  induction l with
  |nil=>simp
  |cons x l ih =>
   intro k I J
   simp only[tA] at I
   have hx:=J x b7
   rcases ih (x+1) I.2 (fun s hs=>⟨I.1 s hs,(J s (b5 _ hs)).2⟩) with h|rfl<;>grind
 rcases key l 0 I (fun s hs=>⟨fX _,J s hs⟩) with h|rfl
 ·omega
 ·simp
theorem ff (x:LD)(kd:Int)(tx pv nx:Nat)(data:List Nat)(c:List cn):
  (∃e:Int,e≠0∧((e=1∧dY kd c=false)∨(e=2∧1048576<(dy kd tx pv nx data c).length)∨(e=9∧x.2.dead=true)∨(e=7∧x.2.room<x.2.log.length+(cA x.1 kd tx pv nx data c).length))∧aF x kd tx pv nx data c=((0,e),x)) ∨
  (x.2.dead=false∧x.2.aS=0∧aF x kd tx pv nx data c=((0,9),(x.1,{ x.2.die with tail:=cA x.1 kd tx pv nx data c }))) ∨
  (dY kd c=true∧(dy kd tx pv nx data c).length≤1048576∧x.2.dead=false∧x.2.log.length+(cA x.1 kd tx pv nx data c).length≤x.2.room∧x.2.aS≠0 ∧
   aF x kd tx pv nx data c=((x.1.base+x.1.b.length,0),(x.1.app (cA x.1 kd tx pv nx data c),{ x.2.cY with log:=x.2.log++cA x.1 kd tx pv nx data c }))):=by
 by_cases I:dY kd c=false
 ·grind[aF]
 ·by_cases J:1048576<(dy kd tx pv nx data c).length
  ·grind[aF]
  ·by_cases hd:x.2.dead=true
   ·grind[Dk.jq,aF]
   grind[Dk.jq,aF]
theorem vH {x:LD}{kd:Int}{c:List cn}(J:x.1.Ok)(I:x.2.Ok)(hs:x.1.b=x.2.log)(hz:x.1.base+x.1.b.length+1048584≤1099511627776):
  (aF x kd tx pv nx data c).2.1.Ok∧(aF x kd tx pv nx data c).2.2.Ok∧(aF x kd tx pv nx data c).2.1.b=(aF x kd tx pv nx data c).2.2.log∧(aF x kd tx pv nx data c).2.1.base=x.1.base∧(aF x kd tx pv nx data c).2.1.b.length≤x.1.b.length+1048584 ∧
  (aF x kd tx pv nx data c).2.2.waiting=x.2.waiting∧(aF x kd tx pv nx data c).1.1<1099511627776:=by
 have hlen:(cA x.1 kd tx pv nx data c).length=8+(dy kd tx pv nx data c).length:=pz _ _
 rcases ff x kd tx pv nx data c with⟨e,_,_,h⟩|⟨hd,hf,h⟩|⟨hg,hb,hd,fA,hf,h⟩
 ·grind
 ·rw[h];exact⟨J,⟨I.aS,I.len,I.room,I.now,I.aq,I.bh,I.many⟩,hs,rfl,AI _ _,rfl,by simp⟩
 ·rw[h]
  generalize cA x.1 kd tx pv nx data c=rc at hlen fA
  have acj:=I.room
  have j_:x.1.b.length=x.2.log.length:=by rw[hs]
  have hl:(x.1.b++rc).length=x.1.b.length+rc.length:=bO
  have js:(x.2.log++rc).length=x.2.log.length+rc.length:=bO
  refine⟨⟨?_,?_,?_,?_,?_,?_,J.check⟩,⟨I.cY.aS,?_,I.room,I.now,I.aq,?_,I.many⟩,?_,rfl,?_,rfl,?_⟩
  ·show x.1.base+(x.1.b++rc).length≤_;omega
  ·have h1:=SE J.ES J.low
   show(x.1.cB++[x.1.b.length]).length≤_
   grind
  ·intro s hm
   show s<(x.1.b++rc).length
   rcases List.mem_append.1 (show s∈x.1.cB++[x.1.b.length] from hm) with hm|hm
   ·have:=J.low s hm;omega
   ·grind
  ·show(x.1.cB++[x.1.b.length]).Pairwise (·< ·)
   rw[List.pairwise_append]
   refine⟨J.ES,List.pairwise_singleton _ _,fun a ha b hb => ?_⟩
   rw[List.mem_singleton.1 hb]
   exact J.low a ha
  ·have:=J.forced
   show x.1.forced≤(x.1.b++rc).length;omega
  ·show(x.1.b++rc).length≤_;omega
  ·grind
  ·have:=I.bh
   show x.2.bh≤(x.2.log++rc).length;omega
  ·show x.1.b++rc=x.2.log++rc;rw[hs]
  ·show(x.1.b++rc).length≤_;omega
  ·grind
theorem wf_i64 (I:0≤n)(J:n<4294967296): (Lit.int .i64 n).wf=true:=by
 simp only[Lit.wf,bK,ir]
 have e1:IntKind.min .i64 = -9223372036854775808:=rfl
 have e2:IntKind.max .i64=9223372036854775807:=rfl
 omega
theorem Bk {kd:Int}{ch:V}(I:dt.beq dt=true)(J:ch.beq ch=true): (V.agg (ie kd tx pv nx dt ch)).beq (V.agg (ie kd tx pv nx dt ch))=true:=by
 simp only[ie,V.beq,V.beqL,I,J,dD,kY,AS,jl,aj]
section
variable {told:dc} {p:Nat} {op v:V} {cz:Bool}
theorem V5 (hT:W told){kd:Int}{oQ:Nat}{ch:V}{ccs:List V}(s:Sat h (gE g a now false::eA a p q r (.ptr g 0) GY aB::dK r p q ε.1::bS q p ε.2.1::aR p ε.2.2::X::.arr 4 ch ccs::S))(hX:cQ X (cW dt data))(OW:ccs.length=oQ*4)(gj:fD ε)(hw:bG ε+65536≤268435456)
 (sF:∀e∈now,e.2.length=512)(hm:now.length≤65536)(hk:∀n∈now.map (·.1),0≤n∧n<65536)(FW:tx<18446744073709551616)(Ut:pv<18446744073709551616)(yt:nx<18446744073709551616)(hd:data.length≤35184372088832)(E0:ε.2.1.b=ε.2.2.log)(hz:ε.2.1.base+ε.2.1.b.length+1048584≤1099511627776):
  Call ⟨Tryz.prog,told⟩ 26 [.ptr g 0,.agg (ie kd tx pv nx dt ch)] h fun v h'=>∃aM e cl ah,DnR ε now kd tx pv nx data oQ aM e cl ah∧v=.bf [.int .u64 (aM:Int),.int .i64 e] ∧
   Sat h' (gE g a now cl::eA a p q r (cond cl .cy (.ptr g 0)) GY aB::dK r p q ah.1::bS q p ah.2.1::aR p ah.2.2::X::S):=by
 have nt:∀n∈now.map (·.1),(Lit.int .i64 n).wf=true:=fun n hn=>by
  have:=hk n hn
  exact wf_i64 (by omega) (by omega)
 have iI:=s.iY (j:=6) rfl
 have jB:=s.aH (k:=5) rfl hX
 have dZ:=mQ (kd:=kd) (tx:=tx) (pv:=pv) (nx:=nx) jB.cells.2 iI.2.1
 have hlen:=s.ew (n:=oQ) (j:=6) rfl OW (by decide) je
 have s0:=s
 obtain⟨nv,s⟩:=e_.1 s
 refine Call.of_wp (hT.free _ rfl) Tryz.func26 rfl rfl (zg rfl (ay.b8 s rfl rfl rfl (fg rfl dZ) ?_))
 intro p1 h s
 dsimp only[V.cells] at s
 have s:Sat h (pt p1 (.cells 6 (ie kd tx pv nx dt ch) false)::_):=s
 have hlen:=s.ew (n:=oQ) (j:=8) rfl OW (by decide) je
 refine zk 7 rfl (zY s 1 pV y9 rfl (zk 3 rfl (WP.block (zK 4 rfl (zf rfl (A7 _ _) (zh rfl (aW rfl (s.ld (k:=1) rfl jK rfl)) (rfl) (zk 5 rfl (zY s 0 uh cL rfl ?_))))))))
 have fin:∀e:Int,Sat h (gE g a now false::eA a p q r (.ptr g 0) GY aB::dK r p q ε.1::bS q p ε.2.1::aR p ε.2.2::X::S):=fun e=>((e_.2 ⟨nv,s.ae [1,1]⟩).del 7).del 1
 refine zd rfl (az rfl rfl aN) ?_ ?_
 ·intro hq
  have hq:kd<1:=by simpa using hq
  exact zk 19 rfl (WP.ret ⟨aa,_,rfl,0,1,false,ε,.arg (.inl (by omega)),rfl,fin 0⟩)
 ·intro hq
  have hq:1≤kd:=by simp at hq;omega
  refine zm rfl (zY s 0 uh cL rfl ?_)
  refine zd rfl (az rfl rfl gT) ?_ ?_
  ·intro J
   have J:7<kd:=by simpa using J
   exact zk 15 rfl (WP.ret ⟨aa,_,rfl,0,1,false,ε,.arg (.inl (by omega)),rfl,fin 0⟩)
  ·intro J
   have J:kd≤7:=by simp at J;omega
   refine zk 2 rfl (zY s 0 mO ug rfl (zo rfl (aP rfl rfl rfl hlen) ?_))
   refine zd rfl (az rfl rfl gT) ?_ ?_
   ·intro I
    have I:0<oQ:=by simp at I;omega
    exact zk 9 rfl (WP.ret ⟨aa,_,rfl,0,1,false,ε,.arg (.inr I),rfl,fin 0⟩)
   ·intro I
    have I:oQ=0:=by simp at I;omega
    obtain⟨dv,s⟩:=cC.1 (s.ae [3])
    dsimp only[bringA,getA,aL] at s
    refine zk 8 rfl (zY s 0 pW o9 rfl (zc rfl (rz hT (s.ae [7])) ?_))
    rintro v h ⟨rfl,rfl⟩
    refine zk 2 rfl ?_
    cases uQ:ε.2.2.dead with
    |true =>
     refine zK 6 rfl (WP.ret ⟨aa,_,rfl,?_⟩)
     have s9:=e_.2 ⟨nv,(cC.2 ⟨dv,s⟩).ae [2,2]⟩
     dsimp only[bringA,getA,aL] at s9
     exact⟨0,9,false,ε,.dead hq J I uQ,rfl,(s9.del 7).del 2⟩
    |false =>
     refine zj rfl (WP.skip (zg rfl (za rfl (zv (zw (zg rfl (zm rfl ?_)))))))
     have s9:=e_.2 ⟨nv,(cC.2 ⟨dv,s⟩).ae [2,2]⟩
     dsimp only[bringA,getA,aL] at s9
     have s:=s9.ae [0,0,1,1,1]
     dsimp only[bringA,getA,aL] at s
     refine zc rfl (MX hT s gj (by omega) sF hm nt) ?_
     rintro v h ⟨e,c,ah,hc,(⟨he,rfl,s⟩|⟨rfl,kz,av,cs,rfl,s⟩)⟩
     ·refine ay.op rfl rfl rfl (bD rfl) ?_
      refine zk 2 rfl (zf rfl (mO _ _) ?_)
      refine zS rfl (by exact s.eX (k:=5) rfl Mv rfl (by decide) rfl rfl) (fun h s => ?_)
      dsimp only[ie,Nat.reduceAdd,List.set,setA] at s
      refine zk 5 rfl (zB rfl aD (by simp;exact he) ?_)
      exact zk 8 rfl (WP.ret ⟨aa,_,rfl,0,e,false,ah,.kf e c ah hq J I uQ hc he,rfl,(s.del 7).del 5⟩)
     ·have DB:=s.iY (j:=0) rfl
      have ID:=hc.jg gj
      have hcp:=hc.bG
      have vc:=hc.same
      have Lk:=vH (x:=ah.2) (kd:=kd) (tx:=tx) (pv:=pv) (nx:=nx) (data:=data) (c:=c) ID.ok.lg ID.ok.dk (by rw[vc.b,vc.log];exact E0) (by rw[vc.base,vc.b];exact hz)
      have fA:=hc.fit sF fun n hn=>hk n ((eF _).mem_iff.1 hn)
      refine zk 3 rfl (zf rfl (mO _ _) (zS rfl (s.eX (k:=7) rfl Mv rfl (show 0+5<6 by decide) DB.1 DB.2.1) ?_))
      intro h s
      dsimp only[ie,Nat.reduceAdd,List.set,setA] at s
      refine zk 5 rfl (zC rfl aD (rfl) ?_)
      obtain⟨dv,s⟩:=cC.1 (s.ae [3])
      dsimp only[bringA,getA,aL] at s
      have s:=s.ae [6,6,7,2,2,0,3]
      dsimp only[bringA,getA,aL] at s
      refine zv (zj rfl (WP.skip (zw ?_)))
      have s0:=s
      have abt:=dg jB
      have IE:=Bk (kd:=kd) (tx:=tx) (pv:=pv) (nx:=nx) abt DB.2.2
      refine WP.drawn [af,af,af,af,af,af,af,af,af,af,af] rfl (by kernel_rfl) (by kernel_rfl) ?_
      refine zM rfl (zN rfl (zF rfl (wG _ _) (zL rfl (s.ld (k:=5) rfl EE rfl) (zL rfl (s.bZ (k:=6) rfl nG g8) (ax.any rfl rfl rfl rfl (OpR.call rfl rfl rfl rfl (R5 (kd:=kd) (tx:=tx) (pv:=pv) (nx:=nx) hT s hX (V4 kz fA FW Ut yt hd) ID.ok.lg ID.ok.dk)) ?_)))))
      rintro v h ⟨rfl,s⟩
      refine zM rfl (zO rfl (cK rfl rfl) (zO rfl (cK rfl rfl) (zA rfl (zA rfl ?_))))
      refine ax.nil ⟨⟨aa,aa,aa,aa,aa,aa,aa,aa,aa,aa,aa,aa⟩,?_⟩
      refine zK 4 rfl ?_
      have s9:=cC.2 ⟨dv,s.ae [5,6]⟩
      have s:=((((s9.ae [7,0,6,0,0,0]).del 9).del 8).del 7).del 6
      by_cases he:(aF ah.2 kd tx pv nx data c).1.2=0
      ·skip
       refine zC rfl aD (by simp;exact he) ?_
       refine zk 6 rfl (zc rfl (Pw hT s) ?_)
       rintro v h ⟨rfl,s⟩
       obtain⟨nv,s⟩:=e_.1 s
       obtain⟨wN,rfl⟩:=Dh s (j:=1) rfl
       refine zk 6 rfl (zY s 0 qX jQ rfl (zc rfl (xO hT s) ?_))
       rintro v h ⟨kb,rfl,s⟩
       refine zc rfl (rX hT (s.ae [0,1]) (by decide) (by omega) nt) ?_
       intro kv h s
       have hl:(aE now).length=now.length:=by rw[aE,(eF _).length_eq,jw]
       refine zo rfl (aP rfl rfl rfl (s.ew (n:=(aE now).length) (j:=0) rfl (by simp[fJ]) (by decide) dI)) ?_
       refine zk 2 rfl (WP.block ?_)
       obtain⟨acV,es,clock,SF,hb,lK,s⟩:=eH.1 (s.ae [2])
       injection SF with SF
       subst SF
       obtain⟨dv,s⟩:=cC.1 (s.ae [5])
       have s:=s.ae [6,2,2,0,3,3,3,1]
       refine PA (op:=.cy) (dv:=dv) hT (ks:=aE now) (now:=now) (aM:=(aF ah.2 kd tx pv nx data c).1.1) (by omega) (fun n hn => ?_) sF (aE now).length 0 (ah.1,(aF ah.2 kd tx pv nx data c).2) _ _ _ (by omega) ?_ ?_ s ⟨rfl,rfl,rfl,rfl,rfl,rfl,aa⟩ (fun e lp E' h' hp CK l4 l5 s' => ?_) (fun lp E' h' hp jf s' => ?_)
       ·have:n∈now.map (·.1):=(eF _).mem_iff.1 hn
        cases hq:lookL n now with
        |some _=>rfl
        |none=>exact absurd this (f_.1 hq)
       ·exact⟨⟨ID.ok.pl,Lk.1,Lk.2.1⟩,ID.pins,ID.full⟩
       ·have e1:bG (ah.1,(aF ah.2 kd tx pv nx data c).2)=bG ah:=by simp only[bG,Lk.2.2.2.2.2.1]
        rw[e1,hl];omega
       ·rw[gz] at hp
        have e4:look E' 4=some (.int .u64 ((0:Nat):Int)):=l4
        refine⟨aa,_,uC e4 l5,0,e,true,lp,?_,rfl,?_⟩
        ·have:=DnR.put (data:=data) c ah e lp hq J I uQ hc he hp
         rwa [ak CK] at this
        ·have s3:=cC.2 ⟨dv,s'.ae [3,6]⟩
         have s4:=eH.2 ⟨wN,es,clock,rfl,hb,lK,s3.ae [2,2]⟩
         exact e_.2 ⟨.map wN,(s4.ae [2,0,0,0,0,0,1]).del 7⟩
       ·rw[gz] at hp
        have s:=s'
        refine WP.has jf (zK 6 rfl (WP.ret ⟨aa,_,rfl,?_⟩))
        refine⟨_,0,true,lp,?_,rfl,?_⟩
        ·have:=DnR.put (data:=data) c ah 0 lp hq J I uQ hc he hp
         exact this
        ·have s3:=cC.2 ⟨dv,s.ae [3,6]⟩
         have s4:=eH.2 ⟨wN,es,clock,rfl,hb,lK,s3.ae [2,2]⟩
         dsimp only[bringA,getA,aL] at s4
         exact e_.2 ⟨.map wN,(s4.ae [2,0,0,0,0,0,1]).del 7⟩
      ·skip
       refine zB rfl aD (by simp;exact he) ?_
       exact zk 8 rfl (WP.ret ⟨aa,_,rfl,0,_,false,_,.app c ah hq J I uQ hc he,rfl,s⟩)
end
def Lg.fresh : Lg:={ base:=1,b:=[],cB:=[],forced:=0,check:=0 }
theorem xR {b t:Nat}{p v w:V}(I:look E a=some p)(J:loadV P h t p=some v)(h2:look E b=some w)(h3:look E c=some x): resLE P E h [.cell a t,.tmp b,.tmp c]=some (.bf [v,w,x]):=by
 simp only[resLE,mapO,resE,I,J,h2,h3]
section
variable {told:dc} {p:Nat} {op v:V} {cz:Bool}
theorem Kc (hT:W told)(s:Sat h (aR p δ::S))(hd:δ.dead=false)(hm:δ.mark=[])(hl:δ.log=[])(hc:δ.bh=0):
  Call ⟨Tryz.prog,told⟩ 80 [.ptr p 0] h fun v h'=>∃q,v=.bf [.ptr q 0,.int .i64 0]∧Sat h' (bS q p Lg.fresh::aR p δ::S):=by
 refine Call.of_wp (hT.free _ rfl) Tryz.func80 rfl rfl (zK 8 rfl (zc rfl (Dp hT s (by rw[hm];decide)) ?_))
 rintro v h (⟨I,_,_⟩|⟨_,b0,rfl,s⟩)
 ·rw[hd] at I;cases I
 rw[hm] at s
 refine zk 10 rfl (zC rfl aD (rfl) (zk 6 rfl (zo rfl (dn rfl (by rw[Ue];rfl)) ?_)))
 refine ay.b8 s rfl rfl rfl (fg rfl rfl) (fun p23 h s => ?_)
 dsimp only[V.cells,List.take,List.length_cons,List.length_nil,Nat.reduceAdd,List.drop,List.cons_append,List.nil_append] at s
 refine zk 7 rfl ?_
 have s:=s.ae [2,0,0]
 dsimp only[bringA,getA,aL] at s
 refine zc rfl (VH hT s (by rw[hl];decide)) ?_
 rintro v h (⟨I,_,_⟩|⟨_,b1,rfl,s⟩)
 ·rw[hd] at I;cases I
 rw[hl] at s
 have hv:=(s.buf (k:=0) rfl).view.cells
 refine zk 4 rfl (zf rfl (fc _ _) (zS rfl (s.eX (k:=2) rfl ij rfl (by decide) hv.1 hv.2) ?_))
 intro h s
 dsimp only[Nat.reduceAdd,List.set,setA] at s
 refine za rfl (zv (zg rfl (zm rfl (zh rfl (az rfl rfl aD) (rfl) (zv (zj rfl (WP.skip (zw (zg rfl (zm rfl (zo rfl (aP rfl rfl rfl (by exact bj aT (s.aH (k:=3) rfl (bu _ _)))) ?_)))))))))))
 refine zv (WP.block (zg rfl (zt rfl (az rfl rfl dG) (rfl) (za rfl (zv (zi rfl (WP.skip (zg rfl (za rfl (zv (zw (WP.block (WP.loop (zw (zg rfl (zk 3 rfl (zf rfl (fc _ _) (zl rfl (by exact s.ld (k:=2) rfl bP rfl) ?_))))))))))))))))))
 refine zo rfl (aP rfl rfl rfl (bj aT (s.aH (k:=0) rfl (bu _ _)))) (zC rfl aN (rfl) (zk 2 rfl (WP.exit (zK 6 rfl (zY s 2 fc bP rfl (zo rfl (aP rfl rfl rfl (bj aT (s.aH (k:=0) rfl (bu _ _)))) (zC rfl aN (rfl) (zk 5 rfl ?_))))))))
 have s0:=s
 have J:=dg (s.buf (k:=0) rfl).view
 refine WP.drawn [none,none,some (0,2),some (0,2),some (0,2),some (0,2),some (0,2),none] rfl (by kernel_rfl) (by kernel_rfl) ?_
 refine zM rfl (ax.any rfl rfl rfl rfl (OpR.call rfl rfl rfl rfl (BM hT (s.ae [1]))) ?_)
 rintro v h' ⟨rfl,rfl⟩
 refine zM rfl (zN rfl (zF rfl (fc _ _) (zL rfl (s.ld (k:=2) rfl bP rfl) (zO rfl (aP rfl rfl rfl (bj aT (s.aH (k:=0) rfl (bu _ _)))) (ax.kC rfl rfl rfl rfl (az rfl rfl aN) (by rw[show δ.xH=0 from hc];rfl) ?_)))))
 refine ax.nil ⟨⟨aa,aa,fun _ _=>.inr ⟨rfl,⟨_,bD rfl⟩,bn _ rfl⟩,fun _ _=>.inr ⟨rfl,⟨_,oU rfl⟩,bn _ rfl⟩,fun _ _=>.inr ⟨rfl,⟨_,jS rfl (fc _ _)⟩,bn _ rfl⟩,dw (.inr ⟨rfl,⟨_,aW rfl (s0.ld (k:=2) rfl bP rfl)⟩,J⟩) (.inr ⟨rfl,⟨_,aW rfl (s.ld (k:=2) rfl bP rfl)⟩,J⟩),dw (.inr ⟨rfl,⟨_,aP rfl rfl rfl (bj aT (s0.aH (k:=0) rfl (bu _ _)))⟩,bn _ rfl⟩) (.inr ⟨rfl,⟨_,aP rfl rfl rfl (bj aT (s.aH (k:=0) rfl (bu _ _)))⟩,bn _ rfl⟩),aa,aa⟩,?_⟩
 refine zK 7 rfl (zY s 2 fc bP rfl (zo rfl (aP rfl rfl rfl (bj aT (s.aH (k:=0) rfl (bu _ _)))) (zn rfl (zf rfl (wI _ _) ?_))))
 refine zS rfl (by exact s.eX (k:=2) rfl ke rfl (by decide) rfl rfl) (fun h s => ?_)
 refine zk 7 rfl (WP.ret ⟨aa,_,rfl,?_⟩)
 have s1:=(s.del 3).oO (k:=1)
 refine⟨_,rfl,ga.2 ⟨b1,.bC,?_⟩⟩
 exact s1.ae [3,1,0]
theorem PC (J:W told)(s:Sat h (bS q p μ::S))(I:μ.Ok): Call ⟨Tryz.prog,told⟩ 84 [.ptr q 0,.int .u64 ((μ.base:Int)+(μ.b.length:Int))] h fun v h'=>v=.bf [.agg (ie 0 0 0 0 .bC .bC),.int .u64 0,.int .i64 17]∧Sat h' (bS q p μ::S):=by
 refine Call.of_wp (J.free _ rfl) Is rfl rfl (zg rfl ?_)
 refine ay.b8 s rfl rfl rfl (bU qW) (fun p4 h s => ?_)
 refine zk 4 rfl (WP.block (zK 4 rfl ?_))
 have s:=s.ae [1]
 refine zc rfl (Bh J s I.size) ?_
 rintro v h' ⟨rfl,rfl⟩
 refine zB rfl dG (by simp) ?_
 refine zk 5 rfl (zo rfl (dn rfl (by rw[ED];rfl)) ?_)
 refine zS rfl (s.ep (j:=1) rfl g8 rfl rfl) (fun h s => ?_)
 refine zk 3 rfl ?_
 refine WP.ret ⟨aa,_,xR rfl (s.bZ (k:=1) rfl nG g8) rfl rfl,?_⟩
 exact⟨rfl,s.del 1⟩
theorem SG (J:W told){n:Nat}(s:Sat h (bS q p μ::S))(I:μ.Ok)(hn:n<18446744073709551616)(kU:n≠μ.base+μ.b.length)(yH:μ.hasB n=false): Call ⟨Tryz.prog,told⟩ 84 [.ptr q 0,.int .u64 (n:Int)] h fun v h'=>v=.bf [.agg (ie 0 0 0 0 .bC .bC),.int .u64 0,.int .i64 1]∧Sat h' (bS q p μ::S):=by
 refine Call.of_wp (J.free _ rfl) Is rfl rfl (zg rfl ?_)
 refine ay.b8 s rfl rfl rfl (bU qW) (fun p4 h s => ?_)
 refine zk 4 rfl (WP.block (zK 4 rfl ?_))
 have s:=s.ae [1]
 refine zc rfl (Bh J s I.size) ?_
 rintro v h' ⟨rfl,rfl⟩
 refine zC rfl dG (by simp;omega) ?_
 refine zk 7 rfl (zc rfl (K8 (n:=n) J s I hn) ?_)
 rintro v h' ⟨rfl,rfl⟩
 refine zo rfl (dQ rfl rfl) (zk 2 rfl (WP.Mt rfl (by rw[yH];rfl) ?_))
 refine zg rfl (zo rfl (dn rfl (by rw[ED];rfl)) ?_)
 refine zS rfl (s.ep (j:=1) rfl g8 rfl rfl) (fun h s => ?_)
 refine zk 3 rfl ?_
 refine WP.ret ⟨aa,_,xR rfl (s.bZ (k:=1) rfl nG g8) rfl rfl,?_⟩
 exact⟨rfl,s.del 1⟩
theorem DE (hT:W told){n:Nat}(s:Sat h (bS q p μ::S))(J:μ.Ok)(hn:n<18446744073709551616)(I:n=μ.base+μ.b.length∨μ.hasB n=false): Call ⟨Tryz.prog,told⟩ 84 [.ptr q 0,.int .u64 (n:Int)] h fun v h'=>∃e:Int,e≠0∧v=.bf [.agg (ie 0 0 0 0 .bC .bC),.int .u64 0,.int .i64 e]∧Sat h' (bS q p μ::S):=by
 by_cases he:n=μ.base+μ.b.length
 ·have:=PC hT s J
  rw[show((μ.base:Int)+(μ.b.length:Int))=((n:Nat):Int) by omega] at this
  exact this.mono fun v h' ⟨h1,h2⟩=>⟨17,by decide,h1,h2⟩
 ·rcases I with I|I
  ·exact absurd I he
  ·exact(SG hT s J hn he I).mono fun v h' ⟨h1,h2⟩=>⟨1,by decide,h1,h2⟩
end
section
variable {told:dc} {p:Nat} {op v:V} {cz:Bool}
theorem MY (I:W told){n:Nat}(s:Sat h (eA a p q r op data aB::bS q p μ::S))(J:μ.Ok)(hn:n<18446744073709551616)(yH:n=μ.base+μ.b.length∨μ.hasB n=false):
  Call ⟨Tryz.prog,told⟩ 87 [.ptr a 0,.int .u64 (n:Int)] h fun v h'=>v=.int .i64 0∧Sat h' (eA a p q r op data aB::bS q p μ::S):=by
 obtain⟨dv,s⟩:=cC.1 s
 refine Call.of_wp (I.free _ rfl) Tryz.func87 rfl rfl (zK 6 rfl ?_)
 refine ay.y8 s rfl rfl rfl rfl (fun p18 h s => ?_)
 refine ay.y8 s rfl rfl rfl rfl (fun p19 h s => ?_)
 refine zo rfl (dn rfl (by rw[Ug];rfl)) ?_
 refine ay.b8 s rfl rfl rfl (fg rfl rfl) (fun Yq h s => ?_)
 refine zk 5 rfl (zo rfl (CX rfl rfl) (zk 8 rfl (WP.block (WP.loop (WP.block (zK 4 rfl (zY s 3 wG EE rfl (zm rfl ?_))))))))
 have s1:=s.ae [5]
 refine zc rfl (DE (n:=n) I s1 J hn yH) ?_
 rintro v h ⟨e,he,rfl,s⟩
 refine zk 4 rfl ?_
 refine ay.b8 s rfl rfl rfl (bU qW) (fun p8 h s => ?_)
 refine zS rfl (s.ep (j:=0) rfl g8 rfl rfl) (fun h s => ?_)
 refine zk 7 rfl (zB rfl aD (by simp;exact he) ?_)
 have s:=uo (f:=fun v (b:List Nat)=>.cg v b) (s.ae [4])
 refine zk 2 rfl (WP.exit (zK 5 rfl (zY s 3 p9 jQ rfl (zc rfl (xO I s) ?_))))
 rintro v h ⟨kb,rfl,s⟩
 refine zc rfl (rX I s (by decide) (by decide) (by simp)) ?_
 intro kv h s
 refine zo rfl (aP rfl rfl rfl (s.ew (n:=0) (j:=0) rfl rfl (by decide) dI)) ?_
 exact zk 2 rfl (WP.block (WP.loop (zg rfl (zC rfl aN (rfl) (zk 3 rfl (WP.exit (zK 5 rfl (zY s 5 p9 jQ rfl (zo rfl (aP rfl rfl rfl (HS (s.ae [2]) kZ)) (zB rfl dG (rfl) (zk 6 rfl (WP.ret ⟨aa,_,rfl,rfl,((((((cC.2 ⟨dv,s.ae [7,7,4]⟩).del 7).del 6).del 5).del 4).del 3).del 2⟩))))))))))))
theorem Lg.IF : Lg.fresh.Ok:=⟨by decide,by decide,by simp[Lg.fresh],List.Pairwise.nil,by decide,by decide,by decide⟩
theorem Ke (I:W told){n:Nat}(s:Sat h (aR p δ::S))(h1:1≤n)(h2:n≤1024)(J:δ.dead=false)(hm:δ.mark=[])(hl:δ.log=[])(hc:δ.bh=0):
  Call ⟨Tryz.prog,told⟩ 35 [.ptr p 0,.int .i64 (n:Int)] h fun v h'=>∃a q r,v=.bf [.ptr a 0,.int .i64 0]∧Sat h' (eA a p q r .cy [] 0::dK r p q (Pl.fresh n)::bS q p Lg.fresh::aR p δ::S):=by
 refine Call.of_wp (I.free _ rfl) Tryz.func35 rfl rfl (zK 9 rfl (zC rfl aN (by simp<;>omega) ?_))
 refine zk 2 rfl (zC rfl gT (by simp<;>omega) ?_)
 refine zk 7 rfl (zc rfl (Kc I s J hm hl hc) ?_)
 rintro v h ⟨q,rfl,s⟩
 refine zk 10 rfl (zC rfl aD (rfl) (zk 8 rfl (zc rfl (Le (p:=p) (q:=q) (n:=n) I s) ?_)))
 rintro v h (⟨hn,_,_⟩|⟨_,_,r,rfl,s⟩)
 ·omega
 rw[cS] at s
 refine zk 10 rfl (zC rfl aD (rfl) (zk 8 rfl (zo rfl (dn rfl (by rw[Ua];rfl)) ?_)))
 refine ay.b8 s rfl rfl rfl (fg rfl rfl) (fun p44 h s => ?_)
 refine zk 5 rfl (zc rfl (FT I (s.ae [2])) ?_)
 rintro v h' ⟨rfl,rfl⟩
 refine zk 6 rfl (zc rfl (BN I (s.ae [2])) ?_)
 rintro v h' ⟨rfl,rfl⟩
 refine zk 5 rfl (zC rfl aD (rfl) (zk 8 rfl ?_))
 have s1:=cC.2 ⟨.bC,(s.rN).ae [1,0]⟩
 refine zc rfl (MY (n:=1) I (s1.ae [0,1]) Lg.IF (by decide) (.inl rfl)) ?_
 rintro v h ⟨rfl,s⟩
 exact zk 5 rfl (zC rfl aD (rfl) (zk 9 rfl (WP.ret ⟨aa,_,rfl,_,q,r,rfl,s.ae [0,1,0]⟩)))
end
def eS (ε:aZ): Int×aZ:=if ε.2.2.dead=true then(9,ε) else if (writeAllF (aE ε.1.aG) ε).1≠0 then writeAllF (aE ε.1.aG) ε else
 ((dJ (writeAllF (aE ε.1.aG) ε).2.1 (writeAllF (aE ε.1.aG) ε).2.2.2).1,((dJ (writeAllF (aE ε.1.aG) ε).2.1 (writeAllF (aE ε.1.aG) ε).2.2.2).2.1,((writeAllF (aE ε.1.aG) ε).2.2.1,(dJ (writeAllF (aE ε.1.aG) ε).2.1 (writeAllF (aE ε.1.aG) ε).2.2.2).2.2)))
section
variable {told:dc} {p:Nat} {op v:V} {cz:Bool}
theorem SH (I:W told)(s:Sat h (eA a p q r op data aB::S)): Call ⟨Tryz.prog,told⟩ 71 [.ptr a 0] h fun v h'=>v=.ptr p 0∧h'=h:=by
 obtain⟨dv,s⟩:=cC.1 s
 exact Call.of_wp (I.free _ rfl) Tryz.func71 rfl rfl (zK 8 rfl (zY s 0 pW o9 rfl (zk 2 rfl (WP.ret ⟨aa,_,rfl,rfl,rfl⟩))))
theorem PD (J:W told){n:Nat}(s:Sat h (eA a p q r op data aB::bS q p μ::aR p δ::S))(I:μ.Ok)(hf:δ.aS<4294967296):
  Call ⟨Tryz.prog,told⟩ 34 [.ptr a 0,.int .u64 (n:Int)] h fun v h'=>v=.int .i64 (aI (μ,δ) n).1∧Sat h' (eA a p q r op data aB::bS q p (aI (μ,δ) n).2.1::aR p (aI (μ,δ) n).2.2::S):=by
 obtain⟨dv,s⟩:=cC.1 s
 refine Call.of_wp (J.free _ rfl) Tryz.func34 rfl rfl (zK 8 rfl (zY s 0 wG EE rfl (zm rfl (zc rfl (La (n:=n) J (s.ae [2,2]) I hf) ?_))))
 rintro v h ⟨rfl,s⟩
 exact zk 2 rfl (WP.ret ⟨aa,_,rfl,rfl,cC.2 ⟨dv,s.ae [2,2]⟩⟩)
theorem SI (J:W2 told)(s:Sat h (eA a p q r .cy data aB::dK r p q ε.1::bS q p ε.2.1::aR p ε.2.2::S))(gj:rB ε)(hw:ε.2.2.waiting.length+ε.1.aG.length≤268435456)(hm:ε.1.aG.length≤1048576)(hk:∀n∈ε.1.aG.map (·.1),(Lit.int .i64 n).wf=true)
 (iH:(writeAllF (aE ε.1.aG) ε).2.2.2.Ok)(I:∀e∈(writeAllF (aE ε.1.aG) ε).2.2.2.now,0≤e.1∧e.1<(writeAllF (aE ε.1.aG) ε).2.2.2.aq.length):
  Call ⟨Tryz.prog,told⟩ 39 [.ptr a 0] h fun v h'=>v=.int .i64 (eS ε).1∧Sat h' (eA a p q r .cy data aB::dK r p q (eS ε).2.1::bS q p (eS ε).2.2.1::aR p (eS ε).2.2.2::S):=by
 have s0:=s
 obtain⟨dv,s⟩:=cC.1 s
 refine Call.of_wp (J.w.free _ rfl) Tryz.func39 rfl rfl (zK 5 rfl (WP.block (zK 4 rfl (zY s 0 qY HL rfl (zC rfl (MV mo) (rfl) (zk 7 rfl (zY s 0 pW o9 rfl (zc rfl (rz J.w (s.ae [4])) ?_))))))))
 rintro v h ⟨rfl,rfl⟩
 refine zk 2 rfl ?_
 cases hd:ε.2.2.dead with
 |true =>
  refine zK 5 rfl (WP.ret ⟨aa,_,rfl,?_⟩)
  rw[eS,aJ hd]
  exact⟨rfl,s0⟩
 |false =>
  refine zj rfl (WP.skip (zw (zg rfl (zk 2 rfl (zf rfl (pX _ _) (zl rfl (by exact s.ld (k:=0) rfl uZ rfl) ?_))))))
  refine zc rfl (J4 J.w (s.ae [2,2,2]) gj hw hm hk) ?_
  rintro v h ⟨rfl,s⟩
  dsimp only[bringA,getA,aL] at s
  refine zk 5 rfl ?_
  by_cases he:(writeAllF (aE ε.1.aG) ε).1=0
  ·skip
   refine zC rfl aD (by simp;exact he) ?_
   refine zv (zj rfl (WP.skip (zg rfl (zk 2 rfl (zf rfl (pX _ _) (zl rfl (by exact s.ld (k:=3) rfl uZ rfl) ?_))))))
   refine zc rfl (Su J (s.ae [0,1]) iH I) ?_
   rintro v h ⟨rfl,s⟩
   refine zk 2 rfl (WP.ret ⟨aa,_,rfl,?_⟩)
   rw[eS,ak (by rw[hd];decide),ak (by simpa using he)]
   exact⟨rfl,cC.2 ⟨dv,s.ae [3,3,0,1,0]⟩⟩
  ·skip
   refine zB rfl aD (by simp;exact he) ?_
   refine zk 7 rfl (WP.ret ⟨aa,_,rfl,?_⟩)
   rw[eS,ak (by rw[hd];decide),aJ he]
   exact⟨rfl,cC.2 ⟨dv,s.ae [3,3,0,0,0]⟩⟩
end
section
variable {told:dc} {p:Nat} {op v:V} {cz:Bool}
theorem DF (I:W told){n m f:Nat}(s:Sat h S)(h1:1≤n)(h2:n≤65536)(h3:m≤16777216)(J:1≤f)(h5:f≤1024):
  Call ⟨Tryz.prog,told⟩ 30 [.int .i64 (n:Int),.int .i64 (m:Int),.int .i64 (f:Int)] h fun v h'=>∃p a q r,v=.bf [.ptr p 0,.ptr a 0] ∧
   Sat h' (eA a p q r .cy [] 0::dK r p q (Pl.fresh f)::bS q p Lg.fresh::aR p (Dk.fresh n m)::S):=by
 refine Call.of_wp (I.free _ rfl) Tryz.func30 rfl rfl (zK 9 rfl (zc rfl (VJ (n:=(n:Int)) (m:=(m:Int)) I s) ?_))
 rintro v h (⟨hn,_,_⟩|⟨_,_,_,_,p,rfl,s⟩)
 ·omega
 rw[cS,cS] at s
 refine zk 10 rfl (zC rfl aD (rfl) (zk 2 rfl (zC rfl (vh Tryz.underlying62) (rfl) (zk 8 rfl (zc rfl (Ke (n:=f) I s J h5 rfl rfl rfl rfl) ?_)))))
 rintro v h ⟨a,q,r,rfl,s⟩
 exact zk 10 rfl (zC rfl aD (rfl) (zk 2 rfl (zC rfl (vh rY) (rfl) (zk 11 rfl (WP.ret ⟨aa,_,rfl,p,a,q,r,rfl,s⟩)))))
end
theorem F6 : ∃i,Tryz.prog.info? 4=some i∧i.size=1∧i.bytes=1 :=
 ⟨_,(show Tryz.prog.info? 4=some ((Tryz.prog.info? 4).getD default) by kernel_rfl),by kernel_rfl,by kernel_rfl⟩
theorem V6 : ∀n:Nat,repeatL [V.bool false] n=eL (List.replicate n false):=by
 intro n
 induction n with
 |zero=>rfl
 |succ n I=>simp only[repeatL,I,eL,AB,iu];rfl
theorem MZ : ∀ {l:List Nat},(∀b∈l,b<256)→bytesOf (ofBytes l)=some l:=by
 intro l
 induction l with
 |nil=>intro _;rfl
 |cons b l J =>
  intro h
  have I:=J fun x hx=>h x (b5 _ hx)
  have h2:=h b b7
  rw[ofBytes] at I
  simp only[ofBytes,iu,bytesOf,I,aC,List.cons.injEq,and_true]
  omega
theorem DG {v:V}(hv:View h v l): convV Tryz.prog h 28 9 v=some (.str l,h):=by
 obtain⟨I,(⟨rfl|⟨ea,rfl⟩,rfl⟩|⟨id,off,cap,n,cs,st,rfl,J,hl,ho,hc,_⟩)⟩:=hv
 ·simp only[convV,aT,mP,Tryz.underlying5]
 ·simp only[convV,aT,mP,Tryz.underlying5]
 ·have e:rdN h id off l.length=some (ofBytes l):=by rw[zG J hl ho,hc]
  simp only[convV,aT,mP,Tryz.underlying5,e,MZ I]
theorem YF (l:List Nat): (V.str l).beq (.str l)=true:=by simp only[V.beq,vC,AS]
def Uy (l:List Nat): List Nat:=if l.length≠512∨l=List.replicate 512 0 then[] else l.drop 12
theorem Kf : ∀(k n:Nat),n<128^(k+1)→digits (k+1) n=digits k n:=by
 intro k
 induction k with
 |zero=>intro n I;rw[jL (by simpa using I),jL (by simpa using I)]
 |succ k J =>
  intro n I
  by_cases h:n<128
  ·rw[jL h,jL h]
  ·have hd:n/128<128^(k+1):=by
    rw[Nat.div_lt_iff_lt_mul (by omega)]
    rw[tE] at I
    exact I
   rw[digits,ak h,J _ hd,digits,ak h]
set_option maxRecDepth 10000 in
theorem YG {n:Nat}(h:n<256): Nat.land n 127=n%128:=by
 have:∀m:Fin 256,Nat.land m.1 127=m.1%128:=by decide
 exact this ⟨n,h⟩
theorem Kg {n:Nat}(h:n<256): intV .and .u8 (n:Int) 127=some (.int .u8 ((n%128:Nat):Int)):=by
 have I:((n:Int)%(2^(IntKind.u8).bits:Int)).toNat=n:=by simp only[IntKind.bits];omega
 have J:((127:Int)%(2^(IntKind.u8).bits:Int)).toNat=127:=by simp[IntKind.bits]
 simp only[intV,bitsV,I,J,YG h,wrap_u8]
 congr 2
 omega
theorem Kh {n:Nat}(I:n<18446744073709551616): convV Tryz.prog h 5 43 (.int .u8 (n:Int))=some (.int .u64 (n:Int),h):=by
 simp only[convV,Tryz.underlying5,cM,wrap_u64 I]
theorem Ki {n:Nat}(I:n<9223372036854775808): convV Tryz.prog h 5 3 (.int .u8 (n:Int))=some (.int .i64 (n:Int),h):=by
 simp only[convV,Tryz.underlying5,bF,wrap_i64 I]
theorem IG {n:Nat}(I:n<9223372036854775808): convV Tryz.prog h 43 3 (.int .u64 (n:Int))=some (.int .i64 (n:Int),h):=by
 simp only[convV,cM,bF,wrap_i64 I]
theorem II (i:Nat): (128:Nat)^i=2^(7*i):=by rw[Nat.pow_mul]
theorem abu {d:Nat}(hd:d<128)(hi:i≤8): shiftV .shl .u64 (d:Int) ((7*i:Nat):Int)=some (.int .u64 ((d*128^i:Nat):Int)):=by
 have J:(128:Nat)^i≤128^8:=tw (by omega) hi
 have I:d*128^i<18446744073709551616:=by
  have:d*128^i≤127*128^8:=tC (by omega) J
  omega
 simp only[shiftV,IntKind.bits,cS]
 rw[show min (7*i) 64=7*i by omega,show decide (((7*i:Nat):Int)<0)=false by simp;omega,a_]
 have:(d:Int)*2^(7*i)=((d*128^i:Nat):Int):=by rw[II];push_cast;rfl
 simp only[this,wrap_u64 I]
theorem V7 {d:Nat}(I:a<128^i)(hd:d<128)(hi:i≤8): intV .or .u64 (a:Int) ((d*128^i:Nat):Int)=some (.int .u64 ((a+d*128^i:Nat):Int)):=by
 have J:(128:Nat)^i≤128^8:=tw (by omega) hi
 have hm:d*128^i≤127*128^8:=tC (by omega) J
 have h1:((a:Int)%(2^(IntKind.u64).bits:Int)).toNat=a:=by simp only[IntKind.bits];omega
 have h2:((d*128^i:Nat):Int)%(2^(IntKind.u64).bits:Int)=((d*128^i:Nat):Int):=by simp only[IntKind.bits];omega
 have h3:Nat.lor a (d*128^i)=a+d*128^i:=by
  have e:d*128^i=2^(7*i)*d:=by rw[←II,tF]
  have:=KE (i:=7*i) (b:=a) (by rw[←II];exact I) d
  rw[←e] at this
  rw[Nat.add_comm a,this]
  exact Nat.or_comm _ _
 simp only[intV,bitsV,h1,h2,cS,h3]
 rw[wrap_u64 (by omega)]
section
variable {told:dc} {v w:V} {m:List Nat}
theorem mJ (I:W told): Call ⟨Tryz.prog,told⟩ 203 [.bool true] h fun v h'=>v=.bf []∧h'=h:=by
 refine Call.of_wp (I.free _ rfl) Tryz.func203 rfl rfl (zg rfl (zm rfl (zh rfl (dQ rfl rfl) (rfl) (zv (zj rfl (WP.skip ?_))))))
 exact⟨aa,_,rfl,rfl,rfl⟩
theorem SJ (J:W told){x:Nat}(s:Sat h (pt c (.cells 1 [v] false)::X::S))(hX:cQ X (cW v (x::l))):
  Call ⟨Tryz.prog,told⟩ 199 [.ptr c 0] h fun r h'=>r=.int .u8 (x:Int)∧∃u,cQ X (cW u l)∧Sat h' (pt c (.cells 1 [u] false)::X::S):=by
 have hv:=s.aH (k:=1) rfl hX
 obtain⟨id,off,e1,e2⟩:=eo hv (i:=0) (b:=x) rfl
 have I:=cf hv (a:=1) (by simp)
 have hu:=I.2.1.cells
 refine Call.of_wp (J.free _ rfl) Tryz.func199 rfl rfl (zK 8 rfl (zY s 0 l_ bP rfl (zo rfl (aP rfl rfl rfl (bj aT hv)) (zB rfl gT (by simp) ?_))))
 refine zc rfl (mJ J) ?_
 rintro r h' ⟨rfl,rfl⟩
 refine zk 5 rfl (zY s 0 l_ bP rfl (zo rfl (cj (r:=.ptr id off) rfl rfl e1) (zl rfl e2 (zk 7 rfl (zY s 0 l_ bP rfl (zo rfl (bV (p:=some (.int .i64 1)) (q:=none) (m:=none) (p':=some 1) (q':=none) (m':=none) rfl rfl rfl rfl rfl rfl rfl I.1) (zn rfl (zf rfl (l_ _ _) (zS rfl (s.eX (k:=0) rfl ij rfl (by decide) hu.1 hu.2) ?_)))))))))
 rintro h s
 exact zk 6 rfl (WP.ret ⟨aa,_,rfl,rfl,_,rq hX (by simp),s⟩)
def Cu (h:H)(c:Nat)(X:aO)(S:List aO)(l:List Nat): Prop:=∃v,cQ X (cW v l)∧Sat h (pt c (.cells 1 [v] false)::X::S)
theorem E4 (I:W told){x:Nat}(J:Cu h c X S (x::l)): Call ⟨Tryz.prog,told⟩ 199 [.ptr c 0] h fun r h'=>r=.int .u8 (x:Int)∧Cu h' c X S l:=by
 obtain⟨v,hX,s⟩:=J
 exact(SJ I s hX).mono fun r h' ⟨e,u,hU,s'⟩=>⟨e,u,hU,s'⟩
noncomputable def YH : Code:=cD [1,1,0,0] ((Tryz.f200.body).getD .skip)
noncomputable def Uz : Code:=unblk (leftC YH)
noncomputable def nbC : Code:=cP (cP (cP Uz))
theorem BU (hT:W told){x:Nat}(hx:x<256)(hi:i≤8)(ha:acc<128^i)
 (hc:Cu h c X S (x::l))(h0:look E 0=some (.ptr c 0))(h2:look E 2=some (.int .u64 (acc:Int)))(I:look E 3=some (.int .i64 (i:Int)))
 (hq:∀E' h',look E' 0=some (.ptr c 0)→look E' 2=some (.int .u64 ((acc+x%128*128^i:Nat):Int))→look E' 3=some (.int .i64 (i:Int))→look E' 4=some (.int .u8 (x:Int))→Cu h' c X S l→WP ⟨Tryz.prog,told⟩ 38 nbC E' h' Q):
  WP ⟨Tryz.prog,told⟩ 38 Uz E h Q:=by
 refine WP.seq (WP.region rfl ?_)
 refine zo rfl (bD h0) ?_
 refine zc rfl (E4 hT hc) (fun v h₁ ⟨e1,c1⟩ => ?_)
 subst e1
 refine ay.op rfl rfl rfl (fB rfl) (ay.nil ?_)
 refine WP.seq (WP.region rfl ?_)
 refine zo rfl (bD I) (zo rfl (az (v:=.int .i64 (i:Int)) (u:=.int .i64 9) (r:=.bool true) rfl rfl (by simp only[binV,ikBeq,aj,intV];congr 2<;>simp<;>omega)) ?_)
 refine zk 8 rfl ?_
 refine zc rfl (mJ hT) (fun v J ⟨e2,rW⟩=>ay.nil ?_)
 subst e2;subst rW
 refine WP.seq (WP.region rfl ?_)
 refine zo rfl (bD h2) (zm rfl (zo rfl (az (v:=.int .u8 (x:Int)) (u:=.int .u8 127) rfl rfl (by simp only[binV,ikBeq,aj];exact Kg hx)) ?_))
 refine zo rfl (b6 (v:=.int .u8 ((x%128:Nat):Int)) rfl (Kh (by omega))) ?_
 refine zo rfl (bD I) ?_
 refine ay.op rfl rfl rfl (az (v:=.int .i64 7) (u:=.int .i64 (i:Int)) (r:=.int .i64 ((7*i:Nat):Int)) rfl rfl (by
  simp only[binV,ikBeq,aj,intV]
  rw[show(7:Int)*(i:Int)=((7*i:Nat):Int) by push_cast;rfl,wrap_i64 (by omega)])) ?_
 refine zo rfl (az (v:=.int .u64 ((x%128:Nat):Int)) (u:=.int .i64 ((7*i:Nat):Int)) rfl rfl (by simp only[binV];exact abu (by omega) hi)) ?_
 refine zo rfl (az (v:=.int .u64 (acc:Int)) rfl rfl (by simp only[binV,ikBeq,aj];exact V7 ha (by omega) hi)) ?_
 refine ay.op rfl rfl rfl (fB rfl) (ay.nil ?_)
 exact hq _ _ h0 rfl I rfl c1
set_option maxRecDepth 4000 in
theorem DH (hT:W told){m:Nat}(hi:i≤8)(hm:m<128)(hz:i=0∨0<m)(ha:acc<128^i)
 (hc:Cu h c X S (m::l))(h0:look E 0=some (.ptr c 0))(h2:look E 2=some (.int .u64 (acc:Int)))(h3:look E 3=some (.int .i64 (i:Int)))
 (hq:∀E' h',look E' 2=some (.int .u64 ((acc+m*128^i:Nat):Int))→Cu h' c X S l→Q .ret E' h'): WP ⟨Tryz.prog,told⟩ 38 (.loop YH) E h Q:=by
 refine WP.loop (WP.seq (WP.block ?_))
 refine BU hT (x:=m) (by omega) hi ha hc h0 h2 h3 (fun E1 h₁ q0 q2 q3 q4 c1 => ?_)
 rw[qS hm] at q2
 refine WP.seq (WP.region rfl ?_)
 refine zo rfl (bD q4) ?_
 refine ay.op rfl rfl rfl (az (v:=.int .u8 (m:Int)) (u:=.int .u8 128) (r:=.bool true) rfl rfl (by simp only[binV,ikBeq,aj,intV];congr 2<;>simp<;>omega)) (ay.nil ?_)
 refine WP.cond (t:=true) rfl (WP.seq (WP.region rfl ?_))
 refine zo rfl (bD q4) ?_
 by_cases uO:0<m
 ·refine ay.op rfl rfl rfl (az (v:=.int .u8 (m:Int)) (u:=.int .u8 0) (r:=.bool true) rfl rfl (by simp only[binV,ikBeq,aj,intV];congr 2<;>simp<;>omega)) ?_
  refine zk 4 rfl ?_
  refine zc rfl (mJ hT) (fun v I ⟨e2,J⟩=>ay.nil ?_)
  subst e2;subst J
  refine WP.seq (WP.region rfl ?_)
  exact zo rfl (bD q2) (ay.op rfl rfl rfl (fB rfl) (ay.nil (WP.ret (hq _ _ rfl c1))))
 ·have UA:i=0:=by omega
  have abv:m=0:=by omega
  subst UA;subst abv
  refine zo rfl (az (v:=.int .u8 0) (u:=.int .u8 0) (r:=.bool false) rfl rfl rfl) (zm rfl (zo rfl (bD q3) (zo rfl (az (v:=.int .i64 0) (u:=.int .i64 0) (r:=.bool true) rfl rfl rfl) (zp rfl ?_))))
  refine zc rfl (mJ hT) (fun v I ⟨e2,J⟩=>ay.nil ?_)
  subst e2;subst J
  refine WP.seq (WP.region rfl ?_)
  exact zo rfl (bD q2) (ay.op rfl rfl rfl (fB rfl) (ay.nil (WP.ret (hq _ _ rfl c1))))
set_option maxRecDepth 4000 in
theorem Kj (hT:W told): ∀(k m i acc:Nat) (h:H) (E:List (Nat×V)) (Q:Ex→List (Nat×V)→H→Prop),i+k≤8→m<128^(k+1)→(i=0∨0<m)→acc<128^i →
  Cu h c X S (digits k m++l)→look E 0=some (.ptr c 0)→look E 2=some (.int .u64 (acc:Int))→look E 3=some (.int .i64 (i:Int)) →
  (∀E' h',look E' 2=some (.int .u64 ((acc+m*128^i:Nat):Int))→Cu h' c X S l→Q .ret E' h')→WP ⟨Tryz.prog,told⟩ 38 (.loop YH) E h Q:=by
 intro k
 induction k with
 |zero =>
  intro m i acc h E Q hi hm hz ha hc h0 h2 h3 hq
  have I:m<128:=by simpa using hm
  rw[jL I] at hc
  exact DH hT (by omega) I hz ha hc h0 h2 h3 hq
 |succ k ih =>
  intro m i acc h E Q hi hm hz ha hc h0 h2 h3 hq
  by_cases I:m<128
  ·rw[jL I] at hc
   exact DH hT (by omega) I hz ha hc h0 h2 h3 hq
  ·have hd:m/128<128^(k+1):=by
    rw[Nat.div_lt_iff_lt_mul (by omega)]
    rw[tE] at hm
    exact hm
   rw[digits,ak I] at hc
   refine WP.loop (WP.seq (WP.block ?_))
   refine BU hT (x:=m%128+128) (by omega) (by omega) ha hc h0 h2 h3 (fun E1 h₁ q0 q2 q3 q4 c1 => ?_)
   refine WP.seq (WP.region rfl ?_)
   refine zo rfl (bD q4) ?_
   refine ay.op rfl rfl rfl (az (v:=.int .u8 ((m%128+128:Nat):Int)) (u:=.int .u8 128) (r:=.bool false) rfl rfl (by simp only[binV,ikBeq,aj,intV];congr 2<;>simp<;>omega)) (ay.nil ?_)
   refine WP.cond (t:=false) rfl (WP.skip ?_)
   refine zr rfl (zo rfl (bD q3) (zo rfl (az (v:=.int .i64 (i:Int)) (u:=.int .i64 1) (r:=.int .i64 ((i+1:Nat):Int)) rfl rfl (by exact bx (aA (by omega) (by omega)))) ?_))
   refine ay.op rfl rfl rfl (fB rfl) (ay.nil ?_)
   have e1:(m%128+128)%128=m%128:=by omega
   rw[e1] at q2
   have J:128^(i+1)=128^i*128:=tE 128 i
   refine ih (m/128) (i+1) (acc+m%128*128^i) h₁ _ Q (by omega) hd (.inr (by omega)) ?_ c1 q0 q2 rfl (fun E' h' p1 p3=>hq E' h' ?_ p3)
   ·have:m%128*128^i≤127*128^i:=qQ _ (by omega)
    rw[J];omega
   ·rw[p1]
    have:acc+m%128*128^i+m/128*128^(i+1)=acc+m*128^i:=by
     rw[J,tF (128^i) 128,←Nat.mul_assoc,nT,←pO]
     congr 2
     omega
    rw[this]
theorem vm (I:W told){n:Nat}(J:n<9223372036854775808)(hc:Cu h c X S (digits 9 n++l)):
  Call ⟨Tryz.prog,told⟩ 200 [.ptr c 0] h fun v h'=>v=.int .u64 (n:Int)∧Cu h' c X S l:=by
 rw[Kf 8 n (by simpa using J)] at hc
 refine Call.of_wp (I.free _ rfl) Tryz.func200 rfl rfl (zK 8 rfl (WP.block ?_))
 refine Kj I 8 n 0 0 h _ _ (by omega) (by simpa using J) (.inl rfl) (by simp) hc rfl rfl rfl (fun E' h' q1 q2=>⟨aa,_,?_,rfl,q2⟩)
 have:0+n*128^0=n:=by simp
 rw[this] at q1
 show resLE _ E' h' [.tmp 2]=_
 simp only[resLE,mapO,resE,q1]
theorem xS (I:W told){n:Nat}(hn:n≤1048576)(J:Cu h c X S (digits 9 n++l)):
  Call ⟨Tryz.prog,told⟩ 202 [.ptr c 0] h fun v h'=>v=.int .i64 (n:Int)∧Cu h' c X S l:=by
 refine Call.of_wp (I.free _ rfl) Tryz.func202 rfl rfl (zK 7 rfl (zc rfl (vm I (by omega) J) ?_))
 rintro v h' ⟨rfl,J⟩
 refine zk 5 rfl (zB rfl xx (by simp;omega) ?_)
 refine zc rfl (mJ I) ?_
 rintro v h' ⟨rfl,rfl⟩
 refine zk 4 rfl (zo rfl (b6 rfl (IG (by omega))) ?_)
 exact zk 2 rfl (WP.ret ⟨aa,_,rfl,rfl,J⟩)
theorem IJ (hT:W told)(hm:m.length≤1048576)(hc:Cu h c X S (digits 9 m.length++m++l)):
  Call ⟨Tryz.prog,told⟩ 201 [.ptr c 0] h fun v h'=>Cu h' c X (aV v m::S) l:=by
 rw[c9] at hc
 refine Call.of_wp (hT.free _ rfl) Tryz.func201 rfl rfl (zK 7 rfl (zc rfl (xS hT hm hc) ?_))
 rintro v h ⟨rfl,v,I,s⟩
 have hv:=s.aH (k:=1) rfl I
 have J:=dg hv
 refine zk 7 rfl (zY s 0 l_ bP rfl (zo rfl (aP rfl rfl rfl (bj aT hv)) (zB rfl xx (by simp<;>omega) ?_)))
 refine zc rfl (mJ hT) ?_
 rintro r h' ⟨rfl,rfl⟩
 refine zk 2 rfl ?_
 have s0:=s
 have hto:=iK hv (b:=m.length) (by simp)
 have HB:=dg hto.2.1
 refine WP.drawn [none,none,some (0,2),some (0,2),some (0,2),some (0,2),some (0,2),some (0,2),none,none] rfl (by kernel_rfl) (by kernel_rfl) ?_
 refine zM rfl (ax.any rfl rfl rfl rfl (OpR.um rfl s rfl rfl rfl rfl (by omega)) ?_)
 intro v2 h s
 have s:=s.ae [1,1,0]
 have oN:=dg (s.buf (k:=2) rfl).view
 have s1:=s
 have hto:=iK (s.aH (k:=1) rfl I) (b:=m.length) (by simp)
 refine zM rfl (zN rfl (zF rfl (l_ _ _) (zL rfl (s.ld (k:=0) rfl bP rfl) (zM rfl (zO rfl (bV (p:=none) (q:=some (.int .i64 (m.length:Int))) (m:=none) (p':=none) (q':=some m.length) (m':=none) rfl rfl rfl rfl rfl (by rw[ey (by omega)];rfl) rfl (iK (s.aH (k:=1) rfl I) (b:=m.length) (by simp)).1) ?_)))))
 refine ax.any rfl rfl rfl rfl (OpR.qy rfl (s.ae [2,1]) (xC I (b:=m.length) (by simp)) rfl rfl rfl rfl (by rw[m7 rfl];simp only[cI];omega)) ?_
 intro v3 h s
 have s:=s.ae [2,1,0]
 rw[m7 rfl] at s
 have PE:=dg (s.buf (k:=2) rfl).view
 refine zA rfl ?_
 refine ax.nil ⟨⟨aa,aa,fun _ _=>.inr ⟨rfl,⟨_,bD rfl⟩,bn _ rfl⟩,fun _ _=>.inr ⟨rfl,⟨_,oU rfl⟩,bn _ rfl⟩,fun _ _=>.inr ⟨rfl,⟨_,jS rfl (l_ _ _)⟩,bn _ rfl⟩,dw (.inr ⟨rfl,⟨_,aW rfl (s0.ld (k:=0) rfl bP rfl)⟩,J⟩) (.inr ⟨rfl,⟨_,aW rfl (s1.ld (k:=0) rfl bP rfl)⟩,J⟩),fun _ _=>.inr ⟨rfl,⟨_,bD rfl⟩,bn _ rfl⟩,dw (.inr ⟨rfl,⟨_,bV (p:=none) (q:=some (.int .i64 (m.length:Int))) (m:=none) (p':=none) (q':=some m.length) (m':=none) rfl rfl rfl rfl rfl (by rw[ey (by omega)];rfl) rfl (iK (s0.aH (k:=1) rfl I) (b:=m.length) (by simp)).1⟩,HB⟩) (.inr ⟨rfl,⟨_,bV (p:=none) (q:=some (.int .i64 (m.length:Int))) (m:=none) (p':=none) (q':=some m.length) (m':=none) rfl rfl rfl rfl rfl (by rw[ey (by omega)];rfl) rfl (iK (s1.aH (k:=1) rfl I) (b:=m.length) (by simp)).1⟩,HB⟩),aa,aa,aa⟩,?_⟩
 have j_:=cf (s.aH (k:=1) rfl I) (a:=m.length) (by simp)
 have hu:=j_.2.1.cells
 refine zK 5 rfl (zY s 0 l_ bP rfl (zm rfl (zo rfl (bV (p:=some (.int .i64 (m.length:Int))) (q:=none) (m:=none) (p':=some m.length) (q':=none) (m':=none) rfl rfl rfl rfl (by rw[ey (by omega)];rfl) rfl rfl j_.1) ?_)))
 refine zn rfl (zf rfl (l_ _ _) (zS rfl (s.eX (k:=0) rfl ij rfl (by decide) hu.1 hu.2) ?_))
 rintro h s
 refine zk 6 rfl (WP.ret ⟨aa,_,rfl,?_⟩)
 have hr:=rq I (a:=m.length) (by simp)
 rw[vY rfl] at hr
 exact⟨_,hr,s⟩
end
theorem UB {t:Nat}{p v:V}(I:look E a=some p)(J:loadV P h t p=some v): resLE P E h [.cell a t]=some v:=by simp only[resLE,mapO,resE,I,J]
section
variable {told:dc} {v w:V} {m:List Nat}
theorem M3 (J:W told){x:cn}(hx:x.Ok)(hc:Cu h c X S (kD x++l)):
  Call ⟨Tryz.prog,told⟩ 204 [.ptr c 0] h fun r h'=>∃u,r=.agg [.int .i64 x.aK,.int .i64 x.pos,.bool x.whole,u]∧Cu h' c X (aV u x.b::S) l:=by
 obtain⟨x1,x2,x3,x4,x5,x6⟩:=hx
 obtain⟨pg,ps,wh,b⟩:=x
 dsimp only at x1 x2 x3 x4 x5 x6 hc
 obtain⟨pg,rfl⟩:=Int.eq_ofNat_of_zero_le x1
 obtain⟨ps,rfl⟩:=Int.eq_ofNat_of_zero_le x3
 simp only[kD,cS,c9,jk,eB] at hc
 generalize H6:(if wh=true then 1 else 0)=wb at hc
 have jA:wb≤1:=by rw[←H6];cases wh<;>decide
 have DI:decide ((wb:Int)=1)=wh:=by rw[←H6];cases wh<;>rfl
 obtain⟨v,I,s⟩:=hc
 refine Call.of_wp (J.free _ rfl) Tryz.func204 rfl rfl (zg rfl ?_)
 refine ay.b8 s rfl rfl rfl (bU nY) (fun p2 h s => ?_)
 refine zk 4 rfl (zc rfl (xS J (by omega) ⟨v,I,s.ae [1,1,0]⟩) ?_)
 rintro v h ⟨rfl,v,I,s⟩
 refine zm rfl (zc rfl (xS J (by omega) ⟨v,I,s⟩) ?_)
 rintro v h ⟨rfl,v,I,s⟩
 refine zf rfl (nZ _ _) ?_
 refine zS rfl (by exact s.eX (k:=2) rfl ke rfl (by decide) rfl rfl) (fun h s => ?_)
 refine zf rfl (pY _ _) ?_
 refine zS rfl (by exact s.eX (k:=2) rfl ke rfl (by decide) rfl rfl) (fun h s => ?_)
 refine zk 4 rfl (zc rfl (E4 J ⟨v,I,s⟩) ?_)
 rintro v h ⟨rfl,v,I,s⟩
 refine zk 5 rfl (zB rfl xx (by simp;omega) ?_)
 refine zc rfl (mJ J) ?_
 rintro r h' ⟨rfl,rfl⟩
 refine zk 4 rfl (zo rfl (az (r:=.bool wh) rfl rfl (by rw[←DI];exact dG)) ?_)
 refine zf rfl (wJ _ _) ?_
 refine zS rfl (by exact s.eX (k:=2) rfl ox rfl (by decide) rfl rfl) (fun h s => ?_)
 refine zk 4 rfl ?_
 rw[←c9] at I
 refine zc rfl (IJ J (by omega) ⟨v,I,s⟩) ?_
 rintro u h ⟨v,I,s⟩
 have hu:=(s.buf (k:=2) rfl).view.cells
 refine zf rfl (nh _ _) (zS rfl (s.eX (k:=3) rfl ij rfl (by decide) hu.1 hu.2) ?_)
 rintro h s
 dsimp only[V.cells,List.length_cons,List.length_nil,Nat.reduceAdd,aL,bringA,getA,List.set,setA] at s
 refine zk 3 rfl (zl rfl (s.bZ (k:=3) rfl GU oV) (zS rfl (s.ep (j:=3) rfl oV rfl (by simp only[gJ,ki,hu.2];rfl)) ?_))
 rintro h s
 refine zv ?_
 refine WP.ret ⟨aa,_,UB rfl (s.bZ (k:=3) rfl GU oV),?_⟩
 exact⟨u,rfl,v,I,s.del 3⟩
structure xT (tx pv nx:Nat)(data:List Nat)(aQ:List cn): Prop where
 tx:tx<9223372036854775808
 pv:pv<9223372036854775808
 nx:nx<9223372036854775808
 data:data.length≤1048576
 many:aQ.length≤1048576
theorem SK (x:cn): 1≤(kD x).length:=by simp only[kD,bO,aX];omega
theorem IK : ∀l:List cn,l.length≤(l.flatMap kD).length:=by
 intro l
 induction l with
 |nil=>simp
 |cons x l I=>have:=SK x;simp only[vV,bO,aX];omega
noncomputable def rdL : Code:=cD [1,1,1,1,1,1,1,1,0,1,0,0] ((Tryz.f192.body).getD .skip)
theorem V8 (hT:W told){kd:Nat}{p2:Nat}{aQ:List cn}(iH:∀x∈aQ,x.Ok)(hn:aQ.length≤1048576): ∀(j i:Nat) (av:V) (cs:List V) (h:H) (E:List (Nat×V)) (Q:Ex→List (Nat×V)→H→Prop),
  i+j=aQ.length→Cu h c X (pt p2 (.cells 6 (ie kd tx pv nx dt av) false)::.arr 4 av cs::dh cs (aQ.take i)::S) ((aQ.drop i).flatMap kD)→Has E [(0,.ptr c 0),(2,.ptr p2 0),(41,.int .i64 aQ.length),(42,.int .i64 i)] →
  (∀E' h' av cs,Has E' [(0,.ptr c 0),(2,.ptr p2 0)]→Cu h' c X (pt p2 (.cells 6 (ie kd tx pv nx dt av) false)::.arr 4 av cs::dh cs aQ::S) []→Q (.exit 2) E' h')→WP ⟨Tryz.prog,told⟩ 64 (.loop rdL) E h Q:=by
 intro j
 induction j with
 |zero =>
  intro i av cs h E Q hi hc hE hq
  refine WP.loop (WP.has hE (zg rfl (zC rfl aN (by simp;omega) ?_)))
  refine zk 3 rfl (WP.exit ?_)
  rw[eW (by omega),Ax (by omega)] at hc
  exact hq _ _ _ _ ⟨rfl,rfl,aa⟩ hc
 |succ j ih =>
  intro i av cs h E Q hi hc hE hq
  have hx:aQ[i]?=some (aQ[i]'(by omega)):=bA _
  generalize (aQ[i]'(by omega))=x at hx
  have hxo:=iH x (bI hx)
  have I:aQ.drop i=x::aQ.drop (i+1):=by
   obtain⟨h1,rfl⟩:=List.getElem?_eq_some_iff.1 hx
   exact pL h1
  have J:aQ.take (i+1)=aQ.take i++[x]:=by rw[vU,hx];rfl
  rw[I,vV] at hc
  obtain⟨v,hX,s⟩:=hc
  refine WP.loop (WP.has hE (zg rfl (zB rfl aN (by simp;omega) ?_)))
  refine zk 5 rfl (WP.block ?_)
  have s0:=s
  have FR:=(s.iY (j:=3) rfl).2.2
  refine WP.drawn [some (0,3),some (0,3),af,af,af,af,af,af] rfl (by kernel_rfl) (by kernel_rfl) ?_
  refine zF rfl (mO _ _) (zL rfl (s.ld (k:=2) rfl ug rfl) (zM rfl (ax.any rfl rfl rfl rfl (OpR.call rfl rfl rfl rfl (M3 hT hxo ⟨v,hX,s⟩)) ?_)))
  rintro w h ⟨u,rfl,v,hX,s⟩
  dsimp only[ie] at s
  have hu:=(s.buf (k:=2) rfl).view.cells
  have sK:=dg (s.buf (k:=2) rfl).view
  have s1:=s
  have s:=(s.ae [2]).gC
  dsimp only[bringA,getA,aL] at s
  obtain⟨rv,h1,qN,s2⟩:=kq (P:=Tryz.prog) (k:=4) (x:=.agg [.int .i64 x.aK,.int .i64 x.pos,.bool x.whole,u]) s je nY oV rfl (by decide) (by decide) rfl (by simp only[V.cells,gJ,ki,hu.2];rfl)
  dsimp only[V.cells] at s2
  refine ax.any rfl rfl rfl rfl (OpR.of (R:=fun v h'=>v=rv∧h'=h1) (nk rfl qN) ⟨rfl,rfl⟩) ?_
  rintro v' h' ⟨rfl,rfl⟩
  obtain⟨i1,jZ,jv,u_⟩:=uB
  have Sy:cs.length=(aQ.take i).length*4:=by
   obtain⟨a,b,q1,q2,q3⟩:=s2.at (k:=6) rfl
   exact pq q3
  rw[gI] at Sy
  obtain⟨vi,h2,rW,s3⟩:=iG (s2.ae [5,0]) je jZ nY jv (by omega) rfl (by decide) (by simp only[aX,cI];omega)
  dsimp only[bringA,getA,aL] at s3
  refine ax.any rfl rfl rfl rfl (OpR.of (R:=fun v h'=>v=vi∧h'=h2) (lP rfl rfl rW) ⟨rfl,rfl⟩) ?_
  rintro v' h' ⟨rfl,rfl⟩
  have s:=s3
  have DB:=s.iY (j:=0) rfl
  refine zF rfl (mO _ _) (ax.iB rfl rfl rfl (OpR.eu rfl rfl rfl (s.eX (k:=5) rfl Mv rfl (by decide) DB.1 DB.2.1)) ?_)
  rintro v' h ⟨rfl,s⟩
  dsimp only[Nat.reduceAdd,List.set,setA] at s
  refine ax.nil ⟨⟨fun _ _=>.inr ⟨rfl,⟨_,jS rfl (mO _ _)⟩,bn _ rfl⟩,uf (.inr ⟨rfl,⟨_,aW rfl (s0.ld (k:=2) rfl ug rfl)⟩,FR⟩) (.inr ⟨rfl,⟨_,aW rfl (s1.ld (k:=3) rfl ug rfl)⟩,FR⟩) (.inr ⟨rfl,⟨_,aW rfl (s2.ld (k:=4) rfl ug rfl)⟩,FR⟩),aa,aa,aa,aa,aa,aa,aa⟩,?_⟩
  refine zr rfl (zb rfl (by exact bx (aA (by omega) (by omega))) ?_)
  refine zm rfl (zv ?_)
  have s4:Sat _ (dh cs (aQ.take i)::.cg u x.b::_):=s.ae [6,2]
  have s5:=s4.two (C:=dh (cs++[.int .i64 x.aK,.int .i64 x.pos,.bool x.whole,u]) (aQ.take i++[x])) (aY.kf _ _) (aY.cg _ _) fun a b q1 q2=>xJ q1 ⟨⟨⟨rfl,rfl,rfl⟩,q2⟩,aa⟩
  rw[←J] at s5
  have s6:=(s5.ae [3,3,3,1,0]).del 5
  exact ih (i+1) _ _ h _ Q (by omega) ⟨v,hX,s6⟩ ⟨rfl,rfl,rfl,rfl,aa⟩ hq
theorem V9 (J:W told){kd:Nat}{aQ:List cn}(hg:dY kd aQ=true)(hk:kd<256)(hr:xT tx pv nx data aQ)(hc:Cu h c X S (dy kd tx pv nx data aQ)):
  Call ⟨Tryz.prog,told⟩ 192 [.ptr c 0] h fun r h'=>∃dt ch cs,r=.agg (ie kd tx pv nx dt ch)∧Sat h' (X::aV dt data::.arr 4 ch cs::dh cs aQ::S):=by
 simp only[dy,cS,c9,jk,eB] at hc
 obtain⟨v,I,s⟩:=hc
 refine Call.of_wp (J.free _ rfl) Tryz.func192 rfl rfl (zg rfl ?_)
 refine ay.b8 s rfl rfl rfl (bU qW) (fun p2 h s => ?_)
 dsimp only[V.cells,List.length_cons,List.length_nil,Nat.reduceAdd] at s
 refine zk 4 rfl (zc rfl (E4 J ⟨v,I,s.ae [1,1,0]⟩) ?_)
 rintro v h ⟨rfl,v,I,s⟩
 dsimp only[aL,bringA,getA] at s
 refine zo rfl (b6 rfl (Ki (by omega))) ?_
 refine zf rfl (uh _ _) ?_
 refine zS rfl (by exact s.eX (k:=2) rfl ke rfl (by decide) rfl rfl) (fun h s => ?_)
 dsimp only[Nat.reduceAdd,List.set,setA] at s
 refine zk 4 rfl (zo rfl (CX rfl rfl) (zk 5 rfl (zf rfl (OQ _ _) (zf rfl (OR _ _) (zf rfl (OS _ _) (zo rfl (dn rfl (by rw[aah];rfl)) ?_))))))
 refine zk 2 rfl (WP.block (WP.loop (zg rfl (zB rfl aN (rfl) (zk 5 rfl (WP.block (zg rfl (zo rfl (yY rfl rfl (r:=.ptr p2 (0+1)) (by simp only[indexV,It,My,oT,Mz];rfl)) ?_))))))))
 refine zk 5 rfl (zc rfl (vm J hr.tx ⟨v,I,s⟩) ?_)
 rintro v h ⟨rfl,v,I,s⟩
 refine zn rfl ?_
 refine zS rfl (by exact s.eX (k:=2) rfl vD rfl (by decide) rfl rfl) (fun h s => ?_)
 dsimp only[Nat.reduceAdd,List.set,setA] at s
 refine zv (zr rfl (zb rfl (by exact bx (aA (by omega) (by omega))) ?_))
 refine zm rfl (zv (WP.loop (zg rfl (zt rfl (az rfl rfl aN) (rfl) (zv (zw (zi rfl (WP.skip (zw (WP.block (zg rfl (zo rfl (yY rfl rfl (r:=.ptr p2 (0+2)) (by simp only[indexV,It,My,oT,Mz];rfl)) ?_))))))))))))
 refine zk 5 rfl (zc rfl (vm J hr.pv ⟨v,I,s⟩) ?_)
 rintro v h ⟨rfl,v,I,s⟩
 refine zn rfl ?_
 refine zS rfl (by exact s.eX (k:=2) rfl vD rfl (by decide) rfl rfl) (fun h s => ?_)
 dsimp only[Nat.reduceAdd,List.set,setA] at s
 refine zv (zr rfl (zb rfl (by exact bx (aA (by omega) (by omega))) ?_))
 refine zk 2 rfl (WP.loop (zg rfl (zB rfl aN (rfl) (zk 5 rfl (WP.block (zg rfl (zo rfl (yY rfl rfl (r:=.ptr p2 (0+3)) (by simp only[indexV,It,My,oT,Mz];rfl)) ?_)))))))
 refine zk 5 rfl (zc rfl (vm J hr.nx ⟨v,I,s⟩) ?_)
 rintro v h ⟨rfl,v,I,s⟩
 refine zn rfl ?_
 refine zS rfl (by exact s.eX (k:=2) rfl vD rfl (by decide) rfl rfl) (fun h s => ?_)
 dsimp only[Nat.reduceAdd,List.set,setA] at s
 refine zv (zr rfl (zb rfl (by exact bx (aA (by omega) (by omega))) ?_))
 refine zm rfl (zv (WP.loop (zg rfl (zh rfl (az rfl rfl aN) (rfl) (zv (zw (zj rfl (WP.exit (zg rfl (zm rfl ?_))))))))))
 rw[←c9] at I
 refine zc rfl (IJ J hr.data ⟨v,I,s⟩) ?_
 rintro dt h ⟨v,I,s⟩
 have jB:=(s.buf (k:=2) rfl).view.cells
 refine zf rfl (zu _ _) (zS rfl (s.eX (k:=3) rfl ij rfl (by decide) jB.1 jB.2) ?_)
 rintro h s
 refine zk 4 rfl (zc rfl (xS J hr.many ⟨v,I,s⟩) ?_)
 rintro v h ⟨rfl,v,I,s⟩
 have hv:=s.aH (k:=1) rfl I
 refine zk 7 rfl (zY s 0 l_ bP rfl (zo rfl (aP rfl rfl rfl (bj aT hv)) (zB rfl xx (by have:=IK aQ;simp only[ir];omega) ?_)))
 refine zc rfl (mJ J) ?_
 rintro r h' ⟨rfl,rfl⟩
 refine zk 4 rfl ?_
 obtain⟨i1,jZ,jv,u_⟩:=uB
 have Ds:=hr.many
 obtain⟨nv,TQ,e1,s1⟩:=u7 (P:=Tryz.prog) s je jZ nY jv (by omega) rfl (by decide) (by decide) (n:=0) (c:=aQ.length) (by omega) (by omega)
 dsimp only[repeatL] at s1
 refine ay.any rfl rfl rfl (OpR.of (R:=fun v h'=>v=nv∧h'=TQ) (s_ rfl rfl e1) ⟨rfl,rfl⟩) ?_
 rintro v h' ⟨rfl,rfl⟩
 have s:=s1.ae [1,1,2,0]
 have hnv:=s.iY (j:=3) rfl
 refine zf rfl (mO _ _) (zS rfl (s.eX (k:=2) rfl Mv rfl (by decide) hnv.1 hnv.2.1) ?_)
 rintro h s
 have iH:∀x∈aQ,x.Ok:=fun x hx=>by
  simp only[dY,bK,nQ,ir] at hg
  exact hg.2 x hx
 have s2:=((s.gM (φ:=True) aa).gX (B:=dh [] []) fun _ _ h=>h).ae [1,1,1,1,0]
 refine zk 7 rfl (WP.block ?_)
 refine V8 J iH hr.many aQ.length 0 _ [] h _ _ (by omega) ⟨_,I,s2⟩ ⟨rfl,rfl,rfl,rfl,aa⟩ (fun E h av cs hE hc => ?_)
 obtain⟨v,I,s⟩:=hc
 refine WP.has hE ?_
 have hv:=s.aH (k:=1) rfl I
 have jB:=(s.buf (k:=5) rfl).view.cells
 have DB:=s.iY (j:=3) rfl
 have dZ:[V.int .i64 (kd:Int),V.int .u64 (tx:Int),V.int .u64 (pv:Int),V.int .u64 (nx:Int),dt,av].all storable=true:=mQ jB.2 DB.2.1
 have fA:zW aQ:=⟨by omega,fun x hx=>by have:=iH x hx;unfold cn.Ok at this;omega,fun x hx=>by have:=iH x hx;unfold cn.Ok at this;omega⟩
 refine zK 4 rfl (zY s 0 l_ bP rfl (zo rfl (aP rfl rfl rfl (bj aT hv)) (zB rfl dG (rfl) (zm rfl (zl rfl (s.bZ (k:=2) rfl nG g8) (zc rfl (Ie J (s.ae [3,3]) jB.2 fA) ?_))))))
 rintro r h ⟨rfl,s⟩
 rw[hg]
 refine zq rfl (zc rfl (mJ J) ?_)
 rintro r h' ⟨rfl,rfl⟩
 refine zk 3 rfl (zl rfl (s.bZ (k:=4) rfl nG g8) (zS rfl (s.ep (j:=4) rfl g8 rfl dZ) ?_))
 rintro h s
 refine zv ?_
 refine WP.ret ⟨aa,_,UB rfl (s.bZ (k:=4) rfl nG g8),?_⟩
 exact⟨dt,av,cs,rfl,((s.ae [3,4,0,0]).del 4).del 4⟩
end
end Go.Proofs.YtefepnnfphdkpaaGreat.Am
