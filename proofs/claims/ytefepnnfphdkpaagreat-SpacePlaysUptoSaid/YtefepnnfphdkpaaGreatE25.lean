/- SpacePlays: a part of its proof; conditions: its statement's. -/
import Derived.Test.YtefepnnfphdkpaaGreatE24
set_option linter.defProp false
namespace Go.Proofs.YtefepnnfphdkpaaGreat.Am
open Go
def jZ:=@Tryz.underlying26
def F4:=@Tryz.func145
def nr : V→Bool
 | .agg [_,.bool b]=>b
 | _=>true
def kF (seen:List Nat)(e:Int×V×Nat): Bool := !inL seen e.2.2||nr e.2.1
theorem J9 {seen:List Nat}: ∀ {l:cE},leftV seen ((l.filter (kF seen)).map eG)=leftV seen (l.map eG):=by
 intro l
 induction l with
 | nil=>rfl
 | cons e l I =>
  have hm:(eG e).2.2=e.2.2:=rfl
  rw [rL]
  by_cases hs:inL seen e.2.2=true
  ·by_cases J:kF seen e=true
   ·rw [aq J]
    simp only [bQ,leftV,hm,hs,ag]
    exact I
   ·rw [ah J]
    simp only [bQ,leftV,hm,hs,ag]
    exact I
  ·have hs:inL seen e.2.2=false:=by simpa using hs
   rw [aq (by simp [kF,hs])]
   simp only [bQ,leftV,hm,hs,ay]
   rw [I]
theorem J_ {seen:List Nat}{b:Nat}: ∀ {l:cE},(∀e∈l,e.2.2≠b)→leftV (seen++[b]) (l.map eG)=leftV seen (l.map eG):=by
 intro l
 induction l with
 | nil=>intro _; rfl
 | cons e l J =>
  intro h
  have hm:(eG e).2.2=e.2.2:=rfl
  simp only [bQ,leftV,hm,lF,cH (iM (h e ct)),od]
  rw [J fun e' I=>h e' (b6 _ I)]
theorem Ka {seen:List Nat}{c:Nat}: ∀ {l:cE} {b:Nat} {e:Int×V×Nat},gv c b l→e∈l→inL seen e.2.2=false→(leftV (seen++[e.2.2]) (l.map eG)).length+1=(leftV seen (l.map eG)).length:=by
 intro l
 induction l with
 | nil=>intro b e _ he; cases he
 | cons y l ih =>
  intro b e I he hs
  have hm:(eG y).2.2=y.2.2:=rfl
  rcases List.mem_cons.1 he with rfl | he
  ·simp only [bQ,leftV,hm,lF,hs,cN,Bool.or_true,ag,ay,aH]
   rw [J_ fun e' J=>by have:=nU I.2.2 e' J; omega]
  ·have:=nU I.2.2 e he
   have:=ih I.2.2 he hs
   simp only [bQ,leftV,hm,lF,cH (show e.2.2≠y.2.2 by omega),od]
   cases inL seen y.2.2
   ·simp only [ay,aH]; omega
   ·simp only [ag]; omega
theorem OO {seen:List Nat}: ∀ {l:cE},(∀e∈l,inL seen e.2.2=true)→l.filter (kF seen)=l.filter (fun e=>nr e.2.1):=by
 intro l h
 refine uP fun e he => ?_
 simp only [kF,h e he,yS,rR]
theorem OP {l:cE}: l.filter (kF [])=l:=List.filter_eq_self.2 fun e _=>rfl
theorem OQ {seen:List Nat}{l:cE}{e:Int×V×Nat}{c b:Nat}(hb:gv c b l)(he:e∈l)(hf:nr e.2.1=true): l.filter (kF (seen++[e.2.2]))=l.filter (kF seen):=by
 refine uP fun e' J => ?_
 simp only [kF,lF]
 by_cases h:e.2.2=e'.2.2
 ·have I:=o6 hb he
  have h2:=o6 hb J
  rw [h,h2] at I
  have h3:e'.2.1=e.2.1:=by injection I with I; injection I with _ I; rw [I]
  rw [h3,hf]; simp
 ·rw [cH h,od]
theorem RZ {n:Int}: ∀ {l:cE},(l.map (·.1)).Nodup→lQ n l=l.filter (fun e=>decide (e.1≠n)):=by
 intro l
 induction l with
 | nil=>intro _; rfl
 | cons e l J =>
  intro h
  simp only [bQ,k8] at h
  simp only [lQ,rL]
  by_cases he:e.1=n
  ·rw [aq he,ah (by simp [he])]
   symm
   refine List.filter_eq_self.2 fun e' I => ?_
   simp only [j9,eu]
   intro h2
   exact h.1 (by rw [he,←h2]; exact m7 (f:=(·.1)) I)
  ·rw [ah he,aq (by simp [he]),J h.2]
theorem R3 {seen:List Nat}{l:cE}{e:Int×V×Nat}{c b:Nat}(hb:gv c b l)(hn:(l.map (·.1)).Nodup)(he:e∈l)(hf:nr e.2.1=false)(hs:inL seen e.2.2=false):
  l.filter (kF (seen++[e.2.2]))=lQ e.1 (l.filter (kF seen)):=by
 rw [RZ (hn.sublist ((List.filter_sublist).map _)),List.filter_filter]
 refine uP fun J wK => ?_
 simp only [kF,lF]
 have I:e.1=J.1↔e.2.2=J.2.2:=by
  have key:∀ {l:cE} {b:Nat},gv c b l→(l.map (·.1)).Nodup→e∈l→J∈l→(e.1=J.1↔e.2.2=J.2.2):=by
   intro l
   induction l with
   | nil=>intro b _ _ h; cases h
   | cons y l ih =>
    intro b hb hn h1 h2
    simp only [bQ,k8] at hn
    rcases List.mem_cons.1 h1 with q1 | h3 <;> rcases List.mem_cons.1 h2 with q2 | h4
    ·rw [q1,q2]; simp
    ·subst q1
     have:=nU hb.2.2 J h4
     exact ⟨fun h=>(hn.1 (h ▸ m7 (f:=fun e:Int×V×Nat=>e.1) h4)).elim,fun h=>by omega⟩
    ·subst q2
     have:=nU hb.2.2 e h3
     exact ⟨fun h=>(hn.1 (h ▸ m7 (f:=fun e:Int×V×Nat=>e.1) h3)).elim,fun h=>by omega⟩
    ·exact ih hb.2.2 hn.2 h3 h4
  exact key hb hn he wK
 by_cases h:e.2.2=J.2.2
 ·have h1:=o6 hb he
  have h2:=o6 hb wK
  rw [h,h2] at h1
  have h3:J.2.1=e.2.1:=by injection h1 with h1; injection h1 with _ h1; rw [h1]
  rw [h3,hf,h,cN]
  have:=I.2 h
  simp [this]
 ·rw [cH h,od]
  have:J.1≠e.1:=fun h2=>h (I.1 h2.symm)
  simp [this]
theorem yg {c:Nat}{f:Int×V×Nat→Bool}: ∀ {l:cE} {b:Nat},gv c b l→gv c b (l.filter f):=by
 intro l
 induction l with
 | nil=>intro b h; exact h
 | cons e l I =>
  intro b h
  simp only [rL]
  split
  ·exact ⟨h.1,h.2.1,I h.2.2⟩
  ·exact BE (by have:=h.1; omega) (I h.2.2)
section
variable {told:cZ} {h:H} {S:List au} {X:au} {r k q p bR:Nat} {v x wh di:V} {l b:List Nat} {π:Pl} {m:List Fm} {μ:Lg} {δ:Dk}
theorem Wb {P:Program}{t:TypeId}{id n:Nat}{cs l:List V}(J:T.get h.tr id=some (.cells n cs false))(hs:bq P t=some l.length)(hl:cs.length=n)(hn:l.length=n)(I:l.all storable=true):
  fK P h t (.ptr id 0) (.agg l)=some (h.put id (some (.cells n l false))):=by
 simp only [fK,hs,V.cells,I,cN,gA,ag,wrN,J]
 rw [aF.2 (by omega),ag,hn,cN]
 rfl
theorem R4 {P:Program}{t kt et:TypeId}{k:IntKind}{id c j:Nat}{l:cE}{n:Int}{u:TypeId}(s:Sat h S)(hj:getA S j=some (gQ id l c))(hu:P.underlying t=some (.map kt et))(hk:P.underlying kt=some (.int k)):
  ∃v h',builtinV P h .delete #[t,u] [.map id,.int .i64 n]=some (v,h')∧(fun (_:V) (h':H)=>h'.next=h.next∧(∀i,i≠id→T.get h'.tr i=T.get h.tr i)∧Sat h' (setA S j (gQ id (lQ n l) c))) v h':=by
 have hg:=s.row hj
 have key:∃h',mo P h t (.map id) (.int .i64 n)=some h'∧h'.next=h.next∧(∀i,i≠id→T.get h'.tr i=T.get h.tr i)∧Sat h' (setA S j (gQ id (lQ n l) c)):=by
  obtain ⟨h',I,J⟩:=s.delete (n:=n) hj hu hk
  refine ⟨h',I,?_⟩
  simp only [mo,hu,hk,hg,keyBeq,dg,ag,sj] at I
  cases hq:idxE n l 0 with
  | none =>
   rw [hq] at I
   simp only [ak] at I
   subst I
   exact ⟨rfl,fun _ _=>rfl,J⟩
  | some q =>
   obtain ⟨i,u⟩:=q
   rw [hq] at I
   simp only [ak] at I
   subst I
   exact ⟨rfl,fun i hi=>by rw [bV,ah hi],J⟩
 obtain ⟨h',I,J⟩:=key
 refine ⟨.aY [],h',?_,J⟩
 simp only [builtinV,iI,I]
theorem OR (I:W told){n:Int}{a:Int}{b:Bool}: Call ⟨Tryz.prog,told⟩ 146 [.int .i64 n,.agg [.int .u64 a,.bool b]] h fun v h'=>v=.bool (!b)∧h'=newRow h [.int .u64 a,.bool b]:=by
 refine Call.of_wp (I.free _ rfl) Tryz.func146 rfl rfl (zg rfl (zo rfl (fc rfl rfl) (zk 4 rfl (zf rfl (CY _ _) (zl rfl (Io (off:=1) (n:=2) (cs:=[.int .u64 a,.bool b]) (st:=false) kB (by simp only [newRow,V.cells,fA,bE]; rfl) rfl) ?_)))))
 exact zo rfl (cX rfl rfl) (zk 2 rfl (WP.ret ⟨aa,_,rfl,rfl,rfl⟩))
noncomputable def dfA : Code:=cV [0] ((Tryz.f145.body).getD .skip)
noncomputable def UE : Code:=cV [1,0,0,0] ((Tryz.f145.body).getD .skip)
noncomputable def Xp : Code:=cV [1,0,0,1,1,0] ((Tryz.f145.body).getD .skip)
theorem OS : Tryz.f145.body=some (.seq dfA (.block 0 (.loop (.seq UE (.seq (.cond (.tmp 9) .skip (.exit 0)) (.block 1 Xp)))))):=rfl
theorem R5 : ∃id I J,UE=.region id #[I,J] false∧I.guard=none∧J.guard=none∧I.op=.next (.tmp 7) false∧I.dst=some 8∧J.op=.extract (.tmp 8) 0∧J.dst=some 9:=⟨_,_,_,rfl,rfl,rfl,rfl,rfl,rfl,rfl⟩
abbrev qI : V:=.fn (.func 146) [] []
def Xq (h₀:H)(it mid clock:Nat)(es:cE)(S:List au)(j:Nat)(E:List (Nat×V))(h:H): Prop :=
 ∃seen,Has E [(0,.map mid),(1,qI),(7,.ptr it 0)]∧j=(leftV seen (es.map eG)).length∧h.next+2*j=h₀.next+1+2*es.length∧(∀i,i<h₀.next→i≠mid→i≠it→T.get h.tr i=T.get h₀.tr i) ∧
  Sat h (pt it (.iter mid clock clock seen)::gQ mid (es.filter (kF seen)) clock::S)
theorem OT {h₀:H}{it mid clock:Nat}{es:cE}(Ay:it<h₀.next+1)(hb:gv clock 0 es)(hn:(es.map (·.1)).Nodup)(hv:∀e∈es,∃a b,e.2.1=.agg [.int .u64 a,.bool b]){j:Nat}{E:List (Nat×V)}(h0:Xq h₀ it mid clock es S j E h):
  dJ CB 19 (.loop (.seq UE (.seq (.cond (.tmp 9) .skip (.exit 0)) (.block 1 Xp)))) E h fun ex E' h'=>ex=.exit 0∧h'.next=h₀.next+1+2*es.length∧(∀i,i<h₀.next→i≠mid→i≠it→T.get h'.tr i=T.get h₀.tr i) ∧
   ∃seen,Sat h' (pt it (.iter mid clock clock seen)::gQ mid (es.filter (fun e=>nr e.2.1)) clock::S):=by
 refine dJ.loop (Xq h₀ it mid clock es S) ?_ h0
 rintro j E h ⟨seen,hE,rfl,I,hs,s⟩
 have g1:=s.row (k:=0) rfl
 have g2:=s.row (k:=1) rfl
 have J:=yg (f:=kF seen) hb
 obtain ⟨id,Q1,Nu,q0,q1,q2,q3,q4,q5,q6⟩:=R5
 refine dJ.seq ?_
 rw [q0]
 have hL:=next_at g1 (aD _) g2 J
 refine dJ.next g8 fg q1 q2 q3 q4 q5 rfl q6 rfl rfl (r:=it) ?_ hL fun q hq => ?_
 ·exact hE.2.2.1
 ·rcases F1 g1 (aD _) g2 J hL q hq with ⟨rfl,mC⟩ | ⟨e,he,QF,_,rfl⟩
  ·have Wc:∀e∈es,inL seen e.2.2=true:=fun e he=>by
    cases hi:inL seen e.2.2 with
    | true=>rfl
    | false =>
     have:=mC e (List.mem_filter.2 ⟨he,by simp [kF,hi]⟩)
     rw [hi] at this; cases this
   have vP:leftV seen (es.map eG)=[]:=by
    rw [←J9]
    rw [next_at g1 (aD _) g2 J] at hL
    cases hl:leftV seen ((es.filter (kF seen)).map eG) with
    | nil=>rfl
    | cons y l =>
     have:=DT (e:=y) (seen:=seen) (l:=(es.filter (kF seen)).map eG) (by rw [hl]; exact ct)
     obtain ⟨e,he,rfl⟩:=List.mem_map.1 this.1
     have h2:=mC e he
     rw [show (eG e).2.2=e.2.2 from rfl,h2] at this
     cases this.2
   refine ⟨.bool false,[],rfl,?_⟩
   refine dJ.seq (dJ.cond (t:=false) rfl ?_)
   refine dJ.of g8 fg (WP.exit ?_)
   refine ⟨rfl,?_,hs,seen,?_⟩
   ·rw [vP] at I; simpa using I
   ·rw [←OO Wc]; exact s
  ·refine ⟨.bool true,_,rfl,?_⟩
   refine dJ.seq (dJ.cond (t:=true) rfl ?_)
   refine dJ.of g8 fg (WP.skip ?_)
   refine dJ.block (dJ.of g8 fg ?_)
   have HY:=(List.mem_filter.1 he).1
   have ql:=Ka hb HY QF
   have s:=s.put (o':=.iter mid clock clock (seen++[e.2.2])) (k:=0) rfl
   have hs:∀i,i<h₀.next→i≠mid→i≠it→T.get (h.put it (some (.iter mid clock clock (seen++[e.2.2])))).tr i=T.get h₀.tr i:=fun i h1 h2 h3=>by rw [bV,ah h3]; exact hs i h1 h2 h3
   have I:(h.put it (some (.iter mid clock clock (seen++[e.2.2])))).next+2*(leftV seen (es.map eG)).length=h₀.next+1+2*es.length:=I
   have hle:h₀.next≤(h.put it (some (.iter mid clock clock (seen++[e.2.2])))).next:=by
    have:(leftV seen (es.map eG)).length≤(es.map eG).length:=by
     have:∀l:List (V×V×Nat),(leftV seen l).length≤l.length:=by
      intro l
      induction l with
      | nil=>exact aD _
      | cons y l ih=>simp only [leftV]; cases inL seen y.2.2 <;> simp <;> omega
     exact this _
    simp only [dF] at this
    omega
   generalize h.put it (some (.iter mid clock clock (seen++[e.2.2])))=h' at s hs I hle
   have g1:=s.row (k:=0) rfl
   have g2:=s.row (k:=1) rfl
   obtain ⟨a,b,lY⟩:=hv e HY
   have UF:=F0 g1 g2 J he
   rw [lY] at UF
   refine WP.has (F:=[(0,.map mid),(1,qI),(7,.ptr it 0),(9,.bool true)]) ⟨hE.1,hE.2.1,hE.2.2.1,rfl,aa⟩ (zg rfl (az.any rfl rfl rfl (OpR.entry rfl rfl UF) ?_))
   rintro v h ⟨rfl,rfl⟩
   refine zk 2 rfl (zo rfl (cy vX) ?_)
   have s1:=s.new (.cells 2 [.int .u64 0,.bool false] false)
   have e1:=Wb (P:=Tryz.prog) (t:=199) (l:=[.int .u64 a,.bool b]) (s1.row (k:=0) rfl) tU rfl rfl rfl
   have s2:=s1.put (o':=.cells 2 [.int .u64 a,.bool b] false) (k:=0) rfl
   refine za rfl (az.P9 rfl rfl (vk rfl rfl e1) (zk 5 rfl (zl rfl (s2.bZ (k:=0) rfl JO tU) (zc rfl (OR W.base (n:=e.1) (a:=a) (b:=b)) ?_))))
   rintro v h'' ⟨rfl,rfl⟩
   have s3:=s2.new (.cells 2 [.int .u64 a,.bool b] false)
   have lM:∀i,i<h₀.next→i≠mid→i≠it→T.get (newRow ((h.new (.cells 2 [.int .u64 0,.bool false] false)).put h.next (some (.cells 2 [.int .u64 a,.bool b] false))) [.int .u64 a,.bool b]).tr i=T.get h₀.tr i:=fun i h1 h2 h3=>by
    rw [newRow,fA,ah (by show i≠h.next+1; omega),bV,ah (by omega),fA,ah (by omega)]
    exact hs i h1 h2 h3
   refine zv ?_
   refine WP.split rfl ?_ ?_
   ·intro hq
    have u9:b=false:=by simpa using hq
    subst u9
    have s4:=(s3.ae [2,2])
    refine zK 3 rfl (az.j6 rfl rfl (OpR.builtin rfl rfl rfl (R4 (n:=e.1) s4 (j:=1) rfl oV bI)) ?_)
    rintro v h5 ⟨k1,k2,k3⟩
    refine zv ?_
    refine ⟨_,?_,seen++[e.2.2],⟨rfl,rfl,rfl,aa⟩,rfl,?_,?_,?_⟩
    ·omega
    ·rw [k1]
     show h.next+1+1+_=_
     omega
    ·intro i h1 h2 h3
     rw [k2 i h2]
     exact lM i h1 h2 h3
    ·rw [R3 hb hn HY (by rw [lY]; rfl) QF]
     exact (k3.del 3).del 2
   ·intro hq
    have u9:b=true:=by simpa using hq
    subst u9
    refine WP.skip ?_
    refine ⟨_,?_,seen++[e.2.2],⟨rfl,rfl,rfl,aa⟩,rfl,?_,lM,?_⟩
    ·omega
    ·show h.next+1+1+_=_
     omega
    ·rw [OQ hb HY (by rw [lY]; rfl)]
     exact (s3.del 1).del 0
end
def F5 (args:List V)(h:H)(r:V×H): Prop:=∃(mid:Nat) (es:cE) (clock:Nat),args=[.map mid,qI]∧T.get h.tr mid=some (.map (es.map eG) clock) ∧
 r=(.aY [],⟨h.next+1+2*es.length,(h.put mid (some (.map ((es.filter (fun e=>nr e.2.1)).map eG) clock))).tr⟩)
structure W2 (told:cZ): Prop where
 w:W told
 sync:told 139=some (l8 Tryz.prog 139 Db)
 del:told 145=some (l8 Tryz.prog 145 F5)
theorem IJ : ∀ {l m:cE},l.map eG=m.map eG→l=m:=by
 intro l
 induction l with
 | nil=>intro m h; cases m with
  | nil=>rfl
  | cons _ _=>cases h
 | cons e l J=>intro m h; cases m with
  | nil=>cases h
  | cons x m =>
   simp only [bQ,uS] at h
   obtain ⟨I,h2⟩:=h
   rw [J h2]
   obtain ⟨e1,e2⟩:=e
   obtain ⟨x1,x2⟩:=x
   simp only [eG,aC,V.int.injEq,true_and] at I
   rw [I.1,I.2]
theorem Kb {a b:PM}: ∀ {l:cE} {m:List (Int×(Nat×Bool))},(eM (fun v x=>.pu (v=.agg [.int .u64 (x.1:Int),.bool x.2])) l m).p a b →
  (eM (fun v x=>.pu (v=.agg [.int .u64 (x.1:Int),.bool x.2])) (l.filter fun e=>nr e.2.1) (m.filter fun e=>e.2.2)).p a b:=by
 intro l
 induction l with
 | nil=>intro m h; cases m with
  | nil=>exact h
  | cons _ _=>exact h.elim
 | cons e l I=>intro m h; cases m with
  | nil=>exact h.elim
  | cons x m =>
   obtain ⟨⟨h1,J⟩,h3⟩:=h
   have h4:e.2.1=.agg [.int .u64 (x.2.1:Int),.bool x.2.2]:=J
   have hf:nr e.2.1=x.2.2:=by rw [h4]; rfl
   simp only [rL,hf]
   split
   ·exact ⟨⟨h1,J⟩,I h3⟩
   ·exact I h3
def Dk.jE (δ:Dk): Int×Dk:=if δ.dead=true then (9,δ) else if δ.bj=0 then (9,δ.die) else (0,δ.c6.sync)
section
variable {told:cZ} {h:H} {S:List au} {X:au} {r k q p bR:Nat} {v x wh di:V} {l b:List Nat} {π:Pl} {m:List (Int×(Nat×Bool))} {μ:Lg} {δ:Dk}
theorem tq {a b:Obj}{id:Nat}(J:T.get h.tr id=some a)(I:T.get h.tr id=some b): a=b:=by rw [J] at I; exact bB I
theorem R6 (hT:W2 told)(s:Sat h (aL p δ::S))(tg:δ.Ok)(hk:∀e∈δ.now,0≤e.1∧e.1<δ.aM.length): Call ⟨Tryz.prog,told⟩ 139 [.ptr p 0] h fun v h'=>v=.int .i64 δ.jE.1∧Sat h' (aL p δ.jE.2::S):=by
 obtain ⟨r,h1,h2⟩:=Mq s tg hk
 obtain ⟨r,h3,h4⟩:=yb h1 h2
 refine ⟨r.1,r.2,gF.told hT.sync xZ rfl h3,?_⟩
 clear h1 h2 h3
 obtain ⟨p',cs,e1,gp',h4⟩:=h4
 injection e1 with e1 _
 injection e1 with e1 _
 subst e1
 obtain ⟨pg,wt,nw,lg,mk,tn,tl,ops,s1⟩:=bW.1 s
 have gp:=s1.row (k:=0) rfl
 have e2:=tq gp gp'
 injection e2 with _ e2 _
 subst e2
 rcases h4 with ⟨hd,rfl⟩ | ⟨hd,v1,h1,xu,h4⟩
 ·have hd:δ.dead=true:=by injection (bB hd)
  simp only [Dk.jE,aq hd]
  exact ⟨aa,s⟩
 ·have hd:δ.dead=false:=by injection (bB hd)
  obtain ⟨v2,h2,Yz,hR⟩:=mV W.base s tg.bj
  obtain ⟨rfl,rfl⟩:=gF.det xu Yz
  simp only [Dk.jE,hd,dW,bG]
  rcases hR with ⟨h0,rfl,s2⟩ | ⟨h0,rfl,s2⟩
  ·rcases h4 with ⟨_,rfl⟩ | ⟨hv,_⟩
   ·rw [aq h0]; exact ⟨rfl,s2⟩
   ·cases hv
  ·rcases h4 with ⟨hv,_⟩ | ⟨_,cs,im,N,row,mid,es,clock,g0,c1,c3,g1,g2,rfl⟩
   ·cases hv
   ·rw [ah h0]
    refine ⟨rfl,?_⟩
    obtain ⟨pg,wt,nw,lg,mk,tn,tl,ops,s3⟩:=bW.1 s2
    obtain ⟨Xr,row',rfl,s4⟩:=kD.1 (s3.ae [1])
    obtain ⟨J,es',I,rfl,hb,hn,s5⟩:=ej.1 (s4.ae [4])
    have s6:=s5.ae [4,2,0,0,0,0]
    have e3:=tq (s6.row (k:=0) rfl) g0
    injection e3 with _ e3 _
    subst e3
    have c1:=bB c1
    injection c1 with c1 _ c2 _
    subst c1; subst c2
    have c3:=bB c3
    injection c3 with c3
    subst c3
    have e4:=tq (s6.row (k:=1) rfl) g1
    injection e4 with _ e4 _
    subst e4
    have e5:=tq (s6.row (k:=2) rfl) g2
    injection e5 with e5 e6
    have e5:=IJ e5
    subst e5; subst e6
    have s7:=s6.new (.iter J I I [])
    have s8:=s7.put (o':=.cells δ.c6.aM.length (mX es' row') false) (k:=2) rfl
    have s9:=s8.put (o':=.cells 12 (List.set (BK δ.c6.room (.sl Xr 0 δ.c6.aM.length (.exact δ.c6.aM.length)) wt (.map J) lg δ.c6.bT mk δ.c6.bj ops δ.c6.dead tn tl) 2 .bu) false) (k:=1) rfl
    have s10:=s9.put (o':=.map [] I) (k:=3) rfl
    have s11:=s10.kill
    have s12:Sat _ (each pn row' δ.c6.aM::eM (fun v b=>.c5 v b) es' δ.c6.now::_):=s11.ae [4,3]
    have s13:=s12.two (C:=each pn (mX es' row') (laidP δ.c6.now δ.c6.aM)) (aX.each aX.pn _ _) (aX.JS (fun _ _=>aX.c5 _ _) _ _) fun a b q1 q2=>HC q2 (fun e he=>by
     have:=tg.now e he
     rintro hq; rw [hq] at this; simp at this) q1
    have s14:=(ej (f:=fun v b=>.c5 v b) (v:=.map J) (m:=([]:List (Int×List Nat)))).2 ⟨J,[],I,rfl,aa,pM,((s13.ae [3]).gr aa).ae [1,0]⟩
    have hlen:(laidP δ.c6.now δ.c6.aM).length=δ.c6.aM.length:=yc
    have Xs:=kD.2 ⟨Xr,mX es' row',rfl,by rw [hlen]; exact s14.ae [3,1]⟩
    rw [hlen] at Xs
    have s16:=(tX (v:=.bu) (m:=[])).2 ⟨[],((Xs.del 3).gr aa).nI⟩
    exact bW.2 ⟨_,_,_,_,_,_,_,ops,s16.ae [3,1,0,0]⟩
theorem OU (s:Sat h (BQ di m::S)): ∃r,F5 [di,qI] h r∧∀(c:Ctx) (w:World),Rel c h w→(∀x∈[di,qI],wf c x)→fI Tryz.prog 145 [di,qI] c w r.1 r.2:=by
 obtain ⟨mid,es,clock,rfl,hb,hn,s1⟩:=ej.1 s
 have gm:=s1.row (k:=0) rfl
 obtain ⟨a,b,_,_,q3⟩:=s1.at (k:=1) rfl
 have I:=rA q3
 have hv:∀e∈es,∃a b,e.2.1=.agg [.int .u64 a,.bool b]:=fun e he=>by
  obtain ⟨x,_,k2⟩:=yf q3 e he
  exact ⟨_,_,k2⟩
 refine ⟨_,⟨mid,es,clock,rfl,gm,rfl⟩,fun c w hr ha => ?_⟩
 refine fI.BV (C:=CB) (args:=[.map mid,qI]) F4 OS (show 2≤Tryz.f145.ntmps by decide) ?_ hr ha
 refine dJ.seq (dJ.of g8 fg ?_)
 have s:=s1
 refine zK 2 rfl (az.any rfl rfl rfl (OpR.range rfl rfl (show rangeV Tryz.prog h 187 (.map mid)=some (.ptr h.next 0,h.new (.iter mid clock clock [])) by simp only [rangeV,oV,gm])) ?_)
 rintro v h' ⟨rfl,rfl⟩
 refine zv ?_
 have s7:=s.new (.iter mid clock clock [])
 refine dJ.block ((OT (h₀:=h) (es:=es) (it:=h.next) (mid:=mid) (clock:=clock) (S:=eM (fun v (x:Nat×Bool)=>.pu (v=.agg [.int .u64 (x.1:Int),.bool x.2])) es m::S) (by omega) hb (by rw [I]; exact hn) hv ⟨[],⟨rfl,rfl,rfl,aa⟩,rfl,?_,?_,?_⟩).mono ?_)
 ·have:(leftV [] (es.map eG)).length=es.length:=by
   have:∀l:List (V×V×Nat),leftV [] l=l:=by
    intro l
    induction l with
    | nil=>rfl
    | cons y l ih=>simp only [leftV,inL,ay,ih]
   rw [this,dF]
  rw [this]
  rfl
 ·intro i J h2 h3
  rw [fA,ah h3]
 ·rw [OP]; exact s7
 ·rintro ex E' h' ⟨rfl,DR,hs,seen,s'⟩
  refine ⟨aa,rfl,DR.symm,fun id o ho => ?_⟩
  rw [bV] at ho
  by_cases J:id=mid
  ·rw [aq J] at ho; rw [J,s'.row (k:=1) rfl]; exact ho
  ·rw [ah J] at ho
   have:=s.wf id o ho
   rw [hs id this J (by omega)]
   exact ho
theorem UG (hT:W2 told)(s:Sat h (BQ di m::S)): Call ⟨Tryz.prog,told⟩ 145 [di,qI] h fun v h'=>v=.aY []∧Sat h' (BQ di (m.filter fun e=>e.2.2)::S):=by
 obtain ⟨r,h1,h2⟩:=OU s
 obtain ⟨r,h3,h4⟩:=yb h1 h2
 refine ⟨r.1,r.2,gF.told hT.del F4 rfl h3,?_⟩
 clear h1 h2 h3
 obtain ⟨mid,es,clock,e1,g1,rfl⟩:=h4
 injection e1 with e1 _
 subst e1
 refine ⟨rfl,?_⟩
 obtain ⟨aaw,es',I,e2,hb,hn,s1⟩:=ej.1 s
 injection e2 with e2
 subst e2
 have J:=tq (s1.row (k:=0) rfl) g1
 injection J with J e4
 have J:=IJ J
 subst J; subst e4
 have s2:Sat h (eM _ es' m::gQ mid es' I::S):=s1.ae [1]
 have s3:=s2.iU (B:=eM (fun v x=>.pu (v=.agg [.int .u64 (x.1:Int),.bool x.2])) (es'.filter fun e=>nr e.2.1) (m.filter fun e=>e.2.2)) fun a b q=>Kb q
 have s4:=s3.put (o':=.map ((es'.filter fun e=>nr e.2.1).map eG) I) (k:=1) rfl
 have s5:=s4.j5 (k:=1+2*es'.length) (h':=⟨h.next+1+2*es'.length,(h.put mid (some (.map ((es'.filter fun e=>nr e.2.1).map eG) I))).tr⟩)
  ⟨fun id o ho=>by have h1:=s4.wf id o ho; have h2:(h.put mid (some (.map ((es'.filter fun e=>nr e.2.1).map eG) I))).next=h.next:=rfl; show id<h.next+1+2*es'.length; omega,
   by show h.next≤h.next+1+2*es'.length; omega,by show h.next+1+2*es'.length≤h.next+(1+2*es'.length); omega,fun _ _ _=>rfl⟩
 exact ej.2 ⟨mid,es'.filter (fun e=>nr e.2.1),I,rfl,yg hb,hn.sublist ((List.filter_sublist).map _),s5.ae [1,0]⟩
def eE (π:Pl)(δ:Dk): Int×Pl×Dk:=if δ.jE.1≠0 then (δ.jE.1,π,δ.jE.2) else (0,{ π with br:=π.br.filter fun e=>e.2.2 },δ.jE.2)
theorem OV (I:W2 told)(s:Sat h (cK r p q π::aL p δ::S))(J:δ.Ok)(hk:∀e∈δ.now,0≤e.1∧e.1<δ.aM.length):
  Call ⟨Tryz.prog,told⟩ 93 [.ptr r 0] h fun v h'=>v=.int .i64 (eE π δ).1∧Sat h' (cK r p q (eE π δ).2.1::aL p (eE π δ).2.2::S):=by
 obtain ⟨bR,wh,di,s⟩:=cL.1 s
 refine Call.of_wp (I.w.free _ rfl) Tryz.func93 rfl rfl (zK 9 rfl (zf rfl (vr _ _) (zl rfl (s.ld (k:=0) rfl jU rfl) (zc rfl (R6 I (s.ae [4]) J hk) ?_))))
 rintro v h ⟨rfl,s⟩
 refine zk 5 rfl ?_
 by_cases he:δ.jE.1=0
 ·skip
  refine zh rfl (af rfl rfl aG) (by simp; exact he) ?_
  refine zk 7 rfl (zf rfl (my _ _) (zl rfl (s.ld (k:=1) rfl qo rfl) (zc rfl (UG I (s.ae [4])) ?_)))
  rintro v h ⟨rfl,s⟩
  refine zk 5 rfl (WP.ret ⟨aa,_,rfl,?_⟩)
  rw [eE,ah (by simpa using he)]
  exact ⟨rfl,(cL.2 ⟨bR,wh,di,s.ae [2,2,2,0,0]⟩)⟩
 ·skip
  refine zt rfl (af rfl rfl aG) (by simp; exact he) ?_
  refine zk 7 rfl (WP.ret ⟨aa,_,rfl,?_⟩)
  rw [eE,aq he]
  exact ⟨rfl,(cL.2 ⟨bR,wh,di,s.ae [1,1,1,1,0]⟩)⟩
end
theorem fD.aj {π I:Pl}(J:fD π I): ∀g∈I.aj,∃f∈π.aj,∃t,g={ f with eC:=t }:=by
 intro g hg
 obtain ⟨i,hi,rfl⟩:=List.mem_iff_getElem.1 hg
 have hf:π.aj[i]?=some (π.aj[i]'(by rw [←J.len]; exact hi)):=aN _
 obtain ⟨t,ht⟩:=J.get i _ hf
 rw [aN hi] at ht
 exact ⟨_,pJ _,t,bB ht⟩
theorem fD.ok {π I:Pl}(J:fD π I)(h:π.Ok)(hh:I.hand<I.aj.length): I.Ok:=by
 refine ⟨hh,by rw [J.len]; exact h.many,by rw [J.aI,J.len]; exact h.aI,fun g hg => ?_,fun g hg => ?_⟩
 ·obtain ⟨f,hf,t,rfl⟩:=J.aj g hg
  exact h.len f hf
 ·obtain ⟨f,hf,t,rfl⟩:=J.aj g hg
  exact h.pins f hf
theorem Pl.Ok.set {π:Pl}{i:Nat}{f:Fm}{w:List (Int×Int)}{d:List (Int×(Nat×Bool))}(h:π.Ok)(hw:∀e∈w,0≤e.2∧e.2<π.aj.length)(J:f.b.length≤512)(hp:0≤f.pins∧f.pins≤4294967296): Pl.Ok { π with aj:=π.aj.set i f,aI:=w,br:=d }:=by
 refine ⟨by simp only [bJ]; exact h.hand,by simp only [bJ]; exact h.many,fun e he=>by simp only [bJ]; exact hw e he,fun g I => ?_,fun g I => ?_⟩
 ·rcases kV I with I | rfl
  ·exact h.len g I
  ·exact J
 ·rcases kV I with I | rfl
  ·exact h.pins g I
  ·exact hp
theorem R7 {α:Type}{n:Int}: ∀ {l:List (Int×α)} {e:Int×α},e∈mE n l→e∈l:=by
 intro l
 induction l with
 | nil=>intro e h; exact h
 | cons x l I =>
  intro e h
  simp only [mE] at h
  split at h
  ·exact b6 _ h
  ·rcases List.mem_cons.1 h with rfl | h
   ·exact ct
   ·exact b6 _ (I h)
theorem R8 {α:Type}{n:Int}{x:α}: ∀ {l:List (Int×α)} {e:Int×α},e∈dO n x l→e=(n,x)∨e∈l:=by
 intro l
 induction l with
 | nil=>intro e h; simp only [dO,uJ] at h; exact .inl h
 | cons y l I =>
  intro e h
  simp only [dO] at h
  split at h
  ·rcases List.mem_cons.1 h with rfl | h
   ·exact .inl rfl
   ·exact .inr (b6 _ h)
  ·rcases List.mem_cons.1 h with rfl | h
   ·exact .inr ct
   ·rcases I h with h | h
    ·exact .inl h
    ·exact .inr (b6 _ h)
theorem AS {π:Pl}{i:Nat}{f:Fm}(h:π.Ok): (cW π i f).Ok:=by
 unfold cW
 refine h.set (fun e he => ?_) (by simp [ep]) (by simp [ep])
 split at he
 ·exact h.aI e he
 ·exact h.aI e (R7 he)
theorem fE.ok {ε ε':aE}{n e:Int}{b:List Nat}(hr:fE ε n e b ε')(h:nT ε)(hp:∀f∈ε.1.aj,f.pins=0): nT ε':=by
 cases hr with
 | arg _=>exact h
 | Ay i f h1 h2 hl hf =>
  have hm:=a_ hf
  exact ⟨h.pl.set h.pl.aI (h.pl.len f hm) (by have:=hp f hm; simp only; omega),h.lg,h.dk⟩
 | out I i f h1 h2 hl J hf hh he=>exact qd (ε:=(I,ε.2)) ⟨J.ok h.pl hh,h.lg,h.dk⟩
 | read I i f h1 h2 hl J hf hh he hr =>
  have:=qd (i:=i) (ε:=(I,ε.2)) ⟨J.ok h.pl hh,h.lg,h.dk⟩
  exact ⟨AS this.pl,this.lg,this.dk⟩
 | bad I i f h1 h2 hl J hf hh he hr hc =>
  have:=qd (i:=i) (ε:=(I,ε.2)) ⟨J.ok h.pl hh,h.lg,h.dk⟩
  exact ⟨AS this.pl,this.lg,this.dk⟩
 | load I i f h1 h2 hl J hf hh he hr hc =>
  have:=qd (i:=i) (ε:=(I,ε.2)) ⟨J.ok h.pl hh,h.lg,h.dk⟩
  have h3:=AS (i:=i) (f:=f) this.pl
  have hlen:i<(cW (outF (I,ε.2) i).2.1 i f).aj.length:=by
   obtain ⟨c,hc⟩:=nq (ε:=(I,ε.2)) hf
   have:=(List.getElem?_eq_some_iff.1 hc).1
   simpa [cW] using this
  refine ⟨h3.set (fun e he => ?_) (by simp only; rw [this.dk.at]; omega) (by simp),this.lg,this.dk⟩
  rcases R8 he with rfl | he
  ·simp only; omega
  ·exact h3.aI e he
theorem DU {π:Pl}{n:Int}(h:π.Ok): (unpinF π n).2.Ok:=by
 unfold unpinF
 split
 ·exact h
 ·rename_i i hi
  split
  ·exact h
  ·rename_i f I
   have hm:=a_ I
   refine h.set h.aI (h.len f hm) ?_
   have:=h.pins f hm
   have J:f.pins≠0:=by
    unfold heldI at hi
    split at hi
    ·cases hi
    ·split at hi
     ·cases hi
     ·rename_i g hg
      split at hi
      ·cases hi
      ·rename_i hp
       have:=bB hi
       subst this
       rw [hg] at I
       have:=bB I
       subst this
       exact hp
   simp only; omega
inductive mJ (ε:aE)(n:Int): Int→List Nat→aE→Prop where
 | dead (h:ε.2.2.dead=true):mJ ε n 9 [] ε
 | iV (e:Int) (b:List Nat) (ε':aE) (h:ε.2.2.dead=false) (hr:fE ε n e b ε') (he:e≠0):mJ ε n e [] ε'
 | rD (b:List Nat) (ε':aE) (h:ε.2.2.dead=false) (hr:fE ε n 0 b ε') (he:(unpinF ε'.1 n).1≠0):mJ ε n (unpinF ε'.1 n).1 [] ((unpinF ε'.1 n).2,ε'.2)
 | read (b:List Nat) (ε':aE) (h:ε.2.2.dead=false) (hr:fE ε n 0 b ε') (he:(unpinF ε'.1 n).1=0):mJ ε n 0 b ((unpinF ε'.1 n).2,ε'.2)
theorem mJ.ok {ε ε':aE}{n e:Int}{b:List Nat}(I:mJ ε n e b ε')(h:nT ε)(J:∀f∈ε.1.aj,f.pins=0): nT ε':=by
 cases I with
 | dead _=>exact h
 | iV e b ε' hd I he=>exact I.ok h J
 | rD b ε' hd I he=>have:=I.ok h J; exact ⟨DU this.pl,this.lg,this.dk⟩
 | read b ε' hd I he=>have:=I.ok h J; exact ⟨DU this.pl,this.lg,this.dk⟩
def BX (a p q r:Nat)(op dv:V)(aO:Nat): List V:=[.ptr p 0,.ptr q 0,.ptr r 0,op,dv,.int .u64 (aO:Int)]
def dx (a p q r:Nat)(op:V)(data:List Nat)(aO:Nat): au:=xs fun dv:V=>star [pt a (.cells 6 (BX a p q r op dv aO) false),.c5 dv data]
def fh (g a:Nat)(now:List (Int×List Nat))(bX:Bool): au:=xs fun I:V=>star [pt g (.cells 3 [.ptr a 0,I,.bool bX] false),jV (fun v b=>.c5 v b) I now]
section
variable {told:cZ} {h:H} {S:List au} {X:au} {r k q p bR a g aO:Nat} {op v x wh di:V} {l b data:List Nat} {π:Pl} {m:List Fm} {μ:Lg} {δ:Dk} {now:List (Int×List Nat)} {bX:Bool}
theorem b5 : Sat h (dx a p q r op data aO::S)↔∃dv,Sat h (pt a (.cells 6 (BX a p q r op dv aO) false)::.c5 dv data::S):=by
 simp only [dx,kz,cq,gy,dn]
theorem dV : Sat h (fh g a now bX::S)↔∃I,Sat h (pt g (.cells 3 [.ptr a 0,I,.bool bX] false)::jV (fun v b=>.c5 v b) I now::S):=by
 simp only [fh,kz,cq,gy,dn]
theorem AT (hT:W told){n:Int}(s:Sat h (dx a p q r op data aO::cK r p q π::bx q p μ::aL p δ::S))(I:nT (π,μ,δ))(J:∀f∈π.aj,f.pins=0)(hw:δ.waiting.length≤268435456):
  Call ⟨Tryz.prog,told⟩ 113 [.ptr a 0,.int .i64 n] h fun v h'=>∃(e:Int) (b:List Nat) (ε:aE),mJ (π,μ,δ) n e b ε ∧
   ((e≠0∧v=.aY [.bu,.int .i64 e]∧Sat h' (dx a p q r op data aO::cK r p q ε.1::bx q p ε.2.1::aL p ε.2.2::S)) ∨
    (e=0∧∃u,v=.aY [u,.int .i64 0]∧Sat h' (aZ u b::dx a p q r op data aO::cK r p q ε.1::bx q p ε.2.1::aL p ε.2.2::S))):=by
 have s0:=s
 obtain ⟨dv,s⟩:=b5.1 s
 refine Call.of_wp (hT.free _ rfl) Tryz.func113 rfl rfl (zK 10 rfl (zf rfl (r9 _ _) (zl rfl (s.ld (k:=0) rfl jU rfl) (zc rfl (v8 hT (s.ae [4])) ?_))))
 rintro v h ⟨rfl,rfl⟩
 refine zv ?_
 cases hd:δ.dead with
 | true =>
  exact zK 6 rfl (WP.ret ⟨aa,_,rfl,9,[],_,.dead hd,.inl ⟨by decide,rfl,s0⟩⟩)
 | false =>
  refine zK 6 rfl (zf rfl (nk _ _) (zl rfl (s.ld (k:=0) rfl rz rfl) (zm rfl (zc rfl (Mf (n:=n) hT (s.ae [2,2,2]) I.pl J I.lg I.dk hw) ?_))))
  rintro v h ⟨e,b,ε,hr,(⟨he,rfl,s⟩ | ⟨rfl,u,rfl,s⟩)⟩
  ·dsimp only [bringA,getA,bf] at s
   refine zk 10 rfl (zt rfl (af rfl rfl aG) (by simp; exact he) ?_)
   exact zk 8 rfl (WP.ret ⟨aa,_,rfl,e,[],ε,.iV e b ε hd hr he,.inl ⟨he,rfl,b5.2 ⟨dv,s.ae [3,3,0,0,0]⟩⟩⟩)
  ·dsimp only [bringA,getA,bf] at s
   refine zk 10 rfl (zh rfl (af rfl rfl aG) (rfl) ?_)
   have s:=s.ae [4,4,0,0,0,0]
   refine zk 8 rfl (zf rfl (nk _ _) (zl rfl (s.ld (k:=0) rfl rz rfl) (zm rfl ?_)))
   have wQ:=hr.ok I J
   refine zc rfl (FW (n:=n) hT (s.ae [3]) wQ.pl) ?_
   rintro v h ⟨rfl,s⟩
   refine zk 5 rfl ?_
   by_cases he:(unpinF ε.1 n).1=0
   ·skip
    refine zh rfl (af rfl rfl aG) (by simp; exact he) ?_
    exact zk 9 rfl (WP.ret ⟨aa,_,rfl,0,b,_,.read b ε hd hr he,.inr ⟨rfl,u,rfl,(b5.2 ⟨dv,s.ae [1,1,0,1,1,0]⟩).ae [4,0,0,0,0]⟩⟩)
   ·skip
    refine zt rfl (af rfl rfl aG) (by simp; exact he) ?_
    exact zk 8 rfl (WP.ret ⟨aa,_,rfl,_,[],_,.rD b ε hd hr he,.inl ⟨he,rfl,(b5.2 ⟨dv,(s.ae [1,1,0,1,1,0]).del 5⟩)⟩⟩)
end
structure Pl.Full (π:Pl): Prop where
 nodup:(π.aI.map (·.1)).Nodup
 kN:∀n i,lookL n π.aI=some i→0≤n∧∃f,π.aj[i.toNat]?=some f∧f.bn=n∧f.b.length=512
structure iR (ε:aE): Prop where
 ok:nT ε
 pins:∀f∈ε.1.aj,f.pins=0
 full:ε.1.Full
theorem Pl.Full.set {π:Pl}{i:Nat}{f g:Fm}{d:List (Int×(Nat×Bool))}(h:π.Full)(hf:π.aj[i]?=some f)(hp:g.bn=f.bn)(hl:f.b.length=512→g.b.length=512): Pl.Full { π with aj:=π.aj.set i g,br:=d }:=by
 refine ⟨h.nodup,fun n j hj => ?_⟩
 obtain ⟨h1,f',J,h3,h4⟩:=h.kN n j hj
 refine ⟨h1,?_⟩
 by_cases I:i=j.toNat
 ·subst I
  rw [hf] at J
  have:=bB J
  subst this
  exact ⟨g,fu (List.getElem?_eq_some_iff.1 hf).1,hp.trans h3,hl h4⟩
 ·exact ⟨f',by simp only [eO I]; exact J,h3,h4⟩
theorem fD.full {π I:Pl}(J:fD π I)(h:π.Full): I.Full:=by
 refine ⟨by rw [J.aI]; exact h.nodup,fun n j hj => ?_⟩
 rw [J.aI] at hj
 obtain ⟨h1,f',h2,h3,h4⟩:=h.kN n j hj
 obtain ⟨t,ht⟩:=J.get _ _ h2
 exact ⟨h1,_,ht,h3,h4⟩
theorem qJ {ε:aE}{i:Nat}(h:ε.1.Full): (outF ε i).2.1.Full:=by
 unfold outF
 split
 ·exact h
 ·rename_i f I
  split
  ·exact h
  ·split
   ·exact h
   ·split
    ·exact h
    ·split
     ·exact h
     ·exact h.set I rfl fun J=>J
theorem wj {π:Pl}{i:Nat}{f g:Fm}(h:π.Full)(hg:π.aj[i]?=some g)(hp:g.bn=f.bn): (cW π i f).Full∧∀n j,lookL n (cW π i f).aI=some j→j.toNat≠i:=by
 have key:∀n j,lookL n (cW π i f).aI=some j→lookL n π.aI=some j∧j.toNat≠i:=by
  intro n j I
  by_cases hf:f.bn<0
  ·have hw:(cW π i f).aI=π.aI:=by simp only [cW,aq hf]
   rw [hw] at I
   refine ⟨I,fun hi => ?_⟩
   obtain ⟨h1,f',J,h3,_⟩:=h.kN n j I
   rw [hi,hg] at J
   have:=bB J
   subst this
   omega
  ·have hw:(cW π i f).aI=mE f.bn π.aI:=by simp only [cW,ah hf]
   rw [hw,DJ h.nodup] at I
   by_cases hn:f.bn=n
   ·rw [aq hn] at I; cases I
   ·rw [ah hn] at I
    refine ⟨I,fun hi => ?_⟩
    obtain ⟨h1,f',J,h3,_⟩:=h.kN n j I
    rw [hi,hg] at J
    have:=bB J
    subst this
    omega
 refine ⟨⟨?_,fun n j I => ?_⟩,fun n j I=>(key n j I).2⟩
 ·unfold cW
  simp only
  split
  ·exact h.nodup
  ·exact vZ h.nodup
 ·obtain ⟨h1,J⟩:=key n j I
  obtain ⟨h3,f',h4,h5,h6⟩:=h.kN n j h1
  exact ⟨h3,f',by simp only [cW,eO (iM J)]; exact h4,h5,h6⟩
theorem HD {π:Pl}{i:Nat}{n:Int}{b:List Nat}(h:π.Full)(hi:i<π.aj.length)(J:∀n j,lookL n π.aI=some j→j.toNat≠i)(hn:0≤n)(hb:b.length=512): (jd π i n b).Full:=by
 refine ⟨lS h.nodup,fun m j I => ?_⟩
 simp only [jd,qA] at I
 by_cases hm:n=m
 ·rw [aq hm] at I
  have:=bB I
  subst this; subst hm
  exact ⟨hn,⟨n,b,1,true,false⟩,fu hi,rfl,hb⟩
 ·rw [ah hm] at I
  obtain ⟨h3,f',h4,h5,h6⟩:=h.kN m j I
  exact ⟨h3,f',by simp only [jd,eO (iM (J m j I))]; exact h4,h5,h6⟩
theorem fE.full {ε ε':aE}{n e:Int}{b:List Nat}(hr:fE ε n e b ε')(hd:ε.2.2.Ok)(h:ε.1.Full): ε'.1.Full∧(e=0→b.length=512):=by
 cases hr with
 | arg _=>exact ⟨h,fun h=>(by cases h)⟩
 | Ay i f h1 h2 hl hf =>
  refine ⟨h.set hf rfl fun hl=>hl,fun _ => ?_⟩
  obtain ⟨_,f',h4,_,h6⟩:=h.kN n i hl
  rw [bP,hf] at h4
  have:=bB h4
  subst this
  exact h6
 | out I i f h1 h2 hl hn hf hh he=>exact ⟨qJ (ε:=(I,ε.2)) (hn.full h),fun h=>absurd h he⟩
 | read I i f h1 h2 hl hn hf hh he hr =>
  obtain ⟨c,J⟩:=nq (ε:=(I,ε.2)) hf
  exact ⟨(wj (f:=f) (qJ (ε:=(I,ε.2)) (hn.full h)) J rfl).1,fun h=>absurd h hr⟩
 | bad I i f h1 h2 hl hn hf hh he hr hc =>
  obtain ⟨c,J⟩:=nq (ε:=(I,ε.2)) hf
  exact ⟨(wj (f:=f) (qJ (ε:=(I,ε.2)) (hn.full h)) J rfl).1,fun h=>absurd h hc⟩
 | load I i f h1 h2 hl hn hf hh he hr hc =>
  obtain ⟨c,J⟩:=nq (ε:=(I,ε.2)) hf
  have hi:=(List.getElem?_eq_some_iff.1 J).1
  obtain ⟨k1,k2⟩:=wj (f:=f) (qJ (ε:=(I,ε.2)) (hn.full h)) J rfl
  have ud:=(AP (ε:=(I,ε.2)) (i:=i) hd).at n
  exact ⟨HD k1 (by simp only [cW,bJ]; exact hi) k2 h1 ud,fun _=>ud⟩
theorem AA {π:Pl}{n:Int}(h:π.Full): (unpinF π n).2.Full:=by
 unfold unpinF
 split
 ·exact h
 ·split
  ·exact h
  ·rename_i f I
   exact h.set I rfl fun J=>J
theorem fD.pins {π I:Pl}(J:fD π I)(h:∀f∈π.aj,f.pins=0): ∀f∈I.aj,f.pins=0:=fun g hg=>by
 obtain ⟨f,hf,t,rfl⟩:=J.aj g hg
 exact h f hf
theorem qK {ε:aE}{i:Nat}(h:∀f∈ε.1.aj,f.pins=0): ∀f∈(outF ε i).2.1.aj,f.pins=0:=by
 unfold outF
 split
 ·exact h
 ·rename_i f J
  have hm:=a_ J
  split
  ·exact h
  ·split
   ·exact h
   ·split
    ·exact h
    ·split
     ·exact h
     ·intro g I
      rcases kV I with I | rfl
      ·exact h g I
      ·exact h f hm
theorem wk {π:Pl}{i:Nat}{f:Fm}(h:∀f∈π.aj,f.pins=0): ∀f∈(cW π i f).aj,f.pins=0:=by
 intro g I
 rcases kV I with I | rfl
 ·exact h g I
 ·rfl
theorem fE.IK {ε ε':aE}{n e:Int}{b:List Nat}(hr:fE ε n e b ε')(he:e≠0)(hp:∀f∈ε.1.aj,f.pins=0): ∀f∈ε'.1.aj,f.pins=0:=by
 cases hr with
 | arg _=>exact hp
 | Ay i f h1 h2 hl hf=>exact absurd rfl he
 | out I i f h1 h2 hl J hf hh he=>exact qK (ε:=(I,ε.2)) (J.pins hp)
 | read I i f h1 h2 hl J hf hh he hr=>exact wk (f:=f) (qK (ε:=(I,ε.2)) (J.pins hp))
 | bad I i f h1 h2 hl J hf hh he hr hc=>exact wk (f:=f) (qK (ε:=(I,ε.2)) (J.pins hp))
 | load I i f h1 h2 hl J hf hh he hr hc=>exact absurd rfl he
theorem F6 {m:List Fm}{i:Nat}{f g:Fm}(h:∀f∈m,f.pins=0)(J:g.pins=0): ∀x∈(m.set i f).set i g,x.pins=0:=by
 intro x I
 rw [yW] at I
 rcases kV I with I | rfl
 ·exact h x I
 ·exact J
theorem tu {π:Pl}{n:Int}{i:Nat}{f:Fm}(hl:lookL n π.aI=some (i:Int))(I:π.aj[i]?=some f)(J:f.pins=1): heldI π n=some i∧unpinF π n=(0,{ π with aj:=π.aj.set i { f with pins:=0 } }):=by
 have h1:heldI π n=some i:=by
  simp only [heldI,hl,bP,I,J]
  rfl
 refine ⟨h1,?_⟩
 simp only [unpinF,h1,I,J]
 rfl
theorem OW {α:Type}{n:Int}{x:α}{l:List (Int×α)}: lookL n (dO n x l)=some x:=by rw [qA,aq rfl]
theorem fE.at {ε ε':aE}{n:Int}{b:List Nat}(hr:fE ε n 0 b ε')(hp:∀f∈ε.1.aj,f.pins=0):
  ∃(i:Nat) (f:Fm),lookL n ε'.1.aI=some (i:Int)∧ε'.1.aj[i]?=some f∧f.pins=1∧f.b=b∧∀g:Fm,g.pins=0→∀x∈ε'.1.aj.set i g,x.pins=0:=by
 generalize J:(0:Int)=e at hr
 cases hr with
 | arg _=>cases J
 | Ay i f h1 h2 hl hf =>
  have hi:=(List.getElem?_eq_some_iff.1 hf).1
  refine ⟨i,{ f with eC:=true,pins:=f.pins+1 },hl,by simp [hi],by have:=hp f (a_ hf); show f.pins+1=1; omega,rfl,fun g hg=>F6 hp hg⟩
 | out I i f h1 h2 hl hn hf hh he=>exact absurd J.symm he
 | read I i f h1 h2 hl hn hf hh he hr=>exact absurd J.symm hr
 | bad I i f h1 h2 hl hn hf hh he hr hc=>exact absurd J.symm hc
 | load I i f h1 h2 hl hn hf hh he hr hc =>
  obtain ⟨c,W6⟩:=nq (ε:=(I,ε.2)) hf
  have hi:=(List.getElem?_eq_some_iff.1 W6).1
  refine ⟨i,⟨n,_,1,true,false⟩,OW,fu (by show i<(List.set _ i _).length; rw [bJ]; exact hi),rfl,rfl,fun g hg=>F6 (wk (f:=f) (qK (ε:=(I,ε.2)) (hn.pins hp))) hg⟩
theorem fE.AU {ε ε':aE}{n:Int}{b:List Nat}(I:fE ε n 0 b ε')(J:∀f∈ε.1.aj,f.pins=0): (unpinF ε'.1 n).1=0∧∀f∈(unpinF ε'.1 n).2.aj,f.pins=0:=by
 obtain ⟨i,f,h1,h2,h3,h4,h5⟩:=I.at J
 rw [(tu h1 h2 h3).2]
 exact ⟨rfl,h5 _ rfl⟩
theorem mJ.l9 {ε ε':aE}{n e:Int}{b:List Nat}(I:mJ ε n e b ε')(h:iR ε): iR ε':=by
 refine ⟨I.ok h.ok h.pins,?_,?_⟩
 ·cases I with
  | dead _=>exact h.pins
  | iV e b ε' J I he=>exact I.IK he h.pins
  | rD b ε' J I he=>exact (I.AU h.pins).2
  | read b ε' J I he=>exact (I.AU h.pins).2
 ·cases I with
  | dead _=>exact h.full
  | iV e b ε' J I he=>exact (I.full h.ok.dk h.full).1
  | rD b ε' J I he=>exact AA (I.full h.ok.dk h.full).1
  | read b ε' J I he=>exact AA (I.full h.ok.dk h.full).1
theorem mJ.len {ε ε':aE}{n:Int}{b:List Nat}(J:mJ ε n 0 b ε')(h:iR ε): b.length=512:=by
 generalize I:(0:Int)=e at J
 cases J with
 | dead _=>cases I
 | iV e b ε' hd J he=>exact absurd I.symm he
 | rD b ε' hd J he=>exact absurd I.symm he
 | read b ε' hd J he=>exact (J.full h.ok.dk h.full).2 rfl
inductive oG (ε:aE)(now:List (Int×List Nat))(bX:Bool)(n:Int): Int→List Nat→aE→Prop where
 | arg (h:¬(0≤n∧n<ε.2.2.aM.length)):oG ε now bX n 1 [] ε
 | bX (h1:0≤n) (h2:n<ε.2.2.aM.length) (h:bX=true):oG ε now bX n 18 [] ε
 | own (b:List Nat) (h1:0≤n) (h2:n<ε.2.2.aM.length) (h:bX=false) (hl:lookL n now=some b):oG ε now bX n 0 b ε
 | read (e:Int) (b:List Nat) (ε':aE) (h1:0≤n) (h2:n<ε.2.2.aM.length) (h:bX=false) (hl:lookL n now=none) (hr:mJ ε n e b ε'):oG ε now bX n e b ε'
theorem oG.l9 {ε ε':aE}{now:List (Int×List Nat)}{bX:Bool}{n e:Int}{b:List Nat}(I:oG ε now bX n e b ε')(h:iR ε): iR ε':=by
 cases I with
 | arg _=>exact h
 | bX _ _ _=>exact h
 | own _ _ _ _ _=>exact h
 | read e b ε' J h2 h3 hl I=>exact I.l9 h
theorem OpR.invoke {C:cB}{E:List (Nat×V)}{h:H}{o:Oper}{cl:Go.Call}{x:Operand}{m:String}{t:TypeId}{u:V}{k:FuncId}{args:List V}{R:V→H→Prop}(J:o.op=.call cl)(hc:cl.callee=.invoke x m)
 (hx:lookO E x=some (.iface t u))(hm:methV C.P t m=some k)(ha:lookArgs E cl.args.toList=some args)(I:Am.Call C k (u::args) h R): OpR C E h o R:=by
 obtain ⟨v,h₁,⟨N,hN⟩,hr⟩:=I
 exact ⟨v,h₁,hr,fun env hE=>⟨N,by simp only [evOp,J,evCall,mq hE ha,hc,bN hE hx,hm]; exact hN⟩⟩
theorem Dd : methV Tryz.prog 26 "Read" = some 76 := by kernel_rfl
theorem R9 : methV Tryz.prog 24 "Read" = some 113 := by kernel_rfl
theorem Kc {h:H}{t e:TypeId}{x y:Operand}(hu:Tryz.prog.underlying t=some (.pointer e)): binV Tryz.prog h .neq t x y .b7 .b7=some (.bool false):=by simp only [binV,eqV,hu]; rfl
theorem wm {h:H}{t e:TypeId}{x y:Operand}{i o:Nat}(hu:Tryz.prog.underlying t=some (.pointer e)): binV Tryz.prog h .eql t x y (.ptr i o) .b7=some (.bool false):=by simp only [binV,eqV,hu]; rfl
theorem Wd {h:H}{t e:TypeId}{x y:Operand}{i o:Nat}(hu:Tryz.prog.underlying t=some (.pointer e)): binV Tryz.prog h .eql t x y .b7 (.ptr i o)=some (.bool false):=by simp only [binV,eqV,hu]; rfl
theorem We {h:H}{t e k:TypeId}{x y:Operand}{i j n m:Nat}{cs ds:List V}(hu:Tryz.prog.underlying t=some (.pointer e))(I:bq Tryz.prog e=some k)(J:1≤k)(hi:T.get h.tr i=some (.cells n cs false))(hj:T.get h.tr j=some (.cells m ds false))(hn:1≤n)(hm:1≤m):
  binV Tryz.prog h .eql t x y (.ptr i 0) (.ptr j 0)=some (.bool (Nat.beq i j)):=by
 simp only [binV,eqV,hu,I,aF.2 J,ag,hi,hj,aF.2 hn,aF.2 hm,gA,cN,Bool.and_true,iI]
section
variable {told:cZ} {h:H} {S:List au} {X:au} {r k q p bR a g aO:Nat} {op v x wh di:V} {l b data:List Nat} {π:Pl} {m:List Fm} {μ:Lg} {δ:Dk} {now:List (Int×List Nat)} {bX:Bool}
theorem DV (I:W told)(s:Sat h (dx a p q r .b7 data aO::S)): Call ⟨Tryz.prog,told⟩ 45 [.ptr a 0] h fun v h'=>∃g,v=.aY [.ptr g 0,.int .i64 0]∧Sat h' (fh g a [] false::dx a p q r (.ptr g 0) data aO::S):=by
 obtain ⟨dv,s⟩:=b5.1 s
 refine Call.of_wp (I.free _ rfl) Tryz.func45 rfl rfl (zK 10 rfl (zf rfl (ow _ _) (zl rfl (s.ld (k:=0) rfl CO rfl) (zh rfl (af rfl rfl (Kc jZ)) (rfl) (zk 7 rfl ?_)))))
 refine az.CN s rfl rfl rfl rfl (fun J h s => ?_)
 refine zo rfl (dA rfl (by rw [VH]; rfl)) ?_
 refine az.cz s rfl rfl rfl (fc rfl rfl) (fun p13 h s => ?_)
 refine zn rfl (zf rfl (ow _ _) ?_)
 refine zS rfl (by exact s.gO (k:=2) rfl T4 rfl (by decide) rfl rfl) (fun h s => ?_)
 refine zk 5 rfl (zf rfl (ow _ _) (zl rfl (s.ld (k:=2) rfl CO rfl) (zk 3 rfl (WP.ret ⟨aa,_,rfl,?_⟩))))
 have s1:=sY (f:=fun v (b:List Nat)=>.c5 v b) (s.ae [1])
 have s:=dV.2 ⟨_,s1.ae [1]⟩
 exact ⟨_,rfl,(b5.2 ⟨dv,s.ae [1,1,0]⟩).ae [1]⟩
theorem F7 (hT:W told){n:Int}(s:Sat h (fh g a now bX::dx a p q r op data aO::cK r p q π::bx q p μ::aL p δ::S))(fF:iR (π,μ,δ))(hw:δ.waiting.length≤268435456)(wo:∀e∈now,e.2.length=512):
  Call ⟨Tryz.prog,told⟩ 76 [.ptr g 0,.int .i64 n] h fun v h'=>∃(e:Int) (b:List Nat) (ε:aE),oG (π,μ,δ) now bX n e b ε ∧
   ((e≠0∧v=.aY [.bu,.int .i64 e]∧Sat h' (fh g a now bX::dx a p q r op data aO::cK r p q ε.1::bx q p ε.2.1::aL p ε.2.2::S)) ∨
    (e=0∧∃u,v=.aY [u,.int .i64 0]∧Sat h' (aZ u b::fh g a now bX::dx a p q r op data aO::cK r p q ε.1::bx q p ε.2.1::aL p ε.2.2::S))):=by
 have s0:=s
 obtain ⟨nv,s⟩:=dV.1 s
 obtain ⟨dv,s⟩:=b5.1 (s.ae [2])
 dsimp only [bringA,getA,bf] at s
 refine Call.of_wp (hT.free _ rfl) Tryz.func76 rfl rfl (zK 6 rfl (WP.block (zK 3 rfl ?_)))
 refine zd rfl (af rfl rfl aK) ?_ ?_
 ·intro J
  have J:n<0:=by simpa using J
  exact zk 20 rfl (WP.ret ⟨aa,_,rfl,1,[],_,.arg (by simp only; omega),.inl ⟨by decide,rfl,s0⟩⟩)
 ·intro J
  have J:0≤n:=by simp at J; omega
  refine zk 4 rfl (zf rfl (ou _ _) (zl rfl (s.ld (k:=2) rfl xF rfl) (zn rfl (zf rfl (r9 _ _) (zl rfl (s.ld (k:=0) rfl jU rfl) (zc rfl (AN hT (s.ae [6])) ?_))))))
  rintro v h ⟨rfl,rfl⟩
  refine zd rfl (af rfl rfl jq) ?_ ?_
  ·intro I
   have I:(δ.aM.length:Int)≤n:=by simpa using I
   exact zk 9 rfl (WP.ret ⟨aa,_,rfl,1,[],_,.arg (by simp only; omega),.inl ⟨by decide,rfl,s0⟩⟩)
  ·intro I
   have I:n<(δ.aM.length:Int):=by simp at I; omega
   refine zk 8 rfl (zf rfl (zC _ _) ?_)
   cases bX with
   | true =>
    exact zt rfl (aR rfl (s.ld (k:=2) rfl kB rfl)) (rfl) (zk 8 rfl (WP.ret ⟨aa,_,rfl,18,[],_,.bX J I rfl,.inl ⟨by decide,rfl,s0⟩⟩))
   | false =>
    refine zh rfl (aR rfl (by exact s.ld (k:=2) rfl kB rfl)) (rfl) ?_
    refine za rfl (zv (zj rfl (WP.skip (zw (zg rfl (zk 2 rfl (zf rfl (pU _ _) (zl rfl (by exact s.ld (k:=2) rfl mI rfl) ?_))))))))
    refine zm rfl ?_
    rcases oB (n:=n) (fun _ _=>aX.c5 _ _) (s.ae [3]) nK bI qR with ⟨g1,g2,_⟩ | ⟨u,b,g1,g2,_,s2⟩
    ·refine az.op rfl rfl rfl (iD rfl rfl g2) ?_
     refine zk 5 rfl (zv (zg rfl (zm rfl (zv (zj rfl (WP.skip (zg rfl (zk 2 rfl (zf rfl (ou _ _) (zl rfl (by exact s.ld (k:=2) rfl xF rfl) ?_))))))))))
     refine zm rfl (zc rfl (AT (n:=n) hT (s0.ae [1,1,1,1]) fF.ok fF.pins hw) ?_)
     rintro v h ⟨e,b,ε,hr,(⟨he,rfl,s⟩ | ⟨rfl,u,rfl,s⟩)⟩
     ·dsimp only [bringA,getA,bf] at s
      exact zk 5 rfl (WP.ret ⟨aa,_,rfl,e,b,ε,.read e b ε J I rfl g1 hr,.inl ⟨he,rfl,s.ae [4]⟩⟩)
     ·dsimp only [bringA,getA,bf] at s
      exact zk 5 rfl (WP.ret ⟨aa,_,rfl,0,b,ε,.read 0 b ε J I rfl g1 hr,.inr ⟨rfl,u,rfl,s.ae [0,4]⟩⟩)
    ·dsimp only [bringA,getA,bf] at s2
     refine zo rfl (iD rfl rfl g2) (zk 14 rfl ?_)
     have hb:=wo _ (kE g1)
     refine zc rfl (oW hT s2 (fe _ _) (by simp only at hb; omega)) ?_
     intro v h s
     refine zk 3 rfl (WP.ret ⟨aa,_,rfl,?_⟩)
     have s:=b5.2 ⟨dv,s.ae [3,3,0,0,0,0,0,0,0]⟩
     have s:=dV.2 ⟨nv,s.ae [4,3]⟩
     exact ⟨0,b,_,.own b J I rfl g1,.inr ⟨rfl,v,rfl,((s.ae [2,0,0,1,1,1]).del 6)⟩⟩
end
end Go.Proofs.YtefepnnfphdkpaaGreat.Am
