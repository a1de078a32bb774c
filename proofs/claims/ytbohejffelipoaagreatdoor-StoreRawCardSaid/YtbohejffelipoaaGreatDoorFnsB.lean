/-
  Several texts in one: what functions that the law reaches compute. No conditions but those named in each line.
-/
import Derived.Test.YtbohejffelipoaaGreatDoorFnsA
import Derived.Test.YtbohejffelipoaaGreatDoorAbsE
set_option linter.unusedVariables false
set_option linter.unusedSimpArgs false
set_option maxHeartbeats 4000000
namespace Go.Proofs.YtbohejffelipoaaGreatDoor
open Go Go.Abs Go.Abs.F
noncomputable section
def f116:fh:=λkf N a0 s=>
 jn (bd (ah .eql a0 (J 0)) λc=>
 br c (jR (J 1) s)
 (bd (ah .eql a0 (J 1)) λd=>
 br d (jR (J 5) s)
 (bd (ah .eql a0 (J 2)) λe=>
 br e (jR (J 60) s)
 (bd (ah .eql a0 (J 3)) λa=>
 br a (jR (J 1440) s)
 (nm [] s)))))
 (λv1 b=>some ((J 0),b))
 jN
 jT
theorem Jh:fC 116 f116:=λd a0 s=>(ak rfl Tryz.func116 (by kernel_rfl)).trans (by generalize R d=c;kernel_rfl)
def f114:iA:=λkf N a0 j s=>
 bd (ah .lss a0 (J 0)) λi=>
 bd (gF i (some a0)) λm=>
 bd (gF i (ah .gtr m (J 1099511627776))) λn=>
 bd (pT i n) λa=>
 bd (gF a (some j)) λb=>
 ax (gS (gd a false) s (kf 116 [b] s)) λc k=>
 bd (gF a (ah .eql c (J 0))) λd=>
 bd (pT a d) λe=>
 br e (some ((J (-1)),k))
 (ax (kf 116 [j] k) λf l=>
 bd (ah .rem a0 f) λg=>
 bd (ah .sub a0 g) λh=>
 some (h,l))
theorem Jf:iB 114 f114:=λd a0 a s=>(ak rfl Tryz.func114 (by kernel_rfl)).trans (by generalize R d=c;kernel_rfl)
def f151:fh:=λkf N a0 s=>
 ax (aE s (b6 a0)) λb a=>
 bd (ab 1 b) λt3=>
 bd (aa t3 a.get) λSw=>
 bd (ah .lss Sw (J 1)) λl=>
 bd (gF l (ab 1 b)) λt7=>
 bd (gF l (aa t7 a.get)) λt8=>
 bd (gF l (ah .gtr t8 (J 1099511627776))) λt9=>
 bd (pT l t9) λj=>
 bd (gF j (ab 0 b)) λm=>
 bd (gF j (aa m a.get)) λn=>
 bd (gF j (ah .lss n (J 0))) λo=>
 bd (pT j o) λk=>
 bd (gF k (ab 0 b)) λp=>
 bd (gF k (aa p a.get)) λq=>
 bd (gF k (ah .gtr q (J 1099511627776))) λr=>
 bd (pT k r) λd=>
 bd (gF d (ab 3 b)) λt=>
 bd (gF d (aa t a.get)) λu=>
 bd (gF d (ab 5 b)) λv=>
 bd (gF d (aa v a.get)) λw=>
 bd (gF d (ah .gtr u w)) λx=>
 bd (pT d x) λe=>
 bd (gF e (ab 3 b)) λy=>
 bd (gF e (aa y a.get)) λz=>
 bd (gF e (ab 6 b)) λA=>
 bd (gF e (aa A a.get)) λC=>
 bd (gF e (ah .gtr z C)) λD=>
 bd (pT e D) λf=>
 bd (gF f (ab 3 b)) λE=>
 bd (gF f (aa E a.get)) λF=>
 bd (gF f (ab 4 b)) λG=>
 bd (gF f (aa G a.get)) λH=>
 bd (gF f (ah .gtr F H)) λI=>
 bd (pT f I) λg=>
 bd (gF g (ab 4 b)) λK=>
 bd (gF g (aa K a.get)) λL=>
 bd (gF g (ab 5 b)) λM=>
 bd (gF g (aa M a.get)) λO=>
 bd (gF g (ah .lss L O)) λP=>
 bd (pT g P) λh=>
 bd (gF h (ab 4 b)) λQ=>
 bd (gF h (aa Q a.get)) λR=>
 bd (gF h (ab 6 b)) λS=>
 bd (gF h (aa S a.get)) λT=>
 bd (gF h (ah .lss R T)) λU=>
 bd (pT h U) λV=>
 br V (some ((B false),a))
 (bd (ab 1 b) λW=>
 bd (aa W a.get) λX=>
 bd (ah .gtr X (J 1)) λc=>
 bd (gF c (ab 2 b)) λY=>
 bd (gF c (aa Y a.get)) λZ=>
 bd (gF c (ab 3 b)) λSj=>
 bd (gF c (aa Sj a.get)) λSk=>
 bd (gF c (ah .eql Z Sk)) λSl=>
 bd (gF c (some Sl)) λi=>
 bd (gU i (ab 3 b)) λSm=>
 bd (gU i (aa Sm a.get)) λSn=>
 bd (gU i (ab 4 b)) λSp=>
 bd (gU i (aa Sp a.get)) λSr=>
 bd (gU i (ah .eql Sn Sr)) λSs=>
 bd (gF c (pF i Ss)) λSu=>
 bd (pT c Su) λSv=>
 some (Sv,a))
theorem Jz:fC 151 f151:=λd a0 s=>(ak rfl Tryz.func151 (by kernel_rfl)).trans (by generalize R d=c;kernel_rfl)
def lz:gI:=λkf N v s=>
 bd (aG (vq v 0)) λg=>
 bd (ah .lss (vq v 2) g) λh=>
 br h (jn (bd (ar 7 (vq v 0) (vq v 2)) λj=>
 bd (ay 7 j s.get) λk=>
 ax (kf 151 [k] s) λl f=>
 bd (gH .not l) λa=>
 bd (gF a (some (vq v 0))) λm=>
 bd (gF a (some (vq v 2))) λn=>
 bd (gF a (ar 7 m n)) λo=>
 bd (gF a (ab 0 o)) λp=>
 bd (gF a (aa p f.get)) λq=>
 bd (gF a (some (vq v 1))) λr=>
 ax (gS (gd a false) f (kf 114 [q,r] f)) λt e=>
 bd (gF a (some (vq v 0))) λu=>
 bd (gF a (some (vq v 2))) λw=>
 bd (gF a (ar 7 u w)) λx=>
 bd (gF a (ab 0 x)) λd=>
 bd (gF a (aa d e.get)) λy=>
 bd (gF a (ah .neq t y)) λz=>
 bd (pT a z) λc=>
 bd (gF c (some (vq v 2))) λA=>
 bd (gF c (ah .gtr A (J 0))) λC=>
 bd (gF c (some C)) λb=>
 bd (gU b (some (vq v 0))) λD=>
 bd (gU b (some (vq v 2))) λE=>
 bd (gU b (ar 7 D E)) λF=>
 bd (gU b (ab 0 F)) λG=>
 bd (gU b (aa G e.get)) λH=>
 bd (gU b (some (vq v 0))) λI=>
 bd (gU b (some (vq v 2))) λK=>
 bd (gU b (ah .sub K (J 1))) λL=>
 bd (gU b (ar 7 I L)) λM=>
 bd (gU b (ab 0 M)) λO=>
 bd (gU b (aa O e.get)) λP=>
 bd (gU b (ah .leq H P)) λQ=>
 bd (gF c (pF b Q)) λR=>
 bd (pT c R) λS=>
 ck ((wq (gd a false) (decide (aa d f.get=aa d e.get))&&true)&&true) (br S (jR (B false) e)
 (nm [(vq v 0),(vq v 1),(vq v 2)] e)))
 (λv3 T=>bd (ah .add (vq v3 2) (J 1)) λi=>
 nm [(vq v3 0),(vq v3 1),i] T)
 jE
 jR)
 (jE 0 [] s)
def f113:iA:=λkf N a0 a s=>
 bd (ah .lss a (J 1)) λe=>
 bd (gF e (some a)) λf=>
 bd (gF e (ah .gtr f (J 3))) λc=>
 bd (pT e c) λd=>
 br d (some ((B false),s))
 (jn (jn (loops (lz kf N) N [a0,a,(J 0)] s)
 (jM [])
 jZ
 jR)
 (λg b=>some ((B true),b))
 jN
 jT)
theorem Je:iB 113 f113:=λd a0 a s=>(ak rfl Tryz.func113 (by kernel_rfl)).trans (by generalize R d=c;kernel_rfl)
def f192:fh:=λkf N a0 s=>
 bd (ah .rem a0 (J6 2)) λe=>
 bd (ah .eql e (J6 0)) λf=>
 br f (bd (ah .quo a0 (J6 2)) λg=>
 bd (az .i64 g) λh=>
 some (h,s))
 (bd (ah .quo a0 (J6 2)) λa=>
 bd (az .i64 a) λb=>
 bd (gH .neg b) λc=>
 bd (ah .sub c (J 1)) λd=>
 some (d,s))
theorem JV:fC 192 f192:=λd a0 s=>(ak rfl Tryz.func192 (by kernel_rfl)).trans (by generalize R d=c;kernel_rfl)
def nQ:gI:=λkf N v s=>
 bd (aG (vq v 0)) λL=>
 bd (ah .lss (vq v 3) L) λM=>
 br M (jn (bd (ar 7 (vq v 0) (vq v 3)) λP=>
 bd (ay 7 P s.get) λQ=>
 ax (aE s (a6 [iz,iz,iz,iz,iz,iz,iz])) λF s4=>
 ax (aj 7 F Q s4) λ_ K=>
 bd (ab 0 F) λq=>
 bd (aa q K.get) λR=>
 ax (kf 116 [(vq v 1)] K) λS s6=>
 bd (ah .quo R S) λD=>
 ck ((decide (aa q s6.get=aa q K.get)&&true)&&true) (bd (ah .gtr (vq v 3) (J 0)) λT=>
 jn (br T (bd (ah .sub (vq v 3) (J 1)) λU=>
 bd (ar 7 (vq v 0) U) λV=>
 bd (ab 0 V) λr=>
 bd (aa r s6.get) λW=>
 ax (kf 116 [(vq v 1)] s6) λX s7=>
 bd (ah .quo W X) λY=>
 bd (ah .sub D Y) λZ=>
 bd (ah .sub Z (J 1)) λSj=>
 ck ((decide (aa r s7.get=aa r s6.get)&&true)&&true) (nm [(vq v 0),(vq v 1),(vq v 2),(vq v 3),F,Sj] s7))
 (nm [(vq v 0),(vq v 1),(vq v 2),(vq v 3),F,D] s6))
 (λd w=>bd (az .u64 (vq d 5)) λSk=>
 ax (kf 71 [Sk] w) λSl m=>
 bd (ah .add (vq d 2) Sl) λSm=>
 bd (ab 1 (vq d 4)) λt=>
 bd (aa t m.get) λSn=>
 bd (ah .sub Sn (J 1)) λSp=>
 bd (az .u64 Sp) λSr=>
 ax (kf 71 [Sr] m) λSs n=>
 bd (ah .add Sm Ss) λSu=>
 bd (ab 3 (vq d 4)) λl=>
 bd (aa l n.get) λSv=>
 ax (kf 115 [Sv] n) λSw G=>
 ax (kf 71 [Sw] G) λSx c=>
 bd (ah .add Su Sx) λE=>
 ck ((decide (aa t w.get=aa t m.get)&&true)&&((decide (aa l w.get=aa l n.get)&&(decide (aa l m.get=aa l n.get)&&true))&&true)) (bd (ab 1 (vq d 4)) λSy=>
 bd (aa Sy c.get) λSz=>
 bd (ah .gtr Sz (J 1)) λSA=>
 jn (br SA (bd (ab 4 (vq d 4)) λSB=>
 bd (aa SB c.get) λSC=>
 bd (az .u64 SC) λSD=>
 bd (ab 3 (vq d 4)) λSE=>
 bd (aa SE c.get) λSF=>
 bd (az .u64 SF) λSG=>
 bd (ah .sub SD SG) λSH=>
 ax (kf 71 [SH] c) λSI g=>
 bd (ah .add E SI) λSJ=>
 bd (ab 2 (vq d 4)) λu=>
 bd (aa u g.get) λSK=>
 ax (kf 115 [SK] g) λSL k=>
 ax (kf 71 [SL] k) λSM a=>
 bd (ah .add SJ SM) λSN=>
 bd (ab 5 (vq d 4)) λh=>
 bd (aa h a.get) λSO=>
 bd (az .u64 SO) λSP=>
 bd (ab 3 (vq d 4)) λi=>
 bd (aa i a.get) λSQ=>
 bd (az .u64 SQ) λSR=>
 bd (ah .sub SP SR) λSS=>
 ax (kf 71 [SS] a) λSU b=>
 bd (ah .add SN SU) λSV=>
 bd (ab 6 (vq d 4)) λe=>
 bd (aa e b.get) λSW=>
 bd (az .u64 SW) λSX=>
 bd (ab 3 (vq d 4)) λf=>
 bd (aa f b.get) λSY=>
 bd (az .u64 SY) λz=>
 bd (ah .sub SX z) λA=>
 ax (kf 71 [A] b) λB H=>
 bd (ah .add SV B) λC=>
 ck ((decide (aa u c.get=aa u g.get)&&true)&&((decide (aa h c.get=aa h a.get)&&(decide (aa h g.get=aa h a.get)&&(decide (aa h k.get=aa h a.get)&&true)))&&((decide (aa i c.get=aa i a.get)&&(decide (aa i g.get=aa i a.get)&&(decide (aa i k.get=aa i a.get)&&true)))&&((decide (aa e c.get=aa e b.get)&&(decide (aa e g.get=aa e b.get)&&(decide (aa e k.get=aa e b.get)&&(decide (aa e a.get=aa e b.get)&&true))))&&((decide (aa f c.get=aa f b.get)&&(decide (aa f g.get=aa f b.get)&&(decide (aa f k.get=aa f b.get)&&(decide (aa f a.get=aa f b.get)&&true))))&&true))))) (nm [(vq d 0),(vq d 1),C,(vq d 3)] H))
 (nm [(vq d 0),(vq d 1),E,(vq d 3)] c))
 (λj o=>nm [(vq j 0),(vq j 1),(vq j 2),(vq j 3)] o)
 (λy j o=>if y=1 then some (.normal j,o)else some (.exit y j,o))
 jR))
 (λx d w=>if x=1 then some (.normal d,w)else some (.exit x d,w))
 jR))
 (λp I=>bd (ah .add (vq p 3) (J 1)) λO=>
 nm [(vq p 0),(vq p 1),(vq p 2),O] I)
 jE
 jR)
 (jE 0 [(vq v 2)] s)
def f73:iA:=λkf N a0 m s=>
 ax (kf 113 [a0,m] s) λd n=>
 bd (gH .not d) λa=>
 bd (gF a (some a0)) λe=>
 bd (gF a (aG e)) λf=>
 bd (gF a (ah .gtr f (J 64))) λg=>
 bd (pT a g) λh=>
 br h (bd (aD [(Z (.str [])),(J 1)]) λo=>
 some (o,n))
 (bd (aG a0) λi=>
 bd (az .u64 i) λj=>
 ax (kf 71 [j] n) λk p=>
 jn (jn (loops (nQ kf N) N [a0,m,k,(J 0)] p)
 (jM [.any])
 jZ
 jR)
 (λl c=>bd (aD [(vq l 0),(J 0)]) λb=>
 some (b,c))
 jN
 jT)
theorem NF:iB 73 f73:=λd a0 a s=>(ak rfl Tryz.func73 (by kernel_rfl)).trans (by generalize R d=c;kernel_rfl)
def iJ:gI:=λkf N v s=>
 bd (az .i64 (vq v 1)) λn=>
 bd (ah .lss (vq v 4) n) λa=>
 bd (gU a (some (vq v 0))) λo=>
 bd (gU a (ba o)) λp=>
 bd (gU a (ab 2 p)) λq=>
 bd (gU a (aa q s.get)) λr=>
 bd (gU a (gH .not r)) λt=>
 bd (pF a t) λu=>
 br u (jn (bd (ah .eql (vq v 4) (J 0)) λx=>
 br x (ax (kf 142 [(vq v 0)] s) λy s7=>
 bd (az .i64 y) λz=>
 ax (kf 142 [(vq v 0)] s7) λA s8=>
 ax (kf 192 [A] s8) λB s9=>
 bd (aO (aA [iz,iz] [(0,1,z),(1,1,B)])) λC=>
 ax (aE s9 (aN 1 (aA [iz,iz] [(0,2,C)]))) λD h=>
 ax (aF 2 16 (vq v 2) D h) λE i=>
 nm [(vq v 0),(vq v 1),E,(vq v 3),(vq v 4)] i)
 (bd (az .u64 (vq v 3)) λF=>
 ax (kf 142 [(vq v 0)] s) λG j=>
 ax (kf 192 [G] j) λH d=>
 bd (az .u64 H) λI=>
 bd (ah .add F I) λK=>
 bd (az .i64 K) λg=>
 bd (ah .sub (vq v 4) (J 1)) λL=>
 bd (ar 2 (vq v 2) L) λM=>
 bd (ab 1 M) λb=>
 bd (aa b d.get) λO=>
 bd (az .u64 O) λP=>
 ax (kf 142 [(vq v 0)] d) λQ f=>
 ax (kf 192 [Q] f) λR e=>
 bd (az .u64 R) λS=>
 bd (ah .add P S) λT=>
 bd (az .i64 T) λU=>
 ck ((decide (aa b f.get=aa b d.get)&&(decide (aa b e.get=aa b d.get)&&true))&&true) (bd (ah .sub (vq v 4) (J 1)) λV=>
 bd (ar 2 (vq v 2) V) λW=>
 bd (ab 0 W) λX=>
 bd (aa X e.get) λY=>
 bd (az .u64 Y) λZ=>
 bd (az .u64 g) λSj=>
 bd (ah .add Z Sj) λSk=>
 bd (az .i64 Sk) λSl=>
 bd (aO (aA [iz,iz] [(0,1,Sl),(1,1,U)])) λSm=>
 ax (aE e (aN 1 (aA [iz,iz] [(0,2,Sm)]))) λSn k=>
 ax (aF 2 16 (vq v 2) Sn k) λSp l=>
 nm [(vq v 0),(vq v 1),Sp,g,(vq v 4)] l)))
 (λc m=>bd (ah .add (vq c 4) (J 1)) λw=>
 nm [(vq c 0),(vq c 1),(vq c 2),(vq c 3),w] m)
 jE
 jR)
 (jE 0 [(vq v 2)] s)
def f147:fh:=λkf N a0 s=>
 ax (kf 142 [a0] s) λa g=>
 bd (ah .gtr a (J6 64)) λc=>
 jn (br c (bd (ba a0) λd=>
 bd (ab 2 d) λe=>
 ax (aj 1 e (B true) g) λ_ h=>
 nm [a0,a] h)
 (nm [a0,a] g))
 (λv3 i=>jn (jn (loops (iJ kf N) N [(vq v3 0),(vq v3 1),(Z .av),(J 0),(J 0)] i)
 (jM [.any])
 jZ
 jR)
 (λf b=>some ((vq f 0),b))
 jN
 jT)
 jN
 jT
theorem Bb:fC 147 f147:=λd a0 s=>(ak rfl Tryz.func147 (by kernel_rfl)).trans (by generalize R d=c;kernel_rfl)
def iK:gI:=λkf N v s=>
 bd (az .i64 (vq v 1)) λSn=>
 bd (ah .lss (vq v 4) Sn) λf=>
 bd (gU f (some (vq v 0))) λSp=>
 bd (gU f (ba Sp)) λSr=>
 bd (gU f (ab 2 Sr)) λSs=>
 bd (gU f (aa Ss s.get)) λSu=>
 bd (gU f (gH .not Su)) λSv=>
 bd (pF f Sv) λSw=>
 br Sw (jn (ax (kf 142 [(vq v 0)] s) λo s8=>
 bd (ah .gtr o (J6 1099511627776)) λSy=>
 jn (br Sy (bd (ba (vq v 0)) λSz=>
 bd (ab 2 Sz) λSA=>
 ax (aj 1 SA (B true) s8) λ_ s9=>
 nm [(vq v 0),(vq v 1),(vq v 2),(vq v 3),(vq v 4),o] s9)
 (nm [(vq v 0),(vq v 1),(vq v 2),(vq v 3),(vq v 4),o] s8))
 (λc e=>bd (ah .gtr (vq c 4) (J 0)) λSB=>
 jn (br SB (bd (ah .add (vq c 5) (J6 1)) λSC=>
 bd (ah .sub (vq c 4) (J 1)) λSD=>
 bd (ar 7 (vq c 2) SD) λSE=>
 bd (ab 0 SE) λSF=>
 bd (aa SF e.get) λSG=>
 bd (az .u64 SG) λSH=>
 bd (ah .quo SH (vq c 3)) λSI=>
 bd (ah .add SC SI) λSJ=>
 nm [(vq c 0),(vq c 1),(vq c 2),(vq c 3),(vq c 4),SJ] e)
 (nm [(vq c 0),(vq c 1),(vq c 2),(vq c 3),(vq c 4),(vq c 5)] e))
 (λa l=>bd (ah .mul (vq a 5) (vq a 3)) λSK=>
 bd (az .i64 SK) λSL=>
 ax (kf 142 [(vq a 0)] l) λSM P=>
 bd (ah .and SM (J6 4611686018427387903)) λSN=>
 bd (az .i64 SN) λSO=>
 bd (ah .add SO (J 1)) λSP=>
 bd (aO (aA [iz,iz,iz,iz,iz,iz,iz] [(0,1,SL),(1,1,SP)])) λSQ=>
 ax (aE P (a6 [iz,iz,iz,iz,iz,iz,iz])) λb Q=>
 ax (aj 7 b SQ Q) λ_ R=>
 ax (kf 142 [(vq a 0)] R) λSR S=>
 ax (kf 192 [SR] S) λSS T=>
 bd (ab 3 b) λSU=>
 ax (aj 1 SU SS T) λ_ g=>
 bd (ab 3 b) λSV=>
 bd (aa SV g.get) λSW=>
 bd (ab 3 b) λSX=>
 bd (aa SX g.get) λSY=>
 bd (ab 3 b) λSZ=>
 bd (aa SZ g.get) λS0=>
 bd (ab 3 b) λS1=>
 bd (aa S1 g.get) λS2=>
 bd (ab 2 b) λS3=>
 ax (aj 1 S3 SW g) λ_ U=>
 bd (ab 4 b) λS4=>
 ax (aj 1 S4 SY U) λ_ V=>
 bd (ab 5 b) λS5=>
 ax (aj 1 S5 S0 V) λ_ W=>
 bd (ab 6 b) λS6=>
 ax (aj 1 S6 S2 W) λ_ h=>
 bd (ab 1 b) λS7=>
 bd (aa S7 h.get) λS8=>
 bd (ah .gtr S8 (J 1)) λS9=>
 jn (br S9 (bd (ab 3 b) λp=>
 bd (aa p h.get) λTa=>
 bd (az .u64 Ta) λTb=>
 ax (kf 142 [(vq a 0)] h) λTc w=>
 bd (ah .add Tb Tc) λTd=>
 bd (az .i64 Td) λTe=>
 bd (ab 4 b) λTf=>
 ax (aj 1 Tf Te w) λ_ X=>
 ck ((decide (aa p w.get=aa p h.get)&&true)&&true) (ax (kf 142 [(vq a 0)] X) λTg Y=>
 ax (kf 192 [Tg] Y) λTh Z=>
 bd (ab 2 b) λTi=>
 ax (aj 1 Ti Th Z) λ_ m=>
 bd (ab 3 b) λq=>
 bd (aa q m.get) λTj=>
 bd (az .u64 Tj) λTk=>
 ax (kf 142 [(vq a 0)] m) λz x=>
 bd (ah .add Tk z) λA=>
 bd (az .i64 A) λC=>
 bd (ab 5 b) λD=>
 ax (aj 1 D C x) λ_ n=>
 ck ((decide (aa q x.get=aa q m.get)&&true)&&true) (bd (ab 3 b) λj=>
 bd (aa j n.get) λE=>
 bd (az .u64 E) λF=>
 ax (kf 142 [(vq a 0)] n) λG y=>
 bd (ah .add F G) λH=>
 bd (az .i64 H) λI=>
 bd (ab 6 b) λK=>
 ax (aj 1 K I y) λ_ Sj=>
 ck ((decide (aa j y.get=aa j n.get)&&true)&&true) (nm [(vq a 0),(vq a 1),(vq a 2),(vq a 3),(vq a 4),b] Sj))))
 (nm [(vq a 0),(vq a 1),(vq a 2),(vq a 3),(vq a 4),b] h))
 (λd i=>bd (ay 7 (vq d 5) i.get) λL=>
 ax (aE i (aN 1 (aA [iz,iz,iz,iz,iz,iz,iz] [(0,7,L)]))) λM Sk=>
 ax (aF 7 56 (vq d 2) M Sk) λO Sl=>
 nm [(vq d 0),(vq d 1),O,(vq d 3),(vq d 4)] Sl)
 (λu d i=>if u=1 then some (.normal d,i)else some (.exit u d,i))
 jR)
 (λt a l=>if t=1 then some (.normal a,l)else some (.exit t a,l))
 jR)
 (λr c e=>if r=1 then some (.normal c,e)else some (.exit r c,e))
 jR)
 (λk Sm=>bd (ah .add (vq k 4) (J 1)) λSx=>
 nm [(vq k 0),(vq k 1),(vq k 2),(vq k 3),Sx] Sm)
 jE
 jR)
 (jE 0 [(vq v 2)] s)
def f148:iA:=λkf N a0 i s=>
 ax (kf 142 [a0] s) λa j=>
 bd (ah .gtr a (J6 64)) λc=>
 jn (br c (bd (ba a0) λd=>
 bd (ab 2 d) λe=>
 ax (aj 1 e (B true) j) λ_ k=>
 nm [a0,i,a] k)
 (nm [a0,i,a] j))
 (λv3 l=>ax (kf 116 [(vq v3 1)] l) λf m=>
 bd (az .u64 f) λg=>
 jn (jn (loops (iK kf N) N [(vq v3 0),(vq v3 2),(Z .av),g,(J 0)] m)
 (jM [.any])
 jZ
 jR)
 (λh b=>some ((vq h 0),b))
 jN
 jT)
 jN
 jT
theorem Bc:iB 148 f148:=λd a0 a s=>(ak rfl Tryz.func148 (by kernel_rfl)).trans (by generalize R d=c;kernel_rfl)
def f109:fh:=λkf N a0 s=>
 ax (aE s (a6 [iz,iz,iz,iz,.av,.av])) λm s1=>
 bd (aV a0) λI=>
 bd (ah .lss I (J 6)) λd=>
 bd (gF d (some a0)) λK=>
 bd (gF d (aV K)) λL=>
 bd (gF d (ah .gtr L (J 4000))) λM=>
 bd (pT d M) λe=>
 bd (gF e (some a0)) λO=>
 bd (gF e (bn O none (some (J 2)) none)) λP=>
 bd (gF e (ah .neq P (Z (.str [84,75])))) λQ=>
 bd (pT e Q) λR=>
 br R (bd (aO (aA [iz,iz,iz,iz,.av,.av] [])) λS=>
 ax (aj 6 m S s1) λ_ s2=>
 bd (rC (ay 6 m s2.get) (rT (J 2) (some []))) λl3=>bd (aD l3) λr4=>
 some (r4,s2))
 (bd (aV a0) λT=>
 bd (ah .sub T (J 4)) λU=>
 bd (bn a0 none (some U) none) λV=>
 bd (aO (aA [.str [],iz,.bool false] [(0,1,V),(1,1,(J 2))])) λW=>
 ax (aE s1 (b6 W)) λa s5=>
 ax (kf 142 [a] s5) λt s6=>
 ax (kf 142 [a] s6) λf s7=>
 ax (kf 142 [a] s7) λh s8=>
 ax (kf 142 [a] s8) λu s9=>
 bd (ah .gtr t (J6 1073741824)) λi=>
 bd (gF i (some f)) λX=>
 bd (gF i (ah .gtr X (J6 3))) λY=>
 bd (pT i Y) λj=>
 bd (gF j (some h)) λSj=>
 bd (gF j (ah .gtr Sj (J6 1099511627776))) λSk=>
 bd (pT j Sk) λk=>
 bd (gF k (some u)) λSl=>
 bd (gF k (ah .gtr Sl (J6 1099511627776))) λSm=>
 bd (pT k Sm) λSn=>
 br Sn (bd (aO (aA [iz,iz,iz,iz,.av,.av] [])) λSp=>
 ax (aj 6 m Sp s9) λ_ n=>
 bd (rC (ay 6 m n.get) (rT (J 2) (some []))) λx=>bd (aD x) λA=>
 some (A,n))
 (bd (az .i64 t) λSr=>
 bd (az .i64 f) λSs=>
 bd (az .i64 h) λSu=>
 bd (ah .add h u) λSv=>
 bd (az .i64 Sv) λSw=>
 bd (aO (aA [iz,iz,iz,iz,.av,.av] [(0,1,Sr),(1,1,Ss),(2,1,Su),(3,1,Sw)])) λSx=>
 ax (aE s9 (a6 [iz,iz,iz,iz,.av,.av])) λw D=>
 ax (aj 6 w Sx D) λ_ o=>
 bd (ah .eql f (J6 0)) λSy=>
 jn (br Sy (ax (kf 147 [a] o) λSz E=>
 bd (ab 4 w) λSA=>
 ax (aj 1 SA Sz E) λ_ F=>
 nm [a0,m,a,w] F)
 (bd (az .i64 f) λSB=>
 ax (kf 148 [a,SB] o) λSC G=>
 bd (ab 5 w) λSD=>
 ax (aj 1 SD SC G) λ_ H=>
 nm [a0,m,a,w] H))
 (λb p=>bd (ay 6 (vq b 3) p.get) λSE=>
 ax (kf 20 [SE] p) λv c=>
 bd (ai v 0) λSF=>
 bd (ai v 1) λSG=>
 bd (ba (vq b 2)) λSH=>
 bd (ab 2 SH) λSI=>
 bd (aa SI c.get) λl=>
 bd (gF l (some SG)) λSJ=>
 bd (gF l (ah .neq SJ (J 0))) λSK=>
 bd (pT l SK) λg=>
 bd (gF g (some SF)) λSL=>
 bd (gF g (some (vq b 0))) λSM=>
 bd (gF g (ah .neq SL SM)) λSN=>
 bd (pT g SN) λSO=>
 br SO (bd (aO (aA [iz,iz,iz,iz,.av,.av] [])) λSP=>
 ax (aj 6 (vq b 1) SP c) λ_ q=>
 bd (rC (ay 6 (vq b 1) q.get) (rT (J 2) (some []))) λy=>bd (aD y) λB=>
 some (B,q))
 (bd (ay 6 (vq b 3) c.get) λSQ=>
 ax (aj 6 (vq b 1) SQ c) λ_ r=>
 bd (rC (ay 6 (vq b 1) r.get) (rT (J 0) (some []))) λz=>bd (aD z) λC=>
 some (C,r)))
 jN
 jT))
theorem jJ:fC 109 f109:=λd a0 s=>(ak rfl Tryz.func109 (by kernel_rfl)).trans (by generalize R d=c;kernel_rfl)
def f62:fh:=λkf N a0 s=>
 ax (aE s (a6 [iz,iz,iz,iz,.int .u32 0])) λi B=>
 ax (kf 109 [a0] B) λy C=>
 bd (ai y 0) λE=>
 bd (ai y 1) λg=>
 ax (aE C (a6 [iz,iz,iz,iz,.av,.av])) λh D=>
 ax (aj 6 h E D) λ_ a=>
 bd (ah .neq g (J 0)) λk=>
 br k (bd (aO (aA [iz,iz,iz,iz,.int .u32 0] [])) λl=>
 ax (aj 5 i l a) λ_ w=>
 bd (rC (ay 5 i w.get) (rT g (some []))) λz=>bd (aD z) λA=>
 some (A,w))
 (bd (ab 0 h) λb=>
 bd (aa b a.get) λm=>
 bd (ab 1 h) λc=>
 bd (aa c a.get) λn=>
 bd (ab 2 h) λd=>
 bd (aa d a.get) λo=>
 bd (ab 3 h) λe=>
 bd (aa e a.get) λp=>
 bd (aV a0) λq=>
 bd (ah .sub q (J 4)) λr=>
 bd (bn a0 none (some r) none) λt=>
 ax (kf 75 [t] a) λu f=>
 bd (aO (aA [iz,iz,iz,iz,.int .u32 0] [(0,1,m),(1,1,n),(2,1,o),(3,1,p),(4,1,u)])) λv=>
 ax (aj 5 i v f) λ_ x=>
 ck ((decide (aa b f.get=aa b a.get)&&true)&&((decide (aa c f.get=aa c a.get)&&true)&&((decide (aa d f.get=aa d a.get)&&true)&&((decide (aa e f.get=aa e a.get)&&true)&&true)))) (bd (rC (ay 5 i x.get) (rT (J 0) (some []))) λl10=>bd (aD l10) λj=>
 some (j,x)))
theorem EL:fC 62 f62:=λd a0 s=>(ak rfl Tryz.func62 (by kernel_rfl)).trans (by generalize R d=c;kernel_rfl)
def f61:fh:=λkf N a0 s=>
 bd (ah .lss a0 (J 1)) λb=>
 br b (some ((Z (.str [])),s))
 (ax (kf 108 [a0] s) λc a=>
 bd (ah .add (Z (.str [115])) c) λd=>
 some (d,a))
theorem Nx:fC 61 f61:=λd a0 s=>(ak rfl Tryz.func61 (by kernel_rfl)).trans (by generalize R d=c;kernel_rfl)
def tU:gI:=λkf N v s=>
 bd (ah .gtr (vq v 0) (J 9)) λa=>
 br a (jn (bd (ah .rem (vq v 0) (J 10)) λb=>
 bd (ah .rem (vq v 0) (J 10)) λc=>
 bd (ah .add c (J 1)) λd=>
 bd (bn (Z (.str [48,49,50,51,52,53,54,55,56,57])) (some b) (some d) none) λe=>
 bd (ah .add e (vq v 1)) λf=>
 bd (ah .quo (vq v 0) (J 10)) λg=>
 nm [g,f] s)
 (λh i=>nm [(vq h 0),(vq h 1)] i)
 jE
 jR)
 (jE 0 [(vq v 0),(vq v 1)] s)
def f108:fh:=λkf N a0 s=>
 bd (ah .lss a0 (J 0)) λr=>
 br r (bd (ah .quo a0 (J 10)) λt=>
 bd (gH .neg t) λe=>
 ax (kf 108 [e] s) λb o=>
 bd (ah .eql b (Z (.str [48]))) λf=>
 jn (br f (nm [a0,(Z (.str []))] o)
 (nm [a0,b] o))
 (λp q=>bd (ah .rem (vq p 0) (J 10)) λg=>
 bd (gH .neg g) λc=>
 bd (ah .add (Z (.str [45])) (vq p 1)) λh=>
 bd (ah .add c (J 1)) λi=>
 bd (bn (Z (.str [48,49,50,51,52,53,54,55,56,57])) (some c) (some i) none) λj=>
 bd (ah .add h j) λk=>
 some (k,q))
 jN
 jT)
 (jn (jn (loops (tU kf N) N [a0,(Z (.str []))] s)
 (jM [.any,.any])
 jZ
 jR)
 (λa d=>bd (ah .add (vq a 0) (J 1)) λl=>
 bd (bn (Z (.str [48,49,50,51,52,53,54,55,56,57])) (some (vq a 0)) (some l) none) λm=>
 bd (ah .add m (vq a 1)) λn=>
 some (n,d))
 jN
 jT)
theorem Jc:fC 108 f108:=λd a0 s=>(ak rfl Tryz.func108 (by kernel_rfl)).trans (by generalize R d=c;kernel_rfl)
end
noncomputable section
def f11:fh:=λkf N a0 s=>
 bd (ah .lss a0 (J 0)) λc=>
 bd (gF c (some a0)) λe=>
 bd (gF c (ah .gtr e (J 1048576))) λf=>
 bd (pT c f) λg=>
 br g (some ((Z .c9),s))
 (bd (aO (aA [iz,.av] [(0,1,a0)])) λa=>
 ax (aE s (b6 a)) λb d=>
 some (b,d))
theorem MY:fC 11 f11:=λd a0 s=>(ak rfl Tryz.func11 (by kernel_rfl)).trans (by generalize R d=c;kernel_rfl)
def vi:gI:=λkf N v s=>
 bd (ba (vq v 0)) λm=>
 bd (ab 1 m) λn=>
 bd (aa n s.get) λa=>
 bd (aG a) λb=>
 bd (ah .lss (vq v 2) b) λc=>
 br c (jn (bd (ba (vq v 0)) λe=>
 bd (ab 1 e) λf=>
 bd (aa f s.get) λg=>
 bd (ar 3 g (vq v 2)) λh=>
 bd (ab 0 h) λi=>
 bd (aa i s.get) λj=>
 bd (ah .eql j (vq v 1)) λk=>
 br k (jR (vq v 2) s)
 (nm [(vq v 0),(vq v 1),(vq v 2)] s))
 (λv1 l=>bd (ah .add (vq v1 2) (J 1)) λd=>
 nm [(vq v1 0),(vq v1 1),d] l)
 jE
 jR)
 (jE 0 [] s)
def f37:iA:=λkf N a0 b s=>
 jn (jn (loops (vi kf N) N [a0,b,(J 0)] s)
 (jM [])
 jZ
 jR)
 (λc a=>some ((J (-1)),a))
 jN
 jT
theorem Nd:iB 37 f37:=λd a0 a s=>(ak rfl Tryz.func37 (by kernel_rfl)).trans (by generalize R d=c;kernel_rfl)
def vj:gI:=λkf N v s=>
 bd (aV (vq v 0)) λr=>
 bd (ah .lss (vq v 1) r) λt=>
 br t (jn (bd (bZ (vq v 0) (vq v 1)) λa=>
 bd (ah .lss a (J8 97)) λc=>
 bd (gF c (some a)) λg=>
 bd (gF c (ah .gtr g (J8 122))) λh=>
 bd (pT c h) λb=>
 bd (gU b (some a)) λi=>
 bd (gU b (ah .lss i (J8 48))) λj=>
 bd (gU b (some j)) λd=>
 bd (gF d (some a)) λk=>
 bd (gF d (ah .gtr k (J8 57))) λl=>
 bd (gU b (pT d l)) λm=>
 bd (pF b m) λe=>
 bd (gU e (some a)) λn=>
 bd (gU e (ah .neq n (J8 46))) λo=>
 bd (pF e o) λp=>
 br p (jR (B false) s)
 (nm [(vq v 0),(vq v 1)] s))
 (λv1 q=>bd (ah .add (vq v1 1) (J 1)) λf=>
 nm [(vq v1 0),f] q)
 jE
 jR)
 (jE 0 [(vq v 0)] s)
def f38:fh:=λkf N a0 s=>
 jn (jn (loops (vj kf N) N [a0,(J 0)] s)
 (jM [.any])
 jZ
 jR)
 (λh b=>bd (aV (vq h 0)) λc=>
 bd (ah .geq c (J 1)) λa=>
 bd (gU a (some (vq h 0))) λd=>
 bd (gU a (aV d)) λe=>
 bd (gU a (ah .leq e (J 20))) λf=>
 bd (pF a f) λg=>
 some (g,b))
 jN
 jT
theorem Nf:fC 38 f38:=λd a0 s=>(ak rfl Tryz.func38 (by kernel_rfl)).trans (by generalize R d=c;kernel_rfl)
def yR:gI:=λkf N v s=>
 bd (ba (vq v 0)) λm=>
 bd (ab 1 m) λn=>
 bd (aa n s.get) λo=>
 bd (aG o) λa=>
 bd (ah .lss (vq v 2) a) λb=>
 br b (jn (bd (ba (vq v 0)) λd=>
 bd (ab 1 d) λe=>
 bd (aa e s.get) λf=>
 bd (ar 3 f (vq v 2)) λg=>
 bd (ab 1 g) λh=>
 bd (aa h s.get) λi=>
 bd (aV i) λj=>
 bd (ah .add (vq v 1) j) λk=>
 nm [(vq v 0),k,(vq v 2)] s)
 (λv1 l=>bd (ah .add (vq v1 2) (J 1)) λc=>
 nm [(vq v1 0),(vq v1 1),c] l)
 jE
 jR)
 (jE 0 [(vq v 1)] s)
def f39:fh:=λkf N a0 s=>
 jn (jn (loops (yR kf N) N [a0,(J 0),(J 0)] s)
 (jM [.any])
 jZ
 jR)
 (λb a=>some ((vq b 0),a))
 jN
 jT
theorem Ng:fC 39 f39:=λd a0 s=>(ak rfl Tryz.func39 (by kernel_rfl)).trans (by generalize R d=c;kernel_rfl)
def yS:gI:=λkf N v s=>
 bd (ba (vq v 0)) λt=>
 bd (ab 1 t) λu=>
 bd (aa u s.get) λb=>
 bd (aG b) λc=>
 bd (ah .lss (vq v 2) c) λa=>
 bd (gU a (some (vq v 0))) λd=>
 bd (gU a (ba d)) λe=>
 bd (gU a (ab 1 e)) λf=>
 bd (gU a (aa f s.get)) λg=>
 bd (gU a (some (vq v 2))) λh=>
 bd (gU a (ar 3 g h)) λi=>
 bd (gU a (ab 0 i)) λj=>
 bd (gU a (aa j s.get)) λk=>
 bd (gU a (ab 0 (vq v 1))) λl=>
 bd (gU a (aa l s.get)) λm=>
 bd (gU a (ah .lss k m)) λn=>
 bd (pF a n) λo=>
 br o (jn (bd (ah .add (vq v 2) (J 1)) λp=>
 nm [(vq v 0),(vq v 1),p] s)
 (λq r=>nm [(vq q 0),(vq q 1),(vq q 2)] r)
 jE
 jR)
 (jE 0 [(vq v 0),(vq v 1),(vq v 2)] s)
def f40:iA:=λkf N a0 A s=>
 ax (aE s (b6 A)) λC B=>
 jn (jn (loops (yS kf N) N [a0,C,(J 0)] B)
 (jM [.any,.any,.any])
 jZ
 jR)
 (λa h=>ax (aE h (aN 0 (aA [] []))) λl e=>
 bd (ba (vq a 0)) λm=>
 bd (ab 1 m) λn=>
 bd (aa n e.get) λo=>
 bd (aB 3 o none (some (vq a 2)) none) λp=>
 ax (aF 3 40 l p e) λq b=>
 bd (ay 3 (vq a 1) b.get) λf=>
 ax (aE b (aN 1 (aA [.str [],.str [],iz] [(0,3,f)]))) λr i=>
 ax (aF 3 40 q r i) λt c=>
 bd (ba (vq a 0)) λu=>
 bd (ab 1 u) λd=>
 bd (aa d c.get) λv=>
 bd (aB 3 v (some (vq a 2)) none none) λw=>
 ax (aF 3 40 t w c) λx j=>
 bd (ba (vq a 0)) λy=>
 bd (ab 1 y) λz=>
 ax (aj 1 z x j) λ_ k=>
 ck ((decide (aa d (cl 0 b.get (wC 3 b.size (aN 1 (aA [.str [],.str [],iz] [(0,3,f)])) []))=aa d c.get)&&true)&&true) (bd (aD []) λg=>
 some (g,k)))
 jN
 jT
theorem Nh:iB 40 f40:=λd a0 a s=>(ak rfl Tryz.func40 (by kernel_rfl)).trans (by generalize R d=c;kernel_rfl)
def f13:F4:=λkf N a0 g S s=>
 ax (kf 37 [a0,g] s) λf T=>
 jn (ax (kf 38 [g] T) λj d=>
 bd (gH .not j) λk=>
 br k (jR (J 1) d)
 (bd (ah .lss f (J 0)) λb=>
 bd (gU b (some a0)) λl=>
 bd (gU b (ba l)) λm=>
 bd (gU b (ab 1 m)) λn=>
 bd (gU b (aa n d.get)) λo=>
 bd (gU b (aG o)) λp=>
 bd (gU b (ah .geq p (J 200))) λq=>
 bd (pF b q) λa=>
 bd (gF a (some S)) λr=>
 bd (gF a (aV r)) λt=>
 bd (gF a (some a0)) λu=>
 bd (gF a (ba u)) λv=>
 bd (gF a (ab 0 v)) λc=>
 bd (gF a (aa c d.get)) λw=>
 bd (gF a (some a0)) λx=>
 ax (gS (gd a false) d (kf 39 [x] d)) λy i=>
 bd (gF a (ah .sub w y)) λz=>
 bd (gF a (ah .gtr t z)) λA=>
 bd (pT a A) λB=>
 ck ((wq (gd a false) (decide (aa c i.get=aa c d.get))&&true)&&true) (br B (jR (J 8) i)
 (nm [a0,g,S,f] i))))
 (λv4 e=>bd (ah .lss (vq v4 3) (J 0)) λC=>
 jn (br C (bd (aO (aA [.str [],.str [],iz] [(0,1,(vq v4 1)),(1,1,(vq v4 2))])) λD=>
 ax (kf 40 [(vq v4 0),D] e) λW U=>
 nm [] U)
 (bd (ba (vq v4 0)) λE=>
 bd (ab 1 E) λF=>
 bd (aa F e.get) λG=>
 bd (ba (vq v4 0)) λH=>
 bd (ab 1 H) λI=>
 bd (aa I e.get) λK=>
 bd (ar 3 K (vq v4 3)) λL=>
 bd (ab 1 L) λM=>
 bd (aa M e.get) λO=>
 bd (ah .add O (vq v4 2)) λP=>
 bd (ar 3 G (vq v4 3)) λQ=>
 bd (ab 1 Q) λR=>
 ax (aj 1 R P e) λ_ V=>
 nm [] V))
 (λX h=>some ((J 0),h))
 jN
 jT)
 jN
 jT
theorem M1:My 13 f13:=λd a0 a b s=>(ak rfl Tryz.func13 (by kernel_rfl)).trans (by generalize R d=c;kernel_rfl)
def f55:iA:=λkf N a0 k s=>
 ax (kf 37 [a0,k] s) λl q=>
 jn (ax (kf 38 [k] q) λb a=>
 bd (gH .not b) λc=>
 br c (bd (aD [(Z (.str [])),(J 1)]) λn=>
 jR n a)
 (bd (ah .lss l (J 0)) λd=>
 br d (bd (aD [(Z (.str [])),(J 9)]) λo=>
 jR o a)
 (nm [a0,l] a)))
 (λm s6=>bd (ba (vq m 0)) λe=>
 bd (ab 1 e) λf=>
 bd (aa f s6.get) λg=>
 bd (ar 3 g (vq m 1)) λh=>
 bd (ab 1 h) λi=>
 bd (aa i s6.get) λj=>
 bd (aD [j,(J 0)]) λp=>
 some (p,s6))
 jN
 jT
theorem yV:iB 55 f55:=λd a0 a s=>(ak rfl Tryz.func55 (by kernel_rfl)).trans (by generalize R d=c;kernel_rfl)
def f60:iA:=λkf N a0 r s=>
 ax (kf 37 [a0,r] s) λt u=>
 jn (ax (kf 38 [r] u) λc b=>
 bd (gH .not c) λd=>
 br d (jR (J 1) b)
 (bd (ah .lss t (J 0)) λe=>
 br e (jR (J 9) b)
 (nm [a0,t] b)))
 (λv3 a=>bd (ba (vq v3 0)) λf=>
 bd (ab 1 f) λg=>
 bd (aa g a.get) λh=>
 bd (ba (vq v3 0)) λi=>
 bd (ab 1 i) λj=>
 bd (aa j a.get) λk=>
 bd (ar 3 k (vq v3 1)) λl=>
 bd (ab 1 l) λm=>
 bd (aa m a.get) λn=>
 bd (aV n) λo=>
 bd (ar 3 h (vq v3 1)) λp=>
 bd (ab 2 p) λq=>
 ax (aj 1 q o a) λ_ v=>
 some ((J 0),v))
 jN
 jT
theorem Nw:iB 60 f60:=λd a0 a s=>(ak rfl Tryz.func60 (by kernel_rfl)).trans (by generalize R d=c;kernel_rfl)
def f58:F4:=λkf N a0 W f s=>
 ax (kf 37 [a0,W] s) λb X=>
 jn (ax (kf 38 [W] X) λg c=>
 bd (gH .not g) λh=>
 br h (jR (J 1) c)
 (bd (ah .lss b (J 0)) λi=>
 br i (jR (J 9) c)
 (bd (ah .lss f (J 0)) λa=>
 bd (gF a (some f)) λj=>
 bd (gF a (some a0)) λk=>
 bd (gF a (ba k)) λl=>
 bd (gF a (ab 1 l)) λm=>
 bd (gF a (aa m c.get)) λn=>
 bd (gF a (some b)) λo=>
 bd (gF a (ar 3 n o)) λp=>
 bd (gF a (ab 1 p)) λq=>
 bd (gF a (aa q c.get)) λr=>
 bd (gF a (aV r)) λt=>
 bd (gF a (ah .gtr j t)) λu=>
 bd (pT a u) λv=>
 br v (jR (J 5) c)
 (nm [a0,f,b] c))))
 (λv3 d=>bd (ba (vq v3 0)) λw=>
 bd (ab 1 w) λx=>
 bd (aa x d.get) λy=>
 bd (ba (vq v3 0)) λz=>
 bd (ab 1 z) λA=>
 bd (aa A d.get) λB=>
 bd (ar 3 B (vq v3 2)) λC=>
 bd (ab 1 C) λD=>
 bd (aa D d.get) λE=>
 bd (bn E none (some (vq v3 1)) none) λF=>
 bd (ar 3 y (vq v3 2)) λG=>
 bd (ab 1 G) λH=>
 ax (aj 1 H F d) λ_ e=>
 bd (ba (vq v3 0)) λI=>
 bd (ab 1 I) λK=>
 bd (aa K e.get) λL=>
 bd (ba (vq v3 0)) λM=>
 bd (ab 1 M) λO=>
 bd (aa O e.get) λP=>
 bd (ar 3 P (vq v3 2)) λQ=>
 bd (ab 2 Q) λR=>
 bd (aa R e.get) λS=>
 bd (kz l3 S [(vq v3 1)]) λT=>
 bd (ar 3 L (vq v3 2)) λU=>
 bd (ab 2 U) λV=>
 ax (aj 1 V T e) λ_ Y=>
 some ((J 0),Y))
 jN
 jT
theorem Nu:My 58 f58:=λd a0 a b s=>(ak rfl Tryz.func58 (by kernel_rfl)).trans (by generalize R d=c;kernel_rfl)
def f65:iA:=λkf N a0 w s=>
 ax (kf 37 [a0,w] s) λy z=>
 jn (ax (kf 38 [w] z) λf c=>
 bd (gH .not f) λg=>
 br g (jR (J 1) c)
 (bd (ah .lss y (J 0)) λh=>
 br h (jR (J 9) c)
 (nm [a0,y] c)))
 (λv3 d=>ax (aE d (aN 0 (aA [] []))) λi x=>
 bd (ba (vq v3 0)) λj=>
 bd (ab 1 j) λk=>
 bd (aa k x.get) λl=>
 bd (aB 3 l none (some (vq v3 1)) none) λm=>
 ax (aF 3 40 i m x) λn e=>
 bd (ba (vq v3 0)) λo=>
 bd (ab 1 o) λa=>
 bd (aa a e.get) λp=>
 bd (ah .add (vq v3 1) (J 1)) λq=>
 bd (aB 3 p (some q) none none) λr=>
 ax (aF 3 40 n r e) λt A=>
 bd (ba (vq v3 0)) λu=>
 bd (ab 1 u) λv=>
 ax (aj 1 v t A) λ_ b=>
 ck ((decide (aa a (cl 0 d.get (wC 1 d.size (aN 0 (aA [] [])) []))=aa a e.get)&&true)&&true) (some ((J 0),b)))
 jN
 jT
theorem Nz:iB 65 f65:=λd a0 a s=>(ak rfl Tryz.func65 (by kernel_rfl)).trans (by generalize R d=c;kernel_rfl)
def yW:gI:=λkf N v s=>
 bd (ba (vq v 0)) λo=>
 bd (ab 1 o) λp=>
 bd (aa p s.get) λq=>
 bd (aG q) λa=>
 bd (ah .lss (vq v 2) a) λb=>
 br b (jn (bd (ba (vq v 0)) λd=>
 bd (ab 1 d) λe=>
 bd (aa e s.get) λf=>
 bd (ar 3 f (vq v 2)) λg=>
 bd (ab 0 g) λh=>
 bd (aa h s.get) λi=>
 ax (aE s (aN 1 (aA [.str []] [(0,1,i)]))) λj l=>
 ax (aF 1 16 (vq v 1) j l) λk m=>
 nm [(vq v 0),k,(vq v 2)] m)
 (λv3 n=>bd (ah .add (vq v3 2) (J 1)) λc=>
 nm [(vq v3 0),(vq v3 1),c] n)
 jE
 jR)
 (jE 0 [(vq v 1)] s)
def f63:fh:=λkf N a0 s=>
 jn (jn (loops (yW kf N) N [a0,(Z .av),(J 0)] s)
 (jM [.any])
 jZ
 jR)
 (λb a=>some ((vq b 0),a))
 jN
 jT
theorem Ny:fC 63 f63:=λd a0 s=>(ak rfl Tryz.func63 (by kernel_rfl)).trans (by generalize R d=c;kernel_rfl)
def pN:gI:=λkf N v s=>
 bd (aV (vq v 0)) λb=>
 bd (ah .lss (vq v 1) b) λc=>
 br c (jn (bd (bZ (vq v 0) (vq v 1)) λe=>
 bd (ah .lss e (J8 48)) λa=>
 bd (gF a (some (vq v 0))) λf=>
 bd (gF a (some (vq v 1))) λg=>
 bd (gF a (bZ f g)) λh=>
 bd (gF a (ah .gtr h (J8 57))) λi=>
 bd (pT a i) λj=>
 br j (jR (B false) s)
 (nm [(vq v 0),(vq v 1)] s))
 (λv1 k=>bd (ah .add (vq v1 1) (J 1)) λd=>
 nm [(vq v1 0),d] k)
 jE
 jR)
 (jE 0 [] s)
def f64:fh:=λkf N a0 s=>
 bd (aV a0) λi=>
 bd (ah .lss i (J 2)) λb=>
 bd (gF b (some a0)) λj=>
 bd (gF b (bZ j (J 0))) λk=>
 bd (gF b (ah .neq k (J8 115))) λd=>
 bd (pT b d) λa=>
 bd (gF a (some a0)) λe=>
 bd (gF a (bZ e (J 1))) λf=>
 bd (gF a (ah .eql f (J8 48))) λg=>
 bd (pT a g) λh=>
 br h (some ((B false),s))
 (jn (jn (loops (pN kf N) N [a0,(J 1)] s)
 (jM [])
 jZ
 jR)
 (λl c=>some ((B true),c))
 jN
 jT)
theorem EM:fC 64 f64:=λd a0 s=>(ak rfl Tryz.func64 (by kernel_rfl)).trans (by generalize R d=c;kernel_rfl)
def f59:iA:=λkf N a0 e s=>
 bd (aB 8 a0 none (some e) none) λb=>
 ax (kf 8 [b] s) λa f=>
 bd (ai a 0) λc=>
 bd (ai a 1) λg=>
 bd (aV c) λd=>
 some (d,f)
theorem Nv:iB 59 f59:=λd a0 a s=>(ak rfl Tryz.func59 (by kernel_rfl)).trans (by generalize R d=c;kernel_rfl)
def rP:gI:=λkf N v s=>
 bd (aG (vq v 2)) λd=>
 bd (ah .lss (vq v 3) d) λe=>
 br e (jn (bd (ah .add (vq v 3) (J 1)) λf=>
 bd (aB 8 (vq v 2) none (some f) none) λg=>
 ax (kf 57 [g] s) λa l=>
 bd (ai a 0) λo=>
 bd (ai a 1) λh=>
 bd (ai a 2) λp=>
 bd (ai a 3) λi=>
 ax (aE l (a6 [iz,iz,iz,iz,iz,iz])) λc m=>
 ax (aj 6 c h m) λ_ s6=>
 bd (ah .neq i (J 0)) λj=>
 br j (jE 0 [(vq v 0),(vq v 1),(vq v 2),(vq v 3)] s6)
 (bd (ah .add (vq v 3) (J 1)) λk=>
 nm [(vq v 0),(vq v 1),(vq v 2),k] s6))
 (λb n=>nm [(vq b 0),(vq b 1),(vq b 2),(vq b 3)] n)
 jE
 jR)
 (jE 0 [(vq v 0),(vq v 1),(vq v 2),(vq v 3)] s)
def rQ:gI:=λkf N v s=>
 bd (aG (vq v 2)) λG=>
 bd (ah .lss (vq v 3) G) λH=>
 br H (jn (bd (ar 5 (vq v 2) (vq v 3)) λK=>
 bd (ab 0 K) λL=>
 bd (aa L s.get) λh=>
 ax (kf 61 [h] s) λj B=>
 ax (kf 55 [(vq v 0),j] B) λf C=>
 bd (ai f 0) λk=>
 bd (ai f 1) λl=>
 ax (kf 62 [k] C) λg D=>
 bd (ai g 0) λm=>
 bd (ai g 1) λn=>
 ax (aE D (a6 [iz,iz,iz,iz,.int .u32 0])) λz E=>
 ax (aj 5 z m E) λ_ d=>
 bd (ah .neq l (J 0)) λc=>
 bd (gF c (some n)) λo=>
 bd (gF c (ah .neq o (J 0))) λp=>
 bd (pT c p) λb=>
 bd (gF b (ay 5 z d.get)) λq=>
 bd (gF b (some (vq v 2))) λr=>
 bd (gF b (some (vq v 3))) λt=>
 bd (gF b (ar 5 r t)) λu=>
 bd (gF b (ay 5 u d.get)) λw=>
 bd (gF b (xN (.a 5 [(0,.i),(1,.i),(2,.i),(3,.i),(4,.i)]) q w)) λx=>
 bd (pT b x) λy=>
 br y (bd (aD [(Z .c9),(J 2)]) λA=>
 jR A d)
 (nm [(vq v 0),(vq v 1),(vq v 2),(vq v 3)] d))
 (λe F=>bd (ah .add (vq e 3) (J 1)) λI=>
 nm [(vq e 0),(vq e 1),(vq e 2),I] F)
 jE
 jR)
 (jE 2 [(vq v 0),(vq v 1),(vq v 2)] s)
def vf:gI:=λkf N v s=>
 bd (aG (vq v 2)) λd=>
 bd (ah .lss (vq v 6) d) λe=>
 br e (jn (bd (gT (gd (vq v 5) false) (some (vq v 2))) λg=>
 bd (gT (gd (vq v 5) false) (some (vq v 6))) λh=>
 bd (gT (gd (vq v 5) false) (ar 5 g h)) λi=>
 bd (gT (gd (vq v 5) false) (ab 0 i)) λj=>
 bd (gT (gd (vq v 5) false) (aa j s.get)) λk=>
 ax (gS (gd (vq v 5) false) s (kf 61 [k] s)) λl c=>
 bd (gT (gd (vq v 5) false) (some (vq v 3))) λm=>
 bd (gT (gd (vq v 5) false) (some (vq v 4))) λn=>
 bd (gT (gd (vq v 5) false) (ar 1 m n)) λb=>
 bd (gT (gd (vq v 5) false) (aa b c.get)) λo=>
 bd (gT (gd (vq v 5) false) (ah .eql l o)) λp=>
 bd (nv (vq v 5) (B true) p) λq=>
 ck ((wq (gd (vq v 5) false) (decide (aa b s.get=aa b c.get))&&true)&&true) (nm [(vq v 0),(vq v 1),(vq v 2),(vq v 3),(vq v 4),q,(vq v 6)] c))
 (λa r=>bd (ah .add (vq a 6) (J 1)) λf=>
 nm [(vq a 0),(vq a 1),(vq a 2),(vq a 3),(vq a 4),(vq a 5),f] r)
 jE
 jR)
 (jE 6 [(vq v 0),(vq v 1),(vq v 2),(vq v 3),(vq v 4),(vq v 5)] s)
def hO:gI:=λkf N v s=>
 bd (aG (vq v 3)) λl=>
 bd (ah .lss (vq v 4) l) λm=>
 br m (jn (jn (jn (loops (vf kf N) N [(vq v 0),(vq v 1),(vq v 2),(vq v 3),(vq v 4),(B false),(J 0)] s)
 (jM [.any,.any,.any,.any,.any,.any])
 (λh x k=>if h=6 then some (.normal x,k)else some (.exit h x,k))
 jR)
 (λa c=>bd (ar 1 (vq a 3) (vq a 4)) λo=>
 bd (aa o c.get) λp=>
 ax (kf 64 [p] c) λd g=>
 bd (gU d (some (vq a 5))) λq=>
 bd (gU d (gH .not q)) λr=>
 bd (pF d r) λt=>
 jn (br t (bd (ar 1 (vq a 3) (vq a 4)) λu=>
 bd (aa u g.get) λw=>
 ax (kf 65 [(vq a 0),w] g) λA y=>
 nm [(vq a 0),(vq a 1),(vq a 2),(vq a 3),(vq a 4)] y)
 (nm [(vq a 0),(vq a 1),(vq a 2),(vq a 3),(vq a 4)] g))
 (λb f=>nm [(vq b 0),(vq b 1),(vq b 2),(vq b 3),(vq b 4)] f)
 (λj b f=>if j=5 then some (.normal b,f)else some (.exit j b,f))
 jR)
 (λi a c=>if i=5 then some (.normal a,c)else some (.exit i a,c))
 jR)
 (λe z=>bd (ah .add (vq e 4) (J 1)) λn=>
 nm [(vq e 0),(vq e 1),(vq e 2),(vq e 3),n] z)
 jE
 jR)
 (jE 4 [(vq v 1)] s)
def f15:fh:=λkf N a0 s=>
 bd (aO (aA [.c9,.av,iz] [(0,1,a0)])) λE=>
 ax (aE s (b6 E)) λk Y=>
 ax (kf 55 [a0,(Z (.str [108,111,103]))] Y) λl X=>
 bd (ai l 0) λF=>
 bd (ai l 1) λG=>
 bd (ah .eql G (J 0)) λH=>
 jn (br H (ax (kf 56 [F] X) λm s3=>
 bd (ai m 0) λI=>
 bd (ai m 1) λSj=>
 jn (jn (loops (rP kf N) N [a0,k,I,(J 0)] s3)
 (jM [.any,.any,.any,.any])
 jZ
 jR)
 (λa q=>bd (aB 8 (vq a 2) none (some (vq a 3)) (some (vq a 3))) λK=>
 bd (ba (vq a 1)) λL=>
 bd (ab 1 L) λM=>
 ax (aj 1 M K q) λ_ r=>
 ax (kf 59 [(vq a 2),(vq a 3)] r) λO t=>
 ax (kf 58 [(vq a 0),(Z (.str [108,111,103])),O] t) λSk u=>
 ax (kf 60 [(vq a 0),(Z (.str [108,111,103]))] u) λSl v=>
 bd (ba (vq a 1)) λP=>
 bd (ab 2 P) λQ=>
 ax (aj 1 Q (vq a 3) v) λ_ w=>
 nm [(vq a 0),(vq a 1)] w)
 jE
 jR)
 (nm [a0,k] X))
 (λd g=>bd (ba (vq d 1)) λR=>
 bd (ab 1 R) λS=>
 bd (aa S g.get) λT=>
 ax (kf 57 [T] g) λb x=>
 bd (ai b 0) λU=>
 bd (ai b 1) λV=>
 bd (ai b 2) λSm=>
 bd (ai b 3) λSn=>
 ax (aE x (a6 [iz,iz,iz,iz,iz,iz])) λD y=>
 ax (aj 6 D V y) λ_ z=>
 jn (jn (loops (rQ kf N) N [(vq d 0),(vq d 1),U,(J 0)] z)
 (jM [.any,.any,.any])
 (λe n h=>if e=2 then some (.normal n,h)else some (.exit e n,h))
 jR)
 (λc A=>ax (kf 63 [(vq c 0)] A) λj B=>
 jn (jn (loops (hO kf N) N [(vq c 0),(vq c 1),(vq c 2),j,(J 0)] B)
 (jM [.any])
 (λf o i=>if f=4 then some (.normal o,i)else some (.exit f o,i))
 jR)
 (λW C=>bd (aD [(vq W 0),(J 0)]) λp=>
 some (p,C))
 jN
 jT)
 jN
 jT)
 jN
 jT
theorem EG:fC 15 f15:=λd a0 s=>(ak rfl Tryz.func15 (by kernel_rfl)).trans (by generalize R d=c;kernel_rfl)
end
noncomputable section
def sQ:gI:=λkf N v s=>
 bd (ah .lss (vq v 3) (J 2)) λO=>
 br O (jn (ax (kf 10 [(J 100000)] s) λd I=>
 ax (kf 11 [(J 100000)] I) λj l=>
 bd (lu .p d (Z .c9)) λe=>
 bd (gF e (some d)) λQ=>
 bd (gF e (some (vq v 0))) λR=>
 ax (gS (gd e false) l (kf 12 [Q,(Z (.str [108,111,103])),R] l)) λS m=>
 bd (gF e (ah .neq S (J 0))) λT=>
 bd (pT e T) λf=>
 bd (gF f (some d)) λU=>
 bd (gF f (some (vq v 1))) λV=>
 ax (gS (gd f false) m (kf 12 [U,(Z (.str [115,49])),V] m)) λW h=>
 bd (gF f (ah .neq W (J 0))) λX=>
 bd (pT f X) λY=>
 br Y (jR (B false) h)
 (bd (bQ (vq v 0) h.get) λSj=>
 ax (kf 13 [j,(Z (.str [108,111,103])),Sj] h) λSn n=>
 bd (bQ (vq v 1) n.get) λSk=>
 ax (kf 13 [j,(Z (.str [115,49])),Sk] n) λSp K=>
 ax (kf 14 [d] K) λF L=>
 bd (ai F 0) λG=>
 bd (ai F 1) λk=>
 ax (kf 15 [j] L) λH i=>
 bd (ai H 0) λSl=>
 bd (ai H 1) λSm=>
 bd (ah .neq k Sm) λc=>
 bd (gF c (some k)) λq=>
 bd (gF c (ah .eql q (J 0))) λr=>
 bd (gF c (some G)) λt=>
 bd (gF c (xN .p t (Z .c9))) λu=>
 bd (gF c (xN .b r u)) λw=>
 bd (pT c w) λx=>
 br x (jR (B false) i)
 (bd (ah .eql k (J 0)) λa=>
 bd (gU a (some G)) λy=>
 bd (gU a (some Sl)) λz=>
 bd (gU a (some d)) λA=>
 ax (gS (gd a true) i (kf 16 [y,z,A] i)) λC o=>
 bd (gU a (gH .not C)) λD=>
 bd (pF a D) λE=>
 br E (jR (B false) o)
 (nm [(vq v 2),(vq v 1),(vq v 2),(vq v 3)] o))))
 (λg M=>bd (ah .add (vq g 3) (J 1)) λP=>
 nm [(vq g 0),(vq g 1),(vq g 2),P] M)
 jE
 jR)
 (jE 0 [] s)
def f3:RU:=λkf N a0 D E F f s=>
 bd (aG a0) λj=>
 bd (ah .gtr j (J 300)) λb=>
 bd (gF b (some f)) λk=>
 bd (gF b (aG k)) λl=>
 bd (gF b (ah .gtr l (J 200))) λm=>
 bd (pT b m) λn=>
 br n (ax (kf 7 [] s) λo G=>
 some (o,G))
 (ax (kf 9 [D] s) λp H=>
 ax (kf 8 [p] H) λd I=>
 bd (ai d 0) λq=>
 bd (ai d 1) λM=>
 ax (aE I (zg q)) λa i=>
 bd (aG a) λr=>
 bd (ah .gtr r (J 0)) λt=>
 jn (br t (bd (az .u64 E) λu=>
 bd (aG a) λv=>
 bd (az .u64 v) λw=>
 bd (ah .rem u w) λx=>
 bd (az .i64 x) λe=>
 bd (ar 1 a e) λy=>
 bd (aa y i.get) λz=>
 bd (ah .xor z F) λA=>
 bd (ar 1 a e) λB=>
 ax (aj 1 B A i) λ_ K=>
 nm [a0,f,a] K)
 (nm [a0,f,a] i))
 (λC L=>jn (jn (loops (sQ kf N) N [(vq C 0),(vq C 1),(vq C 2),(J 0)] L)
 (jM [])
 jZ
 jR)
 (λO g=>ax (kf 7 [] g) λc h=>
 some (c,h))
 jN
 jT)
 jN
 jT)
theorem PF:Sa 3 f3:=λd a0 a b e f s=>(ak rfl Tryz.func3 (by kernel_rfl)).trans (by generalize R d=c;kernel_rfl)
def vg:gI:=λkf N v s=>
 bd (aG (vq v 2)) λD=>
 bd (ah .lss (vq v 4) D) λE=>
 br E (jn (bd (ar 1 (vq v 3) (vq v 4)) λG=>
 bd (aa G s.get) λH=>
 ax (kf 42 [(vq v 1),H] s) λA f=>
 bd (ai A 0) λI=>
 bd (ai A 1) λK=>
 bd (ba (vq v 0)) λL=>
 bd (ab 0 L) λg=>
 bd (aa g f.get) λh=>
 bd (ar 1 (vq v 3) (vq v 4)) λi=>
 bd (aa i f.get) λj=>
 ax (kf 55 [h,j] f) λe c=>
 bd (ai e 0) λk=>
 bd (ai e 1) λl=>
 bd (ar 1 (vq v 2) (vq v 4)) λm=>
 bd (aa m c.get) λn=>
 bd (ar 1 (vq v 3) (vq v 4)) λo=>
 bd (aa o c.get) λp=>
 bd (ah .neq n p) λb=>
 bd (gF b (some K)) λq=>
 bd (gF b (some l)) λr=>
 bd (gF b (ah .neq q r)) λt=>
 bd (pT b t) λa=>
 bd (gF a (some I)) λu=>
 bd (gF a (bQ u c.get)) λw=>
 bd (gF a (some k)) λx=>
 bd (gF a (ah .neq w x)) λy=>
 bd (pT a y) λz=>
 br z (jR (B false) c)
 (nm [(vq v 0),(vq v 1),(vq v 2),(vq v 3),(vq v 4)] c))
 (λd C=>bd (ah .add (vq d 4) (J 1)) λF=>
 nm [(vq d 0),(vq d 1),(vq d 2),(vq d 3),F] C)
 jE
 jR)
 (jE 0 [] s)
def f16:F4:=λkf N a0 p v s=>
 bd (ba p) λz=>
 bd (ab 1 z) λA=>
 bd (aa A s.get) λC=>
 ax (kf 57 [C] s) λk s1=>
 bd (ai k 0) λD=>
 bd (ai k 1) λE=>
 bd (ai k 2) λSB=>
 bd (ai k 3) λSC=>
 ax (aE s1 (a6 [iz,iz,iz,iz,iz,iz])) λu s2=>
 ax (aj 6 u E s2) λ_ s3=>
 ax (kf 29 [v] s3) λr x=>
 bd (ba p) λF=>
 bd (ab 0 F) λl=>
 bd (aa l x.get) λG=>
 ax (kf 63 [G] x) λt s5=>
 ck ((decide (aa l s3.get=aa l x.get)&&true)&&true) (ax (kf 23 [a0] s5) λH s6=>
 bd (ba p) λI=>
 bd (ab 1 I) λm=>
 bd (aa m s6.get) λK=>
 ax (kf 31 [H,K] s6) λL s7=>
 bd (gH .not L) λd=>
 bd (gF d (some a0)) λM=>
 ax (gS (gd d false) s7 (kf 27 [M] s7)) λO s8=>
 bd (gF d (some D)) λP=>
 ax (gS (gd d false) s8 (kf 66 [O,P] s8)) λQ y=>
 bd (gF d (gH .not Q)) λR=>
 bd (pT d R) λe=>
 bd (gF e (some a0)) λS=>
 ax (gS (gd e false) y (kf 32 [S] y)) λT g=>
 bd (gF e (ay 6 u g.get)) λU=>
 bd (gF e (xN (.a 6 [(0,.i),(1,.i),(2,.i),(3,.i),(4,.i),(5,.i)]) T U)) λV=>
 bd (pT e V) λc=>
 bd (gF c (some a0)) λW=>
 ax (gS (gd c false) g (kf 24 [W] g)) λX h=>
 bd (gF c (some p)) λY=>
 bd (gF c (ba Y)) λZ=>
 bd (gF c (ab 2 Z)) λn=>
 bd (gF c (aa n h.get)) λSj=>
 bd (gF c (ah .neq X Sj)) λSk=>
 bd (pT c Sk) λf=>
 bd (gF f (some r)) λSl=>
 bd (gF f (aG Sl)) λSm=>
 bd (gF f (some t)) λSn=>
 bd (gF f (aG Sn)) λSp=>
 bd (gF f (ah .neq Sm Sp)) λSr=>
 bd (pT f Sr) λb=>
 bd (gF b (some v)) λSs=>
 ax (gS (gd b false) h (kf 30 [Ss] h)) λSu j=>
 bd (gF b (some p)) λSv=>
 bd (gF b (ba Sv)) λSw=>
 bd (gF b (ab 0 Sw)) λo=>
 bd (gF b (aa o j.get)) λSx=>
 ax (gS (gd b false) j (kf 39 [Sx] j)) λSy q=>
 bd (gF b (ah .neq Su Sy)) λSz=>
 bd (pT b Sz) λSA=>
 ck ((decide (aa m s5.get=aa m s6.get)&&true)&&((wq (gd e false) (decide (ay 6 u y.get=ay 6 u g.get))&&true)&&((wq (gd c false) (decide (aa n g.get=aa n h.get))&&true)&&((wq (gd b false) (decide (aa o h.get=aa o j.get))&&true)&&true)))) (br SA (some ((B false),q))
 (jn (jn (loops (vg kf N) N [p,v,r,t,(J 0)] q)
 (jM [])
 jZ
 jR)
 (λSD w=>some ((B true),w))
 jN
 jT)))
theorem M3:My 16 f16:=λd a0 a b s=>(ak rfl Tryz.func16 (by kernel_rfl)).trans (by generalize R d=c;kernel_rfl)
end
end Go.Proofs.YtbohejffelipoaaGreatDoor
namespace Go.Proofs.YtbohejffelipoaaGreatDoor
end Go.Proofs.YtbohejffelipoaaGreatDoor
namespace Go.Proofs.YtbohejffelipoaaGreatDoor
open Go Go.Abs Go.Abs.F
abbrev Mx(s:St)(x:S)(l:List S):Prop:=Rd 1 s x l.length l
def BS(s:St)(x:S)(l:List S):Prop:=
 (x = .av/\l=[])\/(∃c rows,x = .emp c 1/\l=[]/\s.get c=some (.K true rows))\/∃c rows,x = .sl c 0 l.length (.grown 1)/\s.get c=some (.K true rows)/\l.length<=rows.length/\rows.take l.length=l
theorem BS.rd{s:St}{x:S}{l:List S}(h:BS s x l):Mx s x l:=by
 rcases h with ⟨rfl,rfl⟩ | ⟨c,rows,rfl,rfl,_⟩ | ⟨c,rows,rfl,d,g,e⟩
 ·exact Rd.nil 1 s
 ·exact⟨rfl,.inl ⟨rfl,.inr (.inl ⟨c,1,rfl⟩)⟩,rfl⟩
 ·exact⟨by simp,.inr ⟨c,0,_,_,rows,rfl,d,by omega,by simpa using e⟩,rfl⟩
theorem BS.keep{s t:St}{x:S}{l:List S}(h:BS s x l)(e:∀c,own x=some c->t.get c=s.get c):BS t x l:=by
 rcases h with h | ⟨c,rows,rfl,rfl,d⟩ | ⟨c,rows,rfl,d,g,j⟩
 ·exact .inl h
 ·exact .inr (.inl ⟨c,rows,rfl,rfl,by rw[e c rfl];exact d⟩)
 ·exact .inr (.inr ⟨c,rows,rfl,by rw[e c rfl];exact d,g,j⟩)
theorem BS.lt{s:St}{x:S}{l:List S}(h:BS s x l)(g:s.wf){c:Nat}(e:own x=some c):c<s.size:=by
 rcases h with ⟨rfl,rfl⟩ | ⟨j,rows,rfl,rfl,d⟩ | ⟨j,rows,rfl,d,k,n⟩
 ·cases e
 ·cases e;exact g.lt d
 ·cases e;exact g.lt d
theorem Gk{s:St}{x y:S}{l xs:List S}(r:BS s x l)(n:s.wf)(E:Mx s y xs)(F:l.length+xs.length<=100000) :
 ∃x' t,aF 1 1 (Z x) (Z y) s=some (Z x',t)/\t.wf/\s.size<=t.size/\BS t x' (l++xs)/\(∀b,b<s.size->own x≠some b->t.get b=s.get b)/\(own x'=none\/own x'=own x\/∃c,own x'=some c/\s.size<=c):=by
 have d:=E.src;have C:(l.length+xs.length)*1<=140737488355328:=by omega
 rcases r with ⟨rfl,rfl⟩ | ⟨c,rows,rfl,rfl,o⟩ | ⟨c,rows,rfl,o,B,u⟩
 ·by_cases j:xs.length=0
  ·have:xs=[]:=cJ j;subst this;exact⟨.av,s,by simp[aF,d],n,au _,.inl ⟨rfl,rfl⟩,λ_ _ _=>rfl,.inl rfl⟩
  ·have g:xs.length*1<=140737488355328:=by omega
   refine⟨.sl s.size 0 xs.length (.grown 1),s.push (.K true xs),?_,St.bo n _,by simp,.inr (.inr ⟨s.size,xs,by simp,St.ec,by simp,by simp⟩),λb r _=>St.j5 (by omega),.inr (.inr ⟨_,rfl,au _⟩)⟩;simp only[aF,d,ae j,af g];rfl
 ·have k:=n.lt o;by_cases j:xs.length=0
  ·have:xs=[]:=cJ j;subst this;exact⟨.emp c 1,s,by simp[aF,d],n,au _,.inr (.inl ⟨c,rows,rfl,rfl,o⟩),λ_ _ _=>rfl,.inr (.inl rfl)⟩
  ·have g:1=1/\xs.length*1<=140737488355328:=⟨rfl,by omega⟩
   have z:((s.set c .dead).push (.K true xs)).get s.size=some (.K true xs):=by
    have:=St.bf (s.set c .dead) (.K true xs)
    rwa [St.size_set]at this
   refine⟨.sl s.size 0 xs.length (.grown 1),(s.set c .dead).push (.K true xs),?_,St.bo (St.wf_set n k _) _,by simp,.inr (.inr ⟨s.size,xs,by simp,z,by simp,by simp⟩),λb r h => ?_,.inr (.inr ⟨_,rfl,au _⟩)⟩
   ·unfold aF;rw[d];dsimp only;rw[ae (by decide),af g,ae j,o]
   ·have:b≠c:=λe=>h (by rw[e];rfl)
    rw[St.j5 (by rw[St.size_set];omega),St.bO this]
 ·have k:=n.lt o;have g:1=1/\(l.length+xs.length)*1<=140737488355328:=⟨rfl,C⟩;by_cases j:xs.length=0
  ·have:xs=[]:=cJ j;subst this;refine⟨.sl c 0 l.length (.grown 1),s,?_,n,au _,.inr (.inr ⟨c,rows,by simp,o,by simpa using B,by simpa using u⟩),λ_ _ _=>rfl,.inr (.inl rfl)⟩;unfold aF;rw[d];dsimp only;rw[ae (by decide),af g,af j]
  ·by_cases D:l.length+xs.length<=rows.length
   ·have q:0+(l.length+xs.length)*1<=rows.length:=(by omega);refine⟨.sl c 0 (l.length+xs.length) (.grown 1),s.set c (.K true (aQ rows (0+l.length*1) xs)),?_,St.wf_set n k _,by simp,.inr (.inr ⟨c,_,by simp,St.dh,by simpa using D,?_⟩),λb r h => ?_,.inr (.inl rfl)⟩
    ·unfold aF;rw[d];dsimp only;rw[ae (by decide),af g,ae j,o];dsimp only;rw[af q]
    ·rw[cy _ _ _ (by omega),aI,show 0+l.length*1=l.length by omega,u];rw[lL (by simp)];exact b8 (by simp)
    ·have:b≠c:=λe=>h (by rw[e];rfl)
     exact St.bO this
   ·have q:¬0+(l.length+xs.length)*1<=rows.length:=(by omega);have w:0+l.length*1<=rows.length:=by omega
    have z:((s.set c .dead).push (.K true (l++xs))).get s.size=some (.K true (l++xs)):=by
     have:=St.bf (s.set c .dead) (.K true (l++xs))
     rwa [St.size_set]at this
    refine⟨.sl s.size 0 (l.length+xs.length) (.grown 1),(s.set c .dead).push (.K true (l++xs)),?_,St.bo (St.wf_set n k _) _,by simp,.inr (.inr ⟨s.size,l++xs,by simp,z,by simp,by rw[dE]⟩),λb r h => ?_,.inr (.inr ⟨_,rfl,au _⟩)⟩
    ·unfold aF;rw[d];dsimp only;rw[ae (by decide),af g,ae j,o];dsimp only;rw[ae q,af w,ek,dZ,u]
    ·have:b≠c:=λe=>h (by rw[e];rfl)
     rw[St.j5 (by rw[St.size_set];omega),St.bO this]
theorem PA{s:St}{x:S}{l:List S}(j:BS s x l){k:Nat}(d:k<=l.length) :
 ∃x',aB 1 (Z x) none (some (J k)) none=some (Z x')/\BS s x' (l.take k)/\(own x'=none\/own x'=own x):=by
 rcases j with ⟨rfl,rfl⟩ | ⟨c,rows,rfl,rfl,g⟩ | ⟨c,rows,rfl,g,r,h⟩
 ·have:k=0:=by simpa using d
  subst this;exact⟨.av,rfl,.inl ⟨rfl,rfl⟩,.inl rfl⟩
 ·have:k=0:=by simpa using d
  subst this;exact⟨.emp c 1,rfl,.inr (.inl ⟨c,rows,rfl,rfl,g⟩),.inr rfl⟩
 ·by_cases q:l.length=0
  ·have o:l=[]:=cJ q;subst o;have:k=0:=by simpa using d
   subst this;exact⟨.emp c 1,rfl,.inr (.inl ⟨c,rows,rfl,rfl,g⟩),.inr rfl⟩
  ·have n:(k:Int)<=(l.length:Int):=by omega
   have e:0<l.length:=by omega
   refine⟨.sl c 0 k (.grown 1),?_,.inr (.inr ⟨c,rows,by rw[bb,gp d],g,by rw[bb];omega,?_⟩),.inr rfl⟩
   ·unfold aB;dsimp only;rw[af rfl,fM d];dsimp only;rw[af e];simp
   ·rw[bb,gp d];have:=bw (List.take k) h
    rwa [gm,gp d]at this
structure Fl where
 nm:List UInt8
 fb:Nat
 x:S
 l:List S
 sure:Nat
def jI(fs:List Fl):List (S×V):=fs.map λf=>(S.str f.nm,V.s (.ptr f.fb 0))
structure Dk(s:St)(i m:Nat)(room:Int)(fs:List Fl):Prop where
 wf:s.wf
 ri:s.get i=some (.K true [.int .i64 room,.map m])
 mp:s.get m=some (.map (jI fs))
 fl:∀(k:Nat) (f:Fl),fs[k]? = some f->s.get f.fb=some (.K true [f.x,.int .i64 f.sure])/\BS s f.x f.l/\f.sure<=f.l.length/\f.l.length<=50000/\f.fb≠i/\f.fb≠m/\∀c,own f.x=some c->c≠i/\c≠m
 ap:∀(k k':Nat) (f f':Fl),fs[k]? = some f->fs[k']? = some f'->(k≠k'->f.fb≠f'.fb)/\∀c,own f.x=some c->c≠f'.fb/\(k≠k'->own f'.x≠some c)
 nm:(fs.map (·.nm)).Nodup
section
variable {s t:St}{i m:Nat}{room:Int}{fs:List Fl}
theorem Dk.gr(h:Dk s i m room fs)(g:Gr s t):Dk t i m room fs:=by
 obtain⟨j,o,a⟩:=g;refine⟨j,by rw[a i (h.wf.lt h.ri)];exact h.ri,by rw[a m (h.wf.lt h.mp)];exact h.mp,λk f n => ?_,h.ap,h.nm⟩;obtain⟨b,d,e⟩:=h.fl k f n;exact⟨by rw[a _ (h.wf.lt b)];exact b,d.keep λc l=>a c (d.lt h.wf l),e⟩
theorem Dk.yj(h:Dk s i m room fs){k:Nat}{f:Fl}(u:fs[k]? = some f){x':S}{B:List S}{d:Nat}(Sm:t.wf)(Sl:s.size<=t.size)(O:∀b,b<s.size->b≠f.fb->own f.x≠some b->t.get b=s.get b)
 (U:t.get f.fb=some (.K true [x',.int .i64 d])) (R:BS t x' B) (E:d<=B.length) (hl:B.length<=50000) (hx:own x'=none\/own x'=own f.x\/∃c,own x'=some c/\s.size<=c) :
 Dk t i m room (fs.set k { f with x:=x',l:=B,sure:=d }):=by
 obtain⟨Sj,Sn,Sp,a4,Y,Z,Q⟩:=h.fl k f u;have hi:=h.wf.lt h.ri;have Sk:=h.wf.lt h.mp;obtain⟨D,J⟩:=bq.1 u
 have C:jI (fs.set k { f with x:=x',l:=B,sure:=d })=jI fs:=by
  unfold jI;rw[uB];apply nt;intro j;rw[ru];by_cases r:k=j
  ·subst r;simp[D,J]
  ·simp[r]
 have q:∀c,own x'=some c->own f.x=some c\/s.size<=c:=λc n=>by
  rcases hx with e | e | ⟨c',e,T⟩
  ·rw[e]at n;cases n
  ·exact .inl (e ▸ n)
  ·rw[e]at n;cases n;exact .inr T
 have o:∀j g,(fs.set k { f with x:=x',l:=B,sure:=d })[j]? = some g->(j=k/\g={ f with x:=x',l:=B,sure:=d })\/(j≠k/\fs[j]? = some g):=λj g z=>by
  rw[ru]at z;by_cases r:k=j
  ·subst r;simp[D]at z;exact .inl ⟨rfl,z.symm⟩
  ·rw[ae r]at z;exact .inr ⟨λe=>r e.symm,z⟩
 refine⟨Sm,by rw[O i hi (bu Y) (λe=>(Q i e).1 rfl)];exact h.ri,by rw[O m Sk (bu Z) (λe=>(Q m e).2 rfl),C];exact h.mp,λj g z => ?_,λj H g G z N => ?_,?_⟩
 ·rcases o j g z with ⟨rfl,rfl⟩ | ⟨r,w⟩
  ·refine⟨U,R,E,hl,Y,Z,λc n => ?_⟩;rcases q c n with e | e
   ·exact Q c e
   ·exact⟨by omega,by omega⟩
  ·obtain⟨I,F,b3⟩:=h.fl j g w;have p1:=(h.ap j k g f w u).1 r;refine⟨by rw[O _ (h.wf.lt I) p1 (λe=>((h.ap k j f g u w).2 _ e).1 rfl)];exact I,F.keep λc n=>O c (F.lt h.wf n) ((h.ap j k g f w u).2 c n).1 (λe=>((h.ap k j f g u w).2 c e).2 (bu r) n),b3⟩
 ·rcases o j g z with ⟨rfl,rfl⟩ | ⟨r,w⟩
  ·rcases o H G N with ⟨rfl,rfl⟩ | ⟨V,y⟩
   ·refine⟨λe=>absurd rfl e,λc n=>⟨?_,λe=>absurd rfl e⟩⟩;rcases q c n with e | e
    ·exact((h.ap _ _ f f u u).2 c e).1
    ·have:=h.wf.lt Sj;show c≠f.fb
     omega
   ·obtain⟨I,F,_⟩:=h.fl H G y;refine⟨λe=>(h.ap _ H f G u y).1 e,λc n => ?_⟩;rcases q c n with e | e
    ·exact(h.ap _ H f G u y).2 c e
    ·have:=h.wf.lt I;exact⟨by omega,λ_ e'=>by have:=F.lt h.wf e';omega⟩
  ·rcases o H G N with ⟨rfl,rfl⟩ | ⟨V,y⟩
   ·obtain⟨I,F,_⟩:=h.fl j g w;refine⟨λe=>(h.ap j _ g f w u).1 e,λc n=>⟨((h.ap j _ g f w u).2 c n).1,λX e => ?_⟩⟩;rcases q c e with e' | e'
    ·exact((h.ap j _ g f w u).2 c n).2 X e'
    ·have:=F.lt h.wf n;omega
   ·exact h.ap j H g G w y
 ·have:(fs.set k { f with x:=x',l:=B,sure:=d }).map (·.nm)=fs.map (·.nm):=by
   rw[uB];apply nt;intro j;rw[ru];by_cases r:k=j
   ·subst r;simp[D,J]
   ·simp[r]
  rw[this];exact h.nm
theorem AY:∀(fs:List Fl) (k k0:Nat) (f:Fl),(fs.map (·.nm)).Nodup->fs[k]? = some f->ig (.str f.nm) (jI fs) k0=some (some (k0+k,V.s (.ptr f.fb 0))):=by
 intro fs;induction fs with
 |nil=>intro k k0 f _ h;simp at h
 |cons a r n=>
  intro k k0 f d c;rw[eE,o2]at d;cases k with
  |zero=>
   simp at c;subst c;simp[jI,ig,lD]
  |succ k=>
   simp at c;have g:f.nm≠a.nm:=λe=>d.1 (by rw[<-e];exact gX (f:=Fl.nm) (bS c))
   have:=n k (k0+1) f d.2 c;have j:ig (.str f.nm) (jI (a::r)) k0=ig (.str f.nm) (jI r) (k0+1):=by simp[jI,ig,lD,g]
   rw[j,this,show k0+1+k=k0+(k+1) by omega]
theorem AZ:∀(fs:List Fl) (k0:Nat) (n:List UInt8),(∀f∈fs,f.nm≠n)->ig (.str n) (jI fs) k0=some none:=by
 intro fs;induction fs with
 |nil=>intro k0 n _;rfl
 |cons a r g=>
  intro k0 n h;have c:n≠a.nm:=λe=>h a eF e.symm
  have:=g (k0+1) n λf d=>h f (dC _ d)
  simpa[jI,ig,lD,c]using this
theorem Dk.R5(h:Dk s i m room fs):aa (Z (.ptr i 0)) s.get=some (J room):=ag h.ri rfl
theorem Dk.PR(h:Dk s i m room fs):aa (Z (.ptr i 1)) s.get=some (Z (.map m)):=ag h.ri rfl
theorem Dk.look(h:Dk s i m room fs){k:Nat}{f:Fl}(a:fs[k]? = some f):Go.Abs.F.look .s false (.s (.c9)) (Z (.map m)) (Z (.str f.nm)) s.get=some (Z (.ptr f.fb 0)):=by
 simp[Go.Abs.F.look,isKey,jt,h.mp,AY fs k 0 f h.nm a]
theorem Dk.KQ(h:Dk s i m room fs){n:List UInt8}(a:∀f∈fs,f.nm≠n):Go.Abs.F.look .s false (.s (.c9)) (Z (.map m)) (Z (.str n)) s.get=some (Z .c9):=by
 simp[Go.Abs.F.look,isKey,jt,h.mp,AZ fs 0 n a]
def Ah(n:List UInt8):Prop:=∀(d:Nat) s,R (d+1) 90 [Z (.str n)] s=some (B true,s)
theorem oE(d:Nat)(h:Dk s i m room fs){k:Nat}{f:Fl}(b:fs[k]? = some f)(c:Ah f.nm):R (d+2) 36 [Z (.ptr i 0),Z (.str f.nm)] s=some (.c6 [.s (.ptr f.fb 0),.s (iz)],s):=by
 have e:=h.PR;have g:=h.look b;rw[tZ];unfold f36;have a:R (d+1) 90 [Z (.str f.nm)] s=some (B true,s):=c d s;generalize R (d+1)=r at a ⊢;simp[a,e,g,aD,a8]
theorem kZ(d:Nat)(h:Dk s i m room fs){n:List UInt8}(c:∀f∈fs,f.nm≠n)(b:Ah n):R (d+2) 36 [Z (.ptr i 0),Z (.str n)] s=some (.c6 [.s .c9,.s (.int .i64 9)],s):=by
 have e:=h.PR;have g:=h.KQ c;rw[tZ];unfold f36;have a:R (d+1) 90 [Z (.str n)] s=some (B true,s):=b d s;generalize R (d+1)=r at a ⊢;simp[a,e,g,aD,a8]
theorem Dn(d:Nat)(s:St){a:List T}{r:T×St}(h:fT 29 a s=some r):R (d+1) 29 a s=some r:=ep ((bA rfl).trans (dG h))
theorem zj:∀(fs:List Fl),(fs.map (·.nm)).Nodup->(∀f∈fs,f.nm.length<=1000)->kO (jI fs)=some (fs.map (·.nm)):=by
 intro fs;induction fs with
 |nil=>intro _ _;rfl
 |cons a r k=>
  intro c d;rw[eE,o2]at c;have e:=k c.2 λf j=>d f (dC _ j)
  have g:Nat.ble a.nm.length 1000=true:=dw (d a eF);have h:(r.map (·.nm)).contains a.nm=false:=by simpa using c.1
  show kO ((S.str a.nm,V.s (.ptr a.fb 0))::jI r)=_
  unfold kO;simp only[e,g,h];rfl
theorem pL(d:Nat)(h:Dk s i m room fs)(o:∀f∈fs,f.nm.length<=1000)(n:fs.length<=1000) :
 (fs=[]/\R (d+1) 29 [Z (.ptr i 0)] s=some (Z .av,s))\/(fs≠[]/\R (d+1) 29 [Z (.ptr i 0)] s=some (Z (.sl s.size 0 fs.length (.grown 1)),s.push (.K false ((dL (fs.map (·.nm))).map S.str)))):=by
 have j:=zj fs h.nm o;have g:Nat.ble (jI fs).length 1000=true:=dw (by simpa[jI]using n);have k:∀r,fT 29 [Z (.ptr i 0)] s=some r->R (d+1) 29 [Z (.ptr i 0)] s=some r:=λr q=>Dn d s q
 cases fs with
 |nil=>
  refine .inl ⟨rfl,k _ ?_⟩;have c:=h.ri;have e:=h.mp;unfold fT;simp only[c,p9,lZ,e,g,j,jz,a7]
 |cons a r=>
  refine .inr ⟨by simp,k _ ?_⟩;have c:=h.ri;have e:=h.mp;unfold fT;simp only[c,p9,lZ,e,g,j,eE,a7];simp
end
theorem sa:∀a b:List UInt8,td a b=true↔a<=b
 | [],b=>by simp[td]
 |x::r,[]=>by simp[td]
 |x::r,y::t=>by
  rw[List.cons_le_cons_iff,<-sa r t]
  have j:∀a b:Nat,Nat.blt a b=decide (a<b):=λa b=>by
   by_cases h:a<b
   ·rw[aK h];simpa using h
   ·rw[aR h,<-Ee];simpa using h
  have k:∀a b:Nat,Nat.beq a b=decide (a=b):=λa b=>by
   by_cases h:a=b
   ·rw[aK h];subst h;exact kQ a
   ·rw[aR h,<-Ee];exact λe=>h (dY e)
  rw[td,j,k];by_cases h:x.toNat<y.toNat
  ·simp only[aK h,true_iff];exact .inl (FZ.2 h)
  ·have d:¬x<y:=λe=>h (FZ.1 e)
   simp only[aR h];by_cases e:x.toNat=y.toNat
   ·have c:x=y:=nk e;simp[d,c]
   ·have c:x≠y:=λg=>e (by rw[g])
    simp[e,d,c]
theorem wP:∀{es:List (S×V)} {ks:List (List UInt8)},kO es=some ks->es.map (·.1)=ks.map S.str/\ks.Nodup/\∀n∈ks,n.length<=1000:=by
 intro es;induction es with
 |nil=>intro ks h;cases h;exact⟨rfl,.nil,λn c=>by cases c⟩
 |cons p r q=>
  intro ks h;obtain⟨k,v⟩:=p;unfold kO at h;split at h
  ·rename_i heq;cases heq
  ·rename_i n u t heq;cases heq;split at h
   ·rename_i l o;split at h
    ·rename_i d;cases h;obtain⟨e,g,j⟩:=q o;rw[aM]at d;have c:n∉l:=by simpa using d.2
     refine⟨by simp[e],o2.2 ⟨c,g⟩,λm hm => ?_⟩;rcases cq.1 hm with rfl | hm
     ·exact cm d.1
     ·exact j m hm
    ·cases h
   ·cases h
  ·cases h
theorem si(n:List UInt8):∀l:List (List UInt8),(G9 n l).Perm (n::l)
 | [] => .refl _
 |m::r=>by
  unfold G9;cases td n m with
  |true=>exact .refl _
  |false=>exact((si n r).cons m).trans (.swap n m r)
theorem tk(n:List UInt8):∀l:List (List UInt8),l.Pairwise (· ≤ ·)->(G9 n l).Pairwise (· ≤ ·)
 | [],_=>List.pairwise_singleton _ _
 |m::r,h=>by
  unfold G9;cases d:td n m with
  |true=>
   have c:=(sa n m).1 d;refine eT.2 ⟨λx hx => ?_,h⟩;rcases cq.1 hx with rfl | hx
   ·exact c
   ·exact List.le_trans c ((eT.1 h).1 x hx)
  |false=>
   have c:m<=n:=by
    rcases List.le_total m n with h | h
    ·exact h
    ·rw[(sa n m).2 h]at d;cases d
   refine eT.2 ⟨λx hx => ?_,tk n r (eT.1 h).2⟩;rcases cq.1 ((si n r).mem_iff.1 hx)with rfl | hx
   ·exact c
   ·exact(eT.1 h).1 x hx
theorem dR:∀l:List (List UInt8),(dL l).Perm l
 | [] => .refl _
 |n::r=>(si n _).trans ((dR r).cons n)
theorem nY:∀l:List (List UInt8),(dL l).Pairwise (· ≤ ·)
 | [] => .nil
 |n::r=>tk n _ (nY r)
theorem wQ(l:List (List UInt8)):l.mergeSort (λx y=>decide (x<=y))=dL l:=by
 have e:(l.mergeSort (λx y=>decide (x<=y))).Perm (dL l):=(List.mergeSort_perm _ _).trans (dR l).symm
 have f:(l.mergeSort (λx y=>decide (x<=y))).Pairwise (· ≤ ·):=by
  have:=List.pairwise_mergeSort (le:=λx y:List UInt8=>decide (x<=y)) (by intro a b c;simp only[bK];exact List.le_trans) (by intro a b;simp only[kv,bK];exact List.le_total a b) l;exact this.imp λh=>by simpa using h
 exact e.eq_of_pairwise (λa b _ _ h d=>List.le_antisymm h d) f (nY l)
def tot(fs:List Fl):Nat:=(fs.map (·.l.length)).sum
def lenOf:List Fl->List UInt8->Nat
 | [],_=>0
 |f::r,n=>if f.nm=n then f.l.length else lenOf r n
theorem BC:∀(fs:List Fl) (k:Nat) (f:Fl),(fs.map (·.nm)).Nodup->fs[k]? = some f->lenOf fs f.nm=f.l.length:=by
 intro fs;induction fs with
 |nil=>intro k f _ h;simp at h
 |cons a r j=>
  intro k f d c;rw[eE,o2]at d;cases k with
  |zero=>simp at c;subst c;simp[lenOf]
  |succ k=>
   simp at c;have g:a.nm≠f.nm:=λe=>d.1 (by rw[e];exact gX (f:=Fl.nm) (bS c))
   simp only[lenOf,ae g];exact j k f d.2 c
theorem L7{l r:List Nat}(h:l.Perm r):l.sum=r.sum:=by
 induction h with
 |nil=>rfl
 |cons a _ e=>simp[e]
 |swap a b l=>simp;omega
 |trans _ _ c d=>exact c.trans d
theorem DZ{fs:List Fl}(c:(fs.map (·.nm)).Nodup):((dL (fs.map (·.nm))).map (lenOf fs)).sum=tot fs:=by
 rw[L7 ((dR _).map (lenOf fs)),jy];unfold tot
 congr 1
 apply oZ;intro f a;obtain⟨k,b⟩:=iT a;exact BC fs k f c b
section
variable {s t:St}{i m:Nat}{room:Int}{fs:List Fl}
theorem Mb:∀(fs:List Fl),(∀f∈fs,f.l.length<=50000)->tot fs<=50000*fs.length:=by
 intro fs;induction fs with
 |nil=>intro _;simp[tot]
 |cons a r e=>
  intro h;have c:=e λf d=>h f (dC _ d)
  have g:=h a eF;simp only[tot,eE,List.sum_cons,bB]at c ⊢;omega
theorem OC{ks:List (List UInt8)}{fs:List Fl}(j:Nat):((ks.take j).map (lenOf fs)).sum<=(ks.map (lenOf fs)).sum:=by
 have:ks.map (lenOf fs)=(ks.take j).map (lenOf fs)++(ks.drop j).map (lenOf fs):=by rw[<-lK,rA]
 rw[this,FL];omega
theorem xo(d:Nat)(h:Dk s i m room fs)(hl:∀f∈fs,f.nm.length<=1000)(Q:fs.length<=500):∃t,R (d+2) 30 [Z (.ptr i 0)] s=some (J (tot fs),t)/\Gr s t:=by
 rw[M9];unfold f30;rcases pL d h hl (by omega)with ⟨rfl,e⟩ | ⟨Sj,e⟩
 ·refine⟨s,?_,Gr.refl h.wf⟩;generalize R (d+1)=r at e ⊢
  have lp:loops (pM r 8192) 8192 [Z (.ptr i 0),J 0,Z .av,J 0,J 0] s=some (.exit 0 [J 0],s):=by
   rw[show(8192:Nat)=8191+1 from rfl,loops]
   have:pM r 8192 [Z (.ptr i 0),J 0,Z .av,J 0,J 0] s=some (.exit 0 [J 0],s):=by
    unfold pM;simp
   rw[this]
  simp[e,lp,tot]
 ·obtain⟨ks,c⟩:=aZ (dL (fs.map (·.nm)));rw[<-c]at e;obtain⟨t,I⟩:=aZ (s.push (.K false (ks.map S.str)));rw[<-I]at e;have g:Gr s t:=by rw[I];exact Gr.push h.wf _
  have D:=h.gr g;have Y:ks.length=fs.length:=by rw[c,(dR _).length_eq,oY]
  have B:=DZ h.nm;rw[<-c]at B
  have Sk:=Mb fs λf Q=>by
   obtain⟨k,T⟩:=iT Q;exact(h.fl k f T).2.2.2.1
  have w:t.get s.size=some (.K false (ks.map S.str)):=by rw[I];exact St.ec
  refine⟨t,?_,g⟩;generalize R (d+1)=r at e ⊢
  obtain⟨j,Sn,F,E,O⟩:=aL (f:=pM r 8192) (λk v u=>∃j:Nat,k+j=fs.length/\v=[Z (.ptr i 0),J ((ks.take j).map (lenOf fs)).sum,Z (.sl s.size 0 fs.length (.grown 1)),J fs.length,J j]/\u=t) (λj u=>j = .exit 0 [J (tot fs)]/\u=t) (by
   rintro k v u ⟨j,T,rfl,rfl⟩;by_cases E:j<fs.length
   ·left;obtain⟨nm,o⟩:∃nm,ks[j]? = some nm:=⟨_,aU (by omega)⟩;have y:nm∈fs.map (·.nm):=(dR _).mem_iff.1 (by rw[<-c];exact bS o);obtain⟨f,C,rfl⟩:=gl.1 y;obtain⟨q,H⟩:=iT C;have ix:ar 1 (Z (.sl s.size 0 fs.length (.grown 1))) (J j)=some (Z (.ptr s.size j)):=(by rw[eu rfl E];simp);have ld:aa (Z (.ptr s.size j)) u.get=some (Z (.str f.nm)):=ag w (by rw[cL,o];rfl);have lk:=D.look H;obtain⟨U,V,_⟩:=D.fl q f H;have lf:aa (Z (.ptr f.fb 0)) u.get=some (Z f.x):=ag U rfl;have Sm:=V.rd.lens;have G:=OC (ks:=ks) (fs:=fs) (j+1)
    have z:((ks.take (j+1)).map (lenOf fs)).sum=((ks.take j).map (lenOf fs)).sum+f.l.length:=by
     rw[cM,o,lK,FL];simp[BC fs q f h.nm H]
    have w1:IntKind.i64.wrap ((((ks.take j).map (lenOf fs)).sum:Nat)+f.l.length:Int)=(((ks.take (j+1)).map (lenOf fs)).sum:Nat):=by
     rw[aw _ (by omega) (by omega),z];omega
    have w2:IntKind.i64.wrap ((j:Int)+1)=(j:Int)+1:=aw _ (by omega) (by omega);have n:(j:Int)<(fs.length:Int):=(by omega);have Sl:=D.PR;refine⟨[Z (.ptr i 0),J (((ks.take (j+1)).map (lenOf fs)).sum:Nat),Z (.sl s.size 0 fs.length (.grown 1)),J fs.length,J ((j:Int)+1)],u,k-1,?_,by omega,j+1,by omega,by simp,rfl⟩;generalize((ks.take j).map (lenOf fs)).sum=A at w1 ⊢;generalize((ks.take (j+1)).map (lenOf fs)).sum=A' at w1 ⊢;unfold pM;simp[n,ix,ld,Sl,lk,lf,Sm,w1,w2]
   ·right;have n:¬(j:Int)<(fs.length:Int):=(by omega);have X:j=fs.length:=(by omega);have N:ks.take j=ks:=b8 (by omega);refine⟨_,u,?_,(λv hv=>by cases hv),rfl,rfl⟩;rw[N,B];unfold pM;simp[n]) 8192 fs.length [Z (.ptr i 0),J 0,Z (.sl s.size 0 fs.length (.grown 1)),J fs.length,J 0] t ⟨0,by omega,by simp,rfl⟩ (by omega)
  subst E;subst O;simp[e,F]
def Rq(fs:List Fl):Prop:=(∀f∈fs,f.nm.length<=1000)/\fs.length<=100
theorem A4(fs:List Fl)(f:Fl):jI (fs++[f])=jI fs++[(S.str f.nm,V.s (.ptr f.fb 0))]:=by simp[jI]
theorem Dk.more(h:Dk s i m room fs){f:Fl}(N:∀g∈fs,g.nm≠f.nm)(Sk:t.wf)(Sj:s.size<=t.size)(F:∀b,b<s.size->b≠m->t.get b=s.get b)(Y:t.get m=some (.map (jI (fs++[f]))))
 (H:t.get f.fb=some (.K true [f.x,.int .i64 f.sure])) (Sl:s.size<=f.fb) (G:BS t f.x f.l) (q:f.sure<=f.l.length) (X:f.l.length<=50000) (D:∀c,own f.x=some c->s.size<=c/\c≠f.fb) :
 Dk t i m room (fs++[f]):=by
 have hi:=h.wf.lt h.ri;have Z:=h.wf.lt h.mp
 have J:m≠i:=λe=>by
  have R:=h.mp;rw[e,h.ri]at R;cases R
 have d:∀j g,(fs++[f])[j]? = some g->(j<fs.length/\fs[j]? = some g)\/(j=fs.length/\g=f):=λj g k=>by
  by_cases B:j<fs.length
  ·rw[kx B]at k;exact .inl ⟨B,k⟩
  ·rw[ky (by omega)]at k
   have:j-fs.length=0:=by
    have:=(bq.1 k).1;simp at this;omega
   rw[this]at k;simp at k;exact .inr ⟨by omega,k.symm⟩
 refine⟨Sk,by rw[F i hi (bu J)];exact h.ri,Y,λj g k => ?_,λj E g z k y => ?_,?_⟩
 ·rcases d j g k with ⟨B,C⟩ | ⟨rfl,rfl⟩
  ·obtain⟨r,u,S,T,U,O,Q⟩:=h.fl j g C;exact⟨by rw[F _ (h.wf.lt r) O];exact r,u.keep λc n=>F c (u.lt h.wf n) (Q c n).2,S,T,U,O,Q⟩
  ·exact⟨H,G,q,X,by omega,by omega,λc n=>by have:=(D c n).1;exact⟨by omega,by omega⟩⟩
 ·rcases d j g k with ⟨B,C⟩ | ⟨rfl,rfl⟩
  ·obtain⟨r,u,_⟩:=h.fl j g C;rcases d E z y with ⟨I,o⟩ | ⟨rfl,rfl⟩
   ·exact h.ap j E g z C o
   ·have:=h.wf.lt r
    exact⟨λ_=>by omega,λc n=>by
     have:=u.lt h.wf n;exact⟨by omega,λ_ e=>by have:=(D c e).1;omega⟩⟩
  ·rcases d E z y with ⟨I,o⟩ | ⟨rfl,rfl⟩
   ·obtain⟨r,u,_⟩:=h.fl E z o;have:=h.wf.lt r
    exact⟨λ_=>by omega,λc n=>by
     have:=(D c n).1;exact⟨by omega,λ_ e=>by have:=u.lt h.wf e;omega⟩⟩
   ·exact⟨λe=>absurd rfl e,λc n=>⟨(D c n).2,λe=>absurd rfl e⟩⟩
 ·rw[lK,List.nodup_append];refine⟨h.nm,by simp,λa V b w => ?_⟩;obtain⟨g,k,rfl⟩:=gl.1 V;simp at w;subst w;exact N g k
theorem sO(d:Nat)(h:Dk s i m room fs)(hn:Rq fs){nm:List UInt8}(B:∀g∈fs,g.nm≠nm)(Sy:Ah nm){y:S}{xs:List S}(hy:Mx s y xs)(Sl:∀c,own y=some c->c<s.size)
 (Sm:own y≠some m) (Sj:(tot fs:Int)+xs.length<=room) (Sr:xs.length<=40000) :
 ∃x' Sp t,R (d+3) 12 [Z (.ptr i 0),Z (.str nm),Z y] s=some (J 0,t)/\Dk t i m room (fs++[⟨nm,Sp,x',xs,0⟩])/\s.size<=t.size/\(∀b,b<s.size->b≠m->t.get b=s.get b)/\s.size<=Sp/\(∀c,own x'=some c->s.size<=c):=by
 rw[MZ];unfold f12;have e1:=kZ d h B Sy;obtain⟨j,e2,g⟩:=xo d h hn.1 (by have:=hn.2;omega);have N:=h.gr g;have Sx:=hn.2;have SB:=h.R5;have Sn:=N.R5;have SC:=h.PR;have U:=hy.lens
 have SA:=Mb fs λf Sw=>by
  obtain⟨k,hk⟩:=iT Sw;exact(h.fl k f hk).2.2.2.1
 have w1:IntKind.i64.wrap ((tot fs:Int)+xs.length)=(tot fs:Int)+xs.length:=aw _ (by omega) (by omega);have hr:¬room<(tot fs:Int)+xs.length:=by omega
 have X:lr (Z (.map m)) s.get=some (J fs.length):=by simp[lr,h.mp,jI]
 have Q:¬(fs.length:Int)=200:=by omega
 obtain⟨s2,u⟩:=aZ (j.push (.K true [.av,iz]));have G:Gr j s2:=by rw[u];exact Gr.push N.wf _
 have E:s2.get j.size=some (.K true [.av,iz]):=by rw[u];exact St.ec
 have C:=N.gr G;have l2:=C.PR;have nw:aE j (b6 (.v (.agg [.av,iz])))=some (Z (.ptr j.size 0),s2):=by simp[aE,b6,V.cells,u]
 obtain⟨w,q⟩:=aZ (s2.set m (.map (jI fs++[(S.str nm,V.s (.ptr j.size 0))])))
 have ms:G3 .s (Z (.map m)) (Z (.str nm)) (Z (.ptr j.size 0)) s2=some (tt,w):=by
  simp[G3,isKey,kG,C.mp,AZ fs 0 nm B,q]
 have Y:=C.wf.lt C.mp;have f3:w.wf:=by rw[q];exact St.wf_set C.wf Y _
 have z3:w.size=s2.size:=by rw[q];rfl
 have H:∀b,b≠m->w.get b=s2.get b:=λb D=>by rw[q,St.bO D]
 have Sz:=h.wf.lt h.mp;have F:=g.2.1;have Ss:s2.size=j.size+1:=by rw[u];rfl
 have x:w.get j.size=some (.K true [.av,iz]):=by rw[H _ (by omega)];exact E
 have lf:aa (Z (.ptr j.size 0)) w.get=some (Z .av):=ag x rfl
 have Sk:Mx w y xs:=hy.keep λc n=>by
  have:=Sl c n;rw[H c (λe=>Sm (by rw[<-e];exact n)),G.2.2 c (by omega),g.2.2 c this]
 obtain⟨x',t,Sv,q1,q2,q3,I,q5⟩:=Gk (l:=[]) (.inl ⟨rfl,rfl⟩:BS w .av []) f3 Sk (by simp;omega);have T:t.get j.size=some (.K true [.av,iz]):=by rw[I j.size (by omega) (by simp[own])];exact x
 have st:aj 1 (Z (.ptr j.size 0)) (Z x') t=some (tt,t.set j.size (.K true [x',iz])):=aJ T (by simp)
 have o:∀c,own x'=some c->w.size<=c:=λc n=>by
  rcases q5 with e | e | ⟨c',e,O⟩
  ·rw[e]at n;cases n
  ·rw[e]at n;cases n
  ·rw[e]at n;cases n;exact O
 refine⟨x',j.size,t.set j.size (.K true [x',iz]),?_,?_,by simp;omega,λb D z => ?_,F,λc n=>by have:=o c n;omega⟩
 ·generalize R (d+2)=r at e1 e2 ⊢;have Su:aO (aA [.av,iz] [])=some (.v (.agg [.av,iz])):=rfl;simp[e1,ai,e2,U,SB,Sn,SC,X,Q,w1,hr,Su,nw,l2,ms,lf,Sv,st,wq]
 ·have ht:∀b,b<s.size->b≠m->(t.set j.size (.K true [x',iz])).get b=s.get b:=λb D z=>by
   rw[St.bO (by omega),I b (by omega) (by simp[own]),H b z,G.2.2 b (by omega),g.2.2 b D]
  refine h.more (f:=⟨nm,j.size,x',xs,0⟩) B (St.wf_set q1 (by omega) _) (by simp;omega) ht ?_ (St.dh) F (q3.keep λc n=>St.bO (by have:=o c n;omega)) (by simp) (by simp;omega) λc n=>by have:=o c n;exact⟨by omega,by show c≠j.size;omega⟩
  rw[St.bO (by omega),I m (by omega) (by simp[own]),A4,q,St.get_set_same]
 ·rw[St.bO (by omega),I b (by omega) (by simp[own]),H b z,G.2.2 b (by omega),g.2.2 b D]
theorem Gw(d:Nat)(h:Dk s i m room fs){k:Nat}{f:Fl}(a:fs[k]? = some f)(u:Ah f.nm) :
 ∃t,R (d+3) 47 [Z (.ptr i 0),Z (.str f.nm)] s=some (J 0,t)/\Dk t i m room (fs.set k { f with x:=f.x,l:=f.l,sure:=f.l.length })/\s.size<=t.size/\∀b,b≠f.fb->t.get b=s.get b:=by
 rw[EI];unfold f47;have o:=oE d h a u;obtain⟨e,n,y,p,z,A,B⟩:=h.fl k f a;have v:aa (Z (.ptr f.fb 0)) s.get=some (Z f.x):=ag e rfl;have w:=n.rd.lens;have st:aj 1 (Z (.ptr f.fb 1)) (J f.l.length) s=some (tt,s.set f.fb (.K true [f.x,.int .i64 f.l.length])):=aJ e (by simp);have j:=h.wf.lt e;refine⟨s.set f.fb (.K true [f.x,.int .i64 f.l.length]),?_,?_,by simp,λb g=>St.bO g⟩
 ·generalize R (d+2)=r at o ⊢;simp[o,ai,v,w,st]
 ·refine h.yj a (St.wf_set h.wf j _) (by simp) (λb _ g _=>St.bO g) (St.dh) (n.keep λc q=>St.bO ((h.ap k k f f a a).2 c q).1) (au _) p (.inr (.inl rfl))
theorem IL(d:Nat)(h:Dk s i m room fs){k:Nat}{f:Fl}(j:fs[k]? = some f)(I:Ah f.nm){n:Nat}(N:n<=f.l.length) :
 ∃x' t,R (d+3) 45 [Z (.ptr i 0),Z (.str f.nm),J n] s=some (J 0,t)/\Dk t i m room (fs.set k { f with x:=x',l:=f.l.take n,sure:=min f.sure n })/\s.size<=t.size/\(∀b,b≠f.fb->t.get b=s.get b)/\(own x'=none\/own x'=own f.x):=by
 rw[EH];unfold f45;have E:=oE d h j I;obtain⟨q,D,T,U,V,X,Y⟩:=h.fl k f j;obtain⟨x',S,F,y⟩:=PA D N;have O:aa (Z (.ptr f.fb 0)) s.get=some (Z f.x):=ag q rfl;have B:aa (Z (.ptr f.fb 1)) s.get=some (J f.sure):=ag q rfl;have Q:=D.rd.lens;have g:=h.wf.lt q;have G:¬(n:Int)<0:=by omega
 have H:¬(f.l.length:Int)<(n:Int):=by omega
 have st:aj 1 (Z (.ptr f.fb 0)) (Z x') s=some (tt,s.set f.fb (.K true [x',.int .i64 f.sure])):=aJ q (by simp);have C:aj 1 (Z (.ptr f.fb 1)) (J (min (f.sure:Int) n)) (s.set f.fb (.K true [x',.int .i64 f.sure]))=some (tt,(s.set f.fb (.K true [x',.int .i64 f.sure])).set f.fb (.K true [x',.int .i64 (min (f.sure:Int) n)])):=aJ (St.dh) (by simp);have z:∀b,b≠f.fb->((s.set f.fb (.K true [x',.int .i64 f.sure])).set f.fb (.K true [x',.int .i64 (min (f.sure:Int) n)])).get b=s.get b:=λb u=>by rw[St.bO u,St.bO u]
 have o:(min (f.sure:Int) n)=((min f.sure n:Nat):Int):=by omega
 refine⟨x',_,?_,?_,by simp,z,y⟩
 ·generalize R (d+2)=r at E ⊢;simp[E,ai,O,B,Q,G,H,S,st,C]
 ·refine h.yj j (St.wf_set (St.wf_set h.wf g _) g _) (by simp) (λb _ u _=>z b u) (by rw[St.get_set_same,o]) (F.keep λc w=>z c ?_) (by rw[bb];omega) (by rw[bb];omega) (by rcases y with e | e;exact .inl e;exact .inr (.inl e));rcases y with e | e
  ·rw[e]at w;cases w
  ·rw[e]at w;exact((h.ap k k f f j j).2 c w).1
end
section
variable {s t:St}{i m:Nat}{room:Int}{fs:List Fl}
theorem IP(d:Nat)(h:s.wf)(j:0<=room)(l:room<=1048576):∃t,R (d+1) 10 [J room] s=some (Z (.ptr (s.size+1) 0),t)/\Dk t (s.size+1) s.size room []/\Gr s t:=by
 have e:¬room<0:=by omega
 have g:¬1048576<room:=by omega
 obtain⟨t,a⟩:=aZ ((s.push (.map [])).push (.K true [.int .i64 room,.map s.size]));have f:t.wf:=by rw[a];exact St.bo (St.bo h _) _
 refine⟨t,?_,⟨f,?_,?_,λk f c=>by simp at c,λk k' f i c=>by simp at c,List.nodup_nil⟩,f,by rw[a];simp;omega,λb m=>by rw[a,St.j5 (by rw[St.size_push];omega),St.j5 (by omega)]⟩
 ·rw[MX];unfold f10;simp[e,g,aE,Oh,b6,aA,V.cells,aQ,aO,a]
 ·have:=St.bf (s.push (.map [])) (.K true [.int .i64 room,.map s.size])
  rwa [St.size_push,<-a]at this
 ·rw[a,St.j5 (by rw[St.size_push];omega),St.bf];rfl
theorem CL(d:Nat)(j:s.wf){x:S}{l:List S}(g:BS s x l)(G:l.length<=50000):∃y t,R (d+1) 92 [Z x] s=some (Z y,t)/\Gr s t/\Mx t y l/\∀c,own y=some c->s.size<=c/\c<t.size:=by
 rw[NP];unfold f92
 have go:lu .l (Z x) (Z .av)=some (B false)->∃y t,(bd (lu .l (Z x) (Z .av)) λw=>br w (some ((Z .av),s)) (ax (aE s (aN 0 (aA [] []))) λz r=>ax (aF 1 1 z (Z x) r) λC u=>some (C,u)))=some (Z y,t)/\Gr s t/\Mx t y l/\∀c,own y=some c->s.size<=c/\c<t.size:=by
  intro e;have L:=Fr.lit 1 j (n:=0) (vs:=[]) rfl;have q:aE s (aN 0 (aA [] []))=some (Z (.sl s.size 0 0 (.known 0)),s.push (.K true [])):=by simp[aE,aN,aA]
  obtain⟨y,t,k,F,_,_⟩:=L.append (by_:=1) (by omega) ((g.keep (t:=s.push (.K true [])) λc h=>L.gr.2.2 c (g.lt j h)).rd.src) (by simp) (by omega);refine⟨y,t,?_,F.gr,by simpa using F.rd,F.new⟩;simp[e,q,k]
 rcases g with ⟨rfl,rfl⟩ | ⟨c,rows,rfl,rfl,o⟩ | ⟨c,rows,rfl,o,D,E⟩
 ·have e:lu .l (Z .av) (Z .av)=some (B true):=rfl;exact⟨.av,s,by simp[e],Gr.refl j,Rd.nil 1 s,λc h=>by cases h⟩
 ·exact go rfl
 ·exact go rfl
theorem xn(d:Nat)(h:Dk s i m room fs){k:Nat}{f:Fl}(e:fs[k]? = some f)(q:Ah f.nm) :
 ∃y t,R (d+3) 42 [Z (.ptr i 0),Z (.str f.nm)] s=some (.c6 [.s y,.s (iz)],t)/\Gr s t/\Mx t y f.l/\∀c,own y=some c->s.size<=c/\c<t.size:=by
 rw[yT];unfold f42;have b:=oE d h e q;obtain⟨j,n,z,o,_⟩:=h.fl k f e;have w:aa (Z (.ptr f.fb 0)) s.get=some (Z f.x):=ag j rfl;obtain⟨y,t,p,g,v,u⟩:=CL (d+1) h.wf n o;refine⟨y,t,?_,g,v,u⟩;have a:R (d+2) 92 [Z f.x] s=some (Z y,t):=p;generalize R (d+2)=r at b a ⊢;simp[b,ai,w,a,aD,a8]
theorem vb(d:Nat)(h:Dk s i m room fs){nm:List UInt8}(a:∀g∈fs,g.nm≠nm)(c:Ah nm):R (d+3) 42 [Z (.ptr i 0),Z (.str nm)] s=some (.c6 [.s .av,.s (.int .i64 9)],s):=by
 rw[yT];unfold f42;have b:=kZ d h a c;generalize R (d+2)=r at b ⊢;simp[b,ai,aD,a8]
end
section
variable {s t:St}{i m:Nat}{room:Int}{fs fs':List Fl}
theorem Dk.rem(h:Dk s i m room fs){k:Nat}{f:Fl}(O:fs[k]? = some f)(N:t.wf)(M:s.size<=t.size)(r:∀b,b<s.size->b≠m->t.get b=s.get b)(K:t.get m=some (.map (jI (fs.eraseIdx k)))):Dk t i m room (fs.eraseIdx k):=by
 have hi:=h.wf.lt h.ri;have L:=h.wf.lt h.mp
 have v:i≠m:=λe=>by
  have E:=h.ri;have J:=h.mp;rw[e,J]at E;cases E
 have back:∀(j:Nat) (g:Fl),(fs.eraseIdx k)[j]? = some g->∃n,fs[n]? = some g/\n=(if j<k then j else j+1):=λj g a=>by
  rw[rr]at a;by_cases o:j<k
  ·rw[af o]at a;exact⟨j,a,by rw[af o]⟩
  ·rw[ae o]at a;exact⟨j+1,a,by rw[ae o]⟩
 refine⟨N,by rw[r i hi v];exact h.ri,K,λj g a => ?_,λj n g D a u => ?_,?_⟩
 ·obtain⟨q,w,_⟩:=back j g a;obtain⟨y,z,F,G,H,A,B⟩:=h.fl q g w;exact⟨by rw[r _ (h.wf.lt y) A];exact y,z.keep λc l=>r c (z.lt h.wf l) (B c l).2,F,G,H,A,B⟩
 ·obtain⟨q,w,eq⟩:=back j g a;obtain⟨q',x,p⟩:=back n D u;obtain⟨I,C⟩:=h.ap q q' g D w x
  have d:j≠n->q≠q':=λd=>by
   rw[eq,p];split<;>split<;>omega
  exact⟨λe=>I (d e),λc l=>⟨(C c l).1,λe=>(C c l).2 (d e)⟩⟩
 ·have:(fs.eraseIdx k).map (·.nm)=(fs.map (·.nm)).eraseIdx k:=by
   apply nt;intro j;rw[cL,rr,rr];split<;>rw[cL]
  rw[this];exact h.nm.sublist (Mu _ _)
theorem C1(fs:List Fl)(k:Nat):(jI fs).eraseIdx k=jI (fs.eraseIdx k):=by
 unfold jI;apply nt;intro j;rw[cL,rr,rr];split<;>rw[cL]
theorem A2(d:Nat)(h:Dk s i m room fs){k:Nat}{f:Fl}(e:fs[k]? = some f)(o:Ah f.nm) :
 ∃t,R (d+3) 54 [Z (.ptr i 0),Z (.str f.nm)] s=some (J 0,t)/\Dk t i m room (fs.eraseIdx k)/\t.size=s.size/\∀b,b≠m->t.get b=s.get b:=by
 rw[EJ];unfold f54;have n:=oE d h e o;have p:=h.PR;obtain⟨t,a⟩:=aZ (s.set m (.map (jI (fs.eraseIdx k))))
 have l:PU .s (Z (.map m)) (Z (.str f.nm)) s=some (tt,t):=by
  have j:=AY fs k 0 f h.nm e;rw[a7]at j;rw[a];simp[PU,isKey,mj,h.mp,j,C1]
 have g:=h.wf.lt h.mp;refine⟨t,?_,h.rem e (by rw[a];exact St.wf_set h.wf g _) (by rw[a];simp) (λb _ c=>by rw[a];exact St.bO c) (by rw[a];exact St.dh),by rw[a];simp,λb c=>by rw[a];exact St.bO c⟩;generalize R (d+2)=r at*;simp[n,ai,p,l]
theorem yP(d:Nat)(h:Dk s i m room fs){nm:List UInt8}(a:∀g∈fs,g.nm≠nm)(c:Ah nm):R (d+3) 54 [Z (.ptr i 0),Z (.str nm)] s=some (J 9,s):=by
 rw[EJ];unfold f54;have b:=kZ d h a c;generalize R (d+2)=r at b ⊢;simp[b,ai]
end
section
variable {s t:St}{x y:S}{l:Bs}{c:UInt8}
theorem GR(d:Nat):R (d+1) 247 [Z (.str l),Z (.str [c])] s=some (J (qa c l 0),s):=ep (E8 (by decide))
theorem Db(d:Nat):R (d+1) 248 [Z (.str l),Z (.str [c])] s=some (J (qa c l 0),s):=ep (E8 (by decide))
theorem Gq(d:Nat):R (d+1) 246 [Z (.str l),Z (.str [c])] s=some (J (gK c l:Nat),s):=ep Ll
theorem MP(d:Nat)(w:l.length<=100000):R (d+3) 180 [Z (.str l),Z (.str [c])] s=some (.c6 [.s (.str (l.takeWhile λb => !Nat.beq b.toNat c.toNat)),.s (.str (match qa c l 0 with | .ofNat m=>l.drop (m+1) | _=>[])),.s (.bool (decide (0<=qa c l 0)))],s):=by
 have k:R (d+2) 219 [Z (.str l),Z (.str [c])] s=some (.c6 [.s (.str (l.takeWhile λb => !Nat.beq b.toNat c.toNat)),.s (.str (match qa c l 0 with | .ofNat m=>l.drop (m+1) | _=>[])),.s (.bool (decide (0<=qa c l 0)))],s):=by
  rw[J5];unfold f219;have e:=Db (s:=s) (l:=l) (c:=c) d;rcases Gs c l with ⟨h,j⟩ | ⟨m,u,h,j⟩
  ·rw[h]at e ⊢;have g:¬(0:Int) ≤ -1:=by decide
   simp[e,g,j,aD,a8]
  ·rw[h]at e ⊢;have g:(0:Int)<=(m:Int):=by omega
   have w1:IntKind.i64.wrap ((m:Int)+1)=((m+1:Nat):Int):=by rw[aw _ (by omega) (by omega)];omega
   have r:=ew (l:=l) (m:=m) (n:=(m:Int)) rfl (by omega);have o:=kH (l:=l) (m:=m+1) (n:=((m+1:Nat):Int)) rfl (by omega);generalize((m+1:Nat):Int)=t at w1 o;have q:(match (m:Int)with | .ofNat m=>l.drop (m+1) | _=>[])=l.drop (m+1):=rfl;rw[q];simp[e,g,j,r,w1,o,aD,a8]
 rw[JN];unfold f180;simp[k,ai,aD,a8]
theorem HW(r:bc)(t:∀(l:Bs) (u:St),r 247 [Z (.str l),Z (.str [c])] u=some (J (qa c l 0),u))(hl:l.length<=8000)(Sj:s.wf) :
 ∃(m:Bs) (done:List Bs) (d:St),loops (qz r 8192) 8192 [Z (.str l),Z (.str [c]),J 0,J (gK c l:Nat),Z (.sl s.size 0 (gK c l+1) (.known (gK c l+1))),J 0] (s.push (.K true (List.replicate (gK c l+1) (.str [])))) =
  some (.exit 0 [Z (.str m),Z (.sl s.size 0 (gK c l+1) (.known (gK c l+1))),J (gK c l:Nat)],d)/\d.wf/\d.size=s.size+1/\(∀b,b<s.size->d.get b=s.get b)/\done++[m]=bL c l/\done.length=gK c l ∧
  d.get s.size=some (.K true (c8 done++[.str []])):=by
 obtain⟨n,w⟩:=aZ (gK c l);have y:=oD c l;rw[<-w]at y;rw[<-w]
 obtain⟨j,d,lp,m,done,rfl,q1,q2,q3,q4,q5,q6⟩:=aL (f:=qz r 8192) (λq v u=>∃(m:Bs) (done:List Bs),q+done.length=n/\v=[Z (.str m),Z (.str [c]),J 0,J (n:Nat),Z (.sl s.size 0 (n+1) (.known (n+1))),J done.length]/\u.wf/\u.size=s.size+1/\(∀b,b<s.size->u.get b=s.get b) ∧
  done++bL c m=bL c l/\gK c m=q/\m.length<=l.length/\u.get s.size=some (.K true (c8 done++List.replicate (n+1-done.length) (.str []))))
  (λj u=>∃(m:Bs) (done:List Bs),j = .exit 0 [Z (.str m),Z (.sl s.size 0 (n+1) (.known (n+1))),J (n:Nat)]/\u.wf/\u.size=s.size+1/\(∀b,b<s.size->u.get b=s.get b)/\done++[m]=bL c l/\done.length=n/\u.get s.size=some (.K true (c8 done++[.str []]))) (by
  rintro q v u ⟨m,done,hq,rfl,z,B,C,D,h5,h6,E⟩;rcases tE c m with ⟨H,I,N⟩ | ⟨i,k0,H,I,N⟩
  ·right;have:q=0:=by omega
   subst this;have k:done.length=n:=by omega
   have h:¬((n:Int)<(n:Int)):=by omega
   refine⟨_,u,?_,(λv X=>by cases X),m,done,rfl,z,B,C,by rw[<-D,N],k,?_⟩
   ·unfold qz;rw[k];simp[h]
   ·rw[E,k,show n+1-n=1 by omega];rfl
  ·left;have V:done.length<n:=by omega
   have h:(done.length:Int)<(n:Int):=by omega
   have R:¬(i:Int)<0:=by omega
   have w0:IntKind.i64.wrap (i:Int)=(i:Int):=aw _ (by omega) (by omega);have w1:IntKind.i64.wrap ((i:Int)+1)=((i+1:Nat):Int):=by rw[aw _ (by omega) (by omega)];omega
   have Q:IntKind.i64.wrap ((done.length:Int)+1)=((done.length+1:Nat):Int):=by rw[aw _ (by omega) (by omega)];omega
   have p1:=ew (l:=m) (m:=i) (n:=(i:Int)) rfl (by omega);have O:=kH (l:=m) (m:=i+1) (n:=((i+1:Nat):Int)) rfl (by omega);have Y:ar 1 (Z (.sl s.size 0 (n+1) (.known (n+1)))) (J (done.length:Int))=some (Z (.ptr s.size done.length)):=by rw[eu (j:=done.length) rfl (by omega),a7,dZ]
   have G:(c8 done++List.replicate (n+1-done.length) (S.str [])).length=n+1:=by simp;omega
   have st:=aJ (σ:=u) (i:=s.size) (o:=done.length) (x := .str (m.take i)) E (by omega)
   have g:aQ (c8 done++List.replicate (n+1-done.length) (S.str [])) done.length [.str (m.take i)]=c8 (done++[m.take i])++List.replicate (n+1-(done++[m.take i]).length) (.str []):=by
    rw[cy _ _ _ (by simp;omega)]
    have T:(c8 done++List.replicate (n+1-done.length) (S.str [])).take done.length=c8 done:=by
     rw[lL (by simp)];exact b8 (by simp)
    have U:(c8 done++List.replicate (n+1-done.length) (S.str [])).drop (done.length+[S.str (m.take i)].length)=List.replicate (n+1-(done.length+1)) (S.str []):=by
     rw[Ab,ja (by simp),dD,List.drop_replicate]
     congr 1
     simp;omega
    rw[T,U,lI,aI];simp[c8]
   rw[g]at st;have e:=t m u;rw[H]at e;refine⟨[Z (.str (m.drop (i+1))),Z (.str [c]),J 0,J (n:Nat),Z (.sl s.size 0 (n+1) (.known (n+1))),J ((done.length+1:Nat):Int)],u.set s.size (.K true (c8 (done++[m.take i])++List.replicate (n+1-(done++[m.take i]).length) (.str []))),q-1,?_,by omega,m.drop (i+1),done++[m.take i],by simp;omega,by simp,St.wf_set z (by omega) _,by simpa using B,λb F=>by rw[St.bO (by omega)];exact C b F,by rw[<-D,I];simp,by omega,by simp;omega,St.dh⟩;unfold qz;generalize((i+1:Nat):Int)=I1 at w1 O;generalize((done.length+1:Nat):Int)=D1 at Q ⊢;simp[h,e,R,w0,w1,p1,Y,st,O,Q]) 8192 n [Z (.str l),Z (.str [c]),J 0,J (n:Nat),Z (.sl s.size 0 (n+1) (.known (n+1))),J 0] (s.push (.K true (List.replicate (n+1) (.str [])))) ⟨l,[],by simp,rfl,St.bo Sj _,by simp,λb F=>St.j5 (by omega),by simp,w.symm,au _,by simp[c8]⟩ (by omega)
 exact⟨m,done,d,lp,q1,q2,q3,q4,q5,q6⟩
theorem yd(d:Nat)(P:s.wf)(E:l.length<=8000):∃x t,R (d+3) 179 [Z (.str l),Z (.str [c])] s=some (Z x,t)/\FT s t x (bL c l):=by
 obtain⟨m,done,z,q,I,U,L,M,N,O⟩:=HW (c:=c) (R (d+1)) (λl u=>GR d) E P;have h:=oD c l;have e:=Gq (s:=s) (l:=l) (c:=c) d
 have p:R (d+2) 218 [Z (.str l),Z (.str [c]),J 0,J (-1)] s=some (Z (.sl s.size 0 (gK c l+1) (.known (gK c l+1))),z.set s.size (.K true (c8 (bL c l)))):=by
  rw[J4];unfold f218;obtain⟨n,F⟩:=aZ (gK c l);rw[<-F]at h q N e ⊢;have w1:IntKind.i64.wrap ((n:Int)+1)=((n+1:Nat):Int):=by rw[aw _ (by omega) (by omega)];omega
  have w:IntKind.i64.wrap ((l.length:Int)+1)=((l.length+1:Nat):Int):=by rw[aw _ (by omega) (by omega)];omega
  have a:min ((n+1:Nat):Int) ((l.length+1:Nat):Int)=((n+1:Nat):Int):=by omega
  have y:IntKind.i64.wrap (((n+1:Nat):Int)-1)=(n:Int):=by rw[aw _ (by omega) (by omega)];omega
  have r:aE s (BI 1 16 [.str []] (J ((n+1:Nat):Int)) (J ((n+1:Nat):Int)))=some (Z (.sl s.size 0 (n+1) (.known (n+1))),s.push (.K true (List.replicate (n+1) (.str [])))):=by
   have D:[S.str []].length=1/\(0:Int)<=((n+1:Nat):Int)/\((n+1:Nat):Int)<=((n+1:Nat):Int)/\((n+1:Nat):Int)<=2 ^ 62/\((16:Nat):Int)*((n+1:Nat):Int)<=2 ^ 48:=⟨rfl,by omega,by omega,by omega,by omega⟩;simp only[aE,BI,af D,iY]
   have G:∀k,eD k [S.str []]=List.replicate k (.str []):=by
    intro k;simp[eD]
   rw[G]
  have H:ar 1 (Z (.sl s.size 0 (n+1) (.known (n+1)))) (J (n:Int))=some (Z (.ptr s.size n)):=by rw[eu (j:=n) rfl (by omega),a7,dZ]
  have st:=aJ (σ:=z) (i:=s.size) (o:=n) (x := .str m) O (by simp;omega)
  have f:aQ (c8 done++[S.str []]) n [.str m]=c8 (bL c l):=by
   rw[cy _ _ _ (by simp;omega),<-M,lI]
   have B:(c8 done++[S.str []]).take n=c8 done:=by
    rw[lL (by simp;omega)];exact b8 (by simp;omega)
   have C:(c8 done++[S.str []]).drop (n+[S.str m].length)=[]:=ja (by simp;omega);rw[B,C];simp[c8]
  rw[f]at st
  have v:aB 1 (Z (.sl s.size 0 (n+1) (.known (n+1)))) none (some (J ((n+1:Nat):Int))) none=some (Z (.sl s.size 0 (n+1) (.known (n+1)))):=by
   unfold aB;dsimp only;rw[fM (au _)];simp
  have A:¬[c]=([]:Bs):=by simp
  generalize((n+1:Nat):Int)=T at w1 a y r v;generalize((l.length+1:Nat):Int)=Q at w a;simp[e,w1,w,a,r,y,q,H,st,v,A]
 refine⟨_,_,?_,⟨⟨St.wf_set I (by omega) _,by simp;omega,λb g=>by rw[St.bO (by omega)];exact L b g⟩,⟨by simp,.inr (.inr ⟨s.size,c8 (bL c l),.known (gK c l+1),by rw[fw],.inr (by rw[fw]),St.dh,by simp,b8 (by simp)⟩)⟩,λb g=>by cases g;exact⟨au _,by simp;omega⟩⟩⟩;rw[JM];unfold f179;simp[p]
def wJ(v:Bs):List Bs->Nat->Int
 | [],_ => -1
 |w::r,k=>if v=w then(k:Int)else wJ v r (k+1)
theorem mF(v:Bs):∀(l:List Bs) (k:Nat),(0<=wJ v l k)↔v∈l
 | [],k=>by simp[wJ]
 |w::r,k=>by
  unfold wJ;by_cases h:v=w
  ·simp[h]
  ·rw[ae h,mF v r (k+1)];simp[h]
theorem r7(v:Bs):∀(l:List Bs) (k:Nat),wJ v l k = -1\/∃j,j<l.length/\wJ v l k=(k+j:Nat)/\l[j]? = some v
 | [],k => .inl rfl
 |w::r,k=>by
  unfold wJ;by_cases h:v=w
  ·exact .inr ⟨0,by simp,by rw[af h];rfl,by simp[h]⟩
  ·rw[ae h];rcases r7 v r (k+1)with e | ⟨j,g,c,d⟩
   ·exact .inl e
   ·exact .inr ⟨j+1,by simp;omega,by rw[c];omega,by simpa using d⟩
theorem KE(v:Bs)(l:List Bs)(k:Nat)(h:k<=l.length)(c:∀j w,j<k->l[j]? = some w->v≠w):wJ v l 0=wJ v (l.drop k) k:=by
 induction k with
 |zero=>rfl
 |succ k e=>
  rw[e (by omega) λj w g=>c j w (by omega)];have d:l.drop k=l[k]::l.drop (k+1):=cU (by omega);rw[d];show(if v=l[k]then _ else _)=_
  rw[ae (c k l[k] (by omega) (aU (by omega)))]
theorem vv(d:Nat){ws:List Bs}{v:Bs}(h:RT s x ws)(S:ws.length<=8000):R (d+1) 224 [Z x,Z (.str v)] s=some (J (wJ v ws 0),s):=by
 rw[J9];unfold f224;have c:=h.lens
 obtain⟨j,T,N,t,D⟩:=aL (f:=qA (R d) 8192) (λq w u=>∃k:Nat,q+k=ws.length/\w=[Z x,Z (.str v),J ws.length,J k]/\u=s/\∀j w,j<k->ws[j]? = some w->v≠w)
  (λj u=>(j = .exit 0 []/\wJ v ws 0 = -1\/j = .ret (J (wJ v ws 0)))/\u=s) (by
  rintro q w u ⟨k,Q,rfl,rfl,G⟩;have F:=KE v ws k (by omega) G;by_cases g:k<ws.length
  ·have E:ws[k]? = some ws[k]:=aU g;have r:ws.drop k=ws[k]::ws.drop (k+1):=cU g;obtain⟨p,H,I⟩:=RT.MG h (n:=(k:Int)) rfl E;have o:(k:Int)<(ws.length:Int):=by omega
   have w1:IntKind.i64.wrap ((k:Int)+1)=((k+1:Nat):Int):=by rw[aw _ (by omega) (by omega)];omega
   by_cases e:v=ws[k]
   ·right;have O:wJ v ws 0=k:=by rw[F,r];show(if v=ws[k]then _ else _)=_;rw[af e]
    refine⟨.ret (J (wJ v ws 0)),u,?_,(λv B=>by cases B),.inr rfl,rfl⟩;unfold qA;rw[O];simp[o,H,I,<-e]
   ·left;refine⟨[Z x,Z (.str v),J ws.length,J ((k+1:Nat):Int)],u,q-1,?_,by omega,k+1,by omega,rfl,rfl,λj w t C => ?_⟩
    ·unfold qA;simp[o,H,I,e,w1]
    ·by_cases y:j=k
     ·subst y;rw[E]at C;cases C;exact e
     ·exact G j w (by omega) C
  ·right;have z:k=ws.length:=by omega
   have o:¬(k:Int)<(ws.length:Int):=by omega
   refine⟨.exit 0 [],u,?_,(λv B=>by cases B),.inl ⟨rfl,?_⟩,rfl⟩
   ·unfold qA;simp[o]
   ·rw[F,z,e7];rfl) 8192 ws.length [Z x,Z (.str v),J ws.length,J 0] s ⟨0,rfl,rfl,rfl,λj w t=>by omega⟩ (by omega)
 subst D;rcases t with ⟨rfl,e⟩ | rfl
 ·rw[e];simp[c,N]
 ·simp[c,N]
theorem wG(d:Nat){ws:List Bs}{v:Bs}(h:RT s x ws)(a:ws.length<=8000):R (d+2) 183 [Z x,Z (.str v)] s=some (B (decide (v∈ws)),s):=by
 rw[JQ];unfold f183;have e:=vv (v:=v) d h a;have:decide (0<=wJ v ws 0)=decide (v∈ws):=decide_eq_decide.2 (mF v ws 0);simp[e,this]
end
def cW(b:UInt8):Bool:=Nat.ble 48 b.toNat&&Nat.ble b.toNat 57
def digits:Bs:=[48,49,50,51,52,53,54,55,56,57]
def ez:List S:=(List.range 256).map λc=>S.bool (Nat.ble 48 c&&Nat.ble c 57)
theorem ql:ez.length=256:=by simp[ez]
theorem yN(b:UInt8):ez[b.toNat]? = some (.bool (cW b)):=by
 have:=b.toNat_lt;simp[ez,cW,this]
theorem l8{b:UInt8}:cW b=true↔48<=b.toNat/\b.toNat<=57:=by
 simp[cW,zR]
def je(l:Bs):Bs:=(l.reverse.dropWhile cW).reverse
theorem D1(l:Bs)(c:UInt8):je (l++[c])=if cW c then je l else l++[c]:=by
 unfold je;rw[List.reverse_append,List.reverse_singleton,zN,sG];split<;>simp
theorem H2:je []=[]:=rfl
theorem dropWhile_nil(p:UInt8->Bool):∀l:Bs,l.dropWhile p=[]↔∀x∈l,p x=true
 | []=>by simp
 |a::r=>by
  have c:=dropWhile_nil p r;rw[sG];by_cases h:p a=true
  ·rw[af h,c];simp[h]
  ·rw[ae h];simp[h]
theorem qm(p:UInt8->Bool):∀(l:Bs) (a:UInt8) (r:Bs),l.dropWhile p=a::r->p a=false
 | [],a,r,h=>by simp at h
 |b::q,a,r,h=>by
  rw[sG]at h;by_cases c:p b=true
  ·rw[af c]at h;exact qm p q a r h
  ·rw[ae c]at h;cases h;simpa using c
theorem yh(l:Bs):(je l).dropWhile cW=[]↔l.all cW=true:=by
 unfold je;rw[e6];constructor
 ·intro h;have j:=(dropWhile_nil cW _).1 h
  have c:l.reverse.dropWhile cW=[]:=by
   cases g:l.reverse.dropWhile cW with
   |nil=>rfl
   |cons a r=>
    exfalso;have e:=j a (by rw[g];simp);rw[qm cW _ a r g]at e;cases e
  intro x d;exact(dropWhile_nil cW _).1 c x (by simpa using d)
 ·intro h;have c:l.reverse.dropWhile cW=[]:=(dropWhile_nil cW _).2 λx d=>h x (by simpa using d)
  rw[c];rfl
def fe(l:Bs):Nat:=l.foldl (λn b=>n*10+(b.toNat-48)) 0
theorem sy(l:Bs)(c:UInt8):fe (l++[c])=fe l*10+(c.toNat-48):=by simp[fe]
theorem rj:∀(n:Nat) (l:Bs),l.length=n->l.all cW=true->fe l<10 ^ n
 | 0,l,h,_=>by
   have:l=[]:=cJ h;subst this;decide
 |n+1,l,h,d=>by
  rcases En l with rfl | ⟨r,c,e⟩
  ·simp at h
  ·rw[Ej]at e;subst e;rw[sy];have j:=rj n r (by simpa using h) (by simp at d;simpa using d.1);have g:cW c=true:=by simp at d;exact d.2
   rw[l8]at g;rw[zW];omega
def cu(l:Bs):Bool:=Nat.ble 1 l.length&&Nat.ble l.length 13&&l.all cW
def gy(l:Bs):Nat:=match cu l with
 |true=>fe l
 |false=>0
section
variable {s t:St}{x y:S}{l:Bs}{i:Nat}{w:Bool}
theorem qc(n:Nat)(b:UInt8)(h:b.toNat<n)(i o:Nat):bz n 1 (Z (.ptr i o)) (J8 b.toNat)=some (Z (.ptr i (o+b.toNat))):=by
 have a:nH (J8 (b.toNat:Int)) n=some b.toNat:=by simp[nH,h]
 simp[bz,a]
theorem qj(d:Nat)(h:s.get i=some (.K w ez))(b:UInt8):R (d+1) 212 [Z (.ptr i 0),J8 b.toNat] s=some (B (cW b),s):=by
 rw[Bi];unfold f212;have a:=qc 256 b b.toNat_lt i 0;have c:aa (Z (.ptr i (0+b.toNat))) s.get=some (B (cW b)):=ag h (by rw[a7];exact yN b);simp only[Ay,dt,a,c]
theorem wW(d:Nat)(h:s.get i=some (.K w ez))(I:l.length<=8000):R (d+2) 169 [Z (.str l),Z (.ptr i 0)] s=some (Z (.str (je l)),s):=by
 rw[Bg];unfold f169
 obtain⟨j,N,H,F,y⟩:=aL (f:=kN (R (d+1)) 8192) (λq v u=>∃m:Bs,q=m.length/\v=[Z (.str m),Z (.ptr i 0)]/\u=s/\je m=je l/\m.length<=l.length)
  (λj u=>j = .exit 0 [Z (.str (je l))]/\u=s) (by
  rintro q v u ⟨m,rfl,rfl,rfl,D,G⟩;rcases En m with rfl | ⟨r,c,e⟩
  ·right;refine⟨_,u,?_,(λv x=>by cases x),rfl,rfl⟩;unfold kN;rw[<-D];simp[H2]
  ·rw[Ej]at e;have C:m.length=r.length+1:=by rw[e];simp
   have z:0<m.length:=by omega
   have w1:IntKind.i64.wrap ((m.length:Int)-1)=(r.length:Int):=by rw[aw _ (by omega) (by omega)];omega
   have g:bZ (Z (.str m)) (J (r.length:Int))=some (J8 c.toNat):=jU rfl (by rw[e];simp);have o:=qj d h c;have E:=ew (l:=m) (m:=r.length) (n:=(r.length:Int)) rfl (by omega);have t:m.take r.length=r:=by rw[e];simp
   rw[t]at E;have k:=D1 r c;rw[<-e,D]at k;cases B:cW c with
   |true=>
    left;rw[B]at k o;refine⟨[Z (.str r),Z (.ptr i 0)],u,r.length,?_,by omega,r,rfl,rfl,rfl,by simpa using k.symm,by omega⟩;unfold kN;simp[z,w1,g,o,E]
   |false=>
    right;rw[B]at k o;refine⟨.exit 0 [Z (.str (je l))],u,?_,(λv x=>by cases x),rfl,rfl⟩;unfold kN;have:je l=m:=(by rw[k,e];simp);rw[this];simp[z,w1,g,o]) 8192 l.length [Z (.str l),Z (.ptr i 0)] s ⟨l,rfl,rfl,rfl,rfl,au _⟩ (by omega)
 subst y;subst F;simp[H]
theorem zD(d:Nat)(h:s.get i=some (.K w ez))(D:l.length<=8000):R (d+2) 168 [Z (.str l),Z (.ptr i 0)] s=some (Z (.str (l.dropWhile cW)),s):=by
 rw[Bf];unfold f168
 obtain⟨j,E,B,z,x⟩:=aL (f:=kM (R (d+1)) 8192) (λq v u=>∃m:Bs,q=m.length/\v=[Z (.str m),Z (.ptr i 0)]/\u=s/\m.dropWhile cW=l.dropWhile cW/\m.length<=l.length)
  (λj u=>j = .exit 0 [Z (.str (l.dropWhile cW))]/\u=s) (by
  rintro q v u ⟨m,rfl,rfl,rfl,e,o⟩;cases m with
  |nil=>
   right;refine⟨_,u,?_,(λv t=>by cases t),rfl,rfl⟩;unfold kM;rw[<-e];simp
  |cons c r=>
   have g:bZ (Z (.str (c::r))) (J 0)=some (J8 c.toNat):=jU (j:=0) rfl rfl;have k:=qj d h c;have C:=kH (l:=c::r) (m:=1) (n:=1) rfl (by simp);rw[sG]at e;cases y:cW c with
   |true=>
    left;rw[y]at e k;refine⟨[Z (.str r),Z (.ptr i 0)],u,r.length,?_,by simp,r,rfl,rfl,rfl,by simpa using e,by simp at o;omega⟩;unfold kM;simp[g,k,C]
   |false=>
    right;rw[y]at e k;refine⟨.exit 0 [Z (.str (l.dropWhile cW))],u,?_,(λv t=>by cases t),rfl,rfl⟩;unfold kM;have:l.dropWhile cW=c::r:=(by rw[<-e];simp);rw[this];simp[g,k]) 8192 l.length [Z (.str l),Z (.ptr i 0)] s ⟨l,rfl,rfl,rfl,rfl,au _⟩ (by omega)
 subst x;subst z;simp[B]
theorem cK{vs xs:List S}(h:vs.length=xs.length):aQ vs 0 xs=xs:=by
 rw[cy _ _ _ (by omega),List.take_zero,dD,ja (by omega),lg]
theorem BE(d:Nat):R (d+1) 167 [Z (.str digits)] s=some (.c6 [.agg ez,.s (.bool true)],s):=ep (Ln _)
set_option maxRecDepth 100000 in
theorem Mc(d:Nat)(y:s.wf)(n:l≠[])(u:l.length<=8000):∃t,R (d+4) 129 [Z (.str l),Z (.str digits)] s=some (Z (.str ((je l).dropWhile cW)),t)/\Gr s t:=by
 rw[A9];unfold f129;generalize j:a6 _=q;obtain⟨z,rfl,w⟩:∃z:List S,q=a6 z/\z.length=256:=⟨_,j.symm,rfl⟩;clear j;have f:=BE (s:=s) (d+2);have x:aE s (a6 z)=some (Z (.ptr s.size 0),s.push (.K true z)):=rfl;have i:(V.agg ez).cells.length=256/\0+256<=z.length:=⟨ql,by omega⟩;obtain⟨t,e⟩:=aZ ((s.push (.K true z)).set s.size (.K true ez))
 have st:aj 256 (Z (.ptr s.size 0)) (.v (.agg ez)) (s.push (.K true z))=some (tt,t):=by
  simp only[aj,St.bf,af i];rw[show(V.agg ez).cells=ez from rfl,cK (by rw[w,ql]),<-e]
 have g:Gr s t:=by
  rw[e];exact⟨St.wf_set (St.bo y _) (by simp) _,by simp,λb i=>by rw[St.bO (by omega),St.j5 (by omega)]⟩
 have h:t.get s.size=some (.K true ez):=by rw[e];exact St.dh
 have k:=wW (l:=l) (d+1) h u
 have c:(je l).length<=8000:=by
  have:(je l).length<=l.length:=by
   unfold je;rw[List.length_reverse];have:=(List.dropWhile_sublist (p:=cW) (l:=l.reverse)).length_le
   simpa using this
  omega
 have m:=zD (l:=je l) (d+1) h c;have o:¬digits=[]:=by decide
 have a:(digits.length:Int)=10:=rfl;refine⟨t,?_,g⟩;simp only[aH,Nat.reduceAdd]at f k m;generalize R (d+3)=r at*;simp[n,o,a,f,ai,x,st,k,m]
theorem KR{b:Nat}(h:s.get b=some (.mark (U l))){j:Nat}{n:Int}{c:UInt8}(g:n=j)(a:l[j]? = some c) :
 ∃p,ar 1 (Z (.sl b 0 l.length (.grown 1))) (J n)=some p/\aa p s.get=some (J8 c.toNat):=by
 have f:j<l.length:=(bq.1 a).1;have i:¬l.length=0:=by omega
 refine⟨Z (.ptr b (0+j*1)),?_,?_⟩
 ·subst g;have e:nH (J (j:Int)) l.length=some j:=by simp[nH,f]
  simp only[ar,e]
 ·have d:(U l)[0+j*1]? = some (.int .u8 c.toNat):=by rw[a7,dZ,O7,a];rfl
  simp only[aa,h,d]
theorem wR(d:Nat)(Sk:s.wf)(G:l≠[])(hl:l.length<=13)(e:l.all cW=true):∃t,R (d+1) 226 [Z (.str l),J 10,J 64] s=some (.c6 [.s (.int .u64 (fe l)),.s .k5],t)/\Gr s t:=by
 rw[Kb];unfold f226;obtain⟨t,w⟩:=aZ (s.push (.mark (U l)));have nw:aE s (zg (Z (.str l)))=some (Z (.sl s.size 0 l.length (.grown 1)),t):=by rw[w];rfl
 have g:Gr s t:=by rw[w];exact Gr.push Sk _
 have E:t.get s.size=some (.mark (U l)):=by rw[w];exact St.ec
 have C:=rj
 have i:∀(k:Nat) (b:UInt8),l[k]? = some b->48<=b.toNat/\b.toNat<=57:=λk b I=>by
  rw[e6]at e;exact l8.1 (e b (bS I))
 have a:∀k,k<=13->fe (l.take k)<10000000000000:=λk N=>by
  have h1:=rj (l.take k).length (l.take k) rfl (by rw[e6]at e ⊢;exact λx O=>e x (nc O));have h2:10 ^ (l.take k).length<=10 ^ 13:=ng (by omega) (by rw[bb];omega);have h3:(10:Nat) ^ 13=10000000000000:=by decide
  omega
 obtain⟨j,Sl,lp,M,y⟩:=aL (f:=tY (R d) 8192) (λq v u=>∃k:Nat,q+k=l.length/\v=[J 10,B false,Z (.str l),J6 1844674407370955162,J6 18446744073709551615,B false,J6 (fe (l.take k)),Z (.sl s.size 0 l.length (.grown 1)),J l.length,J k]/\u=t)
  (λj u=>j = .exit 3 [Z (.str l),B false,J6 (fe l)]/\u=t) (by
  rintro q v u ⟨k,N,rfl,rfl⟩;by_cases o:k<l.length
  ·left;have h:l[k]? = some l[k]:=aU o;obtain⟨p,P,ld⟩:=KR E (n:=(k:Int)) rfl h;obtain⟨d1,d2⟩:=i k _ h;have F:(k:Int)<(l.length:Int):=by omega
   have w1:IntKind.i64.wrap ((k:Int)+1)=((k+1:Nat):Int):=by rw[aw _ (by omega) (by omega)];omega
   have r:fe (l.take (k+1))=fe (l.take k)*10+(l[k].toNat-48):=by rw[cM,h,nj,sy]
   have K:=a k (by omega);have L:=a (k+1) (by omega);have Q:¬((l[k].toNat:Int)=95):=by omega
   have S:(48:Int)<=(l[k].toNat:Int):=by omega
   have T:(l[k].toNat:Int)<=57:=by omega
   obtain⟨D,H⟩:=aZ ((l[k].toNat:Int)-48:Int)
   have w8:IntKind.u8.wrap ((l[k].toNat:Int)-48)=D:=by
    have:=gx (l[k].toNat-48);rw[show(((l[k].toNat-48:Nat)):Int)=(l[k].toNat:Int)-48 by omega]at this;rw[this,H];omega
   have z:IntKind.u8.wrap 10=10:=rfl;have c:IntKind.u64.wrap 10=10:=rfl;have V:¬(10:Int)<=D:=by omega
   have W:¬(1844674407370955162:Int)<=(fe (l.take k):Int):=by omega
   have wm:IntKind.u64.wrap ((fe (l.take k):Int)*10)=(fe (l.take k):Int)*10:=bH _ (by omega) (by omega);have wd:IntKind.u64.wrap D=D:=bH _ (by omega) (by omega)
   have wa:IntKind.u64.wrap ((fe (l.take k):Int)*10+D)=(fe (l.take (k+1)):Int):=by
    rw[bH _ (by omega) (by omega),r];omega
   have X:¬((fe (l.take (k+1)):Int)<(fe (l.take k):Int)*10):=by omega
   have Y:¬((18446744073709551615:Int)<(fe (l.take (k+1)):Int)):=by omega
   refine⟨[J 10,B false,Z (.str l),J6 1844674407370955162,J6 18446744073709551615,B false,J6 (fe (l.take (k+1))),Z (.sl s.size 0 l.length (.grown 1)),J l.length,J ((k+1:Nat):Int)],u,q-1,?_,by omega,k+1,by omega,rfl,rfl⟩;unfold tY;simp[F,P,ld,Q,S,T,w8,z,c,V,W,wm,wd,wa,X,Y,w1]
  ·right;have m:k=l.length:=by omega
   subst m;refine⟨.exit 3 [Z (.str l),B false,J6 (fe l)],u,?_,(λv C=>by cases C),rfl,rfl⟩;unfold tY;rw[dE];simp) 8192 l.length [J 10,B false,Z (.str l),J6 1844674407370955162,J6 18446744073709551615,B false,J6 0,Z (.sl s.size 0 l.length (.grown 1)),J l.length,J 0] t ⟨0,rfl,rfl,rfl⟩ (by omega)
 subst y;subst M;refine⟨Sl,?_,g⟩;have A:IntKind.u64.wrap 64=64:=rfl;have sh:ah .shl (J6 1) (J6 64)=some (J6 0):=by rfl
 have Sj:IntKind.u64.wrap (-1)=18446744073709551615:=by rfl
 simp[G,A,sh,Sj,nw,lp,aD,a8]
theorem zl(d:Nat)(E:s.wf)(u:l≠[])(w:l.length<=13)(h:l.all cW=true):∃t,R (d+3) 251 [Z (.str l),J 10,J 64] s=some (.c6 [.s (.int .i64 (fe l)),.s .k5],t)/\Gr s t:=by
 obtain⟨t,e,g⟩:=wR d E u w h;have I:=rj l.length l rfl h;have x:10 ^ l.length<=10 ^ 13:=ng (by omega) w;have G:(10:Nat) ^ 13=10000000000000:=by decide
 have n:R (d+2) 185 [Z (.str l),J 10,J 64] s=some (.c6 [.s (.int .i64 (fe l)),.s .k5],t):=by
  rw[JS];unfold f185
  obtain⟨c,r,rfl⟩:∃c r,l=c::r:=by cases l with
   |nil=>exact absurd rfl u
   |cons c r=>exact⟨c,r,rfl⟩
  have k:bZ (Z (.str (c::r))) (J 0)=some (J8 c.toNat):=jU (j:=0) rfl rfl;have H:48<=c.toNat/\c.toNat<=57:=l8.1 (by simp at h;exact h.1);have y:¬((c.toNat:Int)=43):=by omega
  have z:¬((c.toNat:Int)=45):=by omega
  have n1:xN .i (Z .k5) (Z .k5)=some (B false):=rfl;have o:IntKind.u64.wrap 63=63:=rfl;have D:ah .shl (J6 1) (J6 63)=some (J6 9223372036854775808):=by rfl
  have C:¬((9223372036854775808:Int)<=(fe (c::r):Int)):=by omega
  have F:IntKind.i64.wrap (fe (c::r):Int)=(fe (c::r):Int):=aw _ (by omega) (by omega);have q:IntKind.i64.wrap 63=63:=rfl;generalize R (d+1)=N at*;simp[k,y,z,e,ai,n1,o,q,D,C,F,aD,a8]
 refine⟨t,?_,g⟩;rw[Ke];unfold f251;have n1:xN .i (Z .k5) (Z .k5)=some (B false):=rfl;simp[n,ai,n1,aD,a8]
theorem Dq(d:Nat)(w:s.wf):∃t,R (d+5) 223 [Z (.str l)] s=some (.c6 [.s (.int .i64 (gy l)),.s (.bool (cu l))],t)/\Gr s t:=by
 rw[J7];unfold f223;by_cases p:1<=l.length
 ·by_cases u:l.length<=13
  ·have m:l≠[]:=λe=>by rw[e]at p;simp at p
   obtain⟨t,g,q⟩:=Mc d w m (by omega);have f:¬((l.length:Int)<1):=by omega
   have o:¬((13:Int)<(l.length:Int)):=by omega
   have j:Nat.ble 1 l.length=true:=dw p;have k:Nat.ble l.length 13=true:=dw u;by_cases b:l.all cW=true
   ·have n:=(yh l).2 b;rw[n]at g;obtain⟨z,x,y⟩:=zl (l:=l) (d+1) q.wf m u b;have a:cu l=true:=(by simp[cu,j,k,b]);have c:gy l=fe l:=(by simp[gy,a]);have n1:lu .i (Z .k5) (Z .k5)=some (B true):=rfl;refine⟨z,?_,q.trans y⟩;rw[a,c];simp only[digits]at g;generalize R (d+4)=r at*;simp[f,o,g,x,ai,n1,aD,a8]
   ·have v:¬((je l).dropWhile cW=[]):=λe=>b ((yh l).1 e)
    have a:cu l=false:=(by simp only[cu,j,k,dX];simpa using b);have c:gy l=0:=(by simp[gy,a]);refine⟨t,?_,q⟩;rw[a,c];simp only[digits]at g;generalize R (d+4)=r at*;simp[f,o,g,v,aD,a8]
  ·have f:¬((l.length:Int)<1):=by omega
   have o:(13:Int)<(l.length:Int):=by omega
   have a:cu l=false:=by
    have:Nat.ble l.length 13=false:=by
     rw[gE];intro h;exact u (cm h)
    simp[cu,this]
   have c:gy l=0:=by simp[gy,a]
   refine⟨s,?_,Gr.refl w⟩;rw[a,c];simp[f,o,aD,a8]
 ·have f:((l.length:Int)<1):=by omega
  have a:cu l=false:=by
   have:Nat.ble 1 l.length=false:=by
    rw[gE];intro h;exact p (cm h)
   simp[cu,this]
  have c:gy l=0:=by simp[gy,a]
  refine⟨s,?_,Gr.refl w⟩;rw[a,c];simp[f,aD,a8]
end
structure kF where
 a0:Int
 a1:Int
 a2:Int
 a3:Int
 c:Int
 n:Int
 deriving DecidableEq
def cP(p:kF):List S:=[.int .i64 p.a0,.int .i64 p.a1,.int .i64 p.a2,.int .i64 p.a3,.int .i64 p.c,.int .i64 p.n]
abbrev AP(p:kF):T := .v (.agg (cP p))
def bV:kF:=⟨0,0,0,0,0,0⟩
def gM:kF:=⟨60,600,6000,0,8,30⟩
def jd(n:Int):Bool:=decide (0<=n)&&decide (n<=1099511627776)
def kD(was n:Int):Bool:=decide (n=0)||(decide (was<=n) && !decide (was=0))
def lQ(p:kF):Bool:=jd p.a0&&(jd p.a1&&kD p.a0 p.a1)&&(jd p.a2&&kD p.a1 p.a2)&&(jd p.a3&&kD p.a2 p.a3)
def pQ(p:kF):Bool:=lQ p&&decide (p.a3=0)&&decide (1<=p.c)&&decide (p.c<=64)&&decide (1<=p.n)&&decide (p.n<=200)
section
variable {s t:St}{x y:S}{l:Bs}{i:Nat}
theorem gB{i:Nat}{vs:List S}{p:kF}(h:s.get i=some (.K true vs))(b:vs.length=6):aj 6 (Z (.ptr i 0)) (AP p) s=some (tt,s.set i (.K true (cP p))):=by
 have a:(V.agg (cP p)).cells.length=6/\0+6<=vs.length:=⟨rfl,by omega⟩;simp only[aj,h,af a];rw[show(V.agg (cP p)).cells=cP p from rfl,cK (by rw[b];rfl)]
theorem k3{i:Nat}{w:Bool}{p:kF}{g:Mem}(h:g i=some (.K w (cP p))):ay 6 (Z (.ptr i 0)) g=some (AP p):=by
 simp[ay,h,cP]
theorem qf:aO (aA [iz,iz,iz,iz,iz,iz] [])=some (AP bV):=rfl
theorem bD(b:Bool):gd tt b=some false:=rfl
theorem sP(d:Nat)(n:s.wf):∃t,R (d+1) 91 [] s=some (AP gM,t)/\Gr s t:=by
 rw[NO];unfold f91;have h:aO (aA [iz,iz,iz,iz] [(0,1,(J 60)),(1,1,(J 600)),(2,1,(J 6000)),(3,1,(J 0))])=some (.v (.agg [.int .i64 60,.int .i64 600,.int .i64 6000,iz])):=rfl;have i:aO (aA [iz,iz,iz,iz,iz,iz] [(0,4,.v (.agg [.int .i64 60,.int .i64 600,.int .i64 6000,iz])),(4,1,(J 8)),(5,1,(J 30))])=some (AP gM):=rfl;obtain⟨e,a⟩:=aZ (s.push (.K true (cP bV)));have m:aE s (a6 [iz,iz,iz,iz,iz,iz])=some (Z (.ptr s.size 0),e):=by rw[a];rfl
 have j:e.get s.size=some (.K true (cP bV)):=by rw[a];exact St.ec
 obtain⟨f,c⟩:=aZ (e.set s.size (.K true (cP gM)));have st:=gB (p:=gM) j rfl;rw[<-c]at st;have k:f.get s.size=some (.K true (cP gM)):=by rw[c];exact St.dh
 have l:=k3 (g:=f.get) k;refine⟨f,?_,?_⟩
 ·simp[m,h,i,st,l,rC,aD]
 ·rw[c,a];exact⟨St.wf_set (St.bo n _) (by simp) _,by simp,λb o=>by rw[St.bO (by omega),St.j5 (by omega)]⟩
def eV(p:kF):Nat->Int
 | 0=>p.a0
 | 1=>p.a1
 | 2=>p.a2
 |_=>p.a3
def eO(p:kF):Nat->Bool
 | 0=>jd p.a0
 | 1=>jd p.a1&&kD p.a0 p.a1
 | 2=>jd p.a2&&kD p.a1 p.a2
 |_=>jd p.a3&&kD p.a2 p.a3
theorem ml(p:kF):lQ p=true↔∀j,j<4->eO p j=true:=by
 constructor
 ·intro h j k;simp only[lQ,aM]at h
  match j,k with
  | 0,_=>exact h.1.1.1
  | 1,_=>simp only[eO,aM];exact h.1.1.2
  | 2,_=>simp only[eO,aM];exact h.1.2
  | 3,_=>simp only[eO,aM];exact h.2
 ·intro h;have c:=h 0 (by omega);have d:=h 1 (by omega);have e:=h 2 (by omega);have g:=h 3 (by omega);simp only[eO]at c d e g;simp only[lQ,c,d,e,g,Bool.and_self]
theorem Oe(d:Nat)(Sw:s.wf)(p:kF):∃t,R (d+1) 184 [AP p] s=some (B (pQ p),t)/\Gr s t:=by
 rw[JR];unfold f184;obtain⟨s1,Q⟩:=aZ (s.push (.K true (cP p)));have nw:aE s (b6 (AP p))=some (Z (.ptr s.size 0),s1):=by rw[Q];rfl
 have x:s1.get s.size=some (.K true (cP p)):=by rw[Q];exact St.ec
 have g:Gr s s1:=by rw[Q];exact Gr.push Sw _
 have S:ay 4 (Z (.ptr s.size 0)) s1.get=some (.v (.agg [.int .i64 p.a0,.int .i64 p.a1,.int .i64 p.a2,.int .i64 p.a3])):=by simp[ay,x,cP]
 have ld:∀j,j<4->aa (Z (.ptr s.size j)) s1.get=some (J (eV p j)):=λj E=>by
  match j,E with
  | 0,_=>exact ag x rfl
  | 1,_=>exact ag x rfl
  | 2,_=>exact ag x rfl
  | 3,_=>exact ag x rfl
 have G:aa (Z (.ptr s.size 4)) s1.get=some (J p.c):=ag x rfl;have H:aa (Z (.ptr s.size 5)) s1.get=some (J p.n):=ag x rfl
 have Sn:∀j,j<4->pz none 4 1 (.v (.agg [.int .i64 p.a0,.int .i64 p.a1,.int .i64 p.a2,.int .i64 p.a3])) (J (j:Nat))=some (J (eV p j)):=λj E=>by
  match j,E with
  | 0,_=>rfl
  | 1,_=>rfl
  | 2,_=>rfl
  | 3,_=>rfl
 have ix:∀j:Nat,j<4->bz 4 1 (Z (.ptr s.size 0)) (J (j:Nat))=some (Z (.ptr s.size j)):=λj E=>by
  match j,E with
  | 0,_=>rfl
  | 1,_=>rfl
  | 2,_=>rfl
  | 3,_=>rfl
 obtain⟨j,Sx,U,E,Su⟩:=aL (f:=jw (R d) 8192) (λq v u=>∃k:Nat,q+k=4/\v=[Z (.ptr s.size 0),.v (.agg [.int .i64 p.a0,.int .i64 p.a1,.int .i64 p.a2,.int .i64 p.a3]),J k]/\u=s1/\∀j,j<k->eO p j=true)
  (λj u=>(j = .exit 0 [Z (.ptr s.size 0)]/\lQ p=true\/j = .ret (B false)/\lQ p=false)/\u=s1) (by
  rintro q v u ⟨k,hk,rfl,rfl,Sl⟩;by_cases O:k<4
  ·have bad:eO p k=false->lQ p=false:=λh=>by
    rw[gE];intro h2;rw[(ml p).1 h2 k O]at h;cases h
   have next:eO p k=true->∀j,j<k+1->eO p j=true:=λh j E=>by
    by_cases e:j=k
    ·subst e;exact h
    ·exact Sl j (by omega)
   have V:(k:Int)<4:=by omega
   have w1:IntKind.i64.wrap ((k:Int)+1)=((k+1:Nat):Int):=by rw[aw _ (by omega) (by omega)];omega
   have r:=Sn k O;obtain⟨a,Y⟩:=aZ (eV p k);rw[<-Y]at r
   have o:eO p k=(jd a&&(decide (k=0)||kD (eV p (k-1)) a)):=by
    rw[Y]
    match k,O with
    | 0,_=>simp[eO,eV]
    | 1,_=>simp[eO,eV]
    | 2,_=>simp[eO,eV]
    | 3,_=>simp[eO,eV]
   by_cases X:a<0
   ·right
    have:eO p k=false:=by
     have:¬0<=a:=(by omega);rw[o];simp[jd,this]
    refine⟨.ret (B false),u,?_,(λv F=>by cases F),.inr ⟨rfl,bad this⟩,rfl⟩;unfold jw;simp[V,r,X]
   ·by_cases Sj:1099511627776<a
    ·right
     have:eO p k=false:=by
      have:¬a<=1099511627776:=(by omega);rw[o];simp[jd,this]
     refine⟨.ret (B false),u,?_,(λv F=>by cases F),.inr ⟨rfl,bad this⟩,rfl⟩;unfold jw;simp[V,r,X,Sj]
    ·have hA:jd a=true:=by
      have x:0<=a:=(by omega);have h2:a<=1099511627776:=(by omega);simp[jd,x,h2]
     by_cases k0:k=0
     ·left;have:eO p k=true:=(by rw[o];simp[hA,k0]);refine⟨[Z (.ptr s.size 0),.v (.agg [.int .i64 p.a0,.int .i64 p.a1,.int .i64 p.a2,.int .i64 p.a3]),J ((k+1:Nat):Int)],u,q-1,?_,by omega,k+1,by omega,rfl,rfl,next this⟩;unfold jw;subst k0;have Sk:pz none 4 1 (.v (.agg [.int .i64 p.a0,.int .i64 p.a1,.int .i64 p.a2,.int .i64 p.a3])) (J 0)=some (J a):=r;have w0:IntKind.i64.wrap 1=1:=rfl;simp[Sk,X,Sj,w0]
     ·obtain⟨b,Sv⟩:=aZ (eV p (k-1));rw[<-Sv]at o;have D:¬(k:Int)=0:=(by omega);have I:IntKind.i64.wrap ((k:Int)-1)=((k-1:Nat):Int):=(by rw[aw _ (by omega) (by omega)];omega);have w:=ix (k-1) (by omega);have z:=ld (k-1) (by omega);rw[<-Sv]at z;by_cases N:a=0
      ·left;have:eO p k=true:=(by rw[o,hA];simp[kD,N]);refine⟨[Z (.ptr s.size 0),.v (.agg [.int .i64 p.a0,.int .i64 p.a1,.int .i64 p.a2,.int .i64 p.a3]),J ((k+1:Nat):Int)],u,q-1,?_,by omega,k+1,by omega,rfl,rfl,next this⟩;unfold jw;subst N;generalize((k+1:Nat):Int)=K1 at w1 ⊢;generalize((k-1:Nat):Int)=K0 at I w;generalize(k:Int)=K at*;simp[V,r,D,I,w,z,w1,bD]
      ·by_cases Sp:a<b
       ·right
        have:eO p k=false:=by
         have x:¬b<=a:=(by omega);rw[o];simp[hA,kD,N,x,k0]
        refine⟨.ret (B false),u,?_,(λv F=>by cases F),.inr ⟨rfl,bad this⟩,rfl⟩;unfold jw;generalize((k-1:Nat):Int)=K0 at I w;generalize(k:Int)=K at*;simp[V,r,X,Sj,D,I,w,z,N,Sp]
       ·by_cases Sm:b=0
        ·right;have:eO p k=false:=(by rw[o];simp[hA,kD,N,Sm,k0]);refine⟨.ret (B false),u,?_,(λv F=>by cases F),.inr ⟨rfl,bad this⟩,rfl⟩;unfold jw;generalize((k-1:Nat):Int)=K0 at I w;generalize(k:Int)=K at*;simp[V,r,X,Sj,D,I,w,z,N,Sp,Sm]
        ·left
         have:eO p k=true:=by
          have x:b<=a:=(by omega);rw[o];simp[hA,kD,x,Sm]
         refine⟨[Z (.ptr s.size 0),.v (.agg [.int .i64 p.a0,.int .i64 p.a1,.int .i64 p.a2,.int .i64 p.a3]),J ((k+1:Nat):Int)],u,q-1,?_,by omega,k+1,by omega,rfl,rfl,next this⟩;unfold jw;generalize((k+1:Nat):Int)=K1 at w1 ⊢;generalize((k-1:Nat):Int)=K0 at I w;generalize(k:Int)=K at*;simp[V,r,X,Sj,D,I,w,z,N,Sp,Sm,w1]
  ·right;have Sr:k=4:=by omega
   subst Sr;refine⟨.exit 0 [Z (.ptr s.size 0)],u,?_,(λv F=>by cases F),.inl ⟨rfl,(ml p).2 Sl⟩,rfl⟩;unfold jw;simp) 8192 4 [Z (.ptr s.size 0),.v (.agg [.int .i64 p.a0,.int .i64 p.a1,.int .i64 p.a2,.int .i64 p.a3]),J 0] s1 ⟨0,rfl,rfl,rfl,λj E=>by omega⟩ (by omega)
 subst Su;refine⟨Sx,?_,g⟩;have y:bz 4 1 (Z (.ptr s.size 0)) (J 3)=some (Z (.ptr s.size 3)):=rfl;have C:=ld 3 (by omega);generalize(T.v (.agg [.int .i64 p.a0,.int .i64 p.a1,.int .i64 p.a2,.int .i64 p.a3]))=L at S U;rcases E with ⟨rfl,Y⟩ | ⟨rfl,Y⟩
 ·have Ss:pQ p=(decide (p.a3=0)&&decide (1<=p.c)&&decide (p.c<=64)&&decide (1<=p.n)&&decide (p.n<=200)):=by simp[pQ,Y]
  rw[Ss];by_cases d1:p.a3=0
  ·by_cases d2:1<=p.c
   ·by_cases d3:p.c<=64
    ·by_cases d4:1<=p.n
     ·simp[nw,S,U,y,C,G,H,eV,d1,d2,d3,d4]
     ·simp[nw,S,U,y,C,G,H,eV,d1,d2,d3,d4]
    ·simp[nw,S,U,y,C,G,H,eV,d1,d2,d3]
   ·simp[nw,S,U,y,C,G,H,eV,d1,d2]
  ·simp[nw,S,U,y,C,eV,d1]
 ·have Ss:pQ p=false:=by simp[pQ,Y]
  rw[Ss];simp[nw,S,U]
def dA:List Bs:=[[114,97,119],[53,109],[49,104],[49,100]]
def gu:Bs:=[107,101,101,112]
def fG:Bs:=[115,101,97,108]
def fH:Bs:=[115,112,97,110]
def fS:Bs:=[101,118,101,114]
theorem G7(d:Nat)(a:s.wf):∃x t,R (d+1) 225 [] s=some (Z x,t)/\FT s t x dA:=by
 rw[Ka];unfold f225;refine⟨.sl s.size 0 4 (.known 4),s.push (.K true (c8 dA)),?_,Fr.lit 1 a rfl⟩;simp[aE,aN,aA,V.cells,aQ,c8,dA]
def pZ(p:kF)(k:Int)(n:Int):kF:=
 if k=0 then { p with a0:=n } else if k=1 then { p with a1:=n } else if k=2 then { p with a2:=n } else { p with a3:=n }
def kC(p:kF)(ws:List Bs):Option kF:=
 let last:=ws.getD (ws.length-1) []
 if ws.getD 0 []=gu/\ws.length=3 then
  if wJ (ws.getD 1 []) dA 0<0\/(cu last=false/\ws.getD 2 []≠fS)then none else some (pZ p (wJ (ws.getD 1 []) dA 0) (gy last))
 else if ws.getD 0 []=fG/\ws.length=2/\cu last=true then some { p with c:=gy last }
 else if ws.getD 0 []=fH/\ws.length=2/\cu last=true then some { p with n:=gy last }
 else none
def sH(i:Nat)(s t:St):Prop:=t.wf/\s.size<=t.size/\∀b,b<s.size->b≠i->t.get b=s.get b
theorem Gr.but{s t:St}(h:Gr s t)(i:Nat):sH i s t:=⟨h.1,h.2.1,λb a _=>h.2.2 b a⟩
theorem sH.trans{i:Nat}{a b c:St}(h:sH i a b)(k:sH i b c):sH i a c:=⟨k.1,bl h.2.1 k.2.1,λx d hi=>by rw[k.2.2 x (bh d h.2.1) hi,h.2.2 x d hi]⟩
theorem sH.set{i:Nat}{s:St}(d:s.wf)(hi:i<s.size)(b:er):sH i s (s.set i b):=⟨St.wf_set d hi _,by simp,λc e a=>St.bO a⟩
theorem Fh{p:kF}{j:Nat}{n:Int}(c:j<4):aQ (cP p) j [.int .i64 n]=cP (pZ p (j:Nat) n):=by
 match j,c with
 | 0,_=>rfl
 | 1,_=>rfl
 | 2,_=>rfl
 | 3,_=>rfl
theorem KN(d:Nat)(SU:s.wf){p:kF}{ws:List Bs}(hp:s.get i=some (.K true (cP p)))(hx:RT s x ws)(SK:∀c,own x=some c->c<s.size/\c≠i)(SJ:ws≠[])(hl:ws.length<=100000) :
 ∃t,R (d+6) 182 [Z (.ptr i 0),Z x] s=some (B (kC p ws).isSome,t)/\sH i s t/\t.get i=some (.K true (cP ((kC p ws).getD p))):=by
 rw[JP];unfold f182;have hi:=SU.lt hp
 have Sx:0<ws.length:=by
  cases ws with
  |nil=>exact absurd rfl SJ
  |cons _ _=>simp
 have at_:∀(u:St),Gr s u->∀j:Nat,j<ws.length->∃q,ar 1 (Z x) (J j)=some q/\aa q u.get=some (Z (.str (ws.getD j []))):=λu g j hj=>by
  have SP:RT u x ws:=hx.gr (λc hc=>(SK c hc).1) g;exact RT.MG SP rfl (by simp[List.getD,hj])
 have Su:∀(u v:St) j,j<ws.length->∀q,ar 1 (Z x) (J (j:Int))=some q->Gr s u->aa q u.get=some (Z (.str (ws.getD j []))):=λu v j hj q hq g=>by
  obtain⟨q',h1,h2⟩:=at_ u g j hj;rw[hq]at h1;cases h1;exact h2
 have e:=hx.lens;have w1:IntKind.i64.wrap ((ws.length:Int)-1)=((ws.length-1:Nat):Int):=by rw[aw _ (by omega) (by omega)];omega
 obtain⟨ql,E,D⟩:=at_ s (Gr.refl SU) (ws.length-1) (by omega);obtain⟨V,G,Q⟩:=Dq (l:=ws.getD (ws.length-1) []) d SU;obtain⟨last,S⟩:=aZ (ws.getD (ws.length-1) []);rw[<-S]at D G;obtain⟨q0,SR,C⟩:=at_ V Q 0 Sx;obtain⟨w0,Sy⟩:∃w,w=ws.getD 0 []:=⟨_,rfl⟩;rw[<-Sy]at C;have Sj:V.get i=some (.K true (cP p)):=by rw[Q.2.2 i hi];exact hp
 have Sl:i<V.size:=bh hi Q.2.1
 have Sv:kC p ws=if w0=gu/\ws.length=3 then
  if wJ (ws.getD 1 []) dA 0<0\/(cu last=false/\ws.getD 2 []≠fS)then none else some (pZ p (wJ (ws.getD 1 []) dA 0) (gy last))
   else if w0=fG/\ws.length=2/\cu last=true then some { p with c:=gy last }
   else if w0=fH/\ws.length=2/\cu last=true then some { p with n:=gy last } else none:=by rw[Sy,S];rfl
 rw[Sv];have k1:(Z (.str [107,101,101,112]):T)=Z (.str gu):=rfl;have k2:(Z (.str [115,101,97,108]):T)=Z (.str fG):=rfl;have k3:(Z (.str [115,112,97,110]):T)=Z (.str fH):=rfl;have k4:(Z (.str [101,118,101,114]):T)=Z (.str fS):=rfl;rw[k1,k2,k3,k4];have k:ar 1 (Z x) (J 0)=some q0:=SR;by_cases hk:w0=gu/\ws.length=3
 ·rw[af hk];obtain⟨Y,SX⟩:=hk;obtain⟨y,s2,e2,f2⟩:=G7 (d+4) Q.wf;have g2:=Q.trans f2.gr;obtain⟨q1,Sz,O⟩:=at_ s2 g2 1 (by omega);have F:=Su V V 1 (by omega) q1 Sz Q;obtain⟨q2,SS,Sr⟩:=at_ s2 g2 2 (by omega);obtain⟨SB,SN⟩:∃w,w=ws.getD 1 []:=⟨_,rfl⟩;obtain⟨Ss,SO⟩:∃w,w=ws.getD 2 []:=⟨_,rfl⟩;rw[<-SN]at O F ⊢;rw[<-SO]at Sr ⊢;have e3:=vv (v:=SB) (d+4) f2.rd (by decide);have N:ar 1 (Z x) (J 1)=some q1:=Sz;have Sk:ar 1 (Z x) (J 2)=some q2:=SS;have Sn:s2.get i=some (.K true (cP p)):=by rw[f2.gr.2.2 i Sl];exact Sj
  have X:(ws.length:Int)=3:=by omega
  have SW:decide (aa q1 V.get=aa q1 s2.get)=true:=aK (by rw[O,F]);simp only[aH,Nat.reduceAdd]at e2 e3;generalize R (d+5)=r at*;rcases r7 SB dA 0 with SQ | ⟨j,SG,SH,_⟩
  ·rw[SQ]at e3 ⊢;refine⟨s2,?_,Gr.but g2 i,by simp;exact Sn⟩;generalize((ws.length-1:Nat):Int)=L1 at*;have z:IntKind.i64.wrap 2=L1:=by rw[X]at w1;exact w1
   simp[e,z,E,D,G,ai,k,C,Y,X,e2,N,O,F,e3,bD]
  ·rw[SH]at e3 ⊢;rw[a7]at e3 ⊢;have SC:¬(j:Int)<0:=by omega
   have Sw:j<4:=SG;by_cases H:cu last=false/\Ss≠fS
   ·rw[af (.inr H)];refine⟨s2,?_,Gr.but g2 i,by simp;exact Sn⟩;generalize((ws.length-1:Nat):Int)=L1 at*;have z:IntKind.i64.wrap 2=L1:=(by rw[X]at w1;exact w1);simp[e,z,E,D,G,ai,k,C,Y,X,e2,N,O,F,e3,bD,SC,H.1,Sk,Sr,H.2]
   ·have hn:¬((j:Int)<0\/(cu last=false/\Ss≠fS)):=λh=>h.elim SC H
    rw[ae hn];obtain⟨s3,Sp⟩:=aZ (s2.set i (.K true (cP (pZ p (j:Nat) (gy last)))))
    have SA:bz 4 1 (Z (.ptr i 0)) (J j)=some (Z (.ptr i j)):=by
     match j,Sw with
     | 0,_=>rfl
     | 1,_=>rfl
     | 2,_=>rfl
     | 3,_=>rfl
    have st:=aJ (σ:=s2) (i:=i) (o:=j) (x := .int .i64 (gy last)) Sn (by simp[cP];omega);rw[Fh Sw,<-Sp]at st;refine⟨s3,?_,(Gr.but g2 i).trans (by rw[Sp];exact sH.set (Gr.wf g2) (bh hi g2.2.1) _),by rw[Sp];exact St.dh⟩;generalize((ws.length-1:Nat):Int)=L1 at*;have z:IntKind.i64.wrap 2=L1:=(by rw[X]at w1;exact w1);cases Sm:cu last with
    |true=>
     rw[Sm]at G;simp[e,z,E,D,G,ai,k,C,Y,X,e2,N,O,F,e3,bD,SC,SA,st]
    |false=>
     rw[Sm]at G
     have SF:Ss=fS:=by
      apply Classical.byContradiction;intro h;exact H ⟨Sm,h⟩
     simp[e,z,E,D,G,ai,k,C,Y,X,e2,N,O,F,e3,bD,SC,Sk,Sr,SF,SA,st]
 ·rw[ae hk];have SI:w0=gu->¬(ws.length:Int)=3:=λh h2=>hk ⟨h,by omega⟩
  by_cases hs:w0=fG/\ws.length=2/\cu last=true
  ·rw[af hs];obtain⟨SD,SV,SE⟩:=hs;have I:(ws.length:Int)=2:=by omega
   have n1:¬fG=gu:=by decide
   have st:=aJ (σ:=V) (i:=i) (o:=4) (x := .int .i64 (gy last)) Sj (by simp[cP]);refine⟨V.set i (.K true (cP { p with c:=gy last })),?_,(Gr.but Q i).trans (sH.set (Gr.wf Q) Sl _),by simp⟩;have U:aQ (cP p) 4 [.int .i64 (gy last)]=cP { p with c:=gy last }:=rfl;rw[U]at st;rw[SE]at G;generalize R (d+5)=r,((ws.length-1:Nat):Int)=L1 at*;have z:IntKind.i64.wrap 1=L1:=by rw[I]at w1;exact w1
   simp[e,z,E,D,G,ai,k,C,SD,n1,I,st]
  ·rw[ae hs];by_cases hq:w0=fH/\ws.length=2/\cu last=true
   ·rw[af hq];obtain⟨SD,SV,SE⟩:=hq;have I:(ws.length:Int)=2:=(by omega);have n1:¬fH=gu:=(by decide);have n2:¬fH=fG:=(by decide);have st:=aJ (σ:=V) (i:=i) (o:=5) (x := .int .i64 (gy last)) Sj (by simp[cP]);refine⟨V.set i (.K true (cP { p with n:=gy last })),?_,(Gr.but Q i).trans (sH.set (Gr.wf Q) Sl _),by simp⟩;have U:aQ (cP p) 5 [.int .i64 (gy last)]=cP { p with n:=gy last }:=rfl;rw[U]at st;rw[SE]at G;generalize R (d+5)=r,((ws.length-1:Nat):Int)=L1 at*;have z:IntKind.i64.wrap 1=L1:=(by rw[I]at w1;exact w1);simp[e,z,E,D,G,ai,k,C,SD,n1,n2,I,st]
   ·rw[ae hq];refine⟨V,?_,Gr.but Q i,by simp;exact Sj⟩
    have SM:w0=fG->(ws.length:Int)=2->cu last=false:=λh h2=>by
     cases hn:cu last with
     |false=>rfl
     |true=>exact absurd ⟨h,by omega,hn⟩ hs
    have SL:w0=fH->(ws.length:Int)=2->cu last=false:=λh h2=>by
     cases hn:cu last with
     |false=>rfl
     |true=>exact absurd ⟨h,by omega,hn⟩ hq
    generalize R (d+5)=r,((ws.length-1:Nat):Int)=L1 at*;have n1:¬fG=gu:=(by decide);have n2:¬fH=gu:=(by decide);have n3:¬fH=fG:=(by decide);have n4:¬fG=fH:=(by decide);have n5:¬gu=fH:=(by decide);have n6:¬gu=fG:=(by decide);by_cases b1:w0=gu
    ·have X:=SI b1;simp[e,w1,E,D,G,ai,k,C,b1,X,n5,n6]
    ·by_cases b2:w0=fG
     ·by_cases I:(ws.length:Int)=2
      ·have:=SM b2 I;have z:IntKind.i64.wrap 1=L1:=(by rw[I]at w1;exact w1);simp[e,z,E,D,G,ai,k,C,b2,n1,n4,I,this]
      ·simp[e,w1,E,D,G,ai,k,C,b2,n1,n4,I]
     ·by_cases b3:w0=fH
      ·by_cases I:(ws.length:Int)=2
       ·have:=SL b3 I;have z:IntKind.i64.wrap 1=L1:=(by rw[I]at w1;exact w1);simp[e,z,E,D,G,ai,k,C,b3,n2,n3,I,this]
       ·simp[e,w1,E,D,G,ai,k,C,b3,n2,n3,I]
      ·simp[e,w1,E,D,G,ai,k,C,b1,b2,b3]
end
def bI(x:Bs):List Bs:=(bL 32 (x.takeWhile λb => !Nat.beq b.toNat (35:UInt8).toNat)).filter λw => !decide (w=[])
def gV:kF->List Bs->Nat->List Bs->kF×Int×Int
 |p,_,_,[]=>if pQ p then(p,0,0)else(bV,5,0)
 |p,seen,k,x::r=>if bI x=[]then gV p seen (k+1) r else
  match kC p (bI x)with
  |none=>(bV,4,k+1)
  |some c=>if eQ [32] (bI x).dropLast∈seen then(bV,4,k+1)else gV c (seen++[eQ [32] (bI x).dropLast]) (k+1) r
def e3(l:Bs):kF×Int×Int:=gV gM [] 0 (bL 10 l)
section
variable {s t:St}{x y:S}{l:Bs}{i:Nat}
theorem Cu(x:Bs):(bI x).length<=x.length+1:=by
 unfold bI;refine bl (Fu _ _) ?_;rw[fw];have a:=oD 32 (x.takeWhile λb => !Nat.beq b.toNat (35:UInt8).toNat);have c:=(uF (p:=λb:UInt8 => !Nat.beq b.toNat (35:UInt8).toNat) (l:=x)).length_le;omega
theorem px:∀{a b:List Bs},a.Sublist b->dI a<=dI b:=by
 intro a b h;induction h with
 |slnil=>exact au _
 |cons x _ c=>simp only[dI];omega
 |cons_cons x _ c=>simp only[dI];omega
theorem w5(x:Bs):dI (bI x).dropLast<=x.length:=by
 have a:=px (List.dropLast_sublist (bI x));have c:=px (List.filter_sublist (l:=bL 32 (x.takeWhile λb => !Nat.beq b.toNat (35:UInt8).toNat)) (p:=λw => !decide (w=[])));have d:dI (bL 32 (x.takeWhile λb => !Nat.beq b.toNat (35:UInt8).toNat))<=(x.takeWhile λb => !Nat.beq b.toNat (35:UInt8).toNat).length:=by rw[q9];exact p1 _ _
 have e:=(uF (p:=λb:UInt8 => !Nat.beq b.toNat (35:UInt8).toNat) (l:=x)).length_le;unfold bI at a ⊢;exact bl a (bl c (bl d e))
theorem D4(r:bc)(v0 v1 a v3 b d e:T){ps:List Bs}(L:RT s x ps)(B:∀c,own x=some c->c<s.size)(O:s.wf)(Q:ps.length<=8001) :
 ∃(y:S) (m:St),loops (oG r 8192) 8192 [v0,v1,a,v3,Z .av,b,d,e,Z x,J ps.length,J 0] s=some (.exit 2 [v0,v1,a,v3,Z y,b,d,e],m)/\FT s m y (ps.filter λw => !decide (w=[])):=by
 obtain⟨j,m,M,y,rfl,g⟩:=aL (f:=oG r 8192) (λq v u=>∃(k:Nat) (y:S),q+k=ps.length/\v=[v0,v1,a,v3,Z y,b,d,e,Z x,J ps.length,J k]/\FT s u y ((ps.take k).filter λw => !decide (w=[])))
  (λj u=>∃y,j = .exit 2 [v0,v1,a,v3,Z y,b,d,e]/\FT s u y (ps.filter λw => !decide (w=[]))) (by
  rintro q v u ⟨k,y,P,rfl,g⟩;by_cases A:k<ps.length
  ·left;have F:ps[k]? = some ps[k]:=aU A;have C:RT u x ps:=L.gr B g.gr;obtain⟨p,G,D⟩:=RT.MG C (n:=(k:Int)) rfl F;have E:(k:Int)<(ps.length:Int):=by omega
   have w1:IntKind.i64.wrap ((k:Int)+1)=((k+1:Nat):Int):=by rw[aw _ (by omega) (by omega)];omega
   have i:ps.take (k+1)=ps.take k++[ps[k]]:=by rw[cM,F];rfl
   by_cases l:ps[k]=[]
   ·refine⟨[v0,v1,a,v3,Z y,b,d,e,Z x,J ps.length,J ((k+1:Nat):Int)],u,q-1,?_,by omega,k+1,y,by omega,rfl,?_⟩
    ·unfold oG;rw[l]at D;simp[E,G,D,w1]
    ·rw[i,Mv,l]
     simpa using g
   ·have h:((ps.take k).filter λw => !decide (w=[])).length<=1000000:=by
     refine bl (Fu _ _) ?_;rw[bb];omega
    obtain⟨H,t,⟨R,N,I⟩,o,_⟩:=FT.lit (c:=ps[k]) g h;refine⟨[v0,v1,a,v3,Z H,b,d,e,Z x,J ps.length,J ((k+1:Nat):Int)],t,q-1,?_,by omega,k+1,H,by omega,rfl,?_⟩
    ·unfold oG;simp[E,G,D,l,N,I,w1]
    ·rw[i,Mv]
     simpa[l]using o
  ·right;have z:k=ps.length:=by omega
   subst z;refine⟨.exit 2 [v0,v1,a,v3,Z y,b,d,e],u,?_,(λv K=>by cases K),y,rfl,by rwa [dE]at g⟩;unfold oG;simp) 8192 ps.length [v0,v1,a,v3,Z .av,b,d,e,Z x,J ps.length,J 0] s ⟨0,.av,by omega,rfl,by simpa[FT,c8]using Fr.nil 1 O⟩ (by omega)
 exact⟨y,m,M,g⟩
theorem xT(d:Nat)(TW:s.wf)(hl:l.length<=8000):∃t,R (d+7) 137 [Z (.str l)] s=some (.c6 [.agg (cP (e3 l).1),.s (.int .i64 (e3 l).2.1),.s (.int .i64 (e3 l).2.2)],t)/\Gr s t:=by
 rw[Jq];unfold f137;obtain⟨s1,SB⟩:=aZ (s.push (.K true (cP bV)));have g1:Gr s s1:=by rw[SB];exact Gr.push TW _
 have z1:s1.size=s.size+1:=by rw[SB];rfl
 have TA:s1.get s.size=some (.K true (cP bV)):=by rw[SB];exact St.ec
 have SD:aE s (a6 [iz,iz,iz,iz,iz,iz])=some (Z (.ptr s.size 0),s1):=by rw[SB];rfl
 obtain⟨s2,e2,g2⟩:=sP (d+5) g1.wf;obtain⟨s3,SC⟩:=aZ (s2.push (.K true (cP bV)));have g3:Gr s2 s3:=by rw[SC];exact Gr.push g2.wf _
 have SE:aE s2 (a6 [iz,iz,iz,iz,iz,iz])=some (Z (.ptr s2.size 0),s3):=by rw[SC];rfl
 have Tx:s3.get s2.size=some (.K true (cP bV)):=by rw[SC];exact St.ec
 have z3:s3.size=s2.size+1:=by rw[SC];rfl
 obtain⟨s4,Sp⟩:=aZ (s3.set s2.size (.K true (cP gM)));have Sv:=gB (p:=gM) Tx rfl;rw[<-Sp]at Sv;have f4:s4.wf:=by rw[Sp];exact St.wf_set g3.wf (by omega) _
 have z4:s4.size=s2.size+1:=by rw[Sp];simpa using z3
 have S4:s4.get s2.size=some (.K true (cP gM)):=by rw[Sp];exact St.dh
 have SM:∀b,b<s2.size->s4.get b=s2.get b:=λb B=>by rw[Sp,St.bO (by omega),g3.2.2 b B]
 have TH:s.size+1<=s2.size:=by have:=g2.2.1;omega
 have S7:s4.get s.size=some (.K true (cP bV)):=by rw[SM _ (by omega),g2.2.2 _ (by omega)];exact TA
 have SS:∀b,b<s.size->s4.get b=s.get b:=λb B=>by rw[SM b (by omega),g2.2.2 b (by omega),g1.2.2 b B]
 obtain⟨x,G,e5,f5⟩:=yd (l:=l) (c:=10) (d+3) f4 hl;obtain⟨ps,SA⟩:=aZ (bL 10 l);rw[<-SA]at f5;have Ts:ps.length<=8001:=by rw[SA,fw];have:=oD 10 l;omega
 have S3:∀w∈ps,w.length<=8000:=λw hw=>by have:=DS 10 l w (by rw[<-SA];exact hw);omega
 have Sm:e3 l=gV gM [] 0 ps:=by rw[SA];rfl
 rw[Sm];obtain⟨z,TB⟩:=aZ (s.size);obtain⟨pp,Tz⟩:=aZ (s2.size);rw[<-TB]at SD S7;rw[<-Tz]at SE Sv S4
 obtain⟨j,TG,lp,hj⟩:=aL (f:=mu (R (d+6)) 8192)
  (λq v u=>∃(k:Nat) (p:kF) (y:S) (seen:List Bs),q+k=ps.length/\v=[Z (.ptr z 0),Z (.ptr pp 0),Z y,Z x,J ps.length,J k]/\u.wf/\G.size<=u.size/\u.get z=some (.K true (cP bV))/\u.get pp=some (.K true (cP p)) ∧
   (∀b,b<G.size->b≠pp->u.get b=G.get b)/\Ow 1 u y seen.length (c8 seen)/\(∀c,own y=some c->G.size<=c/\c<u.size)/\seen.length<=k/\gV p seen k (ps.drop k)=gV gM [] 0 ps)
  (λj u=>u.wf/\G.size<=u.size/\(∀b,b<G.size->b≠pp->b≠z->u.get b=G.get b) ∧
   ((∃p,j = .exit 0 [Z (.ptr z 0),Z (.ptr pp 0)]/\u.get z=some (.K true (cP bV))/\u.get pp=some (.K true (cP p))/\gV gM [] 0 ps=if pQ p then(p,0,0)else(bV,5,0)) ∨
    ∃k:Nat,j = .ret (.c6 [.agg (cP bV),.s (.int .i64 4),.s (.int .i64 ((k+1:Nat):Int))])/\gV gM [] 0 ps=(bV,4,(k:Int)+1))) (by
  rintro q v u ⟨k,p,y,seen,hk,rfl,SW,Tj,Tb,S6,SQ,hy,Tg,TT,Sy⟩;have Tw:z≠pp:=by omega
  have Ta:z<G.size:=by have:=f5.gr.2.1;omega
  have S5:pp<G.size:=by have:=f5.gr.2.1;omega
  by_cases S0:k<ps.length
  ·have hc:ps[k]? = some ps[k]:=aU S0;have SZ:ps.drop k=ps[k]::ps.drop (k+1):=cU S0;obtain⟨w,hw⟩:=aZ (ps[k]);rw[<-hw]at hc SZ;rw[SZ]at Sy;have TU:w.length<=8000:=S3 w (bS hc);have TE:RT u x ps:=f5.rd.keep λc o=>SQ c (f5.new c o).2 (by have:=(f5.new c o).1;omega)
   obtain⟨pi,ix,ld⟩:=RT.MG TE (n:=(k:Int)) rfl hc;have SX:(k:Int)<(ps.length:Int):=by omega
   have w1:IntKind.i64.wrap ((k:Int)+1)=((k+1:Nat):Int):=by rw[aw _ (by omega) (by omega)];omega
   have SY:=MP (s:=u) (l:=w) (c:=35) (d+3) (by omega);obtain⟨cw,SP⟩:=aZ (w.takeWhile λb => !Nat.beq b.toNat (35:UInt8).toNat);rw[<-SP]at SY;have TQ:cw.length<=w.length:=by rw[SP];exact(uF _).length_le
   obtain⟨x2,u2,es,fs⟩:=yd (l:=cw) (c:=32) (d+3) SW (by omega);have Tv:(bL 32 cw).length<=8001:=by rw[fw];have:=oD 32 cw;omega
   have X:=fs.rd.lens;obtain⟨y3,u3,Ss,f3⟩:=D4 (R (d+6)) (Z (.ptr z 0)) (Z (.ptr pp 0)) (Z y) (J k) (Z x) (J ps.length) (J k) fs.rd (λc o=>(fs.new c o).2) fs.gr.wf Tv;have TD:((bL 32 cw).filter λw => !decide (w=[]))=bI w:=by rw[SP];rfl
   rw[TD]at f3;have I:Gr u u3:=fs.gr.trans f3.gr;have SJ:u3.get z=some (.K true (cP bV)):=by rw[I.2.2 z (by omega)];exact Tb
   have SH:u3.get pp=some (.K true (cP p)):=by rw[I.2.2 pp (by omega)];exact S6
   have SF:∀b,b<G.size->b≠pp->u3.get b=G.get b:=λb B Sx=>by rw[I.2.2 b (by omega)];exact SQ b B Sx
   have Te:Ow 1 u3 y seen.length (c8 seen):=hy.gr SW I;have O:∀c,own y=some c->G.size<=c/\c<u3.size:=λc o=>⟨(Tg c o).1,bh (Tg c o).2 I.2.1⟩
   have Th:G.size<=u3.size:=bl Tj I.2.1;have Sk:=f3.rd.lens;simp only[aH,Nat.reduceAdd]at SY es Ss;by_cases N:bI w=[]
   ·left;rw[N]at Sk;refine⟨[Z (.ptr z 0),Z (.ptr pp 0),Z y,Z x,J ps.length,J ((k+1:Nat):Int)],u3,q-1,?_,by omega,k+1,p,y,seen,by omega,rfl,I.wf,Th,SJ,SH,SF,Te,O,by omega,?_⟩
    ·unfold mu;generalize R (d+6)=r at*;generalize((k+1:Nat):Int)=K1 at w1 ⊢;generalize((bL 32 cw).length:Int)=SL at*;simp[SX,ix,ld,SY,ai,es,X,Ss,Sk,w1]
    ·rw[<-Sy];show _=(if bI w=[]then _ else _)
     rw[af N]
   ·-- a line TM TL SV
    obtain⟨n,hn⟩:∃n,(bI w).length=n+1:=by
     cases hq:bI w with
     |nil=>exact absurd hq N
     |cons a b=>exact⟨b.length,rfl⟩
    have TV:(bI w).length<=8001:=bl (Cu w) (by omega);rw[hn]at Sk;have cl:¬(((n+1:Nat):Int)=0):=(by omega);have wl:IntKind.i64.wrap (((n+1:Nat):Int)-1)=((n:Nat):Int):=(by rw[aw _ (by omega) (by omega)];omega);obtain⟨y4,pc,To,TK⟩:=f3.rd.upto (hi:=n) (by omega);have TC:(c8 (bI w)).take (n*1)=c8 (bI w).dropLast:=(by rw[dZ,HY,List.dropLast_eq_take,hn,jC]);have Tt:(bI w).dropLast.length=n:=(by rw[Ft,hn,jC]);rw[TC]at To;have Tp:RT u3 y4 (bI w).dropLast:=(by unfold RT;rw[Tt];exact To);have ej:R (d+6) 181 [Z y4,Z (.str [32])] u3=some (Z (.str (eQ [32] (bI w).dropLast)),u3):=ep (He Tp (by have:=w5 w;simp;omega) (by omega));obtain⟨said,Sr⟩:=aZ (eQ [32] (bI w).dropLast);rw[<-Sr]at ej;have S9:RT u3 y3 (bI w):=f3.rd;obtain⟨E,e4,b4,SG⟩:=KN (i:=pp) d I.wf (ws:=bI w) SH S9 (λc o=>⟨(f3.new c o).2,by have:=(f3.new c o).1;have:=fs.gr.2.1;omega⟩) N (by omega);have Ti:G.size<=E.size:=bl Th b4.2.1;have Sn:E.get z=some (.K true (cP bV)):=(by rw[b4.2.2 z (by omega) Tw];exact SJ);have Sl:∀b,b<G.size->b≠pp->E.get b=G.get b:=λb B Sx=>by rw[b4.2.2 b (by omega) Sx];exact SF b B Sx
    have Tf:Ow 1 E y seen.length (c8 seen):=Te.keep λc o=>b4.2.2 c (O c o).2 (by have:=(O c o).1;omega)
    have SK:∀c,own y=some c->G.size<=c/\c<E.size:=λc o=>⟨(O c o).1,bh (O c o).2 b4.2.1⟩
    have H:=wG (s:=E) (x:=y) (ws:=seen) (v:=said) (d+4) Tf.rd (by omega)
    have C:(match kC p (bI w)with
     |none=>(bV,4,(k:Int)+1)
     |some p'=>if said∈seen then(bV,4,(k:Int)+1)else gV p' (seen++[said]) (k+1) (ps.drop (k+1)))=gV gM [] 0 ps:=by
     rw[<-Sy];show _=(if bI w=[]then _ else _)
     rw[ae N,Sr]
    have Q:∀u':St,u'.get z=some (.K true (cP bV))->aj 6 (Z (.ptr z 0)) (AP bV) u'=some (tt,u'.set z (.K true (cP bV))):=λu' h=>gB h rfl
    have Y:∀u':St,ay 6 (Z (.ptr z 0)) (u'.set z (.K true (cP bV))).get=some (AP bV):=λu'=>k3 (St.dh)
    simp only[aH,Nat.reduceAdd]at e4 H;cases S1:kC p (bI w)with
    |none=>
     right;rw[S1]at e4 C;simp only[uL]at e4;refine⟨.ret (.c6 [.agg (cP bV),.s (.int .i64 4),.s (.int .i64 ((k+1:Nat):Int))]),E.set z (.K true (cP bV)),?_,(λv hv=>by cases hv),St.wf_set b4.1 (by omega) _,by simpa using Ti,λb B h1 h2=>by rw[St.bO h2];exact Sl b B h1,.inr ⟨k,rfl,C.symm⟩⟩;unfold mu;have sr:=Q E Sn;have lr:=Y E;generalize E.set z (.K true (cP bV))=u5,R (d+6)=r at*;generalize((k+1:Nat):Int)=K1 at w1 ⊢;generalize((bL 32 cw).length:Int)=SL,((n+1:Nat):Int)=N1 at*;simp[SX,ix,ld,SY,ai,es,X,Ss,Sk,cl,wl,pc,ej,e4,bD,qf,sr,lr,w1,rC,rT,aD,a8]
    |some p'=>
     rw[S1]at e4 C SG;simp only[FY]at e4;by_cases Sz:said∈seen
     ·right;simp only[af Sz]at C;rw[aK Sz]at H;refine⟨.ret (.c6 [.agg (cP bV),.s (.int .i64 4),.s (.int .i64 ((k+1:Nat):Int))]),E.set z (.K true (cP bV)),?_,(λv hv=>by cases hv),St.wf_set b4.1 (by omega) _,by simpa using Ti,λb B h1 h2=>by rw[St.bO h2];exact Sl b B h1,.inr ⟨k,rfl,C.symm⟩⟩;unfold mu;have sr:=Q E Sn;have lr:=Y E;generalize E.set z (.K true (cP bV))=u5,R (d+6)=r at*;generalize((k+1:Nat):Int)=K1 at w1 ⊢;generalize((bL 32 cw).length:Int)=SL,((n+1:Nat):Int)=N1 at*;simp[SX,ix,ld,SY,ai,es,X,Ss,Sk,cl,wl,pc,ej,e4,H,qf,sr,lr,w1,rC,rT,aD,a8]
     ·left;simp only[ae Sz]at C;rw[aR Sz]at H;have TR:Fr 1 E E y seen.length (c8 seen)->True:=λ_=>trivial
      have L:=Fr.lit 1 b4.1 (n:=1) (vs:=c8 [said]) (by simp);obtain⟨y5,u5,TN,Tq,z5,Tn,Tm,Tl⟩:=(Tf.gr b4.1 L.gr).append (by_:=16) L.gr.wf (by omega) L.rd.src (by simp) (by omega);have nw:aE E (aN 1 (aA [.str []] [(0,1,Z (.str said))]))=some (Z (.sl E.size 0 1 (.known 1)),E.push (.K true (c8 [said]))):=(by simp[aE,aN,aA,V.cells,aQ,c8]);have zl:E.size<(E.push (.K true (c8 [said]))).size:=by simp
      have U:∀b,b<G.size->u5.get b=E.get b:=λb B=>by
       rw[Tm b (by omega) (λe=>by have:=(SK b e).1;omega),L.gr.2.2 b (by omega)]
      refine⟨[Z (.ptr z 0),Z (.ptr pp 0),Z y5,Z x,J ps.length,J ((k+1:Nat):Int)],u5,q-1,?_,by omega,k+1,p',y5,seen++[said],by omega,rfl,Tq,by omega,by rw[U z Ta];exact Sn,by rw[U pp S5];exact SG,
       λb B h1=>by rw[U b B];exact Sl b B h1,by rw[lI,aI];exact Tn,λc o => ?_,by simp;omega,by rw[C]⟩
      ·unfold mu;generalize E.push (.K true (c8 [said]))=u6,R (d+6)=r at*;generalize((k+1:Nat):Int)=K1 at w1 ⊢;generalize((bL 32 cw).length:Int)=SL,((n+1:Nat):Int)=N1 at*;simp[SX,ix,ld,SY,ai,es,X,Ss,Sk,cl,wl,pc,ej,e4,H,nw,TN,w1]
      ·have S2:=Tn.lt Tq o;rcases Tl with e | e | ⟨c',e,TP⟩
       ·rw[e]at o;cases o
       ·rw[e]at o;exact⟨(SK c o).1,S2⟩
       ·rw[e]at o;cases o;exact⟨by omega,S2⟩
  ·right;have TS:k=ps.length:=by omega
   refine⟨.exit 0 [Z (.ptr z 0),Z (.ptr pp 0)],u,?_,(λv hv=>by cases hv),SW,Tj,λb B h1 h2=>SQ b B h1,.inl ⟨p,rfl,Tb,S6,?_⟩⟩
   ·have SX:¬(k:Int)<(ps.length:Int):=(by omega);unfold mu;simp[SX]
   ·rw[<-Sy,ja (by omega)];rfl) 8192 ps.length [Z (.ptr z 0),Z (.ptr pp 0),Z .av,Z x,J ps.length,J 0] G
  ⟨0,gM,.av,[],by omega,rfl,f5.gr.wf,au _,by rw[f5.gr.2.2 z (by omega)];exact S7,by rw[f5.gr.2.2 pp (by omega)];exact S4,λb B h1=>rfl,by simpa[c8]using Ow.nil 1 G,(λc hc=>by cases hc),by simp,rfl⟩ (by omega)
 have T:=f5.rd.lens;simp only[aH,Nat.reduceAdd]at e2 e5;obtain⟨SN,TX,SU,SO⟩:=hj;have TO:=f5.gr.2.1;have Sj:∀b,b<s.size->TG.get b=s.get b:=λb B=>by rw[SU b (by omega) (by omega) (by omega),f5.gr.2.2 b (by omega)];exact SS b B
 rcases SO with ⟨p,rfl,Tc,SI,F⟩ | ⟨k,rfl,F⟩
 ·have Tk:=k3 (g:=TG.get) SI;obtain⟨s6,em,g6⟩:=Oe (d+5) SN p;have S8:s6.get z=some (.K true (cP bV)):=by rw[g6.2.2 z (by omega)];exact Tc
  have Ty:s6.get pp=some (.K true (cP p)):=by rw[g6.2.2 pp (by omega)];exact SI
  have TF:=k3 (g:=s6.get) Ty;have Su:∀b,b<s.size->s6.get b=s.get b:=λb B=>by rw[g6.2.2 b (by omega)];exact Sj b B
  have Td:s.size<=s6.size:=by have:=g6.2.1;omega
  have TJ:z<s6.size:=by have:=g6.2.1;omega
  cases TI:pQ p with
  |true=>
   rw[TI]at em F;rw[F];have Sw:=gB (p:=p) S8 rfl;obtain⟨s7,D⟩:=aZ (s6.set z (.K true (cP p)));rw[<-D]at Sw;have SR:ay 6 (Z (.ptr z 0)) s7.get=some (AP p):=k3 (by rw[D];exact St.dh);refine⟨s7,?_,by rw[D];exact St.wf_set g6.wf (by omega) _,by rw[D];simpa using Td,λb B=>by rw[D,St.bO (by omega)];exact Su b B⟩;generalize R (d+6)=r at*;simp[SD,e2,SE,Sv,e5,T,lp,Tk,em,TF,Sw,SR,rC,rT,aD,a8]
  |false=>
   rw[TI]at em F;rw[F];have Sw:=gB (p:=bV) S8 rfl;obtain⟨s7,D⟩:=aZ (s6.set z (.K true (cP bV)));rw[<-D]at Sw;have SR:ay 6 (Z (.ptr z 0)) s7.get=some (AP bV):=k3 (by rw[D];exact St.dh);refine⟨s7,?_,by rw[D];exact St.wf_set g6.wf (by omega) _,by rw[D];simpa using Td,λb B=>by rw[D,St.bO (by omega)];exact Su b B⟩;generalize R (d+6)=r at*;simp[SD,e2,SE,Sv,e5,T,lp,Tk,em,qf,Sw,SR,rC,rT,aD,a8]
 ·rw[F];refine⟨TG,?_,SN,by omega,Sj⟩;generalize R (d+6)=r at*;have Tu:((k+1:Nat):Int)=(k:Int)+1:=by omega
  rw[Tu]at lp;simp[SD,e2,SE,Sv,e5,T,lp]
end
section
variable {s t:St}{x y:S}{bs cs:List UInt8}
def Pj(at_:Nat):Option (Nat×Nat)->JO
 |some (n,e) => .ret (.c6 [.s (.int .u64 n),.s (.int .i64 e),.s (iz)])
 |none => .exit 0 [J at_]
theorem Kk(r:bc)(N:Nat)(h:RB s x bs)(hl:bs.length<=100000){at_:Nat}(ha:at_<=100000)(res:Option (Nat×Nat))(Sj:mC bs at_ 10 0 0=res) :
 loops (kL r N) 8192 [Z x,J at_,J6 0,J 0] s=some (Pj at_ res,s):=by
 obtain⟨j,Su,lp,hj,Sn⟩:=aL (f:=kL r N) (λq v u=>∃k n:Nat,q+k=10/\v=[Z x,J at_,J6 n,J k]/\u=s/\n<2 ^ 64/\mC bs at_ q k n=res)
  (λj u=>j=Pj at_ res/\u=s) (by
  rintro q v u ⟨k,n,hk,rfl,rfl,hn,z⟩;have w:=h.r9;cases q with
  |zero=>
   right;have Sl:k=10:=by omega
   subst Sl;have:res=none:=by rw[<-z];rfl
   subst this;refine⟨.exit 0 [J at_],u,?_,(λv Q=>by cases Q),rfl,rfl⟩;unfold kL;simp
  |succ q=>
   have I:(k:Int)<10:=by omega
   have w0:IntKind.i64.wrap ((at_:Int)+k)=((at_+k:Nat):Int):=by rw[aw _ (by omega) (by omega)];omega
   unfold mC at z;cases X:bs[at_+k]? with
   |none=>
    rw[X]at z;subst z;right;have Sr:bs.length<=at_+k:=by simpa using X
    have B:(bs.length:Int)<=((at_+k:Nat):Int):=(by omega);refine⟨.exit 0 [J at_],u,?_,(λv Q=>by cases Q),rfl,rfl⟩;unfold kL;generalize((at_+k:Nat):Int)=A at w0 B ⊢;simp[I,w0,w,B]
   |some c=>
    rw[X]at z;simp only at z;have Ss:=(bq.1 X).1;have B:¬(bs.length:Int)<=((at_+k:Nat):Int):=(by omega);obtain⟨p,E,R⟩:=h.H9 (n:=((at_+k:Nat):Int)) rfl X;have Sk:c.toNat<256:=c.toNat_lt
    have hand:ah .and (J8 c.toNat) (J8 127)=some (J8 (c.toNat%128:Nat)):=by
     have:=Pv c.toNat 127 Sk (by decide);rw[show(c.toNat &&& 127:Nat)=c.toNat%128 from zQ c.toNat 7]at this;exact this
    have e:IntKind.u64.wrap ((c.toNat%128:Nat):Int)=((c.toNat%128:Nat):Int):=wrap64 _ (by omega);have o:IntKind.i64.wrap (7*(k:Int))=((7*k:Nat):Int):=(by rw[aw _ (by omega) (by omega)];omega);have t:IntKind.u64.wrap ((7*k:Nat):Int)=((7*k:Nat):Int):=wrap64 _ (by omega);have w1:IntKind.i64.wrap ((k:Int)+1)=((k+1:Nat):Int):=(by rw[aw _ (by omega) (by omega)];omega);have U:IntKind.i64.wrap (((at_+k:Nat):Int)+1)=((at_+k+1:Nat):Int):=(by rw[aw _ (by omega) (by omega)];omega);by_cases h9:k=9/\1<c.toNat
    ·rw[af h9]at z;subst z;right;have d9:((k:Int)=9)=True:=dm (by omega);have F:((1:Int)<(c.toNat:Int))=True:=dm (by omega);refine⟨.exit 0 [J at_],u,?_,(λv Q=>by cases Q),rfl,rfl⟩;unfold kL;generalize((at_+k:Nat):Int)=A at w0 B E ⊢;generalize(k:Int)=K,(c.toNat:Int)=C at*;simp[I,w0,w,B,E,R,d9,F]
    ·rw[ae h9]at z
     have H:c.toNat%128*2 ^ (7*k)<2 ^ 64:=by
      by_cases y:k=9
      ·subst y;have:c.toNat%128<=1:=by omega
       calc c.toNat%128*2 ^ (7*9)<=1*2 ^ 63:=dx _ this
        _<2 ^ 64:=by decide
      ·have Sm:7*k<=56:=(by omega);have G:c.toNat%128<2 ^ 7:=by omega
       calc c.toNat%128*2 ^ (7*k)<=c.toNat%128*2 ^ 56:=zU _ (ng (by omega) Sm)
        _<2 ^ 64:=by omega
     have d:=uq (c.toNat%128) (7*k) H (by omega);have g:=Du n (c.toNat%128*2 ^ (7*k)) hn H;have Y:(n ||| c.toNat%128*2 ^ (7*k))<2 ^ 64:=lN hn H;obtain⟨M,hM⟩:=aZ ((n ||| c.toNat%128*2 ^ (7*k)));rw[<-hM]at g Y z
     have D:((k:Int)=9)=False\/(((k:Int)=9)=True/\((1:Int)<(c.toNat:Int))=False):=by
      by_cases y:k=9
      ·exact .inr ⟨dm (by omega),gY (λh=>h9 ⟨y,by omega⟩)⟩
      ·exact .inl (gY (by omega))
     by_cases G:128<=c.toNat
     ·rw[af G]at z;left;have F:((128:Int)<=(c.toNat:Int))=True:=dm (by omega);refine⟨[Z x,J at_,J6 M,J ((k+1:Nat):Int)],u,q,?_,rfl,k+1,M,by omega,rfl,rfl,Y,z⟩;generalize((k+1:Nat):Int)=K1 at w1 ⊢;unfold kL;generalize((c.toNat%128*2 ^ (7*k):Nat):Int)=SH at d g;generalize((c.toNat%128:Nat):Int)=L at hand e d;generalize((7*k:Nat):Int)=K7 at o t d;generalize((at_+k:Nat):Int)=A at w0 B E;generalize(k:Int)=K,(c.toNat:Int)=C at*;rcases D with y | ⟨y,T⟩
      ·simp[I,w0,w,B,E,R,y,hand,e,o,t,d,g,F,w1]
      ·simp[I,w0,w,B,E,R,y,T,hand,e,o,t,d,g,F,w1]
     ·rw[ae G]at z;right;have F:((128:Int)<=(c.toNat:Int))=False:=gY (by omega);by_cases hz:0<k/\c.toNat=0
      ·rw[af hz]at z;subst z;have S:((0:Int)<(k:Int))=True:=dm (by omega);have V:((c.toNat:Int)=0)=True:=dm (by omega);refine⟨.exit 0 [J at_],u,?_,(λv Q=>by cases Q),rfl,rfl⟩;unfold kL;generalize((c.toNat%128*2 ^ (7*k):Nat):Int)=SH at d g;generalize((c.toNat%128:Nat):Int)=L at hand e d;generalize((7*k:Nat):Int)=K7 at o t d;generalize((at_+k:Nat):Int)=A at w0 B E;generalize(k:Int)=K,(c.toNat:Int)=C at*;rcases D with y | ⟨y,T⟩
       ·simp[I,w0,w,B,E,R,y,hand,e,o,t,d,g,F,S,V]
       ·simp[I,w0,w,B,E,R,y,T,hand,e,o,t,d,g,F,S,V]
      ·rw[ae hz]at z;subst z;refine⟨.ret (.c6 [.s (.int .u64 M),.s (.int .i64 ((at_+k+1:Nat):Int)),.s (iz)]),u,?_,(λv Q=>by cases Q),rfl,rfl⟩
       have O:((0:Int)<(k:Int))=False\/(((0:Int)<(k:Int))=True/\((c.toNat:Int)=0)=False):=by
        by_cases Sp:0<k
        ·exact .inr ⟨dm (by omega),gY (λh=>hz ⟨Sp,by omega⟩)⟩
        ·exact .inl (gY (by omega))
       unfold kL;generalize((c.toNat%128*2 ^ (7*k):Nat):Int)=SH at d g;generalize((c.toNat%128:Nat):Int)=L at hand e d;generalize((7*k:Nat):Int)=K7 at o t d;generalize((at_+k+1:Nat):Int)=A1 at U ⊢;generalize((at_+k:Nat):Int)=A at w0 U B E;generalize(k:Int)=K,(c.toNat:Int)=C at*;rcases D with y | ⟨y,T⟩<;>rcases O with S | ⟨S,V⟩
       ·simp[I,w0,w,B,E,R,y,hand,e,o,t,d,g,F,S,U,aD,a8]
       ·simp[I,w0,w,B,E,R,y,hand,e,o,t,d,g,F,S,V,U,aD,a8]
       ·simp[I,w0,w,B,E,R,y,T,hand,e,o,t,d,g,F,S,U,aD,a8]
       ·simp[I,w0,w,B,E,R,y,T,hand,e,o,t,d,g,F,S,V,U,aD,a8]) 8192 10 [Z x,J at_,J6 0,J 0] s ⟨0,0,rfl,rfl,rfl,by decide,Sj⟩ (by omega)
 subst Sn;subst hj;exact lp
def mf(at_ len:Nat):Option (Nat×Nat)->T
 |some (n,e) => .c6 [.s (.int .u64 n),.s (.int .i64 e),.s (iz)]
 |none => .c6 [.s (.int .u64 0),.s (.int .i64 at_),.s (.int .i64 (if at_<=len then 2 else 1))]
theorem rk(d:Nat)(h:RB s x bs)(t:bs.length<=100000){at_:Nat}(r:at_<=100000):R (d+1) 118 [Z x,J at_] s=some (mf at_ bs.length (fY bs at_),s):=by
 rw[Jj];unfold f118;have g:=h.r9;have o:¬(at_:Int)<0:=by omega
 by_cases c:at_<=bs.length
 ·have j:¬(bs.length:Int)<(at_:Int):=by omega
  have k:=Kk (R d) 8192 h t r _ rfl;unfold fY;rw[af c];cases q:mC bs at_ 10 0 0 with
  |none=>
   rw[q]at k;simp[o,j,g,k,Pj,mf,c,aD,a8]
  |some p=>
   obtain⟨n,e⟩:=p;rw[q]at k;simp[o,j,g,k,Pj,mf]
 ·have j:(bs.length:Int)<(at_:Int):=by omega
  unfold fY;rw[ae c];simp[o,j,g,mf,c,aD,a8]
theorem Fm(d:Nat)(h:RB s x bs)(V:bs.length<=8000):R (d+2) 161 [Z x] s=some (I .u32 (cB 1 bs),s):=by
 have z:R (d+1) 174 [I .u32 1,Z x] s=some (I .u32 (cB 1 bs),s):=by
  rw[Bh];unfold f174;have w:=h.r9
  obtain⟨j,W,O,E,y⟩:=aL (f:=my (R d) 8192) (λq v u=>∃k n:Nat,q+k=bs.length/\v=[J6 n,Z x,J bs.length,J k]/\u=s/\n<4294967291/\cB n (bs.drop k)=cB 1 bs)
   (λj u=>j = .exit 0 [J6 (cB 1 bs)]/\u=s) (by
   rintro q v u ⟨k,n,U,rfl,rfl,H,b⟩;by_cases a:k<bs.length
   ·left;have C:bs[k]? = some bs[k]:=aU a;have D:bs.drop k=bs[k]::bs.drop (k+1):=cU a;rw[D]at b;obtain⟨p,M,N⟩:=h.H9 (n:=(k:Int)) rfl C;have r:bs[k].toNat<256:=bs[k].toNat_lt
    obtain⟨c,e,g,i,o,P,Q,S,T⟩:∃c e g i:Int,i=(((n*257+bs[k].toNat+1)%4294967291:Nat):Int)/\ah .mul (J6 n) (J6 257)=some (J6 c)/\ah .add (J6 c) (J6 bs[k].toNat)=some (J6 e) ∧
     ah .add (J6 e) (J6 1)=some (J6 g)/\ah .rem (J6 g) (J6 4294967291)=some (J6 i):=⟨_,_,_,_,rfl,Pq.step n bs[k].toNat H r u⟩
    have L:IntKind.u64.wrap (bs[k].toNat:Int)=(bs[k].toNat:Int):=wrap64 _ (by omega);have w1:IntKind.i64.wrap ((k:Int)+1)=((k+1:Nat):Int):=(by rw[aw _ (by omega) (by omega)];omega);have l:((k:Int)<(bs.length:Int))=True:=dm (by omega);refine⟨[J6 (((n*257+bs[k].toNat+1)%4294967291:Nat)),Z x,J bs.length,J ((k+1:Nat):Int)],u,q-1,?_,by omega,k+1,_,by omega,rfl,rfl,di _ (by decide),b⟩;unfold my;rw[<-o];simp only[jk,dt,ou,vD,nT,nU,oa,n4,Bw,lh,gi,zc,fk,decide_true,l,M,N,P,Q,S,T,aY,L,cw,w1]
   ·right;have F:k=bs.length:=(by omega);have l:¬((k:Int)<(bs.length:Int)):=by omega
    have t:n=cB 1 bs:=by
     rw[ja (by omega)]at b;exact b
    refine⟨.exit 0 [J6 (cB 1 bs)],u,?_,(λv K=>by cases K),rfl,rfl⟩;unfold my;rw[t];simp[l]) 8192 bs.length [J6 1,Z x,J bs.length,J 0] s ⟨0,1,rfl,rfl,rfl,by decide,rfl⟩ (by omega)
  subst E;subst y;have G:=q8 bs 1 (by decide);have m:IntKind.u32.wrap (cB 1 bs:Int)=(cB 1 bs:Int):=by rw[wrap32,eU (by omega)]
  have A:az .u64 (I .u32 1)=some (J6 1):=rfl;have B:ah .rem (J6 1) (J6 4294967291)=some (J6 1):=rfl;simp[A,B,w,O,m]
 rw[JH];unfold f161;simp[z]
theorem Gy(d:Nat)(h:RB s x bs)(k:RB s y cs)(U:bs.length<=8000):R (d+1) 130 [Z x,Z y] s=some (B (decide (bs=cs)),s):=by
 rw[Jm];unfold f130;have g:=h.r9;have r:=k.r9;by_cases E:bs.length=cs.length
 ·have C:((bs.length:Int)=(cs.length:Int))=True:=dm (by omega)
  obtain⟨j,X,S,T,G⟩:=aL (f:=qu (R d) 8192) (λq v u=>∃i:Nat,q+i=bs.length/\v=[Z x,Z y,J bs.length,J i]/\u=s/\bs.take i=cs.take i)
   (λj u=>(j = .exit 0 []/\bs=cs\/j = .ret (B false)/\bs≠cs)/\u=s) (by
   rintro q v u ⟨i,hi,rfl,rfl,N⟩;by_cases D:i<bs.length
   ·have H:bs[i]? = some bs[i]:=aU D;have I:cs[i]? = some (cs[i]'(by omega)):=aU (by omega);obtain⟨p,O,Q⟩:=h.H9 (n:=(i:Int)) rfl H;obtain⟨V,w,t⟩:=k.H9 (n:=(i:Int)) rfl I;have w1:IntKind.i64.wrap ((i:Int)+1)=((i+1:Nat):Int):=(by rw[aw _ (by omega) (by omega)];omega);have z:((i:Int)<(bs.length:Int))=True:=dm (by omega);by_cases c:bs[i]=cs[i]'(by omega)
    ·left;refine⟨[Z x,Z y,J bs.length,J ((i+1:Nat):Int)],u,q-1,?_,by omega,i+1,by omega,rfl,rfl,?_⟩
     ·unfold qu;rw[<-c]at t;simp[z,O,w,Q,t,w1]
     ·rw[cM,cM,N,H,I,c]
    ·right;have o:¬((bs[i].toNat:Int)=((cs[i]'(by omega)).toNat:Int)):=λe=>c (nk (by omega))
     refine⟨.ret (B false),u,?_,(λv F=>by cases F),.inr ⟨rfl,λe=>c (by simp[e])⟩,rfl⟩;unfold qu;simp[z,O,w,Q,t,o]
   ·right;have z:¬((i:Int)<(bs.length:Int)):=(by omega);refine⟨.exit 0 [],u,?_,(λv F=>by cases F),.inl ⟨rfl,?_⟩,rfl⟩
    ·unfold qu;simp[z]
    ·rwa [b8 (by omega),b8 (by omega)]at N) 8192 bs.length [Z x,Z y,J bs.length,J 0] s ⟨0,rfl,rfl,rfl,by simp⟩ (by omega)
  subst G;rcases T with ⟨rfl,c⟩ | ⟨rfl,c⟩
  ·subst c;simp[g,r,S]
  ·simp[g,r,C,S,c]
 ·have C:¬((bs.length:Int)=(cs.length:Int)):=by omega
  have o:bs≠cs:=λe=>E (by rw[e])
  simp[g,r,C,o]
theorem yl(r:bc)(R:s.wf)(n:Nat)(J:n<2 ^ 64):∃(m:Nat) (x:S) (acc:List UInt8) (w:St),loops (qv r 8192) 8192 [J6 n,Z .av] s=some (.exit 0 [J6 m,Z x],w)/\FB s w x acc/\m<128/\acc++[UInt8.ofNat m]=aq n/\acc.length<=10:=by
 obtain⟨j,w,Q,m,x,acc,rfl,o,h,c⟩:=aL (f:=qv r 8192) (λq v u=>∃(m:Nat) (x:S) (acc:List UInt8),v=[J6 m,Z x]/\FB s u x acc/\m<2 ^ (64-7*(10-q))/\q<=10/\acc.length=10-q/\acc++pc q m=aq n)
  (λj u=>∃(m:Nat) (x:S) (acc:List UInt8),j = .exit 0 [J6 m,Z x]/\FB s u x acc/\m<128/\acc++[UInt8.ofNat m]=aq n/\acc.length<=10) (by
  rintro q v u ⟨m,x,acc,rfl,o,h,Y,I,c⟩;have D:m<2 ^ 64:=bh h (ng (by omega) (by omega));by_cases d:128<=m
  ·cases q with
   |zero=>
    exfalso;have:64-7*(10-0)=0:=(by decide);rw[this]at h;omega
   |succ q=>
    left
    have k:ah .or (J8 ((m%256:Nat))) (J8 128)=some (J8 ((UInt8.ofNat (m%128+128)).toNat)):=by
     have C:=QN (m%256) 128 (by omega) (by omega);rw[QM _ (by omega)]at C;have G:(UInt8.ofNat (m%128+128)).toNat=m%256%128+128:=(by rw[ey];omega);rw[G];exact C
    have E:=gx m;have g:ah .shr (J6 m) (J6 7)=some (J6 ((m / 2 ^ 7:Nat))):=gW .u64 m 7 (by decide);have z:((128:Int)<=(m:Int))=True:=dm (by omega);have F:=KO u (UInt8.ofNat (m%128+128)).toNat;obtain⟨x',t,y,B,hz,_⟩:=FB.lit o (cs:=[UInt8.ofNat (m%128+128)]) (by simp;omega);unfold pc at c;rw[af d]at c;refine⟨[J6 ((m / 2 ^ 7:Nat)),Z x'],t,q,?_,rfl,m / 2 ^ 7,x',acc++[UInt8.ofNat (m%128+128)],rfl,B,?_,by omega,by simp;omega,by rw[bg];exact c⟩
    ·unfold qv;simp only[U,eE,jz,bB,dO,a7]at y;generalize((m / 2 ^ 7:Nat):Int)=V at g ⊢;generalize((m%256:Nat):Int)=X at E k;generalize((UInt8.ofNat (m%128+128)).toNat:Int)=T at k F y;simp[z,E,k,F,y,g]
    ·have N:q≠0:=λe=>by
      subst e;have:64-7*(10-(0+1))=1:=(by decide);rw[this]at h;omega
     have H:(2:Nat) ^ (64-7*(10-(q+1)))=2 ^ (64-7*(10-q))*2 ^ 7:=by
      rw[<-Nat.pow_add]
      congr 1
      omega
     rw[H]at h;exact Nat.div_lt_of_lt_mul (by rw[uJ];exact h)
  ·right;have z:((128:Int)<=(m:Int))=False:=gY (by omega);refine⟨.exit 0 [J6 m,Z x],u,?_,(λv O=>by cases O),m,x,acc,rfl,o,by omega,?_,by omega⟩
   ·unfold qv;simp[z]
   ·rw[<-c];cases q with
    |zero=>rfl
    |succ q=>unfold pc;rw[ae d]) 8192 10 [J6 n,Z .av] s ⟨n,.av,[],rfl,Fr.nil 1 R,J,by omega,rfl,rfl⟩ (by omega)
 exact⟨m,x,acc,w,Q,o,h,c⟩
theorem fZ(d:Nat)(k:s.wf)(n:Nat)(g:n<2 ^ 64):∃x t,R (d+1) 159 [J6 n] s=some (Z x,t)/\FB s t x (aq n):=by
 rw[JF];unfold f159;obtain⟨m,x,acc,l,i,e,o,b⟩:=yl (R d) k n g;have j:=KO l m;have f:(UInt8.ofNat m).toNat=m:=by rw[ey];omega
 obtain⟨x',t,c,a,_⟩:=FB.lit e (cs:=[UInt8.ofNat m]) (by simp;omega);rw[b.1]at a;refine⟨x',t,?_,a⟩;have h:IntKind.u8.wrap (m:Int)=(m:Int):=by rw[gx];omega
 simp only[U,eE,jz,bB,dO,a7,f]at c;simp[i,h,j,c]
end
end Go.Proofs.YtbohejffelipoaaGreatDoor
