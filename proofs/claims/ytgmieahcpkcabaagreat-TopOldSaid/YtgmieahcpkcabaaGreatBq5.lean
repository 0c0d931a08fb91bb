import Derived.Test.YtgmieahcpkcabaaGreatBq4
import Derived.Test.YtgmieahcpkcabaaGreatProg
import Derived.Test.YtgmieahcpkcabaaGreatBq1
set_option maxRecDepth 100000
set_option linter.unusedSimpArgs false
set_option linter.unusedVariables false
set_option linter.constructorNameAsVariable false
set_option linter.unusedSectionVars false
noncomputable section
namespace Go.Proofs.Y
open Go
noncomputable abbrev aa:=@Tryz.prog
end Go.Proofs.Y
namespace Go.Proofs.Y
open Go Go.Sym Go.Z
open Go.Ev (K)
noncomputable def ztd:List (Nat×TypeDesc):=[(3,.int .i64),
 (4,.bool),
 (5,.int .u8),
 (9,.string),
 (22,.slice 27),
 (23,.slice 38),
 (26,.struct #[⟨"Keys",22,0,false,"","",0⟩,⟨"Slots",3,1,false,"","",24⟩]),
 (27,.array 32 5),
 (29,.pointer 101),
 (31,.pointer 114),
 (32,.int .i64),
 (36,.slice 5),
 (38,.struct #[⟨"Kind",3,0,false,"","",0⟩,⟨"N",3,1,false,"","",8⟩,⟨"B",36,2,false,"","",16⟩]),
 (45,.int .u64),
 (46,.array 64 5),
 (48,.struct #[⟨"Slot",3,0,false,"","",0⟩,⟨"Version",45,1,false,"","",8⟩,⟨"Floor",45,2,false,"","",16⟩,⟨"Length",3,3,false,"","",24⟩,⟨"Measure",46,4,false,"","",32⟩]),
 (49,.array 8 5),
 (51,.struct #[⟨"Slot",3,0,false,"","",0⟩,⟨"Block",3,1,false,"","",8⟩,⟨"Offset",3,2,false,"","",16⟩,⟨"Done",3,3,false,"","",24⟩,⟨"Id",49,4,false,"","",32⟩,⟨"Mid",36,12,false,"","",40⟩]),
 (53,.struct #[⟨"Commit",48,0,false,"","",0⟩,⟨"Has",4,68,false,"","",96⟩,⟨"Check",51,69,false,"","",104⟩]),
 (59,.struct #[⟨"Key",3,0,false,"","",0⟩,⟨"Blocks",3,1,false,"","",8⟩]),
 (61,.struct #[⟨"Version",45,0,false,"","",0⟩,⟨"Floor",45,1,false,"","",8⟩,⟨"Length",3,2,false,"","",16⟩,⟨"List",46,3,false,"","",24⟩,⟨"Plain",46,67,false,"","",88⟩]),
 (63,.struct #[⟨"Head",59,0,false,"","",0⟩,⟨"Manifest",61,2,false,"","",16⟩,⟨"Sign",46,133,false,"","",168⟩]),
 (68,.pointer 151),
 (74,.slice 3),
 (76,.struct #[⟨"Key",3,0,false,"","",0⟩,⟨"Version",45,1,false,"","",8⟩,⟨"Floor",45,2,false,"","",16⟩,⟨"Sizes",74,3,false,"","",24⟩]),
 (81,.struct #[⟨"Err",32,0,false,"","",0⟩,⟨"Offset",3,1,false,"","",8⟩,⟨"Slot",3,2,false,"","",16⟩,⟨"Measure",46,3,false,"","",24⟩]),
 (84,.struct #[⟨"Kind",3,0,false,"","",0⟩,⟨"N",3,1,false,"","",8⟩,⟨"At",3,2,false,"","",16⟩,⟨"Bytes",36,3,false,"","",24⟩]),
 (87,.slice 81),
 (93,.array 5 45),
 (95,.struct #[⟨"l",93,0,false,"","bootjack/fe",0⟩]),
 (97,.struct #[⟨"made",4,0,false,"","bootjack/point",0⟩,⟨"x",95,1,false,"","bootjack/point",8⟩,⟨"y",95,6,false,"","bootjack/point",48⟩,⟨"z",95,11,false,"","bootjack/point",88⟩,⟨"t",95,16,false,"","bootjack/point",128⟩]),
 (101,.struct #[⟨"b",36,0,false,"","bootjack/flash",0⟩,⟨"erases",74,1,false,"","bootjack/flash",24⟩,⟨"steps",3,2,false,"","bootjack/flash",48⟩,⟨"off",4,3,false,"","bootjack/flash",56⟩,⟨"armed",4,4,false,"","bootjack/flash",57⟩,⟨"after",3,5,false,"","bootjack/flash",64⟩,⟨"pick",36,6,false,"","bootjack/flash",72⟩]),
 (105,.struct #[⟨"f",29,0,false,"","bootjack/region",0⟩,⟨"first",3,1,false,"","bootjack/region",8⟩,⟨"count",3,2,false,"","bootjack/region",16⟩]),
 (108,.pointer 180),
 (112,.pointer 126),
 (114,.struct #[⟨"f",29,0,false,"","bootjack/loader",0⟩,⟨"c",26,1,false,"","bootjack/loader",8⟩,⟨"g",108,3,false,"","bootjack/loader",40⟩,⟨"s",112,4,false,"","bootjack/loader",48⟩]),
 (117,.struct #[⟨"Kind",3,0,false,"","",0⟩,⟨"Bytes",36,1,false,"","",8⟩]),
 (119,.pointer 185),
 (120,.array 224 5),
 (121,.array 1024 5),
 (122,.array 4 5),
 (123,.pointer 196),
 (124,.pointer 314),
 (126,.struct #[⟨"p",119,0,false,"","bootjack/loader",0⟩,⟨"target",3,1,false,"","bootjack/loader",8⟩,⟨"slot",105,2,false,"","bootjack/loader",16⟩,⟨"bytes",120,5,false,"","bootjack/loader",40⟩,⟨"label",63,229,false,"","bootjack/loader",264⟩,⟨"list",121,426,false,"","bootjack/loader",496⟩,⟨"sizes",122,1450,false,"","bootjack/loader",1520⟩,⟨"plain",3,1454,false,"","bootjack/loader",1528⟩,⟨"block",3,1455,false,"","bootjack/loader",1536⟩,⟨"offset",3,1456,false,"","bootjack/loader",1544⟩,⟨"done",3,1457,false,"","bootjack/loader",1552⟩,⟨"hash",123,1458,false,"","bootjack/loader",1560⟩,⟨"out",124,1459,false,"","bootjack/loader",1568⟩]),
 (146,.slice 36),
 (151,.struct #[⟨"c",26,0,false,"","bootjack/device",0⟩,⟨"f",29,2,false,"","bootjack/device",32⟩,⟨"l",31,3,false,"","bootjack/device",40⟩]),
 (158,.slice 4),
 (164,.slice 84),
 (173,.pointer 235),
 (177,.slice 238),
 (180,.struct #[⟨"j",173,0,false,"","bootjack/ledger",0⟩,⟨"s",53,1,false,"","bootjack/ledger",8⟩]),
 (183,.array 4096 5),
 (185,.struct #[⟨"blocks",3,0,false,"","bootjack/parser",0⟩,⟨"block",3,1,false,"","bootjack/parser",8⟩,⟨"part",3,2,false,"","bootjack/parser",16⟩,⟨"n",3,3,false,"","bootjack/parser",24⟩,⟨"want",3,4,false,"","bootjack/parser",32⟩,⟨"b",183,5,false,"","bootjack/parser",40⟩,⟨"bad",4,4101,false,"","bootjack/parser",4136⟩]),
 (193,.array 8 45),
 (194,.array 128 5),
 (196,.struct #[⟨"begun",4,0,false,"","bootjack/sha512",0⟩,⟨"s",193,1,false,"","bootjack/sha512",8⟩,⟨"n",3,9,false,"","bootjack/sha512",72⟩,⟨"wait",194,10,false,"","bootjack/sha512",80⟩]),
 (199,.int .u64),
 (235,.struct #[⟨"r",105,0,false,"","bootjack/journal",0⟩,⟨"l",177,3,false,"","bootjack/journal",24⟩,⟨"epoch",3,4,false,"","bootjack/journal",48⟩,⟨"current",3,5,false,"","bootjack/journal",56⟩,⟨"used",3,6,false,"","bootjack/journal",64⟩,⟨"torn",4,7,false,"","bootjack/journal",72⟩,⟨"err",32,8,false,"","bootjack/journal",80⟩]),
 (238,.struct #[⟨"Kind",3,0,false,"","",0⟩,⟨"Seq",3,1,false,"","",8⟩,⟨"Body",36,2,false,"","",16⟩]),
 (253,.array 16 45),
 (278,.slice 336),
 (280,.array 8 45),
 (286,.struct #[⟨"high",45,0,false,"","bootjack/fe",0⟩,⟨"low",45,1,false,"","bootjack/fe",8⟩]),
 (287,.array 5 286),
 (308,.pointer 361),
 (314,.struct #[⟨"r",105,0,false,"","bootjack/cursor",0⟩,⟨"at",3,3,false,"","bootjack/cursor",24⟩,⟨"n",3,4,false,"","bootjack/cursor",32⟩,⟨"word",49,5,false,"","bootjack/cursor",40⟩,⟨"ready",3,13,false,"","bootjack/cursor",48⟩,⟨"err",32,14,false,"","bootjack/cursor",56⟩]),
 (316,.array 80 45),
 (328,.pointer 372),
 (330,.array 2 3),
 (331,.pointer 400),
 (333,.struct #[⟨"copies",330,0,false,"","bootjack/token",0⟩,⟨"behind",3,2,false,"","bootjack/token",16⟩,⟨"bytes",331,3,false,"","bootjack/token",24⟩,⟨"lens",331,4,false,"","bootjack/token",32⟩,⟨"dists",331,5,false,"","bootjack/token",40⟩]),
 (336,.struct #[⟨"Len",3,0,false,"","",0⟩,⟨"Dist",3,1,false,"","",8⟩,⟨"Byte",5,2,false,"","",16⟩]),
 (352,.int .u32),
 (354,.pointer 387),
 (356,.pointer 389),
 (358,.pointer 391),
 (361,.struct #[⟨"d",354,0,false,"","bootjack/lzlite",0⟩,⟨"r",356,1,false,"","bootjack/lzlite",8⟩,⟨"w",358,2,false,"","bootjack/lzlite",16⟩,⟨"plain",3,3,false,"","bootjack/lzlite",24⟩,⟨"made",3,4,false,"","bootjack/lzlite",32⟩,⟨"t",336,5,false,"","bootjack/lzlite",40⟩,⟨"left",3,8,false,"","bootjack/lzlite",64⟩,⟨"state",3,9,false,"","bootjack/lzlite",72⟩]),
 (363,.slice 45),
 (372,.struct #[⟨"low",36,0,false,"","bootjack/coder",0⟩,⟨"width",45,1,false,"","bootjack/coder",24⟩]),
 (378,.array 4 45),
 (381,.array 256 352),
 (387,.struct #[⟨"code",45,0,false,"","bootjack/decoder",0⟩,⟨"width",45,1,false,"","bootjack/decoder",8⟩,⟨"need",3,2,false,"","bootjack/decoder",16⟩]),
 (389,.struct #[⟨"s",333,0,false,"","bootjack/token",0⟩,⟨"part",3,6,false,"","bootjack/token",48⟩,⟨"node",3,7,false,"","bootjack/token",56⟩,⟨"t",336,8,false,"","bootjack/token",64⟩]),
 (391,.struct #[⟨"b",183,0,false,"","bootjack/window",0⟩,⟨"n",3,4096,false,"","bootjack/window",4096⟩]),
 (397,.array 4 97),
 (398,.slice 401),
 (400,.struct #[⟨"p",398,0,false,"","bootjack/model",0⟩]),
 (401,.int .u16)]
noncomputable def zsz:List (Nat×Nat):=[(3,1),(4,1),(5,1),(9,1),(22,1),(23,1),(26,2),(27,32),(29,1),(31,1),(32,1),(36,1),(38,3),(45,1),(46,64),(48,68),(49,8),(51,13),(53,82),(59,2),(61,131),(63,197),(68,1),(74,1),(76,4),(81,67),(84,4),(87,1),(93,5),(95,5),(97,21),(101,7),(105,3),(108,1),(112,1),(114,5),(117,2),(119,1),(120,224),(121,1024),(122,4),(123,1),(124,1),(126,1460),(146,1),(151,4),(158,1),(164,1),(173,1),(177,1),(180,83),(183,4096),(185,4102),(193,8),(194,128),(196,138),(199,1),(235,9),(238,3),(253,16),(278,1),(280,8),(286,2),(287,10),(308,1),(314,15),(316,80),(328,1),(330,2),(331,1),(333,6),(336,3),(352,1),(354,1),(356,1),(358,1),(361,10),(363,1),(372,2),(378,4),(381,256),(387,3),(389,11),(391,4097),(397,84),(398,1),(400,1),(401,1)]
noncomputable def zzs:List (Nat×List ai):=[(3,[.c (.int .i64 (.i 0))]),
 (4,[.c (.bool false)]),
 (5,[.c (.int .u8 (.i 0))]),
 (9,[.c (.str (.i 0) (.i 0))]),
 (22,[.c .cT]),
 (23,[.c .cT]),
 (26,[.c .cT,.c (.int .i64 (.i 0))]),
 (27,[.a [.u8] (.i 32) (.i 0)]),
 (29,[.c .db]),
 (31,[.c .db]),
 (32,[.c (.int .i64 (.i 0))]),
 (36,[.c .cT]),
 (38,[.c (.int .i64 (.i 0)),.c (.int .i64 (.i 0)),.c .cT]),
 (45,[.c (.int .u64 (.i 0))]),
 (46,[.a [.u8] (.i 64) (.i 0)]),
 (48,[.c (.int .i64 (.i 0)),.c (.int .u64 (.i 0)),.c (.int .u64 (.i 0)),.c (.int .i64 (.i 0)),.a [.u8] (.i 64) (.i 0)]),
 (49,[.a [.u8] (.i 8) (.i 0)]),
 (51,[.c (.int .i64 (.i 0)),.c (.int .i64 (.i 0)),.c (.int .i64 (.i 0)),.c (.int .i64 (.i 0)),.a [.u8] (.i 8) (.i 0),.c .cT]),
 (53,[.c (.int .i64 (.i 0)),.c (.int .u64 (.i 0)),.c (.int .u64 (.i 0)),.c (.int .i64 (.i 0)),.a [.u8] (.i 64) (.i 0),.c (.bool false),.c (.int .i64 (.i 0)),.c (.int .i64 (.i 0)),.c (.int .i64 (.i 0)),.c (.int .i64 (.i 0)),.a [.u8] (.i 8) (.i 0),.c .cT]),
 (59,[.c (.int .i64 (.i 0)),.c (.int .i64 (.i 0))]),
 (61,[.c (.int .u64 (.i 0)),.c (.int .u64 (.i 0)),.c (.int .i64 (.i 0)),.a [.u8] (.i 64) (.i 0),.a [.u8] (.i 64) (.i 0)]),
 (63,[.c (.int .i64 (.i 0)),.c (.int .i64 (.i 0)),.c (.int .u64 (.i 0)),.c (.int .u64 (.i 0)),.c (.int .i64 (.i 0)),.a [.u8] (.i 64) (.i 0),.a [.u8] (.i 64) (.i 0),.a [.u8] (.i 64) (.i 0)]),
 (68,[.c .db]),
 (74,[.c .cT]),
 (76,[.c (.int .i64 (.i 0)),.c (.int .u64 (.i 0)),.c (.int .u64 (.i 0)),.c .cT]),
 (81,[.c (.int .i64 (.i 0)),.c (.int .i64 (.i 0)),.c (.int .i64 (.i 0)),.a [.u8] (.i 64) (.i 0)]),
 (84,[.c (.int .i64 (.i 0)),.c (.int .i64 (.i 0)),.c (.int .i64 (.i 0)),.c .cT]),
 (87,[.c .cT]),
 (93,[.a [.u64] (.i 5) (.i 0)]),
 (95,[.a [.u64] (.i 5) (.i 0)]),
 (97,[.c (.bool false),.a [.u64] (.i 5) (.i 0),.a [.u64] (.i 5) (.i 0),.a [.u64] (.i 5) (.i 0),.a [.u64] (.i 5) (.i 0)]),
 (101,[.c .cT,.c .cT,.c (.int .i64 (.i 0)),.c (.bool false),.c (.bool false),.c (.int .i64 (.i 0)),.c .cT]),
 (105,[.c .db,.c (.int .i64 (.i 0)),.c (.int .i64 (.i 0))]),
 (108,[.c .db]),
 (112,[.c .db]),
 (114,[.c .db,.c .cT,.c (.int .i64 (.i 0)),.c .db,.c .db]),
 (117,[.c (.int .i64 (.i 0)),.c .cT]),
 (119,[.c .db]),
 (120,[.a [.u8] (.i 224) (.i 0)]),
 (121,[.a [.u8] (.i 1024) (.i 0)]),
 (122,[.a [.u8] (.i 4) (.i 0)]),
 (123,[.c .db]),
 (124,[.c .db]),
 (126,[.c .db,.c (.int .i64 (.i 0)),.c .db,.c (.int .i64 (.i 0)),.c (.int .i64 (.i 0)),.a [.u8] (.i 224) (.i 0),.c (.int .i64 (.i 0)),.c (.int .i64 (.i 0)),.c (.int .u64 (.i 0)),.c (.int .u64 (.i 0)),.c (.int .i64 (.i 0)),.a [.u8] (.i 64) (.i 0),.a [.u8] (.i 64) (.i 0),.a [.u8] (.i 64) (.i 0),.a [.u8] (.i 1024) (.i 0),.a [.u8] (.i 4) (.i 0),.c (.int .i64 (.i 0)),.c (.int .i64 (.i 0)),.c (.int .i64 (.i 0)),.c (.int .i64 (.i 0)),.c .db,.c .db]),
 (146,[.c .cT]),
 (151,[.c .cT,.c (.int .i64 (.i 0)),.c .db,.c .db]),
 (158,[.c .cT]),
 (164,[.c .cT]),
 (173,[.c .db]),
 (177,[.c .cT]),
 (180,[.c .db,.c (.int .i64 (.i 0)),.c (.int .u64 (.i 0)),.c (.int .u64 (.i 0)),.c (.int .i64 (.i 0)),.a [.u8] (.i 64) (.i 0),.c (.bool false),.c (.int .i64 (.i 0)),.c (.int .i64 (.i 0)),.c (.int .i64 (.i 0)),.c (.int .i64 (.i 0)),.a [.u8] (.i 8) (.i 0),.c .cT]),
 (183,[.a [.u8] (.i 4096) (.i 0)]),
 (185,[.c (.int .i64 (.i 0)),.c (.int .i64 (.i 0)),.c (.int .i64 (.i 0)),.c (.int .i64 (.i 0)),.c (.int .i64 (.i 0)),.a [.u8] (.i 4096) (.i 0),.c (.bool false)]),
 (193,[.a [.u64] (.i 8) (.i 0)]),
 (194,[.a [.u8] (.i 128) (.i 0)]),
 (196,[.c (.bool false),.a [.u64] (.i 8) (.i 0),.c (.int .i64 (.i 0)),.a [.u8] (.i 128) (.i 0)]),
 (199,[.c (.int .u64 (.i 0))]),
 (235,[.c .db,.c (.int .i64 (.i 0)),.c (.int .i64 (.i 0)),.c .cT,.c (.int .i64 (.i 0)),.c (.int .i64 (.i 0)),.c (.int .i64 (.i 0)),.c (.bool false),.c (.int .i64 (.i 0))]),
 (238,[.c (.int .i64 (.i 0)),.c (.int .i64 (.i 0)),.c .cT]),
 (253,[.a [.u64] (.i 16) (.i 0)]),
 (278,[.c .cT]),
 (280,[.a [.u64] (.i 8) (.i 0)]),
 (286,[.c (.int .u64 (.i 0)),.c (.int .u64 (.i 0))]),
 (287,[.c (.int .u64 (.i 0)),.c (.int .u64 (.i 0)),.c (.int .u64 (.i 0)),.c (.int .u64 (.i 0)),.c (.int .u64 (.i 0)),.c (.int .u64 (.i 0)),.c (.int .u64 (.i 0)),.c (.int .u64 (.i 0)),.c (.int .u64 (.i 0)),.c (.int .u64 (.i 0))]),
 (308,[.c .db]),
 (314,[.c .db,.c (.int .i64 (.i 0)),.c (.int .i64 (.i 0)),.c (.int .i64 (.i 0)),.c (.int .i64 (.i 0)),.a [.u8] (.i 8) (.i 0),.c (.int .i64 (.i 0)),.c (.int .i64 (.i 0))]),
 (316,[.a [.u64] (.i 80) (.i 0)]),
 (328,[.c .db]),
 (330,[.a [.i64] (.i 2) (.i 0)]),
 (331,[.c .db]),
 (333,[.a [.i64] (.i 2) (.i 0),.c (.int .i64 (.i 0)),.c .db,.c .db,.c .db]),
 (336,[.c (.int .i64 (.i 0)),.c (.int .i64 (.i 0)),.c (.int .u8 (.i 0))]),
 (352,[.c (.int .u32 (.i 0))]),
 (354,[.c .db]),
 (356,[.c .db]),
 (358,[.c .db]),
 (361,[.c .db,.c .db,.c .db,.c (.int .i64 (.i 0)),.c (.int .i64 (.i 0)),.c (.int .i64 (.i 0)),.c (.int .i64 (.i 0)),.c (.int .u8 (.i 0)),.c (.int .i64 (.i 0)),.c (.int .i64 (.i 0))]),
 (363,[.c .cT]),
 (372,[.c .cT,.c (.int .u64 (.i 0))]),
 (378,[.a [.u64] (.i 4) (.i 0)]),
 (381,[.a [.u32] (.i 256) (.i 0)]),
 (387,[.c (.int .u64 (.i 0)),.c (.int .u64 (.i 0)),.c (.int .i64 (.i 0))]),
 (389,[.a [.i64] (.i 2) (.i 0),.c (.int .i64 (.i 0)),.c .db,.c .db,.c .db,.c (.int .i64 (.i 0)),.c (.int .i64 (.i 0)),.c (.int .i64 (.i 0)),.c (.int .i64 (.i 0)),.c (.int .u8 (.i 0))]),
 (391,[.a [.u8] (.i 4096) (.i 0),.c (.int .i64 (.i 0))]),
 (397,[.c (.bool false),.a [.u64] (.i 5) (.i 0),.a [.u64] (.i 5) (.i 0),.a [.u64] (.i 5) (.i 0),.a [.u64] (.i 5) (.i 0),.c (.bool false),.a [.u64] (.i 5) (.i 0),.a [.u64] (.i 5) (.i 0),.a [.u64] (.i 5) (.i 0),.a [.u64] (.i 5) (.i 0),.c (.bool false),.a [.u64] (.i 5) (.i 0),.a [.u64] (.i 5) (.i 0),.a [.u64] (.i 5) (.i 0),.a [.u64] (.i 5) (.i 0),.c (.bool false),.a [.u64] (.i 5) (.i 0),.a [.u64] (.i 5) (.i 0),.a [.u64] (.i 5) (.i 0),.a [.u64] (.i 5) (.i 0)]),
 (398,[.c .cT]),
 (400,[.c .cT]),
 (401,[.c (.int .u16 (.i 0))])]
noncomputable def zeg:List (Nat×Bool):=[(3,true),(4,true),(5,true),(9,true),(22,true),(27,true),(29,true),(31,true),(32,true),(36,true),(45,true),(46,true),(49,true),(68,true),(108,true),(112,true),(119,true),(123,true),(124,true),(173,true),(177,true),(199,true),(308,true),(328,true),(331,true),(352,true),(354,true),(358,true)]
noncomputable def me:List (Nat×Func):=[(3,Tryz.f3),(5,Tryz.f5),(6,Tryz.f6),(7,Tryz.f7),(8,Tryz.f8),(9,Tryz.f9),(10,Tryz.f10),(11,Tryz.f11),(12,Tryz.f12),(13,Tryz.f13),(14,Tryz.f14),(15,Tryz.f15),(16,Tryz.f16),(17,Tryz.f17),(18,Tryz.f18),(19,Tryz.f19),(20,Tryz.f20),(21,Tryz.f21),(22,Tryz.f22),(23,Tryz.f23),(25,Tryz.f25),(26,Tryz.f26),(27,Tryz.f27),(28,Tryz.f28),(29,Tryz.f29),(30,Tryz.f30),(31,Tryz.f31),(32,Tryz.f32),(33,Tryz.f33),(34,Tryz.f34),(35,Tryz.f35),(36,Tryz.f36),(37,Tryz.f37),(38,Tryz.f38),(39,Tryz.f39),(40,Tryz.f40),(41,Tryz.f41),(42,Tryz.f42),(43,Tryz.f43),(44,Tryz.f44),(45,Tryz.f45),(46,Tryz.f46),(47,Tryz.f47),(48,Tryz.f48),(49,Tryz.f49),(50,Tryz.f50),(51,Tryz.f51),(52,Tryz.f52),(53,Tryz.f53),(54,Tryz.f54),(55,Tryz.f55),(56,Tryz.f56),(57,Tryz.f57),(63,Tryz.f63),(64,Tryz.f64),(65,Tryz.f65),(66,Tryz.f66),(67,Tryz.f67),(68,Tryz.f68),(69,Tryz.f69),(70,Tryz.f70),(71,Tryz.f71),(72,Tryz.f72),(73,Tryz.f73),(74,Tryz.f74),(75,Tryz.f75),(76,Tryz.f76),(77,Tryz.f77),(78,Tryz.f78),(79,Tryz.f79),(80,Tryz.f80),(81,Tryz.f81),(82,Tryz.f82),(83,Tryz.f83),(84,Tryz.f84),(85,Tryz.f85),(86,Tryz.f86),(87,Tryz.f87),(88,Tryz.f88),(89,Tryz.f89),(90,Tryz.f90),(91,Tryz.f91),(92,Tryz.f92),(93,Tryz.f93),(94,Tryz.f94),(95,Tryz.f95),(96,Tryz.f96),(97,Tryz.f97),(98,Tryz.f98),(99,Tryz.f99),(100,Tryz.f100),(101,Tryz.f101),(102,Tryz.f102),(103,Tryz.f103),(104,Tryz.f104),(105,Tryz.f105),(106,Tryz.f106),(107,Tryz.f107),(108,Tryz.f108),(109,Tryz.f109),(110,Tryz.f110),(111,Tryz.f111),(112,Tryz.f112),(113,Tryz.f113),(114,Tryz.f114),(115,Tryz.f115),(116,Tryz.f116),(131,Tryz.f131),(132,Tryz.f132),(133,Tryz.f133),(134,Tryz.f134),(135,Tryz.f135),(136,Tryz.f136),(137,Tryz.f137),(138,Tryz.f138),(139,Tryz.f139),(140,Tryz.f140),(141,Tryz.f141),(142,Tryz.f142),(143,Tryz.f143),(144,Tryz.f144),(145,Tryz.f145),(146,Tryz.f146),(147,Tryz.f147),(148,Tryz.f148),(149,Tryz.f149),(150,Tryz.f150),(151,Tryz.f151),(152,Tryz.f152),(153,Tryz.f153),(154,Tryz.f154),(155,Tryz.f155),(156,Tryz.f156),(157,Tryz.f157),(158,Tryz.f158),(159,Tryz.f159),(160,Tryz.f160),(161,Tryz.f161),(162,Tryz.f162),(163,Tryz.f163),(164,Tryz.f164),(165,Tryz.f165),(166,Tryz.f166),(167,Tryz.f167),(168,Tryz.f168),(169,Tryz.f169),(170,Tryz.f170),(171,Tryz.f171),(172,Tryz.f172),(173,Tryz.f173),(174,Tryz.f174),(175,Tryz.f175),(176,Tryz.f176),(177,Tryz.f177),(178,Tryz.f178),(179,Tryz.f179),(180,Tryz.f180),(181,Tryz.f181),(182,Tryz.f182),(183,Tryz.f183),(184,Tryz.f184),(185,Tryz.f185),(209,Tryz.f209),(210,Tryz.f210),(211,Tryz.f211),(212,Tryz.f212),(213,Tryz.f213),(214,Tryz.f214),(215,Tryz.f215),(216,Tryz.f216),(217,Tryz.f217),(218,Tryz.f218),(219,Tryz.f219),(220,Tryz.f220),(221,Tryz.f221),(222,Tryz.f222),(223,Tryz.f223),(224,Tryz.f224),(225,Tryz.f225),(226,Tryz.f226),(227,Tryz.f227),(228,Tryz.f228),(229,Tryz.f229),(230,Tryz.f230),(231,Tryz.f231),(232,Tryz.f232),(233,Tryz.f233),(234,Tryz.f234),(235,Tryz.f235),(236,Tryz.f236),(237,Tryz.f237),(238,Tryz.f238),(239,Tryz.f239),(240,Tryz.f240),(241,Tryz.f241),(242,Tryz.f242),(243,Tryz.f243),(244,Tryz.f244),(245,Tryz.f245),(246,Tryz.f246),(247,Tryz.f247),(248,Tryz.f248),(249,Tryz.f249),(250,Tryz.f250),(251,Tryz.f251),(252,Tryz.f252),(253,Tryz.f253),(263,Tryz.f263),(264,Tryz.f264),(265,Tryz.f265),(266,Tryz.f266),(267,Tryz.f267),(268,Tryz.f268),(269,Tryz.f269),(270,Tryz.f270),(271,Tryz.f271),(272,Tryz.f272),(273,Tryz.f273),(274,Tryz.f274),(276,Tryz.f276),(277,Tryz.f277),(278,Tryz.f278),(279,Tryz.f279),(280,Tryz.f280),(281,Tryz.f281),(282,Tryz.f282),(283,Tryz.f283),(284,Tryz.f284),(285,Tryz.f285),(286,Tryz.f286),(287,Tryz.f287),(288,Tryz.f288),(289,Tryz.f289),(290,Tryz.f290),(291,Tryz.f291),(292,Tryz.f292),(293,Tryz.f293),(294,Tryz.f294),(295,Tryz.f295),(296,Tryz.f296),(297,Tryz.f297),(298,Tryz.f298),(299,Tryz.f299),(300,Tryz.f300),(301,Tryz.f301),(302,Tryz.f302),(303,Tryz.f303),(304,Tryz.f304),(305,Tryz.f305),(312,Tryz.f312),(313,Tryz.f313),(314,Tryz.f314),(315,Tryz.f315),(316,Tryz.f316),(318,Tryz.f318),(319,Tryz.f319),(320,Tryz.f320),(321,Tryz.f321),(322,Tryz.f322),(323,Tryz.f323),(324,Tryz.f324),(325,Tryz.f325),(326,Tryz.f326),(327,Tryz.f327),(328,Tryz.f328),(329,Tryz.f329),(330,Tryz.f330),(331,Tryz.f331),(332,Tryz.f332),(333,Tryz.f333),(334,Tryz.f334),(335,Tryz.f335),(336,Tryz.f336),(337,Tryz.f337),(338,Tryz.f338),(339,Tryz.f339),(340,Tryz.f340),(341,Tryz.f341),(342,Tryz.f342),(343,Tryz.f343),(344,Tryz.f344),(345,Tryz.f345),(346,Tryz.f346),(347,Tryz.f347),(348,Tryz.f348),(349,Tryz.f349),(350,Tryz.f350),(351,Tryz.f351),(352,Tryz.f352),(353,Tryz.f353),(354,Tryz.f354)]
noncomputable def zpl:List (Nat×List (Nat×List K)):=[(3,[(8,[.n,.r 0 2,.n,.n,.n,.r 0 0,.m [],.m [],.m [],.n,.m []]),(30,[.n,.n,.n,.n,.n,.r 0 0,.n,.n,.n,.n,.r 0 0,.m []]),(36,[.n,.n,.n,.n,.n,.r 0 0,.n,.n,.n,.n,.r 0 0,.m []]),(52,[.n,.n,.r 0 0,.n,.r 0 0,.n,.n,.n,.n,.n,.n,.r 0 0,.n,.n,.n,.n,.m [],.m [],.n,.n,.r 0 2,.n,.n,.n,.r 2 4,.n,.n,.n,.m [],.m [],.n,.n,.n])]),
 (6,[(5,[.r 0 1,.n,.n,.n,.m [],.n,.n,.m [],.n,.n,.n,.n,.n]),(20,[.n,.n,.n,.n,.n,.n,.n,.n,.n,.n,.n,.r 0 0,.m [],.n,.n,.n,.n,.r 1 1,.n,.n,.n,.n,.r 1 1,.m [],.n,.n,.n,.n,.r 2 2,.n,.n,.n,.n,.n,.n,.n,.n,.n,.n,.n,.n,.n,.n,.r 2 2,.m [],.n,.n,.n,.n,.n,.n,.m [],.r 4 4,.n,.r 3 4,.n,.n,.n])]),
 (7,[(17,[.n,.n,.n,.n,.n,.n,.n,.n,.n,.n,.n,.n,.n,.n,.n,.m [],.n,.n,.n,.n,.n,.n,.n,.n,.n,.r 1 1,.n,.n,.n,.r 1 1,.n,.n,.n,.n,.n,.n,.n])]),
 (10,[(5,[.n,.n,.n,.n,.r 0 1,.m [],.m [],.n,.n,.m []])]),
 (17,[(10,[.n,.n,.n,.r 0 1,.n,.n,.n,.r 0 1,.n,.r 0 1,.n,.r 0 1,.n,.r 0 1,.n,.n,.n,.r 0 0,.m [],.n,.m [],.n])]),
 (22,[(11,[.n,.r 0 0,.n,.m [],.n])]),
 (26,[(4,[.r 0 1,.n,.r 0 0,.n,.n,.m [],.n,.m [],.n])]),
 (28,[(15,[.n,.r 0 3,.n,.r 0 3,.n,.n,.n,.r 0 3,.n,.r 0 3,.n,.n,.n,.m [],.m [],.n,.f 0,.m [0],.n,.n,.f 1,.m [1]]),(16,[.r 0 3,.m [],.r 0 1,.m [],.m [],.m [],.n,.n,.n,.f 0,.m [0],.n])]),
 (32,[(12,[.n,.n,.n,.r 0 0,.n,.n,.n,.r 0 0,.m [],.n,.n,.n,.n,.n,.m [],.n,.m [],.n,.m []]),(15,[.n,.n,.n,.r 0 0,.n,.r 0 0,.n,.r 0 0,.m []])]),
 (35,[(3,[.n,.n,.n,.r 0 2,.n,.n,.m [],.n,.n,.n,.n,.n,.r 0 1,.m [],.n,.n,.m [],.n])]),
 (36,[(5,[.r 0 0,.n,.m [],.n])]),
 (37,[(1,[.r 0 1,.m [],.m [],.m []])]),
 (40,[(1,[.n,.n,.n,.r 0 0,.m [],.n,.n,.n,.m [],.n,.n,.r 1 2,.n,.n,.n,.n,.n])]),
 (46,[(2,[.n,.n,.n,.n,.r 0 0,.n,.n,.n,.r 0 0,.n,.n,.n,.r 0 0,.m [],.n,.n,.n,.n,.n,.m []])]),
 (47,[(6,[.n,.n,.n,.n,.r 0 0,.n,.n,.n,.n,.m []]),(8,[.n,.n,.n,.r 0 0,.n,.n,.n,.r 0 0,.n]),(10,[.n,.n,.n,.r 0 1,.n,.n,.n,.n,.n,.n,.r 0 0,.n,.m [],.n,.f 0,.m [0]])]),
 (48,[(9,[.n,.n,.n,.r 0 0,.n,.r 0 0,.m [],.n])]),
 (49,[(4,[.n,.r 0 0,.n,.n,.n,.r 0 0,.n,.n,.n,.r 0 0,.n,.n,.n,.n,.n,.r 0 0,.m [],.n,.n,.n,.n,.r 1 1,.n,.n,.n,.n,.n,.r 1 1,.n,.n,.n,.n,.r 1 1,.n,.n,.n,.n,.n,.r 1 1,.n,.n]),(6,[.n,.n,.n,.n,.r 0 0,.n,.r 0 1,.n,.r 0 2,.n,.n,.m [],.n,.n,.m [],.n,.n,.m []]),(7,[.n,.n,.n,.n,.n,.r 0 0,.n,.r 0 0,.m [],.n,.n,.n,.n,.n]),(8,[.n,.n,.n,.n,.m [],.n,.n,.n,.n,.r 1 1,.n,.n,.n,.n,.n,.r 1 1,.n,.n,.n,.m [],.n,.n,.n])]),
 (57,[(10,[.m [],.n,.r 1 1,.r 0 1,.n,.n,.r 0 1,.m [],.n,.n,.n,.f 0,.m [0],.n]),(17,[.n,.n,.r 0 0,.r 0 0,.n,.n,.r 0 0,.m [],.n,.n,.n,.f 0,.m [0],.n]),(20,[.r 0 0,.r 0 1,.m [],.m [],.n])]),
 (66,[(1,[.n,.n,.n,.r 0 0,.n,.n,.n,.r 0 0,.m [],.n,.n,.n,.n,.n])]),
 (69,[(4,[.n,.m [],.n,.n,.m [],.m [],.m [],.f 0,.m [0]]),(6,[.n,.r 0 1,.r 0 0,.m [],.r 0 1,.m [],.r 0 2,.r 0 2,.m [],.f 0,.m [0]]),(7,[.n,.n,.m [],.m [],.n,.r 2 2,.m [],.n])]),
 (72,[(1,[.n,.r 0 0,.m [],.n,.r 0 1,.m [],.n,.n])]),
 (76,[(6,[.n,.n,.n,.r 0 1,.n,.n,.r 0 0,.m [],.n,.r 0 1,.n,.n,.r 0 1,.m [],.n])]),
 (79,[(7,[.n,.n,.n,.r 0 0,.n,.r 0 0,.m [],.n,.m []])]),
 (84,[(3,[.n,.r 0 0,.r 0 0,.m [],.n,.r 0 1,.r 0 1,.m [],.m [],.m []])]),
 (85,[(6,[.n,.n,.n,.r 0 0,.n,.n,.n,.n,.r 0 0,.n,.n,.n,.n,.n,.n,.n,.n,.n,.n,.m []])]),
 (92,[(4,[.n,.n,.n,.r 0 1,.r 0 0,.m [],.m [],.n])]),
 (97,[(2,[.n,.r 0 0,.n,.n,.n,.n,.r 0 0,.n,.n])]),
 (98,[(3,[.n,.n,.n,.r 0 1,.n,.m [],.n,.n,.n,.n,.m [],.n,.n,.n,.f 0,.m [0],.n])]),
 (99,[(2,[.n,.m [],.m [],.n,.n,.n,.n,.n,.r 0 2,.n]),(12,[.n,.n,.n,.r 0 1,.n,.n,.n,.n,.r 0 0,.m [],.m []])]),
 (100,[(2,[.n,.n,.n,.n,.n,.n,.r 0 0,.n,.n,.n,.r 0 0,.n,.n])]),
 (101,[(2,[.r 0 0,.n,.n,.n,.n,.m [],.m [],.r 0 2,.n,.n,.r 0 2,.n,.n,.r 0 2,.n,.n,.n,.r 0 2,.n]),(13,[.r 0 0,.n,.n,.r 0 0,.r 0 0,.n,.n,.r 0 0,.n,.n,.n,.m []]),(17,[.r 0 0,.n,.n,.r 0 0,.r 0 0,.n,.n,.n,.n,.r 0 0,.n])]),
 (102,[(2,[.n,.n,.n,.n,.m [],.n,.r 0 1,.n,.n]),(4,[.n,.n,.n,.r 0 1,.n,.m [],.n,.m [],.n,.n,.n,.f 0,.m [0],.n]),(9,[.n,.n,.n,.r 0 0,.n,.n,.r 0 0,.n,.m [],.n,.n,.n,.n,.n]),(11,[.n,.n,.n,.n,.m [],.m [],.n,.n,.r 0 2,.n,.n,.n])]),
 (104,[(1,[.n,.n,.n,.r 0 1,.n,.n,.n,.r 0 0,.m [],.n,.n,.m [],.n,.n,.n,.f 0,.m [0],.n]),(4,[.n,.r 0 0,.n,.n,.n,.r 0 0,.m [],.n,.n,.n,.n,.n,.m [],.n])]),
 (105,[(2,[.n,.n,.n,.r 0 0,.n,.r 0 0,.n]),(4,[.m [],.n,.r 1 1,.n,.n,.n,.r 0 1,.n,.r 0 1,.m [],.n,.n,.n,.f 0,.m [0],.n])]),
 (106,[(13,[.n,.n,.n,.n,.n,.n,.m [],.n,.n,.n,.m []]),(15,[.n,.n,.n,.n,.n,.n,.m []])]),
 (107,[(3,[.n,.r 0 0,.n,.m [],.n,.r 0 1,.m [],.n,.r 0 2,.m [],.n,.r 0 3,.n,.m [],.n,.n,.m [],.m [],.n])]),
 (109,[(3,[.n,.n,.n,.n,.r 0 0,.n,.n,.n,.n,.n,.m []]),(7,[.n,.n,.n,.n,.r 0 0,.r 0 0,.m [],.n,.n,.m []])]),
 (113,[(4,[.n,.r 0 1,.r 0 0,.m [],.n,.n,.n,.m [],.n,.n,.n,.n])]),
 (114,[(4,[.n,.n,.r 0 1,.r 0 0,.m [],.n,.n])]),
 (116,[(3,[.n,.r 0 0,.m [],.n,.r 0 1,.m [],.n,.r 0 2,.n,.m [],.n,.n,.n,.n,.m [],.m [],.n])]),
 (136,[(1,[.n,.m [],.n,.m [],.m [],.n,.m [],.m [],.m [],.m []])]),
 (137,[(1,[.n,.m [],.n,.n,.n,.m [],.m [],.m [],.m []])]),
 (144,[(1,[.r 0 0,.m [],.r 0 1,.m [],.m [],.m []]),(2,[.n,.r 0 0,.n,.r 0 0,.m [],.n,.r 0 1,.n,.r 0 1,.m [],.m [],.f 0,.m [0]]),(3,[.n,.r 0 0,.n,.r 0 0,.m [],.n,.r 0 1,.n,.r 0 1,.m [],.m [],.f 0,.m [0]]),(8,[.r 0 0,.r 0 0,.m [],.r 0 1,.r 0 1,.m [],.r 0 2,.r 0 2,.m [],.r 0 3,.r 0 3,.m [],.m [],.m []])]),
 (145,[(17,[.n,.n,.n,.r 0 0,.n,.r 0 0,.n,.n,.n,.n,.m []])]),
 (147,[(1,[.r 0 1,.m [],.m [],.m []])]),
 (148,[(2,[.r 0 1,.m [],.m [],.m [],.r 0 3,.m [],.m [],.m [],.m [],.n,.n,.m [],.n])]),
 (149,[(1,[.r 0 2,.r 0 2,.m [],.r 0 1,.r 0 1,.m [],.n,.m []])]),
 (154,[(3,[.n,.n,.n,.n,.r 0 1,.r 0 0,.m [],.m [],.n,.n,.m []])]),
 (155,[(10,[.r 0 1,.n,.m [],.n,.m []])]),
 (158,[(3,[.n,.n,.n,.n,.r 0 1,.n,.n,.n,.m [],.n,.f 0,.m [0]]),(11,[.n,.n,.n,.n,.r 0 0,.n,.n,.n,.r 0 0,.n,.n,.n,.n,.r 0 0,.n,.n,.m [],.m [],.n]),(13,[.n,.n,.n,.n,.r 0 1,.r 0 0,.m [],.m [],.n,.n,.m []])]),
 (160,[(3,[.n,.n,.r 0 1,.n,.n,.n,.r 0 1,.n,.n,.m [],.m []])]),
 (162,[(1,[.n,.n,.r 0 0,.n,.n,.n,.r 0 0,.n,.n,.n,.n,.n,.r 0 0,.n,.n,.n,.r 0 0,.n,.n,.n,.n,.n])]),
 (163,[(1,[.n,.n,.n,.r 0 0,.n,.n,.n,.r 0 0,.n])]),
 (166,[(2,[.n,.n,.n,.r 0 2,.n,.n,.n,.r 0 2,.n,.n,.n,.r 0 2,.n,.n,.n,.r 0 2,.n,.n,.n,.r 0 2,.n,.n,.n,.n,.m [],.n,.n,.n,.r 0 1,.m [],.n,.m [],.n])]),
 (170,[(5,[.n,.n,.n,.n,.n,.r 0 0,.m [],.n,.n,.n,.r 0 1,.n,.n,.n])]),
 (179,[(1,[.m [],.r 0 1,.m [],.f 0,.f 1,.m [0,1],.m []]),(6,[.n,.r 0 2,.n,.r 0 0,.m [],.n,.n,.r 0 1,.n,.r 0 1,.n,.r 0 1,.m [],.n,.n,.n,.r 0 2,.n,.n,.n,.r 0 2,.n,.n]),(7,[.n,.r 0 0,.m [],.n,.r 0 1,.n,.r 0 1,.n,.r 0 1,.m [],.n,.n]),(13,[.n,.n,.r 0 0,.n,.n,.r 0 0,.n,.n,.m []])]),
 (183,[(9,[.n,.n,.r 0 2,.n,.r 0 2,.m [],.n,.m [],.r 0 2,.m [],.n])]),
 (211,[(5,[.n,.n,.n,.r 0 0,.n,.n,.n,.n,.n,.n,.n,.n,.m []])]),
 (212,[(6,[.n,.r 0 1,.r 0 0,.n,.m [],.n,.n,.m []]),(7,[.r 0 1,.m [],.m [],.n,.n,.n,.f 0,.m [0],.n])]),
 (213,[(9,[.n,.n,.r 0 0,.n,.n,.r 0 0,.m [],.n,.n,.n,.n,.n])]),
 (214,[(5,[.n,.n,.n,.r 0 0,.n,.n,.r 0 0,.n,.m [],.n,.n,.n,.n,.m [],.n])]),
 (218,[(1,[.r 0 0,.r 0 0,.m [],.r 0 1,.r 0 1,.m [],.r 0 2,.r 0 2,.m [],.r 0 3,.r 0 3,.m [],.n,.m []])]),
 (220,[(13,[.n,.n,.n,.r 0 0,.n,.n,.n,.r 0 0,.n,.n,.n,.m []])]),
 (224,[(3,[.r 0 1,.r 0 0,.m [],.m [],.m [],.n,.n,.m [],.n])]),
 (225,[(3,[.n,.n,.r 0 0,.n,.n,.n,.r 0 0,.n,.n,.n,.n]),(7,[.n,.n,.r 0 0,.n,.n,.n,.r 0 0,.n,.n,.n,.n,.n,.r 0 0,.n,.n,.n,.n,.n,.r 0 0,.n,.n,.n,.n]),(8,[.n,.n,.r 0 1,.n,.n,.n,.n,.n,.n,.m [],.n,.f 0,.m [0]]),(9,[.r 0 0,.m [],.n,.n,.n,.m [],.n])]),
 (227,[(3,[.n,.n,.r 0 3,.n,.n,.n,.m [],.n,.n,.m [],.n,.n,.m [],.n,.n,.n,.r 0 3,.n,.f 0,.m [0]])]),
 (228,[(3,[.n,.n,.r 0 3,.n,.n,.n,.r 0 3,.n,.n,.n,.m [],.n,.n,.m [],.n,.n,.n,.r 0 3,.n,.n,.m [],.n,.f 0,.m [0]])]),
 (230,[(7,[.n,.n,.r 0 0,.n,.m [],.n,.r 0 1,.n,.m [],.n,.n,.n,.r 0 2,.m [],.m [],.n])]),
 (231,[(4,[.n,.r 0 1,.n,.n,.n,.n,.n,.n,.f 0,.n,.r 0 0,.n,.m [],.n,.r 0 1,.m [0],.m [],.n])]),
 (234,[(4,[.n,.r 0 1,.r 0 0,.m [],.n,.n,.n,.m [],.n])]),
 (237,[(7,[.n,.n,.n,.r 0 1,.n,.n,.n,.n,.n,.r 0 0,.n,.n,.m [],.m [],.n])]),
 (242,[(4,[.n,.n,.n,.r 0 0,.n,.m [],.m []]),(5,[.n,.n,.n,.n,.r 0 0,.n,.n,.m []])]),
 (244,[(7,[.n,.n,.n,.r 0 0,.n,.n,.n,.r 0 0,.m []]),(15,[.n,.n,.n,.r 0 0,.n,.n,.n,.r 0 0,.n,.n]),(19,[.n,.n,.n,.n,.n,.r 0 0,.n,.n,.n])]),
 (245,[(1,[.n,.n,.n,.n,.r 0 0,.n,.n,.n,.n,.m []])]),
 (246,[(1,[.n,.n,.n,.r 0 0,.n,.n,.n,.r 0 0,.n,.n]),(6,[.n,.n,.n,.n,.n,.n,.n,.r 0 0,.n,.m []])]),
 (248,[(2,[.n,.n,.m []]),(6,[.n,.n,.n,.n,.r 0 0,.m [],.n,.n,.n,.r 0 2,.n,.n,.n,.n,.r 0 1,.m [],.n,.n,.n,.n,.r 0 2,.n,.n,.m []])]),
 (252,[(1,[.n,.n,.r 0 1,.n,.n,.r 0 2,.f 0,.m [],.m [0],.m []]),(5,[.n,.r 0 0,.r 0 0,.r 0 0,.m [],.r 0 1,.m [],.r 0 2,.m [],.m [],.r 0 4,.n,.n])]),
 (253,[(3,[.n,.m [],.n,.n,.m [],.n,.n,.m [],.n,.n,.n,.n,.r 0 3,.n,.n,.n,.r 0 3,.n,.f 0,.m [0]])]),
 (266,[(2,[.n,.n,.n,.n,.r 0 1,.n,.n,.n,.n,.n,.r 0 0,.n,.n,.n,.r 0 0,.n,.m [],.n,.n,.n,.m []]),(5,[.n,.n,.n,.n,.r 0 0,.n,.r 0 0,.n,.m []]),(7,[.n,.n,.n,.n,.r 0 0,.n,.r 0 0,.n,.m []])]),
 (268,[(10,[.n,.n,.n,.n,.n,.r 0 0,.n,.n,.n,.n,.n,.n,.n,.r 0 0,.n]),(13,[.n,.n,.n,.n,.n,.n,.n,.n,.n,.r 0 0,.n,.n,.n,.n,.n,.n,.n,.r 0 0,.n,.n])]),
 (271,[(5,[.n,.n,.n,.r 0 0,.n,.n,.r 0 0,.n,.m [],.n,.n,.n,.n,.m [],.n])]),
 (276,[(5,[.n,.n,.n,.r 0 0,.n,.n,.n,.n,.n,.n,.n,.n,.m []])]),
 (278,[(1,[.r 0 1,.m [],.m [],.f 0,.m [0]]),(2,[.r 0 0,.m [],.r 0 1,.m [],.n]),(3,[.r 0 3,.m [],.m [],.m [],.m [],.m []]),(4,[.r 0 0,.m [],.r 0 1,.m [],.n])]),
 (286,[(12,[.n,.n,.n,.r 0 0,.n,.n,.n,.n,.n,.n,.n,.n,.n,.n,.n,.n,.n,.n,.n])]),
 (294,[(1,[.n,.n,.n,.n,.n,.n,.r 0 0,.n,.n,.n,.n,.n,.n,.r 0 0,.n,.n,.n,.r 0 0,.n,.n,.n])]),
 (295,[(3,[.n,.n,.n,.r 0 0,.n,.n,.n,.n,.r 0 0,.m [],.n,.n,.n,.n])]),
 (297,[(1,[.n,.n,.n,.r 0 0,.n,.n,.n,.r 0 0,.m [],.n,.n,.n,.f 0,.m [0],.n]),(4,[.n,.n,.r 0 1,.r 0 0,.m [],.n,.n,.m [],.n,.n,.m []]),(5,[.r 0 0,.n,.n,.n,.r 0 0,.m [],.n,.n,.n,.n,.r 1 1,.n,.n,.n,.r 1 1,.n,.n,.n,.r 1 1,.n,.n,.n,.n])]),
 (298,[(1,[.n,.n,.n,.r 0 1,.n,.n,.n,.n,.n,.r 0 0,.m [],.n,.n,.n,.n]),(2,[.n,.n,.n,.r 0 0,.n,.n,.n,.r 0 0,.m [],.n,.n,.n,.n,.n]),(4,[.n,.n,.n,.r 0 0,.n,.n,.n,.r 0 0,.m [],.n])]),
 (299,[(1,[.n,.n,.m [],.n,.n,.m [],.n,.n,.n,.n,.n,.n])]),
 (303,[(2,[.m [],.r 0 2,.r 0 2,.r 0 1,.r 0 1,.m [],.n,.f 0,.m [0]]),(8,[.r 0 0,.n,.m [],.r 0 1,.n,.m [],.n,.n,.n]),(10,[.r 0 0,.n,.n,.r 0 0,.m [],.m []])]),
 (304,[(2,[.n,.r 0 0,.m [],.n,.r 0 1,.m [],.n,.m [],.n,.m []])]),
 (314,[(3,[.n,.n,.n,.r 0 1,.n,.n,.m [],.n,.n,.n])]),
 (318,[(1,[.r 0 0,.m [],.r 0 1,.m [],.n,.n])]),
 (324,[(7,[.n,.n,.n,.r 0 1,.n,.n,.n,.r 0 1,.n,.n,.m [],.n,.n,.n,.m []])]),
 (326,[(5,[.n,.n,.n,.r 0 1,.n,.n,.m [],.n,.n,.m []])]),
 (327,[(3,[.n,.n,.n,.n,.r 0 0,.n,.n,.n,.n,.n,.n,.r 0 0,.n,.n])]),
 (328,[(1,[.n,.n,.n,.n,.r 0 0,.n,.n,.n,.n,.n,.m []])]),
 (330,[(1,[.n,.n,.n,.n,.r 0 1,.n,.n,.n,.m [],.n,.n,.n,.m []])]),
 (332,[(2,[.r 0 0,.m [],.m [],.r 0 2,.n,.n])]),
 (339,[(1,[.n,.n,.n,.r 0 1,.n,.n,.n,.n,.r 0 0,.n,.n,.r 0 0,.n,.n,.m [],.n,.n,.m []])]),
 (341,[(6,[.n,.n,.n,.r 0 0,.n,.n,.n,.r 0 0,.n,.n])]),
 (344,[(3,[.n,.n,.n,.n,.n,.n,.r 0 0,.n,.n,.n,.n,.r 0 0,.m [],.n,.n,.n,.n,.n]),(4,[.n,.n,.n,.n,.n,.r 0 0,.n,.n,.n,.n,.n,.m []])]),
 (350,[(3,[.n,.n,.n,.n,.r 0 0,.n,.n,.n,.n,.r 0 0,.n,.m [],.n])]),
 (352,[(1,[.n,.n,.n,.n,.n,.n,.r 0 0,.n,.n,.n,.n,.n,.n,.r 0 0,.n,.n,.n,.r 0 0,.n,.n,.n])])]
noncomputable def bR (F:Fx):Info:=AR ztd zsz zzs zeg me zpl F
theorem bae:dB (λp=>Tryz.prog.underlying p.1=some p.2) ztd:=⟨Tryz.underlying3,Tryz.underlying4,Tryz.underlying5,Tryz.underlying9,Tryz.underlying22,Tryz.underlying23,Tryz.underlying26,Tryz.underlying27,Tryz.underlying29,Tryz.underlying31,Tryz.underlying32,Tryz.underlying36,Tryz.underlying38,Tryz.underlying45,Tryz.underlying46,Tryz.underlying48,Tryz.underlying49,Tryz.underlying51,Tryz.underlying53,Tryz.underlying59,Tryz.underlying61,Tryz.underlying63,Tryz.underlying68,Tryz.underlying74,Tryz.underlying76,Tryz.underlying81,Tryz.underlying84,Tryz.underlying87,Tryz.underlying93,Tryz.underlying95,Tryz.underlying97,Tryz.underlying101,Tryz.underlying105,Tryz.underlying108,Tryz.underlying112,Tryz.underlying114,Tryz.underlying117,Tryz.underlying119,Tryz.underlying120,Tryz.underlying121,Tryz.underlying122,Tryz.underlying123,Tryz.underlying124,Tryz.underlying126,Tryz.underlying146,Tryz.underlying151,Tryz.underlying158,Tryz.underlying164,Tryz.underlying173,Tryz.underlying177,Tryz.underlying180,Tryz.underlying183,Tryz.underlying185,Tryz.underlying193,Tryz.underlying194,Tryz.underlying196,Tryz.underlying199,Tryz.underlying235,Tryz.underlying238,Tryz.underlying253,Tryz.underlying278,Tryz.underlying280,Tryz.underlying286,Tryz.underlying287,Tryz.underlying308,Tryz.underlying314,Tryz.underlying316,Tryz.underlying328,Tryz.underlying330,Tryz.underlying331,Tryz.underlying333,Tryz.underlying336,Tryz.underlying352,Tryz.underlying354,Tryz.underlying356,Tryz.underlying358,Tryz.underlying361,Tryz.underlying363,Tryz.underlying372,Tryz.underlying378,Tryz.underlying381,Tryz.underlying387,Tryz.underlying389,Tryz.underlying391,Tryz.underlying397,Tryz.underlying398,Tryz.underlying400,Tryz.underlying401,trivial⟩
theorem a_V:dB (λp=>Tryz.prog.funcs[p.1]?=some p.2) me:=⟨Tryz.func3,Tryz.func5,Tryz.func6,Tryz.func7,Tryz.func8,Tryz.func9,Tryz.func10,Tryz.func11,Tryz.func12,Tryz.func13,Tryz.func14,Tryz.func15,Tryz.func16,Tryz.func17,Tryz.func18,Tryz.func19,Tryz.func20,Tryz.func21,Tryz.func22,Tryz.func23,Tryz.func25,Tryz.func26,Tryz.func27,Tryz.func28,Tryz.func29,Tryz.func30,Tryz.func31,Tryz.func32,Tryz.func33,Tryz.func34,Tryz.func35,Tryz.func36,Tryz.func37,Tryz.func38,Tryz.func39,Tryz.func40,Tryz.func41,Tryz.func42,Tryz.func43,Tryz.func44,Tryz.func45,Tryz.func46,Tryz.func47,Tryz.func48,Tryz.func49,Tryz.func50,Tryz.func51,Tryz.func52,Tryz.func53,Tryz.func54,Tryz.func55,Tryz.func56,Tryz.func57,Tryz.func63,Tryz.func64,Tryz.func65,Tryz.func66,Tryz.func67,Tryz.func68,Tryz.func69,Tryz.func70,Tryz.func71,Tryz.func72,Tryz.func73,Tryz.func74,Tryz.func75,Tryz.func76,Tryz.func77,Tryz.func78,Tryz.func79,Tryz.func80,Tryz.func81,Tryz.func82,Tryz.func83,Tryz.func84,Tryz.func85,Tryz.func86,Tryz.func87,Tryz.func88,Tryz.func89,Tryz.func90,Tryz.func91,Tryz.func92,Tryz.func93,Tryz.func94,Tryz.func95,Tryz.func96,Tryz.func97,Tryz.func98,Tryz.func99,Tryz.func100,Tryz.func101,Tryz.func102,Tryz.func103,Tryz.func104,Tryz.func105,Tryz.func106,Tryz.func107,Tryz.func108,Tryz.func109,Tryz.func110,Tryz.func111,Tryz.func112,Tryz.func113,Tryz.func114,Tryz.func115,Tryz.func116,Tryz.func131,Tryz.func132,Tryz.func133,Tryz.func134,Tryz.func135,Tryz.func136,Tryz.func137,Tryz.func138,Tryz.func139,Tryz.func140,Tryz.func141,Tryz.func142,Tryz.func143,Tryz.func144,Tryz.func145,Tryz.func146,Tryz.func147,Tryz.func148,Tryz.func149,Tryz.func150,Tryz.func151,Tryz.func152,Tryz.func153,Tryz.func154,Tryz.func155,Tryz.func156,Tryz.func157,Tryz.func158,Tryz.func159,Tryz.func160,Tryz.func161,Tryz.func162,Tryz.func163,Tryz.func164,Tryz.func165,Tryz.func166,Tryz.func167,Tryz.func168,Tryz.func169,Tryz.func170,Tryz.func171,Tryz.func172,Tryz.func173,Tryz.func174,Tryz.func175,Tryz.func176,Tryz.func177,Tryz.func178,Tryz.func179,Tryz.func180,Tryz.func181,Tryz.func182,Tryz.func183,Tryz.func184,Tryz.func185,Tryz.func209,Tryz.func210,Tryz.func211,Tryz.func212,Tryz.func213,Tryz.func214,Tryz.func215,Tryz.func216,Tryz.func217,Tryz.func218,Tryz.func219,Tryz.func220,Tryz.func221,Tryz.func222,Tryz.func223,Tryz.func224,Tryz.func225,Tryz.func226,Tryz.func227,Tryz.func228,Tryz.func229,Tryz.func230,Tryz.func231,Tryz.func232,Tryz.func233,Tryz.func234,Tryz.func235,Tryz.func236,Tryz.func237,Tryz.func238,Tryz.func239,Tryz.func240,Tryz.func241,Tryz.func242,Tryz.func243,Tryz.func244,Tryz.func245,Tryz.func246,Tryz.func247,Tryz.func248,Tryz.func249,Tryz.func250,Tryz.func251,Tryz.func252,Tryz.func253,Tryz.func263,Tryz.func264,Tryz.func265,Tryz.func266,Tryz.func267,Tryz.func268,Tryz.func269,Tryz.func270,Tryz.func271,Tryz.func272,Tryz.func273,Tryz.func274,Tryz.func276,Tryz.func277,Tryz.func278,Tryz.func279,Tryz.func280,Tryz.func281,Tryz.func282,Tryz.func283,Tryz.func284,Tryz.func285,Tryz.func286,Tryz.func287,Tryz.func288,Tryz.func289,Tryz.func290,Tryz.func291,Tryz.func292,Tryz.func293,Tryz.func294,Tryz.func295,Tryz.func296,Tryz.func297,Tryz.func298,Tryz.func299,Tryz.func300,Tryz.func301,Tryz.func302,Tryz.func303,Tryz.func304,Tryz.func305,Tryz.func312,Tryz.func313,Tryz.func314,Tryz.func315,Tryz.func316,Tryz.func318,Tryz.func319,Tryz.func320,Tryz.func321,Tryz.func322,Tryz.func323,Tryz.func324,Tryz.func325,Tryz.func326,Tryz.func327,Tryz.func328,Tryz.func329,Tryz.func330,Tryz.func331,Tryz.func332,Tryz.func333,Tryz.func334,Tryz.func335,Tryz.func336,Tryz.func337,Tryz.func338,Tryz.func339,Tryz.func340,Tryz.func341,Tryz.func342,Tryz.func343,Tryz.func344,Tryz.func345,Tryz.func346,Tryz.func347,Tryz.func348,Tryz.func349,Tryz.func350,Tryz.func351,Tryz.func352,Tryz.func353,Tryz.func354,trivial⟩
theorem a_J (F:Fx):((me.drop 0).take 40).all (uD aa (bR F))=true:=kr
theorem a_K (F:Fx):((me.drop 40).take 40).all (uD aa (bR F))=true:=kr
theorem a_L (F:Fx):((me.drop 80).take 40).all (uD aa (bR F))=true:=kr
theorem a_M (F:Fx):((me.drop 120).take 40).all (uD aa (bR F))=true:=kr
theorem a_N (F:Fx):((me.drop 160).take 40).all (uD aa (bR F))=true:=kr
theorem a_O (F:Fx):((me.drop 200).take 40).all (uD aa (bR F))=true:=kr
theorem a_P (F:Fx):((me.drop 240).take 40).all (uD aa (bR F))=true:=kr
theorem a_Q (F:Fx):((me.drop 280).take 40).all (uD aa (bR F))=true:=kr
theorem bac:zsz.all (szB aa)=true:=kr
theorem bag (F:Fx):zzs.all (zcB aa (bR F))=true:=kr
theorem a_S:zeg.all (egB aa)=true:=kr
theorem baf:ztd.all (QY aa)=true:=kr
theorem vg [bI] [Env] {F:Fx} (hF:ah F):dm aa (bR F):=aTe kr bae bac (bag F) a_S baf hF
theorem a_R (F:Fx):me.all (uD aa (bR F))=true:=by
 have h:me=(me.drop 0).take 40++(me.drop 40).take 40++(me.drop 80).take 40++(me.drop 120).take 40++(me.drop 160).take 40++(me.drop 200).take 40++(me.drop 240).take 40++(me.drop 280).take 40:=rfl
 rw[h]
 simp only[List.all_append,a_J F,a_K F,a_L F,a_M F,a_N F,a_O F,a_P F,a_Q F,Bool.and_self]
theorem Bq [bI] [Env] (F:Fx):JU aa (bR F):=aSp kr kr a_V (a_R F)
end Go.Proofs.Y
namespace Go.Z
open Go Go.Sym Go.RowKit
open Go.Ev (T K Ex DH DF a7)
section
variable [bI]
abbrev OT:=List (FuncId×(Fx->pY))
def aY (P:Program) (p:FuncId×(Fx->pY)):Prop:=∀(E:Env) (I:Info),@ah _ E I.F->@N9 _ E P p.1 (p.2 I.F)
def wF (f:FuncId) (F:Fx):OT->Option pY
 | []=>none
 | (g,o)::r=>bif Nat.beq f g then some (o F) else wF f F r
def bG (a b:Fx->pY):Fx->pY:=λF xs h=>match a F xs h with
 | some r=>some r
 | none=>b F xs h
section
variable {E:Env} {fa:Fa}
theorem ah.g (hF:@ah _ E fa.fx) {x:X} (h:x∈fa.fs):0<=@N _ E x:=by
 have:=hF.fs _ (adV h)
 rw[@pb _ E] at this
 exact this
theorem ah.t (hF:@ah _ E fa.fx) {x:X} {b:Bool} (h:(x,b)∈fa.tr):decide (@N _ E x≠0)=b:=hF.tr _ h
theorem ah.b (hF:@ah _ E fa.fx) (k:Nat) {lo hi:Int} (h:iA k fa.vb=some (lo,hi)):lo<=@N _ E (.v k)/\@N _ E (.v k)<=hi:=hF.vb _ _ _ h 0
end
variable {P:Program} {f:FuncId}
theorem cS {a b:Fx->pY} (h1:aY P (f,a)) (h2:aY P (f,b)):aY P (f,bG a b):=by
 intro E I hF xs h v h' he
 simp only[bG] at he
 split at he
 .rename_i r hr
  cases he
  exact h1 E I hF xs h v h' hr
 .exact h2 E I hF xs h v h' he
theorem cf {sp:Sp} (hp:ab P f sp):aY P (f,av sp):=λE _ hF=>@aSA _ E _ _ _ hF _ hp
theorem H3 {E:Env} {I:Info} (hF:@ah _ E I.F) {t:OT} (ht:dB (aY P) t):@Uu _ E P λf=>wF f I.F t:=by
 intro f g hg f' xs h v h' he bs vs w ha hR
 simp only at he
 split at he
 .rename_i e
  subst e
  have key:∀{t:OT},dB (aY P) t->wF f' I.F t=some g->@N9 _ E P f' g:=by
   intro t
   induction t with
   | nil=>intro _ h; cases h
   | cons p r ih=>
    intro ht h
    obtain⟨f2,o⟩:=p
    simp only[wF] at h
    rcases fF h with ⟨h1,h2⟩ | ⟨_,h2⟩
    .cases h2
     rw[beq_eq h1]
     exact ht.1 E I hF
    .exact ih ht.2 h2
  exact key ht hg xs h v h' he bs vs w ha hR
 .cases he
def aC (fn:Func):Code:=fn.body.getD .skip
def aI (k:Nat):List (Nat×Code)->Code
 | []=>.skip
 | (j,x)::r=>bif Nat.beq k j then x else aI k r
def PD (k:Nat):List (Nat×Code)->Bool
 | []=>false
 | (j,_)::r=>bif Nat.beq k j then r.all (λp=>!Nat.beq k p.1) else PD k r
abbrev LT:=List ((FuncId×Nat)×(Fx->iv))
def cA (P:Program) (p:(FuncId×Nat)×(Fx->iv)):Prop:=∀(E:Env) (I:Info),@ah _ E I.F->∀fn b,P.funcs[p.1.1]?=some fn->fn.body=some b->∀q∈loops b,q.1=p.1.2->@qM _ E P fn.ntmps (p.2 I.F) q.2
def pc (f:FuncId) (k:Nat) (F:Fx):LT->Option iv
 | []=>none
 | ((g,j),o)::r=>bif Nat.beq f g && Nat.beq k j then some (o F) else pc f k F r
def gC (a b:Fx->iv):Fx->iv:=λF s h=>match a F s h with
 | some r=>some r
 | none=>b F s h
theorem jE {p:FuncId×Nat} {a b:Fx->iv} (h1:cA P (p,a)) (h2:cA P (p,b)):cA P (p,gC a b):=by
 intro E I hF fn bd hf hb q hq e s h ex s' h' he
 simp only[gC] at he
 split at he
 .rename_i r hr
  cases he
  exact h1 E I hF fn bd hf hb q hq e s h ex s' h' hr
 .exact h2 E I hF fn bd hf hb q hq e s h ex s' h' he
theorem afG {k:Nat}:∀{l:List (Nat×Code)},PD k l=true->∀q∈l,q.1=k->q.2=aI k l
 | (j,x)::r,h,q,hq,e=>by
  simp only[PD] at h
  rcases fF h with ⟨h1,h2⟩ | ⟨h1,h2⟩
  .have hj:=iJ h1
   rcases ep.1 hq with e2 | h3
   .rw[e2,aI,h1]; rfl
   .have:=dD.1 h2 q h3
    rw[e,Nat.beq_refl] at this; cases this
  .rcases ep.1 hq with e2 | h3
   .rw[e2] at e
    have e:j=k:=e
    rw[e,Nat.beq_refl] at h1; cases h1
   .rw[aI,h1]
    exact afG h2 q h3 e
 | [],h,_,_,_=>by cases h
theorem K3 {k:Nat}:∀l:List (Nat×Code),aI k l=.skip\/(k,aI k l)∈l
 | []=>.inl rfl
 | (j,x)::r=>by
  unfold aI
  cases h:Nat.beq k j with
  | true=>rw[iJ h]; exact .inr mh
  | false=>exact (K3 r).imp (λh=>h) (mt)
theorem uL {k:Nat} {x:Code}:∀{b:Code},(k,x)∈loops b->∀q∈loops x,q∈loops b
 | .seq a b,h,q,hq=>by
  rcases Gg.1 h with h | h
  .exact CM _ (uL h q hq)
  .exact CN _ (uL h q hq)
 | .cond _ a b,h,q,hq=>by
  rcases Gg.1 h with h | h
  .exact CM _ (uL h q hq)
  .exact CN _ (uL h q hq)
 | .block _ a,h,q,hq=>uL (b:=a) h q hq
 | .scope a,h,q,hq=>uL (b:=a) h q hq
 | .loop a,h,q,hq=>by
  rcases Gg.1 h with h | h
  .refine CN _ ?_
   cases hk:keyOf a with
   | none=>rw[hk] at h; cases h
   | some k'=>
    rw[hk] at h
    have:=uh.1 h
    cases this
    exact hq
  .exact CN _ (uL h q hq)
 | .skip,h,_,_=>by cases h
 | .label _,h,_,_=>by cases h
 | .region _ _ _,h,_,_=>by cases h
 | .exit _,h,_,_=>by cases h
 | .ret,h,_,_=>by cases h
 | .goto _,h,_,_=>by cases h
 | .rangeFunc _ _ _ _,h,_,_=>by cases h
 | .refuse _,h,_,_=>by cases h
theorem dZ {k:Nat} {fn:Func} {lp:Lp} (hf:P.funcs[f]?=some fn) (ho:PD k (loops (aC fn))=true) (hl:ct P fn.ntmps (aI k (loops (aC fn))) lp):cA P ((f,k),aW lp):=by
 intro E I hF fn' b hf' hb q hq e
 have hf':P.funcs[f]?=some fn':=hf'
 rw[hf] at hf'
 cases hf'
 have hbo:aC fn=b:=by unfold aC; rw[hb]; rfl
 rw[hbo] at ho hl
 rw[afG ho q hq e]
 exact @aSx _ E _ _ _ _ _ hF hl
theorem HJ {E:Env} {I:Info} (hF:@ah _ E I.F) (hFn:JU P I) {t:LT} (ht:dB (cA P) t):@Ui _ E P I λf k=>pc f k I.F t:=by
 intro f fn b hf hb q hq g hg
 have key:∀{t:LT},dB (cA P) t->pc f q.1 I.F t=some g->@qM _ E P fn.ntmps g q.2:=by
  intro t
  induction t with
  | nil=>intro _ h; cases h
  | cons p r ih=>
   intro ht h
   obtain⟨⟨f2,j⟩,o⟩:=p
   simp only[pc] at h
   rcases fF h with ⟨h1,h2⟩ | ⟨_,h2⟩
   .cases h2
    rw[ar] at h1
    have e1:=beq_eq h1.1
    have e2:=beq_eq h1.2
    subst e1
    exact ht.1 E I hF fn b (hFn.fn f fn hf).1 hb q hq e2
   .exact ih ht.2 h2
 exact key ht hg
end
end Go.Z
namespace Go.Proofs.Y
open Go Go.Z
section
variable [bI]
def aEd (t:OT) (lt:LT) (m:Nat) (f:FuncId) (sp:Sp) (fa:Fa):Bool:=ake (bR fa.fx) (λf=>wF f fa.fx t) (λf k=>pc f k fa.fx lt) m f sp
theorem Ic {t:OT} {lt:LT} (ht:dB (aY aa) t) (hl:dB (cA aa) lt) {m:Nat} {f:FuncId} {sp:Sp} {fa:Fa} (h:aEd t lt m f sp fa=true):ab aa f {sp with fa:=fa}:=λE hF bs vs w ha hR=>
 @a7O _ E bs w (bR fa.fx) aa f (@vg _ E _ hF) (@Bq _ E _) _ _ (@H3 _ _ E (bR fa.fx) hF t ht) (@HJ _ _ E (bR fa.fx) hF (@Bq _ E _) lt hl) m sp h vs ha hR
theorem Xj {t:OT} {lt:LT} (ht:dB (aY aa) t) (hl:dB (cA aa) lt) {m:Nat} {f:FuncId} {sp:Sp} (h:aEd t lt m f sp sp.fa=true):ab aa f sp:=Ic (sp:=sp) (fa:=sp.fa) ht hl h
def aEz (t:OT) (lt:LT) (m:Nat) (f:FuncId) (k:Nat) (fn:Func) (lp:Lp) (fa:Fa):Bool:=
 Go.Z.ky (bR fa.fx) fn.ntmps ((bR fa.fx).pl f) (aI k (loops (aC fn))) && agA (bR fa.fx) (uv (bR fa.fx) (λf=>wF f fa.fx t) (λf k=>pc f k fa.fx lt) m) fn.ntmps ((bR fa.fx).pl f) (λk=>pc f k fa.fx lt) (aI k (loops (aC fn))) lp
theorem rr {t:OT} {lt:LT} (ht:dB (aY aa) t) (hl:dB (cA aa) lt) {m:Nat} {f:FuncId} {k:Nat} {fn:Func} {lp:Lp} {fa:Fa} (hz:(bR fa.fx).fn f=some fn) (hb:fn.body=some (aC fn)) (h:aEz t lt m f k fn lp fa=true):cr aa fn.ntmps (aI k (loops (aC fn))) lp fa:=by
 intro M hM E hF hlt bs a w hS hR
 simp only[aEz,ar] at h
 have hO:=@H3 _ _ E (bR fa.fx) hF t ht
 have hFn:=@Bq _ E fa.fx
 have hL:=@HJ _ _ E (bR fa.fx) hF hFn lt hl
 refine @aZP _ E bs w (bR fa.fx) aa fn.ntmps a _ lp (@vg _ E _ hF) _ (@De _ E _ _ (@vg _ E _ hF) hFn _ _ hO hL m) hFn.mixed _ _ ?_ h.1 h.2 M hM hlt hS hR
 intro q hq g hg
 refine hL f fn _ hz hb q ?_ g hg
 rcases K3 (k:=k) (loops (aC fn)) with e | e
 .rw[e] at hq; cases hq
 .exact uL e q hq
end
end Go.Proofs.Y
namespace Go.Z
open Go Go.Sym Go.RowKit
open Go.Ev (T K Ex DH DF a7)
section
variable [bI]
def Fa.on (fa:Fa):X->Bool->Fa
 | .o1 f c,b=>match f with
  | 8=>(fa.on c (!b)).is (.o1 8 c) b
  | f=>fa.is (.o1 f c) b
 | .o2 f x y,b=>match f with
  | 11=>bif b then (fa.is (.o2 11 x y) true).ge (.o2 1 (.o2 1 y x) (.i 1)) else (fa.is (.o2 11 x y) false).ge (.o2 1 x y)
  | 12=>bif b then ((fa.is (.o2 12 x y) true).ge (.o2 1 x y)).ge (.o2 1 y x) else fa.is (.o2 12 x y) false
  | 13=>bif b then (fa.on x true).on y true else fa.is (.o2 13 x y) false
  | f=>fa.is (.o2 f x y) b
 | c,b=>fa.is c b
theorem ah.on {E:Env}:∀{c:X} {fa:Fa} {b:Bool},@ah _ E fa.fx->decide (@N _ E c≠0)=b->@ah _ E (fa.on c b).fx:=by
 intro c
 induction c with
 | o1 f c ih=>
  intro fa b hF h
  unfold Fa.on
  split
  .refine (ih hF ?_).is h
   have:@N _ E (.o1 8 c)=Go.Z.tf (decide (@N _ E c=0)):=rfl
   rw[this,gX] at h
   rw[<- h]
   by_cases q:@N _ E c=0
   .rw[decide_eq_true q,decide_eq_false (λk=>k q)]; rfl
   .rw[decide_eq_false q,decide_eq_true q]; rfl
  .exact hF.is h
 | o2 f x y ihx ihy=>
  intro fa b hF h
  unfold Fa.on
  split
  .have e:@N _ E (.o2 11 x y)=Go.Z.tf (decide (@N _ E x < @N _ E y)):=rfl
   cases b with
   | true=>
    refine (hF.is h).ge ?_
    rw[e,gX] at h
    have:=of_decide_eq_true h
    show 0<=@N _ E y - @N _ E x - 1
    omega
   | false=>
    refine (hF.is h).ge ?_
    rw[e,gX] at h
    have:=of_decide_eq_false h
    show 0<=@N _ E x - @N _ E y
    omega
  .have e:@N _ E (.o2 12 x y)=Go.Z.tf (decide (@N _ E x=@N _ E y)):=rfl
   cases b with
   | true=>
    have h':=h
    rw[e,gX] at h'
    have:=of_decide_eq_true h'
    refine ((hF.is h).ge ?_).ge ?_
    .show 0<=@N _ E x - @N _ E y
     omega
    .show 0<=@N _ E y - @N _ E x
     omega
   | false=>exact hF.is h
  .have e:@N _ E (.o2 13 x y)=Go.Z.tf (decide (@N _ E x≠0) && decide (@N _ E y≠0)):=rfl
   cases b with
   | true=>
    rw[e,gX,ar] at h
    exact ihy (ihx hF h.1) h.2
   | false=>exact hF.is h
  .exact hF.is h
 | _=>intro fa b hF h; exact hF.is h
inductive Tr where
 | lf
 | no
 | tf (c:X) (a b:Tr)
 | same (x y:X) (a:Tr)
 | ge (x:X) (a:Tr)
 | is (c:X) (b:Bool) (a:Tr)
def cx (r:Fa->Bool):Fa->Tr->Bool
 | fa,.lf=>r fa
 | fa,.no=>ay fa.fx (.i 0) (.i (-1))
 | fa,.tf c a b=>cx r (fa.on c true) a && cx r (fa.on c false) b
 | fa,.same x y a=>cx r (fa.same x y) a
 | fa,.ge x a=>cx r (fa.ge x) a
 | fa,.is c b a=>cx r (fa.on c b) a
def oh (E:Env):X->Bool->Prop
 | .o1 f c,b=>match f with
  | 8=>oh E c (!b)
  | f=>decide (@N _ E (.o1 f c)≠0)=b
 | .o2 f x y,b=>match f with
  | 11=>match b with
   | true=>@N _ E x < @N _ E y
   | false=>@N _ E y<=@N _ E x
  | 12=>match b with
   | true=>@N _ E x=@N _ E y
   | false=>¬@N _ E x=@N _ E y
  | f=>decide (@N _ E (.o2 f x y)≠0)=b
 | c,b=>decide (@N _ E c≠0)=b
theorem atp {E:Env}:∀{c:X} {b:Bool},decide (@N _ E c≠0)=b->oh E c b:=by
 intro c
 induction c with
 | o1 f c ih=>
  intro b h
  unfold oh
  split
  .refine ih ?_
   have:@N _ E (.o1 8 c)=Go.Z.tf (decide (@N _ E c=0)):=rfl
   rw[this,gX] at h
   rw[<- h]
   by_cases q:@N _ E c=0
   .rw[decide_eq_true q,decide_eq_false (λk=>k q)]; rfl
   .rw[decide_eq_false q,decide_eq_true q]; rfl
  .exact h
 | o2 f x y _ _=>
  intro b h
  unfold oh
  split
  .have e:@N _ E (.o2 11 x y)=Go.Z.tf (decide (@N _ E x < @N _ E y)):=rfl
   rw[e,gX] at h
   cases b with
   | true=>exact of_decide_eq_true h
   | false=>have:=of_decide_eq_false h; show @N _ E y<=@N _ E x; omega
  .have e:@N _ E (.o2 12 x y)=Go.Z.tf (decide (@N _ E x=@N _ E y)):=rfl
   rw[e,gX] at h
   cases b with
   | true=>exact of_decide_eq_true h
   | false=>exact of_decide_eq_false h
  .exact h
 | _=>intro b h; exact h
def Ob:Fa->(Env->Prop)->Tr->Prop
 | _,_,.lf=>True
 | _,_,.no=>True
 | fa,H,.tf c a b=>Ob (fa.on c true) (λE=>H E/\oh E c true) a/\Ob (fa.on c false) (λE=>H E/\oh E c false) b
 | fa,H,.same x y a=>(∀(E:Env),H E->@D _ E x=@D _ E y)/\Ob (fa.same x y) H a
 | fa,H,.ge x a=>(∀(E:Env),H E->0<=@N _ E x)/\Ob (fa.ge x) H a
 | fa,H,.is c b a=>(∀(E:Env),H E->decide (@N _ E c≠0)=b)/\Ob (fa.on c b) H a
theorem uV {H P0 P1:Env->Prop} {R:Prop} (h:∀E,H E->P0 E/\P1 E) (r:R):(∀E,H E->P0 E)/\(∀E,H E->P1 E)/\R:=⟨λE e=>(h E e).1,λE e=>(h E e).2,r⟩
theorem DJ {H P0 P1 P2:Env->Prop} {R:Prop} (h:∀E,H E->P0 E/\P1 E/\P2 E) (r:R):(∀E,H E->P0 E)/\(∀E,H E->P1 E)/\(∀E,H E->P2 E)/\R:=⟨λE e=>(h E e).1,λE e=>(h E e).2.1,λE e=>(h E e).2.2,r⟩
theorem HY {H P0 P1 P2 P3:Env->Prop} {R:Prop} (h:∀E,H E->P0 E/\P1 E/\P2 E/\P3 E) (r:R):(∀E,H E->P0 E)/\(∀E,H E->P1 E)/\(∀E,H E->P2 E)/\(∀E,H E->P3 E)/\R:=⟨λE e=>(h E e).1,λE e=>(h E e).2.1,λE e=>(h E e).2.2.1,λE e=>(h E e).2.2.2,r⟩
theorem oC5 {H P0 P1 P2 P3 P4:Env->Prop} {R:Prop} (h:∀E,H E->P0 E/\P1 E/\P2 E/\P3 E/\P4 E) (r:R):(∀E,H E->P0 E)/\(∀E,H E->P1 E)/\(∀E,H E->P2 E)/\(∀E,H E->P3 E)/\(∀E,H E->P4 E)/\R:=⟨λE e=>(h E e).1,λE e=>(h E e).2.1,λE e=>(h E e).2.2.1,λE e=>(h E e).2.2.2.1,λE e=>(h E e).2.2.2.2,r⟩
theorem oC6 {H P0 P1 P2 P3 P4 P5:Env->Prop} {R:Prop} (h:∀E,H E->P0 E/\P1 E/\P2 E/\P3 E/\P4 E/\P5 E) (r:R):(∀E,H E->P0 E)/\(∀E,H E->P1 E)/\(∀E,H E->P2 E)/\(∀E,H E->P3 E)/\(∀E,H E->P4 E)/\(∀E,H E->P5 E)/\R:=⟨λE e=>(h E e).1,λE e=>(h E e).2.1,λE e=>(h E e).2.2.1,λE e=>(h E e).2.2.2.1,λE e=>(h E e).2.2.2.2.1,λE e=>(h E e).2.2.2.2.2,r⟩
theorem oC7 {H P0 P1 P2 P3 P4 P5 P6:Env->Prop} {R:Prop} (h:∀E,H E->P0 E/\P1 E/\P2 E/\P3 E/\P4 E/\P5 E/\P6 E) (r:R):(∀E,H E->P0 E)/\(∀E,H E->P1 E)/\(∀E,H E->P2 E)/\(∀E,H E->P3 E)/\(∀E,H E->P4 E)/\(∀E,H E->P5 E)/\(∀E,H E->P6 E)/\R:=⟨λE e=>(h E e).1,λE e=>(h E e).2.1,λE e=>(h E e).2.2.1,λE e=>(h E e).2.2.2.1,λE e=>(h E e).2.2.2.2.1,λE e=>(h E e).2.2.2.2.2.1,λE e=>(h E e).2.2.2.2.2.2,r⟩
theorem oC8 {H P0 P1 P2 P3 P4 P5 P6 P7:Env->Prop} {R:Prop} (h:∀E,H E->P0 E/\P1 E/\P2 E/\P3 E/\P4 E/\P5 E/\P6 E/\P7 E) (r:R):(∀E,H E->P0 E)/\(∀E,H E->P1 E)/\(∀E,H E->P2 E)/\(∀E,H E->P3 E)/\(∀E,H E->P4 E)/\(∀E,H E->P5 E)/\(∀E,H E->P6 E)/\(∀E,H E->P7 E)/\R:=⟨λE e=>(h E e).1,λE e=>(h E e).2.1,λE e=>(h E e).2.2.1,λE e=>(h E e).2.2.2.1,λE e=>(h E e).2.2.2.2.1,λE e=>(h E e).2.2.2.2.2.1,λE e=>(h E e).2.2.2.2.2.2.1,λE e=>(h E e).2.2.2.2.2.2.2,r⟩
theorem oC9 {H P0 P1 P2 P3 P4 P5 P6 P7 P8:Env->Prop} {R:Prop} (h:∀E,H E->P0 E/\P1 E/\P2 E/\P3 E/\P4 E/\P5 E/\P6 E/\P7 E/\P8 E) (r:R):(∀E,H E->P0 E)/\(∀E,H E->P1 E)/\(∀E,H E->P2 E)/\(∀E,H E->P3 E)/\(∀E,H E->P4 E)/\(∀E,H E->P5 E)/\(∀E,H E->P6 E)/\(∀E,H E->P7 E)/\(∀E,H E->P8 E)/\R:=⟨λE e=>(h E e).1,λE e=>(h E e).2.1,λE e=>(h E e).2.2.1,λE e=>(h E e).2.2.2.1,λE e=>(h E e).2.2.2.2.1,λE e=>(h E e).2.2.2.2.2.1,λE e=>(h E e).2.2.2.2.2.2.1,λE e=>(h E e).2.2.2.2.2.2.2.1,λE e=>(h E e).2.2.2.2.2.2.2.2,r⟩
theorem ay9 {H P0 P1 P2 P3 P4 P5 P6 P7 P8 P9:Env->Prop} {R:Prop} (h:∀E,H E->P0 E/\P1 E/\P2 E/\P3 E/\P4 E/\P5 E/\P6 E/\P7 E/\P8 E/\P9 E) (r:R):(∀E,H E->P0 E)/\(∀E,H E->P1 E)/\(∀E,H E->P2 E)/\(∀E,H E->P3 E)/\(∀E,H E->P4 E)/\(∀E,H E->P5 E)/\(∀E,H E->P6 E)/\(∀E,H E->P7 E)/\(∀E,H E->P8 E)/\(∀E,H E->P9 E)/\R:=⟨λE e=>(h E e).1,λE e=>(h E e).2.1,λE e=>(h E e).2.2.1,λE e=>(h E e).2.2.2.1,λE e=>(h E e).2.2.2.2.1,λE e=>(h E e).2.2.2.2.2.1,λE e=>(h E e).2.2.2.2.2.2.1,λE e=>(h E e).2.2.2.2.2.2.2.1,λE e=>(h E e).2.2.2.2.2.2.2.2.1,λE e=>(h E e).2.2.2.2.2.2.2.2.2,r⟩
theorem bai {H P0 P1 P2 P3 P4 P5 P6 P7 P8 P9 P10:Env->Prop} {R:Prop} (h:∀E,H E->P0 E/\P1 E/\P2 E/\P3 E/\P4 E/\P5 E/\P6 E/\P7 E/\P8 E/\P9 E/\P10 E) (r:R):(∀E,H E->P0 E)/\(∀E,H E->P1 E)/\(∀E,H E->P2 E)/\(∀E,H E->P3 E)/\(∀E,H E->P4 E)/\(∀E,H E->P5 E)/\(∀E,H E->P6 E)/\(∀E,H E->P7 E)/\(∀E,H E->P8 E)/\(∀E,H E->P9 E)/\(∀E,H E->P10 E)/\R:=⟨λE e=>(h E e).1,λE e=>(h E e).2.1,λE e=>(h E e).2.2.1,λE e=>(h E e).2.2.2.1,λE e=>(h E e).2.2.2.2.1,λE e=>(h E e).2.2.2.2.2.1,λE e=>(h E e).2.2.2.2.2.2.1,λE e=>(h E e).2.2.2.2.2.2.2.1,λE e=>(h E e).2.2.2.2.2.2.2.2.1,λE e=>(h E e).2.2.2.2.2.2.2.2.2.1,λE e=>(h E e).2.2.2.2.2.2.2.2.2.2,r⟩
theorem baj {H P0 P1 P2 P3 P4 P5 P6 P7 P8 P9 P10 P11:Env->Prop} {R:Prop} (h:∀E,H E->P0 E/\P1 E/\P2 E/\P3 E/\P4 E/\P5 E/\P6 E/\P7 E/\P8 E/\P9 E/\P10 E/\P11 E) (r:R):(∀E,H E->P0 E)/\(∀E,H E->P1 E)/\(∀E,H E->P2 E)/\(∀E,H E->P3 E)/\(∀E,H E->P4 E)/\(∀E,H E->P5 E)/\(∀E,H E->P6 E)/\(∀E,H E->P7 E)/\(∀E,H E->P8 E)/\(∀E,H E->P9 E)/\(∀E,H E->P10 E)/\(∀E,H E->P11 E)/\R:=⟨λE e=>(h E e).1,λE e=>(h E e).2.1,λE e=>(h E e).2.2.1,λE e=>(h E e).2.2.2.1,λE e=>(h E e).2.2.2.2.1,λE e=>(h E e).2.2.2.2.2.1,λE e=>(h E e).2.2.2.2.2.2.1,λE e=>(h E e).2.2.2.2.2.2.2.1,λE e=>(h E e).2.2.2.2.2.2.2.2.1,λE e=>(h E e).2.2.2.2.2.2.2.2.2.1,λE e=>(h E e).2.2.2.2.2.2.2.2.2.2.1,λE e=>(h E e).2.2.2.2.2.2.2.2.2.2.2,r⟩
def bare:Tr->Bool
 | .lf=>true
 | .no=>true
 | .tf _ a b=>bare a && bare b
 | _=>false
theorem df:∀{tr:Tr} {fa:Fa} {H:Env->Prop},bare tr=true->Ob fa H tr
 | .lf,_,_,_=>trivial
 | .no,_,_,_=>trivial
 | .tf c a b,_,_,h=>by
  simp only[bare,ar] at h
  exact⟨df h.1,df h.2⟩
 | .same _ _ _,_,_,h=>by cases h
 | .ge _ _,_,_,h=>by cases h
 | .is _ _ _,_,_,h=>by cases h
theorem Og {r:Fa->Bool} {R:Env->Prop} (hr:∀fa,r fa=true->∀(E:Env),@ah _ E fa.fx->R E):∀{tr:Tr} {fa:Fa} {H:Env->Prop},Ob fa H tr->cx r fa tr=true->∀(E:Env),H E->@ah _ E fa.fx->R E:=by
 intro tr
 induction tr with
 | lf=>intro fa H _ h E _ hF; exact hr fa h E hF
 | no=>
  intro fa H _ h E _ hF
  have h1:(0:Int)<= -1:=@aT _ E _ hF (.i 0) (.i (-1)) h
  omega
 | tf c a b iha ihb=>
  intro fa H ho h E hE hF
  simp only[cx,ar] at h
  by_cases q:@N _ E c≠0
  .exact iha ho.1 h.1 E ⟨hE,atp (decide_eq_true q)⟩ (hF.on (decide_eq_true q))
  .exact ihb ho.2 h.2 E ⟨hE,atp (decide_eq_false q)⟩ (hF.on (decide_eq_false q))
 | same x y a ih=>intro fa H ho h E hE hF; exact ih ho.2 h E hE (hF.same (ho.1 E hE))
 | ge x a ih=>intro fa H ho h E hE hF; exact ih ho.2 h E hE (hF.ge (ho.1 E hE))
 | is c b a ih=>intro fa H ho h E hE hF; exact ih ho.2 h E hE (hF.on (ho.1 E hE))
def idn:Nat->List (Nat×Nat)
 | 0=>[]
 | k+1=>(k,k)::idn k
def Vx (tl:List (Nat×Nat)):Nat->Bool
 | 0=>true
 | k+1=>Nat.beq (aV tl k) k && Vx tl k
def vX (k:Nat):X:=.v k
def XD (F:Fx) (n0:Nat) (tl:List (Nat×Nat)) (n':Nat) (h:Hp) (l':List (Nat×Bl)):Bool:=
 Nat.ble n0 n' && (Vx tl n0 && (tl.all (λp=>Nat.blt p.1 n0 || (Nat.blt p.2 4096 && (h.get p.2).isSome)) && (Pm n' h tl && (agW F vX (aV tl) n' h l' && KV (aV tl) l'))))
theorem auV {tl:List (Nat×Nat)}:∀{n i:Nat},Vx tl n=true->i < n->aV tl i=i
 | n+1,i,h,hi=>by
  simp only[Vx,ar] at h
  by_cases e:i=n
  .rw[e]; exact iJ h.1
  .exact auV h.2 om
def alk (F:Fx) (τ:Nat->Nat):V->V->Bool
 | .dK a,.dK b=>If F a (b.map (Il vX τ))
 | .c a,.c b=>Ku F a (Ik vX τ b)
 | .agg a,.agg b=>qn F a (b.map (Im vX τ))
 | _,_=>false
section
variable [Env] {F:Fx} {bs bs' bs1:Nm} {w w':World} {h h0 h':Hp} {I:Info} {P:Program} {f:FuncId} {nt:Nat} {a:Act} {tl:List (Nat×Nat)} {n':Nat} {l':List (Nat×Bl)}
theorem aPI {σ:Nat->X} {τ:Nat->Nat} {p:P1} {u:Value} (h:PR bs (Il σ τ p) u):@PR _ (dw σ) (jb τ bs) p u:=by
 cases p with
 | c c=>exact T3 h
 | agg l=>obtain⟨vs,h1,h2⟩:=h; exact⟨vs,Kd h1,h2⟩
theorem asx {σ:Nat->X} {τ:Nat->Nat}:∀{l:List P1} {us:List Value},jz bs (l.map (Il σ τ)) us->@jz _ (dw σ) (jb τ bs) l us
 | [],[],_=>trivial
 | [],_::_,h=>h.elim
 | _::_,[],h=>h.elim
 | _::r,_::_,⟨h1,h2⟩=>⟨aPI h1,asx (l:=r) h2⟩
theorem aPL {τ:Nat->Nat} {l:List P1} {us:List Value} (h:jz bs (l.map (Il vX τ)) us):jz (jb τ bs) l us:=show @jz _ (dw vX) (jb τ bs) l us from asx h
theorem aPQ {τ:Nat->Nat} {l:List ai} {us:List Value} (h:aS bs (l.map (Im vX τ)) us):aS (jb τ bs) l us:=show @aS _ (dw vX) (jb τ bs) l us from Kd h
theorem aPp {τ:Nat->Nat} {c:C} {u:Value} (h:CR bs (Ik vX τ c) u):CR (jb τ bs) c u:=show @CR _ (dw vX) (jb τ bs) c u from T3 h
theorem a_p (hF:ah I.F) {τ:Nat->Nat} {x y:V} {u:Value} (hh:alk I.F τ x y=true) (hu:VR bs x u):VR (jb τ bs) y u:=by
 unfold alk at hh
 split at hh
 .obtain⟨vs,h1,h2⟩:=hu
  exact⟨vs,aPL (akj hF hh h1),h2⟩
 .exact aPp (UM hF hh hu)
 .obtain⟨vs,h1,h2⟩:=hu
  exact⟨vs,aPQ (Ij hF hh h1),h2⟩
 .cases hh
theorem aD4 (hF:ah I.F) (hb:XD I.F h0.nx tl n' h' l'=true) (h00:HR w bs h0) (hR:HR w' bs1 h') (hM:Mv w w' bs bs1 h0 h'):HR w' (jb (aV tl) bs1) (aK n' l')/\Mv w w' bs (jb (aV tl) bs1) h0 (aK n' l'):=by
 simp only[XD,ar] at hb
 obtain⟨b1,b2,b3,b4,b5,b6⟩:=hb
 have hp:m8 I vX tl n' h' l':=⟨b4,b5,b6⟩
 have hn:=sI b1
 have hid:∀{i},i < h0.nx->aV tl i=i:=λhi=>auV b2 hi
 refine⟨hp.hr hF hR,hM.os,hM.tape,hM.output,hM.size,⟨λid k e=>?_,λid k e=>?_,λid k e=>?_⟩,by rw[ou]; exact hn,λid hi=>?_,hM.cL,λk hk ho=>?_,λk hk ho=>?_,λid k e hk=>?_⟩
 .have hi:id < h0.nx:=by
   refine ad1 λq=>?_
   rw[(h00.nx id q).1] at e; cases e
  show bs1.b (aV tl id)=some k
  rw[hid hi]; exact hM.le.b id k e
 .have hi:id < h0.nx:=by
   refine ad1 λq=>?_
   rw[(h00.nx id q).2] at e; cases e
  show bs1.c (aV tl id)=some k
  rw[hid hi]; exact hM.le.c id k e
 .have hi:id < h0.nx:=by
   refine ad1 λq=>?_
   rw[(h00.nx id q).1] at e; cases e
  show bs1.o (aV tl id)=bs.o id
  rw[hid hi]; exact hM.le.o id k e
 .show bs1.b (aV tl id)=bs.b id/\bs1.c (aV tl id)=bs.c id
  rw[hid hi]; exact hM.low id hi
 .obtain⟨_,_,_,_,h2,_⟩:=hp.owned ho
  exact hM.own k hk h2
 .obtain⟨_,_,_,h2⟩:=hp.WI ho
  exact hM.l7 k hk h2
 .have e:bs1.b (aV tl id)=some k:=e
  by_cases hi:id < h0.nx
  .rw[hid hi] at e; exact hM.range id k e hk
  .refine .inr (hM.l7 k hk ?_)
   rcases avr tl id with q | q
   .have:=(hR.fp _ k e).1; rw[q] at this; omega
   .have:=dD.1 b3 _ q
    rw[dt] at this
    rcases this with h1 | h1
    .exact absurd (iw h1) hi
    .rw[ar] at h1
     obtain⟨b,hb⟩:=ast.1 h1.2
     exact⟨_,b,iw h1.1,hb,e⟩
end
theorem ab.conv {P:Program} {f:FuncId} {sp:Sp} (hp:ab P f sp) (eq:List (X×X)) (v2:V) (l2:List (Nat×Bl)) (I:Info) (hI:I.F=(⟨sp.fa.vb,sp.fa.fs,sp.fa.tr,eq++sp.fa.eq⟩:Fa).fx) (ho:∀(E:Env),@ah _ E sp.fa.fx->∀q∈eq,@D _ E q.1=@D _ E q.2) (hc:(Q1 I.F sp.v v2 && yN I.F sp.n' l2 (aK sp.n' sp.l'))=true):ab P f {sp with v:=v2,l':=l2}:=by
 intro E hF bs vs w ha hR
 have hF2:@ah _ E I.F:=by
  rw[hI]
  exact @ah.mk _ E _ hF.vb hF.fs hF.tr λq hq=>by
   rcases Gg.1 hq with hq | hq
   .exact ho E hF q hq
   .exact hF.eq q hq
 rw[ar] at hc
 refine n5.imp (@hp E hF bs vs w ha hR) ?_
 rintro u w' ⟨bs1,hR1,hM1,hv1⟩
 exact⟨bs1,(HR.sub (I:=I) hF2 hR1 hc.2).1,Mv.X2 (I:=I) hF2 hR1 hM1 hc.2,aFc hF2 hc.1 hv1⟩
def mtP:P1->P1->Mt->Mt
 | .c a,.c b,m=>mtC a b m
 | .agg l,.agg r,m=>Po l r m
 | _,_,m=>m
def ayH:List P1->List P1->Mt->Mt
 | a::l,b::r,m=>ayH l r (mtP a b m)
 | _,_,m=>m
def mtU:V->V->Mt->Mt
 | .dK a,.dK b,m=>ayH a b m
 | a,b,m=>mtV a b m
def akf (I:Info) (orc:FuncId->Option pY) (lps:FuncId->Nat->Option iv) (m:Nat) (f:FuncId) (sp:Sp):Bool:=match uv I orc lps m f sp.xs (aK sp.n sp.l) with
 | some (u,h')=>let t:=(HT h' sp.l' (mtU sp.v u ([],idn sp.n))).2; alk I.F (aV t) u sp.v && XD I.F sp.n t sp.n' h' sp.l'
 | none=>false
def DM (F:Fx) (lp:Lp) (fr:Fr) (h:Hp):Bool:=let t:=(HT h lp.l' (Wn fr lp.s' ([],idn lp.n))).2; OQ F fr lp.s' vX (aV t) && XD F lp.n t lp.n' h lp.l'
def QD (F:Fx) (lp:Lp) (fr:Fr) (h:Hp):Bool:=
 let m:=A0 lp fr h
 Hc F lp m fr h && ((jq F (bP (eM m.1) lp.μ) lp.μ && ay F (.i 0) (bP (eM m.1) lp.μ)) && DM F lp (bO (u0 (eM m.1) (iS (aV m.2) lp.n h.nx) lp.s')) (hOut (eM m.1) (aV m.2) lp.n lp.n' lp.l lp.l' h))
def Pk (I:Info) (call:FuncId->List V->Hp->Option (V×Hp)) (nt:Nat) (pl:Nat->List K) (lps:Nat->Option iv) (x:Code) (lp:Lp):Bool:=match code I call nt pl lps x (bO lp.s) (aK lp.n lp.l) with
 | some (.norm,s1,h1)=>QD I.F lp s1 h1
 | some (e,s1,h1)=>KG e lp.ex && DM I.F lp s1 h1
 | none=>false
section
variable [Env] {F:Fx} {bs bs' bs1:Nm} {w w' w1:World} {h h0 h':Hp} {I:Info} {P:Program} {f:FuncId} {nt:Nat} {a a1:Act}
theorem a7N (hI:dm P I) (hFn:JU P I) {orc:FuncId->Option pY} {lps:FuncId->Nat->Option iv} (hO:Uu P orc) (hL:Ui P I lps) {m:Nat} {sp:Sp} (hp:akf I orc lps m f sp=true) {vs:List Value} (ha:jS bs sp.xs vs) (hR:HR w bs (aK sp.n sp.l)):n5 P f vs.toArray w (iI w bs (aK sp.n sp.l) sp.v (aK sp.n' sp.l')):=by
 unfold akf at hp
 split at hp
 case h_2=>cases hp
 rename_i u h' hr
 simp only[ar] at hp
 refine (De hI hFn hO hL m f sp.xs _ u h' hr bs vs w ha hR).imp ?_
 rintro x w' ⟨bs1,hR1,hM1,hv1⟩
 obtain⟨r1,r2⟩:=aD4 (h0:=aK sp.n sp.l) hI.F (by rw[ou]; exact hp.2) hR hR1 hM1
 exact⟨_,r1,r2,a_p hI.F hp.1 hv1⟩
theorem H5 (hF:ah I.F) {lp:Lp} {fr:Fr} (hb:DM I.F lp fr h=true) (h00:HR w bs (aK lp.n lp.l)) (hS:SR bs1 fr a nt) (hR:HR w1 bs1 h) (hM:Mv w w1 bs bs1 (aK lp.n lp.l) h):∃bs2,SR bs2 (bO lp.s') a nt/\HR w1 bs2 (aK lp.n' lp.l')/\Mv w w1 bs bs2 (aK lp.n lp.l) (aK lp.n' lp.l'):=by
 simp only[DM,ar] at hb
 obtain⟨r1,r2⟩:=aD4 (h0:=aK lp.n lp.l) hF (by rw[ou]; exact hb.2) h00 hR hM
 exact⟨_,hS.inL hF hb.1,r1,r2⟩
theorem ayl {x:Code} {lp:Lp} (hI:dm P I) {call:FuncId->List V->Hp->Option (V×Hp)} (hC:ua P call) (hm:P.follows .mixedOrders=true) {pl:Nat->List K} {lps:Nat->Option iv} (hL:∀p∈loops x,∀g,lps p.1=some g->qM P nt g p.2) (hc:ky I nt pl x=true) (hb:Pk I call nt pl lps x lp=true) {M:Nat} (hM:qN P nt x lp M) (hlt:N lp.μ < ((M+1:Nat):Int)) (hS:SR bs (bO lp.s) a nt) (hR:HR w bs (aK lp.n lp.l)):Code.rounds P x (iu nt bs w (aK lp.n lp.l) lp.ex (bO lp.s') (aK lp.n' lp.l')) (M+1) a w:=by
 have hF:=hI.F
 rw[rounds_succ]
 unfold Pk at hb
 have run:=λe s1 h1 he=>na hI hC hm (lp:=lps) (pl:=pl) x hL hc (bO lp.s) (aK lp.n lp.l) e s1 h1 he bs a w hS hR
 split at hb
 .rename_i s1 h1 he
  refine wp_mono (run _ _ _ he) ?_
  rintro ex a1 w1 ⟨rfl,bs1,hS1,hR1,hM1⟩
  refine G5 ?_
  unfold QD at hb
  simp only[ar] at hb
  obtain⟨b1,⟨b2,b3⟩,b4⟩:=hb
  obtain⟨i1,i2,i3,i4⟩:=La hF b1 hS1 hR1
  have d1:=lZ hF b2
  rw[fm] at d1
  have:=hM _ i1 om _ a1 w1 i2 i3
  refine QA ?_ M a1 w1 this
  intro ex a2 w2 hg
  obtain⟨g1,bs2,g2,g3,g4⟩:=i4 ex a2 w2 hg
  obtain⟨bs3,o1,o2,o3⟩:=H5 hF b4 hR g2 g3 (hM1.trans g4)
  exact⟨g1,bs3,o1,o2,o3⟩
 .rename_i e s1 h1 hne he
  simp only[ar] at hb
  obtain⟨b1,b2⟩:=hb
  have b1:=OJ b1
  subst b1
  refine wp_mono (run _ _ _ he) ?_
  rintro ex a1 w1 ⟨rfl,bs1,hS1,hR1,hM1⟩
  obtain⟨bs3,o1,o2,o3⟩:=H5 hF b2 hR hS1 hR1 hM1
  have fin:iu nt bs w (aK lp.n lp.l) lp.ex (bO lp.s') (aK lp.n' lp.l') (OK lp.ex) a1 w1:=⟨rfl,bs3,o1,o2,o3⟩
  cases hx:lp.ex with
  | norm=>exact absurd hx hne
  | ret=>rw[hx] at fin; exact fin
  | exit i=>rw[hx] at fin; exact fin
 .cases hb
end
abbrev GL:=List (Nat×Nat)
def lj:GL->Nat->Option Nat
 | [],_=>none
 | (j,c)::r,k=>bif Nat.beq k j then some c else lj r k
def ugK (gl:GL) (id:Nat):gj->gj
 | .g=>match lj gl id with
  | some c=>.k (.i c)
  | none=>.g
 | c=>c
def Yk (gl:GL):C->C
 | .sl id o e n c=>.sl id o e n (ugK gl id c)
 | c=>c
def Yl (gl:GL):ai->ai
 | .c c=>.c (Yk gl c)
 | s=>s
def ugP (gl:GL):P1->P1
 | .c c=>.c (Yk gl c)
 | .agg l=>.agg (l.map (Yl gl))
def Ym (gl:GL):V->V
 | .c c=>.c (Yk gl c)
 | .agg l=>.agg (l.map (Yl gl))
 | .dK l=>.dK (l.map (ugP gl))
def Yj (gl:GL) (id:Nat) (b:Bl):Bl:=⟨b.t,b.ss.map (Yl gl),b.ro,match lj gl id with
 | some _=>0
 | none=>b.ks⟩
def zg (gl:GL) (l:List (Nat×Bl)):List (Nat×Bl):=l.map λx=>(x.1,Yj gl x.1 x.2)
def A1 (gl:GL) (bs:Nm):Nm:=⟨bs.b,λid=>match lj gl id with
 | some c=>some c
 | none=>bs.c id,bs.o⟩
def Vr (F:Fx) (gl:GL) (n0 n':Nat) (l:List (Nat×Bl)):Bool:=
 gl.all (λp=>Nat.ble n0 p.1 && Nat.blt p.1 n') && (yO l && l.all λx=>Nat.blt x.1 4096 && (match lj gl x.1 with
  | some c=>er F (q9 x.2.ss) (.i ((c*x.2.ks:Nat):Int)) && Nat.blt 0 (c*x.2.ks)
  | none=>true))
theorem aTM {gl:GL} {k c:Nat} (h:lj gl k=some c):(k,c)∈gl:=by
 induction gl with
 | nil=>cases h
 | cons p r ih=>
  obtain⟨j,x⟩:=p
  unfold lj at h
  cases hb:Nat.beq k j with
  | true=>rw[hb] at h; cases h; rw[iJ hb]; exact mh
  | false=>rw[hb] at h; exact mt (ih h)
section
variable [Env] {F:Fx} {bs:Nm} {w w0:World} {h0:Hp} {gl:GL} {I:Info} {bs0:Nm}
theorem atc:∀{l:List (Nat×Nat)} {vs:List Value},uw bs l vs->uw (A1 gl bs) l vs
 | [],[],_=>trivial
 | (_,_)::_,_::_,⟨⟨b,h1,h2⟩,h3⟩=>⟨⟨b,h1,h2⟩,atc h3⟩
 | [],_::_,h=>h
 | _::_,[],h=>h
theorem adG {c:C} {u:Value} (h:CR bs (Yk gl c) u):CR (A1 gl bs) c u:=by
 cases c with
 | sl i o e n k=>
  obtain⟨b,o',c',h1,h2,h3,h4,h5,h6⟩:=h
  refine⟨b,o',c',h1,h2,h3,λhh=>h4 (hh.imp (λh=>h) λhk=>?_),?_,h6⟩
  .cases k with
   | g=>simp only[ugK]; cases lj gl i <;>trivial
   | k x=>trivial
   | a=>exact hk
  .cases k with
   | g=>
    show (match lj gl i with
     | some c=>some c
     | none=>bs.c i)=some c'
    simp only[ugK] at h5
    cases hc:lj gl i with
    | some c=>
     rw[hc] at h5
     have h5:(c':Int)=(c:Int):=h5
     have:c'=c:=by omega
     rw[this]
    | none=>rw[hc] at h5; exact h5
   | k x=>exact h5
   | a=>trivial
 | fn f l=>obtain⟨vs,h1,h2⟩:=h; exact⟨vs,atc h1,h2⟩
 | _=>exact h
theorem Kc:∀{l:List ai} {us:List Value},aS bs (l.map (Yl gl)) us->aS (A1 gl bs) l us
 | [],_,h=>h
 | .c _::_,_,⟨v,ws,h1,h2,h3⟩=>⟨v,ws,h1,adG h2,Kc h3⟩
 | .a _ _ _::_,_,⟨us,ws,h1,h2,h3⟩=>⟨us,ws,h1,h2,Kc h3⟩
theorem aPH {p:P1} {u:Value} (h:PR bs (ugP gl p) u):PR (A1 gl bs) p u:=by
 cases p with
 | c c=>exact adG h
 | agg l=>obtain⟨vs,h1,h2⟩:=h; exact⟨vs,Kc h1,h2⟩
theorem asw:∀{l:List P1} {us:List Value},jz bs (l.map (ugP gl)) us->jz (A1 gl bs) l us
 | [],[],_=>trivial
 | [],_::_,h=>h.elim
 | _::_,[],h=>h.elim
 | _::r,_::_,⟨h1,h2⟩=>⟨aPH h1,asw (l:=r) h2⟩
theorem aPR {v:V} {u:Value} (h:VR bs (Ym gl v) u):VR (A1 gl bs) v u:=by
 cases v with
 | c c=>exact adG h
 | agg l=>obtain⟨vs,h1,h2⟩:=h; exact⟨vs,Kc h1,h2⟩
 | dK l=>obtain⟨vs,h1,h2⟩:=h; exact⟨vs,asw h1,h2⟩
theorem aTv:∀{l:List (Nat×Bl)},yO l=true->yO (zg gl l)=true:=by
 intro l
 induction l with
 | nil=>intro _; rfl
 | cons x r ih=>
  intro h
  simp only[yO,ar] at h
  show yO ((x.1,Yj gl x.1 x.2)::zg gl r)=true
  simp only[yO,ar]
  refine⟨?_,ih h.2⟩
  unfold zg
  rw[List.all_map]
  exact h.1
theorem aST (hF:ah I.F) {n':Nat} {l:List (Nat×Bl)} {v:V} {u:Value} (hb:Vr I.F gl h0.nx n' l=true) (h00:HR w0 bs0 h0) (hR:HR w bs (aK n' (zg gl l))) (hM:Mv w0 w bs0 bs h0 (aK n' (zg gl l))) (hv:VR bs (Ym gl v) u):iI w0 bs0 h0 v (aK n' l) u w:=by
 simp only[Vr,ar] at hb
 obtain⟨b1,b2,b3⟩:=hb
 have hl:∀x∈l,x.1 < 4096/\∀c,lj gl x.1=some c->N (q9 x.2.ss)=((c*x.2.ks:Nat):Int)/\0 < c*x.2.ks:=λx hx=>by
  have:=dD.1 b3 x hx
  rw[ar] at this
  refine⟨iw this.1,λc hc=>?_⟩
  have h2:=this.2
  rw[hc] at h2
  simp only[ar] at h2
  exact⟨gq hF h2.1,iw h2.2⟩
 have hg:∀{id c},lj gl id=some c->h0.nx<=id/\id < n':=λhc=>by
  have:=dD.1 b1 _ (aTM hc)
  rw[ar] at this
  exact⟨sI this.1,iw this.2⟩
 have hlow:∀{id},id < h0.nx->lj gl id=none:=λ{id} hi=>by
  cases hc:lj gl id with
  | none=>rfl
  | some c=>have:=(hg hc).1; omega
 have hget:∀{id b},id < 4096->(aK n' l).get id=some b->(aK n' (zg gl l)).get id=some (Yj gl id b):=λ{id b} hid hb=>by
  have hx:=re (λx hx=>(hl x hx).1) hid hb
  exact G9 (aTv b2) (λx hx=>by
   obtain⟨y,hy,rfl⟩:=yn.1 hx
   exact (hl y hy).1) (id,Yj gl id b) (yn.2 ⟨(id,b),hx,rfl⟩)
 have own:∀k,k9 (aK n' l) (A1 gl bs) k->k9 (aK n' (zg gl l)) bs k:=λk ⟨id,b,hid,hb,e,hd⟩=>⟨id,_,hid,hget hid hb,e,hd⟩
 have l7:∀k,mA (aK n' l) (A1 gl bs) k->mA (aK n' (zg gl l)) bs k:=λk ⟨id,b,hid,hb,e⟩=>⟨id,_,hid,hget hid hb,e⟩
 refine⟨A1 gl bs,⟨λid b hid hb=>?_,λid id' b b' k hid hid' hb hb' hd e e'=>?_,hR.fp,λid hid=>?_⟩,⟨hM.os,hM.tape,hM.output,hM.size,⟨hM.le.b,λid k e=>?_,hM.le.o⟩,?_,λid hi=>?_,hM.cL,λk hk ho=>hM.own k hk (own k ho),λk hk ho=>hM.l7 k hk (l7 k ho),hM.range⟩,aPR hv⟩
 .obtain⟨k,h1,ps,us,ws,t,fr,e1,e0,e2,e3,e4⟩:=hR.ig id _ hid (hget hid hb)
  refine⟨k,h1,ps,us,ws,t,fr,e1,e0,e2,Kc e3,λhd=>?_⟩
  have e4:=e4 hd
  have hx:=re (λx hx=>(hl x hx).1) hid hb
  show Al (match lj gl id with
   | some c=>some c
   | none=>bs.c id) b.ks us.length (us++ws).length
  have e4:Al (bs.c id) (match lj gl id with
   | some _=>0
   | none=>b.ks) us.length (us++ws).length:=e4
  cases hc:lj gl id with
  | none=>rw[hc] at e4; exact e4
  | some c=>
   rw[hc] at e4
   obtain⟨h5,h6⟩:=(hl _ hx).2 c hc
   have h7:=aS.len (Kc (gl:=gl) e3)
   have h8:us.length=c*b.ks:=by
    have h5:N (q9 b.ss)=((c*b.ks:Nat):Int):=h5
    omega
   show (us++ws).length=c*b.ks
   unfold Al at e4
   split at e4
   .rw[Nat.mul_zero] at e4
    rw[eK] at e4
    have h6:0 < c*b.ks:=h6
    omega
   .rw[e4,h8]
 .exact hR.inj id id' _ _ k hid hid' (hget hid hb) (hget hid' hb') hd e e'
 .rw[ou] at hid
  have h1:=hR.nx id (by rw[ou]; exact hid)
  refine⟨h1.1,?_⟩
  show (match lj gl id with
   | some c=>some c
   | none=>bs.c id)=none
  cases hc:lj gl id with
  | none=>exact h1.2
  | some c=>have:=(hg hc).2; omega
 .have hi:id < h0.nx:=by
   refine ad1 λq=>?_
   rw[(h00.nx id q).2] at e; cases e
  show (match lj gl id with
   | some c=>some c
   | none=>bs.c id)=some k
  rw[hlow hi]; exact hM.le.c id k e
 .have:=hM.nx
  rw[ou] at this ⊢
  exact this
 .refine⟨(hM.low id hi).1,?_⟩
  show (match lj gl id with
   | some c=>some c
   | none=>bs.c id)=_
  rw[hlow hi]; exact (hM.low id hi).2
end
theorem ab.grow {P:Program} {f:FuncId} {sp:Sp} (gl:GL) (I:Info) (hI:I.F=sp.fa.fx) (hp:ab P f {sp with v:=Ym gl sp.v,l':=zg gl sp.l'}) (hb:Vr I.F gl sp.n sp.n' sp.l'=true):ab P f sp:=by
 intro E hF bs vs w ha hR
 refine n5.imp (@hp E hF bs vs w ha hR) ?_
 rintro u w' ⟨bs1,hR1,hM1,hv1⟩
 exact aST (I:=I) (by rw[hI]; exact hF) (by rw[ou]; exact hb) hR hR1 hM1 hv1
theorem cr.lpm {P:Program} {nt:Nat} {x:Code} {lp:Lp} (hs:cr P nt x lp lp.fa) (h0:∀(E:Env),@ah _ E lp.fa.fx->0<=@N _ E lp.μ):∀M,qN P nt x lp M:=by
 intro M
 induction M with
 | zero=>intro E hF hlt; have:=h0 E hF; exfalso; have:(0:Int)<=@N _ E lp.μ:=h0 E hF; simp at hlt; omega
 | succ M ih=>exact λE hF hlt=>hs M ih E hF hlt
def XX (F:Fx) (lp lp2:Lp) (fr:Fr) (h:Hp):Bool:=
 let m:=A0 lp2 fr h
 Hc F lp2 m fr h && (KG lp2.ex lp.ex && DM F lp (bO (u0 (eM m.1) (iS (aV m.2) lp2.n h.nx) lp2.s')) (hOut (eM m.1) (aV m.2) lp2.n lp2.n' lp2.l lp2.l' h))
def afC (I:Info) (call:FuncId->List V->Hp->Option (V×Hp)) (nt:Nat) (pl:Nat->List K) (lps:Nat->Option iv) (x:Code) (lp lp2:Lp):Bool:=match code I call nt pl lps x (bO lp.s) (aK lp.n lp.l) with
 | some (.norm,s1,h1)=>XX I.F lp lp2 s1 h1
 | some (e,s1,h1)=>KG e lp.ex && DM I.F lp s1 h1
 | none=>false
def Ua (P:Program) (nt:Nat) (x:Code) (lp:Lp) (fa:Fa):Prop:=∀(E:Env),@ah _ E fa.fx->∀bs a w,@SR _ E bs (bO lp.s) a nt->@HR _ E w bs (aK lp.n lp.l)->∃M,Code.rounds P x (@iu _ E nt bs w (aK lp.n lp.l) lp.ex (bO lp.s') (aK lp.n' lp.l')) M a w
theorem Ua.all {P:Program} {nt:Nat} {x:Code} {lp:Lp} (h:Ua P nt x lp lp.fa):ct P nt x lp:=λE hF bs a w hS hR Q hq=>by
 obtain⟨M,h1⟩:=h E hF bs a w hS hR
 exact aER (fL.ag7 M a w h1) hq
section
variable [Env] {F:Fx} {bs:Nm} {w:World} {I:Info} {P:Program} {nt:Nat} {a:Act}
theorem aTG {x:Code} {lp lp2:Lp} (hI:dm P I) {call:FuncId->List V->Hp->Option (V×Hp)} (hC:ua P call) (hm:P.follows .mixedOrders=true) {pl:Nat->List K} {lps:Nat->Option iv} (hL:∀p∈loops x,∀g,lps p.1=some g->qM P nt g p.2) (hc:ky I nt pl x=true) (hb:afC I call nt pl lps x lp lp2=true) (h2:∀M,qN P nt x lp2 M) (hS:SR bs (bO lp.s) a nt) (hR:HR w bs (aK lp.n lp.l)):∃M,Code.rounds P x (iu nt bs w (aK lp.n lp.l) lp.ex (bO lp.s') (aK lp.n' lp.l')) M a w:=by
 have hF:=hI.F
 unfold afC at hb
 have run:=λe s1 h1 he=>na hI hC hm (lp:=lps) (pl:=pl) x hL hc (bO lp.s) (aK lp.n lp.l) e s1 h1 he bs a w hS hR
 split at hb
 .rename_i s1 h1 he
  unfold XX at hb
  simp only[ar] at hb
  obtain⟨b1,b2,b4⟩:=hb
  have b2:=OJ b2
  refine⟨(N (bP (eM (A0 lp2 s1 h1).1) lp2.μ)).toNat+1+1,?_⟩
  rw[rounds_succ]
  refine wp_mono (run _ _ _ he) ?_
  rintro ex a1 w1 ⟨rfl,bs1,hS1,hR1,hM1⟩
  refine G5 ?_
  obtain⟨i1,i2,i3,i4⟩:=La hF b1 hS1 hR1
  have:=h2 ((N (bP (eM (A0 lp2 s1 h1).1) lp2.μ)).toNat+1) _ i1 (by rw[<- fm]; omega) _ a1 w1 i2 i3
  refine QA ?_ _ a1 w1 this
  intro ex a2 w2 hg
  obtain⟨g1,bs2,g2,g3,g4⟩:=i4 ex a2 w2 hg
  obtain⟨bs3,o1,o2,o3⟩:=H5 hF b4 hR g2 g3 (hM1.trans g4)
  exact⟨by rw[g1,b2],bs3,o1,o2,o3⟩
 .rename_i e s1 h1 hne he
  simp only[ar] at hb
  obtain⟨b1,b2⟩:=hb
  have b1:=OJ b1
  subst b1
  refine⟨0+1,?_⟩
  rw[rounds_succ]
  refine wp_mono (run _ _ _ he) ?_
  rintro ex a1 w1 ⟨rfl,bs1,hS1,hR1,hM1⟩
  obtain⟨bs3,o1,o2,o3⟩:=H5 hF b2 hR hS1 hR1 hM1
  have fin:iu nt bs w (aK lp.n lp.l) lp.ex (bO lp.s') (aK lp.n' lp.l') (OK lp.ex) a1 w1:=⟨rfl,bs3,o1,o2,o3⟩
  cases hx:lp.ex with
  | norm=>exact absurd hx hne
  | ret=>rw[hx] at fin; exact fin
  | exit i=>rw[hx] at fin; exact fin
 .cases hb
end
end
end Go.Z
namespace Go.Proofs.Y
open Go Go.Z
section
variable [bI]
def QB (t:OT) (lt:LT) (m:Nat) (f:FuncId) (sp:Sp) (fa:Fa):Bool:=akf (bR fa.fx) (λf=>wF f fa.fx t) (λf k=>pc f k fa.fx lt) m f sp
theorem a7P {t:OT} {lt:LT} (ht:dB (aY aa) t) (hl:dB (cA aa) lt) {m:Nat} {f:FuncId} {sp:Sp} {fa:Fa} (h:QB t lt m f sp fa=true):ab aa f {sp with fa:=fa}:=λE hF bs vs w ha hR=>
 @a7N _ E bs w (bR fa.fx) aa f (@vg _ E _ hF) (@Bq _ E _) _ _ (@H3 _ _ E (bR fa.fx) hF t ht) (@HJ _ _ E (bR fa.fx) hF (@Bq _ E _) lt hl) m sp h vs ha hR
def XU (t:OT) (lt:LT) (m:Nat) (f:FuncId) (k:Nat) (fn:Func) (lp:Lp) (fa:Fa):Bool:=
 Go.Z.ky (bR fa.fx) fn.ntmps ((bR fa.fx).pl f) (aI k (loops (aC fn))) && Pk (bR fa.fx) (uv (bR fa.fx) (λf=>wF f fa.fx t) (λf k=>pc f k fa.fx lt) m) fn.ntmps ((bR fa.fx).pl f) (λk=>pc f k fa.fx lt) (aI k (loops (aC fn))) lp
theorem a9F {t:OT} {lt:LT} (ht:dB (aY aa) t) (hl:dB (cA aa) lt) {m:Nat} {f:FuncId} {k:Nat} {fn:Func} {lp:Lp} {fa:Fa} (hz:(bR fa.fx).fn f=some fn) (hb:fn.body=some (aC fn)) (h:XU t lt m f k fn lp fa=true):cr aa fn.ntmps (aI k (loops (aC fn))) lp fa:=by
 intro M hM E hF hlt bs a w hS hR
 simp only[XU,ar] at h
 have hO:=@H3 _ _ E (bR fa.fx) hF t ht
 have hFn:=@Bq _ E fa.fx
 have hL:=@HJ _ _ E (bR fa.fx) hF hFn lt hl
 refine @ayl _ E bs w (bR fa.fx) aa fn.ntmps a _ lp (@vg _ E _ hF) _ (@De _ E _ _ (@vg _ E _ hF) hFn _ _ hO hL m) hFn.mixed _ _ ?_ h.1 h.2 M hM hlt hS hR
 intro q hq g hg
 refine hL f fn _ hz hb q ?_ g hg
 rcases K3 (k:=k) (loops (aC fn)) with e | e
 .rw[e] at hq; cases hq
 .exact uL e q hq
def runT (t:OT) (lt:LT) (m:Nat) (f:FuncId) (sp:Sp) (tr:Tr):Bool:=cx (QB t lt m f sp) sp.fa tr
theorem dj {t:OT} {lt:LT} (ht:dB (aY aa) t) (hl:dB (cA aa) lt) {m:Nat} {f:FuncId} {sp:Sp} (tr:Tr) (ho:Ob sp.fa (λE=>@ah _ E sp.fa.fx) tr) (h:runT t lt m f sp tr=true):ab aa f sp:=λE hF=>
 Og (R:=λE=>∀bs vs w,@jS _ E bs sp.xs vs->@HR _ E w bs (aK sp.n sp.l)->n5 aa f vs.toArray w (@iI _ E w bs (aK sp.n sp.l) sp.v (aK sp.n' sp.l'))) (λfa h E hF=>a7P (fa:=fa) ht hl h E hF) ho h E hF hF
theorem aG {t:OT} {lt:LT} (ht:dB (aY aa) t) (hl:dB (cA aa) lt) {m:Nat} {f:FuncId} {sp:Sp} (tr:Tr) (h:(bare tr && runT t lt m f sp tr)=true):ab aa f sp:=by
 rw[ar] at h
 exact dj ht hl tr (df h.1) h.2
def a9D (t:OT) (lt:LT) (m:Nat) (f:FuncId) (k:Nat) (fn:Func) (lp:Lp) (tr:Tr):Bool:=cx (XU t lt m f k fn lp) lp.fa tr
theorem eX {t:OT} {lt:LT} (ht:dB (aY aa) t) (hl:dB (cA aa) lt) {m:Nat} {f:FuncId} {k:Nat} {fn:Func} {lp:Lp} (hz:∀F,(bR F).fn f=some fn) (hb:fn.body=some (aC fn)) (tr:Tr) (ho:Ob lp.fa (λE=>@ah _ E lp.fa.fx) tr) (h:a9D t lt m f k fn lp tr=true):cr aa fn.ntmps (aI k (loops (aC fn))) lp lp.fa:=λM hM E hF=>
 Og (R:=λE=>@N _ E lp.μ < ((M+1:Nat):Int)->∀bs a w,@SR _ E bs (bO lp.s) a fn.ntmps->@HR _ E w bs (aK lp.n lp.l)->Code.rounds aa (aI k (loops (aC fn))) (@iu _ E fn.ntmps bs w (aK lp.n lp.l) lp.ex (bO lp.s') (aK lp.n' lp.l')) (M+1) a w) (λ_ h E hF=>a9F ht hl (hz _) hb h M hM E hF) ho h E hF hF
theorem aL {f:FuncId} {sp:Sp} (hp:ab aa f sp) (eq:List (X×X)) (v2:V) (l2:List (Nat×Bl)) (ho:∀(E:Env),@ah _ E sp.fa.fx->∀q∈eq,@D _ E q.1=@D _ E q.2) (hc:(Q1 (⟨sp.fa.vb,sp.fa.fs,sp.fa.tr,eq++sp.fa.eq⟩:Fa).fx sp.v v2 && yN (⟨sp.fa.vb,sp.fa.fs,sp.fa.tr,eq++sp.fa.eq⟩:Fa).fx sp.n' l2 (aK sp.n' sp.l'))=true):ab aa f {sp with v:=v2,l':=l2}:=
 hp.conv eq v2 l2 (bR (⟨sp.fa.vb,sp.fa.fs,sp.fa.tr,eq++sp.fa.eq⟩:Fa).fx) rfl ho hc
theorem aN {F:Fx}:∀(E:Env),@ah _ E F->∀q∈([]:List (X×X)),@D _ E q.1=@D _ E q.2:=λ_ _ _ h=>nomatch h
theorem al {F:Fx} {a b:X} {l:List (X×X)} (h:∀(E:Env),@ah _ E F->@D _ E a=@D _ E b) (t:∀(E:Env),@ah _ E F->∀q∈l,@D _ E q.1=@D _ E q.2):∀(E:Env),@ah _ E F->∀q∈(a,b)::l,@D _ E q.1=@D _ E q.2:=by
 intro E hF q hq
 rcases ep.1 hq with rfl | hq
 .exact h E hF
 .exact t E hF q hq
theorem dP {E:Env} {a b:X} (e:@N _ E a=@N _ E b):0<=@N _ E (.o2 1 a b):=by
 show 0<=@N _ E a - @N _ E b
 omega
theorem dR {E:Env} {a b:X} (e:@N _ E a=@N _ E b):0<=@N _ E (.o2 1 b a):=by
 show 0<=@N _ E b - @N _ E a
 omega
theorem aSS {f:FuncId} {sp:Sp} (gl:GL) (hp:ab aa f {sp with v:=Ym gl sp.v,l':=zg gl sp.l'}) (hb:Vr sp.fa.fx gl sp.n sp.n' sp.l'=true):ab aa f sp:=ab.grow gl (bR sp.fa.fx) rfl hp hb
def ae6 (t:OT) (lt:LT) (m:Nat) (f:FuncId) (k:Nat) (fn:Func) (lp lp2:Lp) (fa:Fa):Bool:=
 Go.Z.ky (bR fa.fx) fn.ntmps ((bR fa.fx).pl f) (aI k (loops (aC fn))) && afC (bR fa.fx) (uv (bR fa.fx) (λf=>wF f fa.fx t) (λf k=>pc f k fa.fx lt) m) fn.ntmps ((bR fa.fx).pl f) (λk=>pc f k fa.fx lt) (aI k (loops (aC fn))) lp lp2
theorem aSn {t:OT} {lt:LT} (ht:dB (aY aa) t) (hl:dB (cA aa) lt) {m:Nat} {f:FuncId} {k:Nat} {fn:Func} {lp lp2:Lp} (h2:∀M,qN aa fn.ntmps (aI k (loops (aC fn))) lp2 M) {fa:Fa} (hz:(bR fa.fx).fn f=some fn) (hb:fn.body=some (aC fn)) (h:ae6 t lt m f k fn lp lp2 fa=true):Ua aa fn.ntmps (aI k (loops (aC fn))) lp fa:=by
 intro E hF bs a w hS hR
 simp only[ae6,ar] at h
 have hO:=@H3 _ _ E (bR fa.fx) hF t ht
 have hFn:=@Bq _ E fa.fx
 have hL:=@HJ _ _ E (bR fa.fx) hF hFn lt hl
 refine @aTG _ E bs w (bR fa.fx) aa fn.ntmps a _ lp lp2 (@vg _ E _ hF) _ (@De _ E _ _ (@vg _ E _ hF) hFn _ _ hO hL m) hFn.mixed _ _ ?_ h.1 h.2 h2 hS hR
 intro q hq g hg
 refine hL f fn _ hz hb q ?_ g hg
 rcases K3 (k:=k) (loops (aC fn)) with e | e
 .rw[e] at hq; cases hq
 .exact uL e q hq
theorem aSm {t:OT} {lt:LT} (ht:dB (aY aa) t) (hl:dB (cA aa) lt) {m:Nat} {f:FuncId} {k:Nat} {fn:Func} {lp lp2:Lp} (h2:∀M,qN aa fn.ntmps (aI k (loops (aC fn))) lp2 M) (hz:∀F,(bR F).fn f=some fn) (hb:fn.body=some (aC fn)) (tr:Tr) (ho:Ob lp.fa (λE=>@ah _ E lp.fa.fx) tr) (h:cx (ae6 t lt m f k fn lp lp2) lp.fa tr=true):ct aa fn.ntmps (aI k (loops (aC fn))) lp:=
 Ua.all λE hF=>Og (R:=λE=>∀bs a w,@SR _ E bs (bO lp.s) a fn.ntmps->@HR _ E w bs (aK lp.n lp.l)->∃M,Code.rounds aa (aI k (loops (aC fn))) (@iu _ E fn.ntmps bs w (aK lp.n lp.l) lp.ex (bO lp.s') (aK lp.n' lp.l')) M a w) (λfa h E hF=>aSn (fa:=fa) ht hl h2 (hz _) hb h E hF) ho h E hF hF
end
end Go.Proofs.Y
namespace Go.Lz
open Go.Z (R)
def az (lo hi x:Int):Int:=if x < lo then lo else if hi < x then hi else x
theorem cH {lo hi:Int} (h:lo<=hi) (x:Int):lo<=az lo hi x/\az lo hi x<=hi:=by
 unfold az; split
 .omega
 .split <;>omega
theorem a6 {lo hi x:Int} (h:lo<=x) (h':x<=hi):az lo hi x=x:=by
 unfold az; rw[if_neg om,if_neg om]
def hold (p:Int):Int:=az 31 2017 p
theorem KR (p:Int):31<=hold p/\hold p<=2017:=cH dc p
def adapt (p b:Int):Int:=az 31 2017 (if b=0 then hold p+(2048 - hold p) / 32 else hold p - hold p / 32)
theorem aPS (p b:Int):adapt p b=if b=0 then hold p+(2048 - hold p) / 32 else hold p - hold p / 32:=by
 have:=KR p
 unfold adapt
 refine a6 ?_ ?_ <;>split <;>omega
def be (L k:Int):R:=λi=>if (i:Int) < k then L / 256 ^ (k.toNat - 1 - i) % 256 else 0
theorem ael (L k:Int) (i:Nat):0<=be L k i/\be L k i<=255:=by
 unfold be; split <;>omega
def qR:Nat->R->Int->R
 | 0,r,_=>r
 | j+1,r,n=>if n<=0 then r else qR j (λq=>if q=j then (n+r j) % 256 else r q) ((n+r j) / 256)
theorem asG (j:Nat) (r:R) {n:Int} (h:n<=0):qR j r n=r:=by
 cases j with
 | zero=>rfl
 | succ j=>exact if_pos h
theorem asH:∀(j:Nat) (r:R) (n:Int) (q:Nat),j<=q->qR j r n q=r q
 | 0,_,_,_,_=>rfl
 | j+1,r,n,q,h=>by
  unfold qR
  split
  .rfl
  .rw[asH j _ _ q om,if_neg om]
def num (r:R):Nat->Int
 | 0=>0
 | j+1=>num r j*256+r j
theorem a0D (r:R) (j:Nat):num r (j+1)=num r j*256+r j:=rfl
theorem ay7 {r s:R}:∀{j:Nat},(∀q,q < j->r q=s q)->num r j=num s j
 | 0,_=>rfl
 | j+1,h=>by
  unfold num
  rw[ay7 (j:=j) λq hq=>h q om,h j om]
theorem asF:∀(j:Nat) (r:R) (n:Int),(∀q,q < j->0<=r q/\r q<=255)->0<=n->∀q,q < j->qR j r n q=(num r j+n) / 256 ^ (j - 1 - q) % 256
 | 0,_,_,_,_,q,h=>by omega
 | j+1,r,n,hr,hn,q,hq=>by
  have hj:=hr j om
  by_cases h0:n<=0
  .have e:n=0:=by omega
   subst e
   rw[asG _ _ om,Int.add_zero]
   have key:∀(m:Nat),(∀q,q < m->0<=r q/\r q<=255)->∀q,q < m->r q=num r m / 256 ^ (m - 1 - q) % 256:=by
    intro m
    induction m with
    | zero=>intro _ q h; omega
    | succ m ih=>
     intro hm q hq
     have h1:=hm m om
     unfold num
     by_cases e:q=m
     .subst e
      rw[show q+1 - 1 - q=0 by omega,Gc,JV]
      omega
     .rw[show m+1 - 1 - q=(m - 1 - q)+1 by omega,sv,wc (256 ^ (m - 1 - q)) 256,<- F9 om,show (num r m*256+r m) / 256=num r m by omega]
      exact ih (λq h=>hm q om) q om
   exact key (j+1) hr q hq
  .unfold qR
   rw[if_neg h0]
   have hs:∀q,q < j->(λq=>if q=j then (n+r j) % 256 else r q) q=r q:=λq h=>if_neg om
   by_cases e:q=j
   .subst e
    rw[asH _ _ _ _ (fv _),if_pos rfl]
    unfold num
    rw[show q+1 - 1 - q=0 by omega,Gc,JV]
    omega
   .rw[asF j _ _ (λq h=>by show 0<=(if q=j then (n+r j) % 256 else r q)/\(if q=j then (n+r j) % 256 else r q)<=255; rw[if_neg om]; exact hr q om) om q om,ay7 hs,a0D]
    rw[show j+1 - 1 - q=(j - 1 - q)+1 by omega,sv,wc (256 ^ (j - 1 - q)) 256,<- F9 om]
    congr 2
    omega
theorem ay6 (L:Int):∀(k:Nat) (m:Nat),m<=k->num (be L k) m=L / 256 ^ (k - m) % 256 ^ m
 | k,0,_=>by rw[Gc,Int.emod_one]; rfl
 | k,m+1,h=>by
  unfold num
  rw[ay6 L k m om]
  have e:be L k m=L / 256 ^ (k - (m+1)) % 256:=by
   unfold be
   rw[if_pos om,show (k:Int).toNat - 1 - m=k - (m+1) by omega]
  rw[e,show k - m=k - (m+1)+1 by omega,sv,<- F9 (JW (Int.pow_pos om)),sv]
  generalize L / 256 ^ (k - (m+1))=x
  generalize hP:(256:Int) ^ m=P
  have h1:=adN x (P*256)
  have hPp:0 < P:=hP▸Int.pow_pos om
  have h2:x / 256 / P=x / (P*256):=by rw[wc,F9 om]
  have h3:=adN (x / 256) P
  rw[h2] at h3
  have h4:P*256*(x / (P*256))=256*(P*(x / (P*256))):=by rw[wc P 256,Ak]
  generalize P*(x / (P*256))=y at*
  omega
theorem aPU (L n:Int) (hn:0<=n) (k:Nat) (q:Nat) (hq:q < k):qR k (be L k) n q=be (L+n) k q:=by
 rw[asF k _ n (λq _=>ael _ _ _) hn q hq,ay6 L k k (fv _),yw,Gc,JV]
 unfold be
 rw[if_pos om,show (k:Int).toNat - 1 - q=k - 1 - q by omega]
 have h1:=adN L (256 ^ k)
 have e:(256:Int) ^ k=256 ^ (k - 1 - q)*(256*256 ^ q):=by
  rw[<- Ak,<- sv,<- T9]; congr 1; omega
 have hp:(0:Int) < 256 ^ (k - 1 - q):=Int.pow_pos om
 have e2:L+n=L % 256 ^ k+n+256 ^ (k - 1 - q)*(256*(256 ^ q*(L / 256 ^ k))):=by
  have:(256:Int) ^ k*(L / 256 ^ k)=256 ^ (k - 1 - q)*(256*(256 ^ q*(L / 256 ^ k))):=by
   conv=>lhs; rw[e]
   rw[e,Ak,Ak]
  omega
 rw[e2,Int.add_mul_ediv_left _ _ om]
 omega
theorem aQd (L:Int) (k:Nat) (q:Nat) (hq:q < k+1):be (L*256) ((k:Int)+1) q=if q < k then be L k q else 0:=by
 unfold be
 rw[if_pos om]
 by_cases h:q < k
 .rw[if_pos h,if_pos om,show ((k:Int)+1).toNat - 1 - q=(k - 1 - q)+1 by omega,show (k:Int).toNat - 1 - q=k - 1 - q by omega,sv,wc (256 ^ (k - 1 - q)) 256,<- F9 om,Int.mul_ediv_cancel _ om]
 .rw[if_neg h,show ((k:Int)+1).toNat - 1 - q=0 by omega,Gc,JV]
  omega
def bU (w p:Int):Int:=w / 2048*hold p
def part (w p b:Int):Int:=if b=0 then bU w p else w - bU w p
def wide (w:Int):Int:=if w < 16777216 then w*256 else w
def fy (w:Int):Int:=if w < 16777216 then 1 else 0
def gr (w:Int):Int:=if w < 16777216 then 256 else 1
def aM (w p b:Int):Int:=az 16777216 4294967295 (wide (part w p b))
def bq (w p b:Int):Int:=fy (part w p b)
def jB (L w p b:Int):Int:=(L+if b=0 then 0 else bU w p)*gr (part w p b)
def gD (w:Int):Int:=az 16777216 4294967295 (wide (w / 2))
def eL (w:Int):Int:=fy (w / 2)
def wC (L w b:Int):Int:=(L+if b=0 then 0 else w / 2)*gr (w / 2)
theorem aSR (w:Int):1<=gr w/\gr w<=256:=by unfold gr; split <;>decide
theorem wL (w:Int):0<=fy w/\fy w<=1:=by unfold fy; split <;>decide
theorem wu {w p:Int} (h:16777216<=w) (h':w<=4294967295):253952<=bU w p/\bU w p<=w - 253952:=by
 have:=KR p
 have e:w / 2048*2048<=w:=by omega
 have h1:w / 2048*31<=w / 2048*hold p:=ar2 om om
 have h2:w / 2048*hold p<=w / 2048*2017:=ar2 om om
 unfold bU
 omega
theorem aDd {w p:Int} (b:Int) (h:16777216<=w) (h':w<=4294967295):253952<=part w p b/\part w p b<=4294967295:=by
 have:=wu (p:=p) h h'
 unfold part; split <;>omega
theorem Yx {w:Int} (h:253952<=w) (h':w<=4294967295):16777216<=wide w/\wide w<=4294967295:=by
 unfold wide; split <;>omega
theorem UE {w p:Int} (b:Int) (h:16777216<=w) (h':w<=4294967295):aM w p b=wide (part w p b):=by
 have h1:=aDd (p:=p) b h h'
 have h2:=Yx h1.1 h1.2
 exact a6 h2.1 h2.2
theorem Vt {w:Int} (h:16777216<=w) (h':w<=4294967295):gD w=wide (w / 2):=by
 have h2:=Yx (w:=w / 2) om om
 exact a6 h2.1 h2.2
def yW (a i:Int):Prop:=-1<=i/\i<=7/\1<=a/\a < 2 ^ (8 - i).toNat
theorem ay5 {a i:Int} (h:yW a i):1<=a/\a<=511/\-1<=i/\i<=7/\(0<=i->a<=255):=by
 obtain⟨h1,h2,h3,h4⟩:=h
 have key:∀k:Fin 10,(2:Int) ^ k.val<=512/\(k.val<=8->(2:Int) ^ k.val<=256):=by decide
 have:=key ⟨(8 - i).toNat,by omega⟩
 have k2:=this.2
 simp only at this k2
 refine⟨h3,by omega,h1,h2,λh=>?_⟩
 have:=k2 om
 omega
theorem a0y {a i b:Int} (h:yW a i) (hi:0<=i) (hb:0<=b/\b<=1):yW (2*a+b) (i - 1):=by
 obtain⟨h1,h2,h3,h4⟩:=h
 refine⟨by omega,by omega,by omega,?_⟩
 rw[show (8 - (i - 1)).toNat=(8 - i).toNat+1 by omega,sv]
 omega
def atR (r:R) (n a:Int):Int:=az 0 2017 (if 1<=a/\a < n then r a.toNat else 0)
theorem aP0 (r:R) (n a:Int):0<=atR r n a/\atR r n a<=2017:=cH dc _
def dq (r:R) (n a b:Int):R:=λq=>az 31 2017 (if 1<=a/\a < n/\q=a.toNat then adapt (r q) b else r q)
theorem LW (r:R) (n a b:Int) (q:Nat):31<=dq r n a b q/\dq r n a b q<=2017:=cH dc _
structure TS where
 L:Int
 w:Int
 k:Int
 r:R
 a:Int
def cU (n b:Int) (s:TS):TS:=⟨jB s.L s.w (atR s.r n s.a) b,aM s.w (atR s.r n s.a) b,s.k+bq s.w (atR s.r n s.a) b,dq s.r n s.a b,2*s.a+b⟩
def aZ (n v:Int):Nat->TS->TS
 | 0,s=>s
 | i+1,s=>aZ n v i (cU n (v / 2 ^ i % 2) s)
theorem ak3 (n v:Int):∀(i:Nat) {s t:TS},s.r=t.r->s.a=t.a->(aZ n v i s).r=(aZ n v i t).r/\(aZ n v i s).a=(aZ n v i t).a
 | 0,_,_,h1,h2=>⟨h1,h2⟩
 | i+1,s,t,h1,h2=>ak3 n v i (by unfold cU; simp only[h1,h2]) (by unfold cU; simp only[h2])
theorem QT (n v:Int):∀(i:Nat) {s t:TS},s.w=t.w->s.r=t.r->s.a=t.a->(aZ n v i s).w=(aZ n v i t).w/\(aZ n v i s).k - s.k=(aZ n v i t).k - t.k
 | 0,_,_,h0,_,_=>⟨h0,by unfold aZ; omega⟩
 | i+1,s,t,h0,h1,h2=>by
  have:=QT n v i (s:=cU n (v / 2 ^ i % 2) s) (t:=cU n (v / 2 ^ i % 2) t) (by unfold cU; simp only[h0,h1,h2]) (by unfold cU; simp only[h1,h2]) (by unfold cU; simp only[h2])
  refine⟨this.1,?_⟩
  have e:=this.2
  have e1:(cU n (v / 2 ^ i % 2) s).k=s.k+bq s.w (atR s.r n s.a) (v / 2 ^ i % 2):=rfl
  have e2:(cU n (v / 2 ^ i % 2) t).k=t.k+bq t.w (atR t.r n t.a) (v / 2 ^ i % 2):=rfl
  rw[e1,e2,h0,h1,h2] at e
  show (aZ n v i _).k - s.k=(aZ n v i _).k - t.k
  omega
theorem ak1 (n v:Int):∀(i:Nat) {s t:TS},s.L=t.L->s.w=t.w->s.r=t.r->s.a=t.a->(aZ n v i s).L=(aZ n v i t).L
 | 0,_,_,h,_,_,_=>h
 | i+1,s,t,h,h0,h1,h2=>ak1 n v i (by unfold cU; simp only[h,h0,h1,h2]) (by unfold cU; simp only[h0,h1,h2]) (by unfold cU; simp only[h1,h2]) (by unfold cU; simp only[h2])
theorem Ea (n v:Int):∀(i:Nat) {s:TS},16777216<=s.w->s.w<=4294967295->(∀q,31<=s.r q/\s.r q<=2017)->(16777216<=(aZ n v i s).w/\(aZ n v i s).w<=4294967295)/\(s.k<=(aZ n v i s).k/\(aZ n v i s).k<=s.k+i)/\∀q,31<=(aZ n v i s).r q/\(aZ n v i s).r q<=2017
 | 0,s,h1,h2,h3=>⟨⟨h1,h2⟩,⟨aP _,by show s.k<=s.k+0; omega⟩,h3⟩
 | i+1,s,h1,h2,h3=>by
  have hw:16777216<=(cU n (v / 2 ^ i % 2) s).w/\(cU n (v / 2 ^ i % 2) s).w<=4294967295:=cH dc _
  have:=Ea n v i (s:=cU n (v / 2 ^ i % 2) s) hw.1 hw.2 λq=>LW _ _ _ _ _
  refine⟨this.1,?_,this.2.2⟩
  have e1:(cU n (v / 2 ^ i % 2) s).k=s.k+bq s.w (atR s.r n s.a) (v / 2 ^ i % 2):=rfl
  have e2:=this.2.1
  have e3:0<=bq s.w (atR s.r n s.a) (v / 2 ^ i % 2)/\bq s.w (atR s.r n s.a) (v / 2 ^ i % 2)<=1:=wL _
  show s.k<=(aZ n v i _).k/\(aZ n v i _).k<=s.k+((i+1:Nat):Int)
  rw[e1] at e2
  omega
theorem Bh (n v:Int) (i:Nat) (s:TS):aZ n v (i+1) s=aZ n v i (cU n (v / 2 ^ i % 2) s):=rfl
section
variable {n v a i w:Int} {r:R}
theorem rv (hi:0<=i):(i+1).toNat=i.toNat+1/\(i+-1+1).toNat=i.toNat:=by omega
theorem a94 (hi:0<=i) (L:Int):(aZ n v (i+-1+1).toNat ⟨jB L w (atR r n a) (v / 2 ^ i.toNat % 2),aM w (atR r n a) (v / 2 ^ i.toNat % 2),0,dq r n a (v / 2 ^ i.toNat % 2),a*2+v / 2 ^ i.toNat % 2⟩).L=(aZ n v (i+1).toNat ⟨L,w,0,r,a⟩).L:=by
 rw[(rv hi).1,(rv hi).2,Bh]
 exact ak1 n v _ rfl rfl rfl (show a*2+v / 2 ^ i.toNat % 2=2*a+v / 2 ^ i.toNat % 2 by omega)
theorem a96 (hi:0<=i):az 16777216 4294967295 (aZ n v (i+-1+1).toNat ⟨0,aM w (atR r n a) (v / 2 ^ i.toNat % 2),0,dq r n a (v / 2 ^ i.toNat % 2),a*2+v / 2 ^ i.toNat % 2⟩).w=az 16777216 4294967295 (aZ n v (i+1).toNat ⟨0,w,0,r,a⟩).w:=by
 rw[(rv hi).1,(rv hi).2,Bh]
 refine congrArg (az 16777216 4294967295) (And.left (QT n v _ ?_ ?_ ?_))
 .rfl
 .rfl
 .show a*2+v / 2 ^ i.toNat % 2=2*a+v / 2 ^ i.toNat % 2; omega
theorem a95 (hi:0<=i):(λq=>az 31 2017 ((aZ n v (i+-1+1).toNat ⟨0,0,0,dq r n a (v / 2 ^ i.toNat % 2),a*2+v / 2 ^ i.toNat % 2⟩).r q))=λq=>az 31 2017 ((aZ n v (i+1).toNat ⟨0,0,0,r,a⟩).r q):=by
 rw[(rv hi).1,(rv hi).2,Bh]
 funext q
 refine congrArg (λr:R=>az 31 2017 (r q)) (And.left (ak3 n v _ ?_ ?_))
 .rfl
 .show a*2+v / 2 ^ i.toNat % 2=2*a+v / 2 ^ i.toNat % 2; omega
theorem aE2 (hi:0<=i) (h7:i<=7) (hw:16777216<=w) (hw':w<=4294967295) (hr:∀q,31<=r q/\r q<=2017):bq w (atR r n a) (v / 2 ^ i.toNat % 2)+az 0 8 (aZ n v (i+-1+1).toNat ⟨0,aM w (atR r n a) (v / 2 ^ i.toNat % 2),0,dq r n a (v / 2 ^ i.toNat % 2),a*2+v / 2 ^ i.toNat % 2⟩).k=az 0 8 (aZ n v (i+1).toNat ⟨0,w,0,r,a⟩).k:=by
 have b0:=cH (show (16777216:Int)<=4294967295 by decide) (wide (part w (atR r n a) (v / 2 ^ i.toNat % 2)))
 have b1:=(Ea n v (i+-1+1).toNat (s:=⟨0,aM w (atR r n a) (v / 2 ^ i.toNat % 2),0,dq r n a (v / 2 ^ i.toNat % 2),a*2+v / 2 ^ i.toNat % 2⟩) b0.1 b0.2 λq=>LW _ _ _ _ _).2.1
 simp only at b1
 have b2:=(Ea n v (i+1).toNat (s:=⟨0,w,0,r,a⟩) hw hw' hr).2.1
 simp only at b2
 rw[a6 (by have:=b1.1; omega) (by have:=b1.2; omega),a6 (by have:=b2.1; omega) (by have:=b2.2; omega),(rv hi).1,(rv hi).2,Bh]
 have:=(QT n v i.toNat (s:=⟨0,aM w (atR r n a) (v / 2 ^ i.toNat % 2),0,dq r n a (v / 2 ^ i.toNat % 2),a*2+v / 2 ^ i.toNat % 2⟩) (t:=cU n (v / 2 ^ i.toNat % 2) ⟨0,w,0,r,a⟩) rfl rfl (show a*2+v / 2 ^ i.toNat % 2=2*a+v / 2 ^ i.toNat % 2 by omega)).2
 have e:(cU n (v / 2 ^ i.toNat % 2) ⟨0,w,0,r,a⟩).k=0+bq w (atR r n a) (v / 2 ^ i.toNat % 2):=rfl
 rw[e] at this
 simp only at this
 omega
theorem QU (hi:i < 0) (x:TS):aZ n v (i+1).toNat x=x:=by
 rw[show (i+1).toNat=0 by omega]; rfl
end
structure HS where
 L:Int
 w:Int
 k:Int
def gJ (b:Int) (s:HS):HS:=⟨wC s.L s.w b,gD s.w,s.k+eL s.w⟩
def cF (d:Int):Nat->HS->HS
 | 0,s=>s
 | i+1,s=>cF d i (gJ (d / 2 ^ i % 2) s)
theorem OY (d:Int) (i:Nat) (s:HS):cF d (i+1) s=cF d i (gJ (d / 2 ^ i % 2) s):=rfl
theorem OZ:∀(i:Nat) {d d':Int} {s t:HS},s.w=t.w->(cF d i s).w=(cF d' i t).w/\(cF d i s).k - s.k=(cF d' i t).k - t.k
 | 0,_,_,_,_,h=>⟨h,by unfold cF; omega⟩
 | i+1,d,d',s,t,h=>by
  have:=OZ i (d:=d) (d':=d') (s:=gJ (d / 2 ^ i % 2) s) (t:=gJ (d' / 2 ^ i % 2) t) (by unfold gJ; simp only[h])
  refine⟨this.1,?_⟩
  have e:=this.2
  have e1:(gJ (d / 2 ^ i % 2) s).k=s.k+eL s.w:=rfl
  have e2:(gJ (d' / 2 ^ i % 2) t).k=t.k+eL t.w:=rfl
  rw[e1,e2,h] at e
  show (cF d i _).k - s.k=(cF d' i _).k - t.k
  omega
theorem afi (d:Int):∀(i:Nat) {s t:HS},s.L=t.L->s.w=t.w->(cF d i s).L=(cF d i t).L
 | 0,_,_,h,_=>h
 | i+1,s,t,h,h0=>afi d i (by unfold gJ; simp only[h,h0]) (by unfold gJ; simp only[h0])
theorem Dr (d:Int):∀(i:Nat) {s:HS},16777216<=s.w->s.w<=4294967295->(16777216<=(cF d i s).w/\(cF d i s).w<=4294967295)/\(s.k<=(cF d i s).k/\(cF d i s).k<=s.k+i)
 | 0,s,h1,h2=>⟨⟨h1,h2⟩,⟨aP _,by show s.k<=s.k+0; omega⟩⟩
 | i+1,s,h1,h2=>by
  have hw:16777216<=(gJ (d / 2 ^ i % 2) s).w/\(gJ (d / 2 ^ i % 2) s).w<=4294967295:=cH dc _
  have:=Dr d i (s:=gJ (d / 2 ^ i % 2) s) hw.1 hw.2
  refine⟨this.1,?_⟩
  have e1:(gJ (d / 2 ^ i % 2) s).k=s.k+eL s.w:=rfl
  have e2:=this.2
  have e3:0<=eL s.w/\eL s.w<=1:=wL _
  show s.k<=(cF d i _).k/\(cF d i _).k<=s.k+((i+1:Nat):Int)
  rw[e1] at e2
  omega
section
variable {d i w:Int}
theorem aSX (hi:0<=i) (L:Int):(cF d (i+-1+1).toNat ⟨wC L w (d / 2 ^ i.toNat % 2),gD w,0⟩).L=(cF d (i+1).toNat ⟨L,w,0⟩).L:=by
 rw[(rv hi).1,(rv hi).2,OY]
 exact afi d _ rfl rfl
theorem aS0 (hi:0<=i):az 16777216 4294967295 (cF 0 (i+-1+1).toNat ⟨0,gD w,0⟩).w=az 16777216 4294967295 (cF 0 (i+1).toNat ⟨0,w,0⟩).w:=by
 rw[(rv hi).1,(rv hi).2,OY]
 exact congrArg (az 16777216 4294967295) (And.left (OZ _ rfl))
theorem auO (hi:0<=i) (h7:i<=5) (hw:16777216<=w) (hw':w<=4294967295):eL w+az 0 6 (cF 0 (i+-1+1).toNat ⟨0,gD w,0⟩).k=az 0 6 (cF 0 (i+1).toNat ⟨0,w,0⟩).k:=by
 have b0:16777216<=gD w/\gD w<=4294967295:=cH dc _
 have b1:=(Dr 0 (i+-1+1).toNat (s:=⟨0,gD w,0⟩) b0.1 b0.2).2
 simp only at b1
 have b2:=(Dr 0 (i+1).toNat (s:=⟨0,w,0⟩) hw hw').2
 simp only at b2
 rw[a6 (by have:=b1.1; omega) (by have:=b1.2; omega),a6 (by have:=b2.1; omega) (by have:=b2.2; omega),(rv hi).1,(rv hi).2,OY]
 have:=(OZ i.toNat (d:=0) (d':=0) (s:=⟨0,gD w,0⟩) (t:=gJ (0 / 2 ^ i.toNat % 2) ⟨0,w,0⟩) rfl).2
 have e:(gJ (0 / 2 ^ i.toNat % 2) ⟨0,w,0⟩).k=0+eL w:=rfl
 rw[e] at this
 simp only at this
 omega
theorem Vu (hi:i < 0) (x:HS):cF d (i+1).toNat x=x:=by
 rw[show (i+1).toNat=0 by omega]; rfl
end
def tL (l w:Int) (r:R) (n v a i:Int):Int:=(aZ n v (i+1).toNat ⟨l,w,0,r,a⟩).L
def tW (w:Int) (r:R) (n v a i:Int):Int:=az 16777216 4294967295 (aZ n v (i+1).toNat ⟨0,w,0,r,a⟩).w
def tK (w:Int) (r:R) (n v a i:Int):Int:=az 0 8 (aZ n v (i+1).toNat ⟨0,w,0,r,a⟩).k
def tR (r:R) (n v a i:Int):R:=λq=>az 31 2017 ((aZ n v (i+1).toNat ⟨0,0,0,r,a⟩).r q)
def hL (l w d i:Int):Int:=(cF d (i+1).toNat ⟨l,w,0⟩).L
def hW (w i:Int):Int:=az 16777216 4294967295 (cF 0 (i+1).toNat ⟨0,w,0⟩).w
def hK (w i:Int):Int:=az 0 6 (cF 0 (i+1).toNat ⟨0,w,0⟩).k
def dh (r:R) (i x:Int):R:=λq=>if q=i.toNat then x else r q
structure PS where
 L:Int
 w:Int
 k:Int
 cp:R
 bh:Int
 rb:R
 rl:R
 rd:R
def mI (v : Int) (s : PS) : PS :=
  ⟨tL (jB s.L s.w (s.cp s.bh.toNat) 0) (aM s.w (s.cp s.bh.toNat) 0) s.rb 256 v 1 7, tW (aM s.w (s.cp s.bh.toNat) 0) s.rb 256 v 1 7,
   s.k + (bq s.w (s.cp s.bh.toNat) 0 + tK (aM s.w (s.cp s.bh.toNat) 0) s.rb 256 v 1 7), dh s.cp s.bh (adapt (s.cp s.bh.toNat) 0), 0, tR s.rb 256 v 1 7, s.rl, s.rd⟩
def mD (n d : Int) (s : PS) : PS :=
  let w1 := aM s.w (s.cp s.bh.toNat) 1
  let w2 := tW w1 s.rl 256 (n - 2) 1 7
  let w3 := tW w2 s.rd 64 ((d - 1) / 64) 1 5
  ⟨hL (tL (tL (jB s.L s.w (s.cp s.bh.toNat) 1) w1 s.rl 256 (n - 2) 1 7) w2 s.rd 64 ((d - 1) / 64) 1 5) w3 (d - 1) 5, hW w3 5,
   s.k + (bq s.w (s.cp s.bh.toNat) 1 + tK w1 s.rl 256 (n - 2) 1 7 + tK w2 s.rd 64 ((d - 1) / 64) 1 5 + hK w3 5), dh s.cp s.bh (adapt (s.cp s.bh.toNat) 1), 1, s.rb, tR s.rl 256 (n - 2) 1 7, tR s.rd 64 ((d - 1) / 64) 1 5⟩
def cg (n d v:Int) (s:PS):PS:=if n=0 then mI v s else mD n d s
def gV (tk:R):Nat->Nat->PS->PS
 | 0,_,s=>s
 | m+1,j,s=>gV tk m (j+1) (cg (tk (3*j)) (tk (3*j+1)) (tk (3*j+2)) s)
def mb (n d v:Int):Prop:=(n=0/\d=0/\0<=v/\v<=255)\/(v=0/\2<=n/\n<=257/\1<=d/\d<=4096)
def LU (tk:R) (n:Int):Prop:=∀j:Nat,(j:Int) < n->mb (tk (3*j)) (tk (3*j+1)) (tk (3*j+2))
theorem A9 (tk:R) (m j:Nat) (s:PS):gV tk (m+1) j s=gV tk m (j+1) (cg (tk (3*j)) (tk (3*j+1)) (tk (3*j+2)) s):=rfl
structure PS.ym (s t:PS):Prop where
 w:s.w=t.w
 cp:s.cp=t.cp
 bh:s.bh=t.bh
 rb:s.rb=t.rb
 rl:s.rl=t.rl
 rd:s.rd=t.rd
theorem a90 {n d v:Int} {s t:PS} (h:s.ym t):(cg n d v s).ym (cg n d v t)/\(cg n d v s).k - s.k=(cg n d v t).k - t.k/\(s.L=t.L->(cg n d v s).L=(cg n d v t).L):=by
 obtain⟨h1,h2,h3,h4,h5,h6⟩:=h
 unfold cg
 split
 .refine⟨⟨?_,?_,?_,?_,?_,?_⟩,?_,λhL=>?_⟩ <;>unfold mI <;>simp only[h1,h2,h3,h4,h5,h6]
  .omega
  .rw[hL]
 .refine⟨⟨?_,?_,?_,?_,?_,?_⟩,?_,λhL=>?_⟩ <;>unfold mD <;>simp only[h1,h2,h3,h4,h5,h6]
  .omega
  .rw[hL]
theorem Xc (tk:R):∀(m j:Nat) {s t:PS},s.ym t->(gV tk m j s).ym (gV tk m j t)/\(gV tk m j s).k - s.k=(gV tk m j t).k - t.k/\(s.L=t.L->(gV tk m j s).L=(gV tk m j t).L)
 | 0,_,_,_,h=>⟨h,by unfold gV; omega,λh=>h⟩
 | m+1,j,s,t,h=>by
  have h1:=a90 (n:=tk (3*j)) (d:=tk (3*j+1)) (v:=tk (3*j+2)) h
  have h2:=Xc tk m (j+1) h1.1
  refine⟨h2.1,?_,λhL=>h2.2.2 (h1.2.2 hL)⟩
  have:=h2.2.1
  have:=h1.2.1
  rw[A9,A9]
  omega
theorem QQ (n d v:Int) (s:PS):(16777216<=(cg n d v s).w/\(cg n d v s).w<=4294967295)/\s.k<=(cg n d v s).k/\(cg n d v s).k<=s.k+23:=by
 have hb:∀w p b,0<=bq w p b/\bq w p b<=1:=λ_ _ _=>wL _
 have ht:∀w r n v a i,0<=tK w r n v a i/\tK w r n v a i<=8:=λ_ _ _ _ _ _=>cH dc _
 have hh:∀w i,0<=hK w i/\hK w i<=6:=λ_ _=>cH dc _
 unfold cg
 split
 .refine⟨cH dc _,?_⟩
  unfold mI
  have:=hb s.w (s.cp s.bh.toNat) 0
  have:=ht (aM s.w (s.cp s.bh.toNat) 0) s.rb 256 v 1 7
  simp only
  omega
 .refine⟨cH dc _,?_⟩
  unfold mD
  simp only
  have h1:=hb s.w (s.cp s.bh.toNat) 1
  generalize bq s.w (s.cp s.bh.toNat) 1=b at*
  generalize aM s.w (s.cp s.bh.toNat) 1=w1
  have h2:=ht w1 s.rl 256 (n - 2) 1 7
  generalize tK w1 s.rl 256 (n - 2) 1 7=k1 at*
  generalize tW w1 s.rl 256 (n - 2) 1 7=w2
  have h3:=ht w2 s.rd 64 ((d - 1) / 64) 1 5
  generalize tK w2 s.rd 64 ((d - 1) / 64) 1 5=k2 at*
  generalize tW w2 s.rd 64 ((d - 1) / 64) 1 5=w3
  have h4:=hh w3 5
  generalize hK w3 5=k3 at*
  omega
theorem DS (tk:R):∀(m j:Nat) {s:PS},16777216<=s.w->s.w<=4294967295->(16777216<=(gV tk m j s).w/\(gV tk m j s).w<=4294967295)/\s.k<=(gV tk m j s).k/\(gV tk m j s).k<=s.k+23*m
 | 0,_,s,h1,h2=>⟨⟨h1,h2⟩,aP _,by show s.k<=s.k+23*0; omega⟩
 | m+1,j,s,h1,h2=>by
  have h3:=QQ (tk (3*j)) (tk (3*j+1)) (tk (3*j+2)) s
  have h4:=DS tk m (j+1) h3.1.1 h3.1.2
  rw[A9]
  refine⟨h4.1,?_⟩
  have h5:=h3.2
  have h6:=h4.2
  show s.k<=_/\_<=s.k+23*((m+1:Nat):Int)
  omega
def wY (tk:R) (j n l w:Int) (cp:R) (bh:Int) (rb rl rd:R):Int:=(gV tk (n - j).toNat j.toNat ⟨l,w,0,cp,bh,rb,rl,rd⟩).L
def iQ (tk:R) (j n w:Int) (cp:R) (bh:Int) (rb rl rd:R):Int:=az 0 188416 (gV tk (n - j).toNat j.toNat ⟨0,w,0,cp,bh,rb,rl,rd⟩).k
def y7 (tk:R) (j n w:Int) (cp:R) (bh:Int) (rb rl rd:R):Int:=az 16777216 4294967295 (gV tk (n - j).toNat j.toNat ⟨0,w,0,cp,bh,rb,rl,rd⟩).w
section
variable {tk:R} {j n w:Int} {cp rb rl rd:R} {bh:Int}
theorem sZ (h0:0<=j) (h:j < n):(n - j).toNat=(n - (j+1)).toNat+1/\(j+1).toNat=j.toNat+1:=by omega
theorem aDn {l:Int} (h0:0<=j) (h:j < n) {s:PS} (hs:cg (tk (3*j.toNat)) (tk (3*j.toNat+1)) (tk (3*j.toNat+2)) ⟨l,w,0,cp,bh,rb,rl,rd⟩=s):wY tk (j+1) n s.L s.w s.cp s.bh s.rb s.rl s.rd=wY tk j n l w cp bh rb rl rd:=by
 unfold wY
 rw[(sZ h0 h).1,(sZ h0 h).2,A9,hs]
 exact (Xc tk _ _ (s:=⟨s.L,s.w,0,s.cp,s.bh,s.rb,s.rl,s.rd⟩) (t:=s) ⟨rfl,rfl,rfl,rfl,rfl,rfl⟩).2.2 rfl
theorem aDo (h0:0<=j) (h:j < n) {s:PS} (hs:(cg (tk (3*j.toNat)) (tk (3*j.toNat+1)) (tk (3*j.toNat+2)) ⟨0,w,0,cp,bh,rb,rl,rd⟩).ym s):y7 tk (j+1) n s.w s.cp s.bh s.rb s.rl s.rd=y7 tk j n w cp bh rb rl rd:=by
 unfold y7
 rw[(sZ h0 h).1,(sZ h0 h).2,A9]
 exact congrArg (az 16777216 4294967295) (Xc tk _ _ (s:=⟨0,s.w,0,s.cp,s.bh,s.rb,s.rl,s.rd⟩) ⟨hs.w.symm,hs.cp.symm,hs.bh.symm,hs.rb.symm,hs.rl.symm,hs.rd.symm⟩).1.w
theorem Xk (h0:0<=j) (h:j < n) (hn:n<=8192) (hw:16777216<=w) (hw':w<=4294967295) {s:PS} (hs:(cg (tk (3*j.toNat)) (tk (3*j.toNat+1)) (tk (3*j.toNat+2)) ⟨0,w,0,cp,bh,rb,rl,rd⟩).ym s) {k:Int} (hk:k=(cg (tk (3*j.toNat)) (tk (3*j.toNat+1)) (tk (3*j.toNat+2)) ⟨0,w,0,cp,bh,rb,rl,rd⟩).k):k+iQ tk (j+1) n s.w s.cp s.bh s.rb s.rl s.rd=iQ tk j n w cp bh rb rl rd:=by
 have hb:=QQ (tk (3*j.toNat)) (tk (3*j.toNat+1)) (tk (3*j.toNat+2)) ⟨0,w,0,cp,bh,rb,rl,rd⟩
 rw[hs.w] at hb
 have b1:=(DS tk (n - (j+1)).toNat (j+1).toNat (s:=⟨0,s.w,0,s.cp,s.bh,s.rb,s.rl,s.rd⟩) hb.1.1 hb.1.2).2
 have b2:=(DS tk (n - j).toNat j.toNat (s:=⟨0,w,0,cp,bh,rb,rl,rd⟩) hw hw').2
 simp only at b1 b2
 unfold iQ
 rw[a6 (by have:=b1.1; omega) (by have:=b1.2; omega),a6 (by have:=b2.1; omega) (by have:=b2.2; omega)]
 rw[(sZ h0 h).1,(sZ h0 h).2,A9]
 have:=(Xc tk (n - (j+1)).toNat (j.toNat+1) (s:=⟨0,s.w,0,s.cp,s.bh,s.rb,s.rl,s.rd⟩) (t:=cg (tk (3*j.toNat)) (tk (3*j.toNat+1)) (tk (3*j.toNat+2)) ⟨0,w,0,cp,bh,rb,rl,rd⟩) ⟨hs.w.symm,hs.cp.symm,hs.bh.symm,hs.rb.symm,hs.rl.symm,hs.rd.symm⟩).2.1
 simp only at this
 omega
theorem Qp (h:n<=j) (s:PS):gV tk (n - j).toNat j.toNat s=s:=by
 rw[show (n - j).toNat=0 by omega]; rfl
end
def jc (n:Int):Int:=if n=0 then 1 else n
def l5 (n d v made:Int):Prop:=(n=0/\d=0/\0<=v/\v<=255)\/(v=0/\2<=n/\n<=257/\1<=d/\d<=4096/\d<=made)
def akA (tk:R):Nat->Nat->Int->Prop
 | 0,_,_=>True
 | m+1,j,made=>l5 (tk (3*j)) (tk (3*j+1)) (tk (3*j+2)) made/\jc (tk (3*j))<=8192 - made/\akA tk m (j+1) (made+jc (tk (3*j)))
def np (tk:R) (j n made:Int):Prop:=akA tk (n - j).toNat j.toNat made
theorem a8X {tk:R} {j n made:Int} (h0:0<=j) (h:j < n) (hr:np tk j n made):l5 (tk (3*j.toNat)) (tk (3*j.toNat+1)) (tk (3*j.toNat+2)) made/\jc (tk (3*j.toNat))<=8192 - made/\np tk (j+1) n (made+jc (tk (3*j.toNat))):=by
 unfold np at hr ⊢
 rw[(sZ h0 h).1] at hr
 rw[(sZ h0 h).2]
 exact hr
theorem aD7 {tk:R}:∀(m j:Nat) (made:Int),akA tk m j made->∀i,j<=i->i < j+m->mb (tk (3*i)) (tk (3*i+1)) (tk (3*i+2))
 | 0,j,_,_,i,h1,h2=>by omega
 | m+1,j,made,⟨h3,_,h4⟩,i,h1,h2=>by
  by_cases e:i=j
  .rw[e]
   rcases h3 with h | h
   .exact .inl h
   .exact .inr ⟨h.1,h.2.1,h.2.2.1,h.2.2.2.1,h.2.2.2.2.1⟩
  .exact aD7 m (j+1) _ h4 i om om
theorem a8Y {tk:R} {n:Int} (h:np tk 0 n 0):LU tk n:=λj hj=>aD7 _ _ _ h j (Aq _) om
def dp (x:Int):R:=λ_=>x
def aDb (tk:R) (n:Int):Int:=wY tk 0 n 0 4294967295 (dp 1024) 0 (dp 1024) (dp 1024) (dp 1024)
def Ia (tk:R) (n:Int):Int:=iQ tk 0 n 4294967295 (dp 1024) 0 (dp 1024) (dp 1024) (dp 1024)
theorem aDa (tk:R) (n:Int):0<=Ia tk n/\Ia tk n<=188416:=cH dc _
def sameAt (r:R) (a d:Int) (i:Nat):Prop:=r (a+i).toNat=r (a+i - d).toNat
instance (r:R) (a d:Int) (i:Nat):Decidable (sameAt r a d i):=inferInstanceAs (Decidable (_=(_:Int)))
def ext (r:R) (a d:Int):Nat->Nat->Nat
 | 0,i=>i
 | k+1,i=>if sameAt r a d i then ext r a d k (i+1) else i
theorem aeV {r:R} {a d:Int}:∀(k i:Nat),i<=ext r a d k i
 | 0,i=>fv _
 | k+1,i=>by
  unfold ext
  split
  .have:=aeV (r:=r) (a:=a) (d:=d) k (i+1); omega
  .exact fv _
theorem U6 {r:R} {a d:Int}:∀(k i:Nat),ext r a d k i<=i+k
 | 0,i=>fv _
 | k+1,i=>by
  unfold ext
  split
  .have:=U6 (r:=r) (a:=a) (d:=d) k (i+1); omega
  .omega
theorem aeW {r:R} {a d:Int}:∀(k i j:Nat),i<=j->j < ext r a d k i->sameAt r a d j
 | 0,i,j,h,h2=>by unfold ext at h2; omega
 | k+1,i,j,h,h2=>by
  unfold ext at h2
  split at h2
  .rename_i e
   by_cases q:i=j
   .rw[<- q]; exact e
   .exact aeW k (i+1) j om h2
  .omega
theorem atZ {r:R} {a d:Int}:∀(k i:Nat),ext r a d k i < i+k->¬sameAt r a d (ext r a d k i)
 | 0,i,h=>by unfold ext at h; omega
 | k+1,i,h=>by
  unfold ext at h ⊢
  split
  .rename_i e
   rw[if_pos e] at h
   exact atZ k (i+1) om
  .rename_i e; exact e
def jA (r:R) (a d n:Int):Prop:=ext r a d n.toNat 0=n.toNat
instance (r:R) (a d n:Int):Decidable (jA r a d n):=inferInstanceAs (Decidable (_=(_:Nat)))
def Dc (r:R) (a most:Int):Nat->Int->Int->Int->Int×Int
 | 0,_,n,dist=>(n,dist)
 | k+1,d,n,dist=>if n < most then (if jA r a d (n+1) then Dc r a most k (d+1) (ext r a d (most - (n+1)).toNat (n+1).toNat:Nat) d else Dc r a most k (d+1) n dist) else (n,dist)
def jF (a b:Int):Int:=if a < b then a else b
def fU (r:R) (a most d n dist:Int):Int×Int:=Dc r a most (jF a 4096 - d+1).toNat d n dist
section
variable {r:R} {a d n most dist:Int}
theorem aRV (h0:0<=n) (h:n < most) (hs:sameAt r a d n.toNat):ext r a d (most - (n+1)).toNat (n+1).toNat=ext r a d (most - n).toNat n.toNat:=by
 rw[show (most - n).toNat=(most - (n+1)).toNat+1 by omega,show (n+1).toNat=n.toNat+1 by omega]
 conv=>rhs; unfold ext
 rw[if_pos hs]
theorem aRW (hs:¬sameAt r a d n.toNat):ext r a d (most - n).toNat n.toNat=n.toNat:=by
 cases (most - n).toNat with
 | zero=>rfl
 | succ k=>unfold ext; rw[if_neg hs]
theorem aRU (h:most<=n):ext r a d (most - n).toNat n.toNat=n.toNat:=by
 rw[show (most - n).toNat=0 by omega]; rfl
theorem aeU (h0:0<=n) (h:n < most) (hm:most<=257):az 0 257 (ext r a d (most - (n+1)).toNat (n+1).toNat:Nat)=(ext r a d (most - (n+1)).toNat (n+1).toNat:Nat)/\((ext r a d (most - (n+1)).toNat (n+1).toNat:Nat):Int)<=most/\n+1<=((ext r a d (most - (n+1)).toNat (n+1).toNat:Nat):Int):=by
 have h1:=U6 (r:=r) (a:=a) (d:=d) (most - (n+1)).toNat (n+1).toNat
 have h2:=aeV (r:=r) (a:=a) (d:=d) (most - (n+1)).toNat (n+1).toNat
 exact⟨a6 om om,by omega,by omega⟩
theorem asZ (hd:d<=jF a 4096) (h:n < most) (hs:jA r a d (n+1)):fU r a most (d+1) (ext r a d (most - (n+1)).toNat (n+1).toNat:Nat) d=fU r a most d n dist:=by
 unfold fU
 rw[show (jF a 4096 - d+1).toNat=(jF a 4096 - (d+1)+1).toNat+1 by omega]
 conv=>rhs; unfold Dc
 rw[if_pos h,if_pos hs]
theorem asW (hd:d<=jF a 4096) (h:n < most) (hs:¬jA r a d (n+1)):fU r a most (d+1) n dist=fU r a most d n dist:=by
 unfold fU
 rw[show (jF a 4096 - d+1).toNat=(jF a 4096 - (d+1)+1).toNat+1 by omega]
 conv=>rhs; unfold Dc
 rw[if_pos h,if_neg hs]
theorem asY (h:most<=n):fU r a most d n dist=(n,dist):=by
 unfold fU
 cases (jF a 4096 - d+1).toNat with
 | zero=>rfl
 | succ k=>unfold Dc; rw[if_neg om]
theorem asX (h:jF a 4096 < d):fU r a most d n dist=(n,dist):=by
 unfold fU
 rw[show (jF a 4096 - d+1).toNat=0 by omega]; rfl
theorem aEh (hs:jA r a d n) {i:Int} (h0:0<=i) (h:i < n):sameAt r a d i.toNat:=aeW n.toNat 0 _ (Aq _) (by unfold jA at hs; omega)
theorem aul (h0:0<=n) (hs:¬jA r a d n):((ext r a d n.toNat 0:Nat):Int) < n/\¬sameAt r a d (ext r a d n.toNat 0):=by
 have h1:=U6 (r:=r) (a:=a) (d:=d) n.toNat 0
 unfold jA at hs
 exact⟨by omega,atZ _ _ om⟩
theorem uM (a:Int):jF a 4096<=a/\jF a 4096<=4096:=by unfold jF; split <;>omega
end
def Db (r:R) (n a:Int):Int×Int:=fU r a (jF 257 (n - a)) 1 0 0
def wq (r:R) (n a:Int):Int:=az 0 257 (Db r n a).1
def Kn (r:R) (n a:Int):Int:=az 0 4097 (Db r n a).2
def bN (r:R) (n a:Int):Int:=if wq r n a < 3 then 0 else wq r n a
def bD (r:R) (n a:Int):Int:=if wq r n a < 3 then 0 else Kn r n a
theorem aP2 (r:R) (n a:Int):0<=bN r n a/\bN r n a<=257:=by
 have:0<=wq r n a/\wq r n a<=257:=cH dc _
 unfold bN; split <;>omega
theorem aP1 (r:R) (n a:Int):0<=bD r n a/\bD r n a<=4097:=by
 have:0<=Kn r n a/\Kn r n a<=4097:=cH dc _
 unfold bD; split <;>omega
theorem agE (x:Int):jF 257 x=if x < 257 then x else 257:=by
 unfold jF; split <;>split <;>omega
def fi (r:R) (n a:Int):Int:=if 0 < bN r n a then bN r n a else 0
def fH (r:R) (n a:Int):Int:=if 0 < bN r n a then bD r n a else 0
def fI (r:R) (n a:Int):Int:=if 0 < bN r n a then 0 else r a.toNat
def fY (r:R) (n a:Int):Int:=if 0 < bN r n a then bN r n a else 1
theorem LR (r:R) (n a:Int):1<=fY r n a:=by unfold fY; split <;>omega
def gE (t:R) (m x y z:Int):R:=λq=>if (q:Int) < 3*m then t q else if (q:Int)=3*m then x else if (q:Int)=3*m+1 then y else if (q:Int)=3*m+2 then z else 0
def jt (r:R) (n:Int):Nat->Int->R->Int->R×Int
 | 0,_,t,m=>(t,m)
 | k+1,a,t,m=>if a < n then jt r n k (a+fY r n a) (gE t m (fi r n a) (fH r n a) (fI r n a)) (m+1) else (t,m)
def eB (r:R) (n a:Int) (t:R) (m:Int):R×Int:=jt r n (n - a).toNat a t m
theorem akZ (r:R) (n:Int):∀(k:Nat) (a:Int) (t:R) (m:Int),n - a<=k->jt r n k a t m=jt r n (n - a).toNat a t m
 | 0,a,t,m,h=>by rw[show (n - a).toNat=0 by omega]
 | k+1,a,t,m,h=>by
  by_cases ha:a < n
  .have hp:=LR r n a
   rw[show (n - a).toNat=(n - a - 1).toNat+1 by omega]
   unfold jt
   rw[if_pos ha,if_pos ha,akZ r n k _ _ _ om,akZ r n (n - a - 1).toNat _ _ _ om]
  .rw[show (n - a).toNat=0 by omega]
   unfold jt
   rw[if_neg ha]
theorem ze {r:R} {n a:Int} (t:R) (m:Int) (h:a < n):eB r n a t m=eB r n (a+fY r n a) (gE t m (fi r n a) (fH r n a) (fI r n a)) (m+1):=by
 have hp:=LR r n a
 unfold eB
 rw[show (n - a).toNat=(n - a - 1).toNat+1 by omega]
 conv=>lhs; unfold jt
 rw[if_pos h,akZ r n (n - a - 1).toNat _ _ _ om]
theorem It {r:R} {n a:Int} (t:R) (m:Int) (h:n<=a):eB r n a t m=(t,m):=by
 unfold eB
 rw[show (n - a).toNat=0 by omega]; rfl
theorem aEW (r:R) (n:Int):∀(k:Nat) (a:Int) (t u:R) (m:Int),0<=m->(∀q:Nat,(q:Int) < 3*m->t q=u q)->(jt r n k a t m).2=(jt r n k a u m).2/\m<=(jt r n k a t m).2/\∀q:Nat,(q:Int) < 3*(jt r n k a t m).2->(jt r n k a t m).1 q=(jt r n k a u m).1 q
 | 0,a,t,u,m,hm,h=>⟨rfl,aP _,h⟩
 | k+1,a,t,u,m,hm,h=>by
  unfold jt
  split
  .have e:gE t m (fi r n a) (fH r n a) (fI r n a)=gE u m (fi r n a) (fH r n a) (fI r n a):=by
    funext q
    unfold gE
    split
    .rename_i hq; exact h q hq
    .rfl
   rw[e]
   have:=aEW r n k (a+fY r n a) (gE u m (fi r n a) (fH r n a) (fI r n a)) (gE u m (fi r n a) (fH r n a) (fI r n a)) (m+1) om (λ_ _=>rfl)
   exact⟨rfl,by omega,λ_ _=>rfl⟩
  .exact⟨rfl,aP _,h⟩
theorem QP (r:R) (n:Int):∀(k:Nat) (a:Int) (t:R) (m:Int),m<=(jt r n k a t m).2/\(jt r n k a t m).2<=m+k
 | 0,a,t,m=>by unfold jt; exact⟨aP _,by show m<=m+0; omega⟩
 | k+1,a,t,m=>by
  unfold jt
  split
  .have:=QP r n k (a+fY r n a) (gE t m (fi r n a) (fH r n a) (fI r n a)) (m+1)
   omega
  .show m<=m/\m<=m+((k+1:Nat):Int)
   omega
def dd (r:R) (n a:Int):Int:=az 0 8192 (eB r n a (dp 0) 0).2
theorem aEX (r:R) (n:Int):∀(k:Nat) (a:Int) (t u:R) (m p:Int),(jt r n k a t m).2 - m=(jt r n k a u p).2 - p
 | 0,a,t,u,m,p=>by unfold jt; simp only; omega
 | k+1,a,t,u,m,p=>by
  unfold jt
  split
  .have:=aEX r n k (a+fY r n a) (gE t m (fi r n a) (fH r n a) (fI r n a)) (gE u p (fi r n a) (fH r n a) (fI r n a)) (m+1) (p+1)
   omega
  .simp only; omega
theorem LS {r:R} {n a:Int} (ha:0<=a) (hn:n<=8192) (t:R) (m:Int):m+dd r n a=(eB r n a t m).2:=by
 have h1:=QP r n (n - a).toNat a (dp 0) 0
 have h2:=aEX r n (n - a).toNat a (dp 0) t 0 m
 unfold dd eB
 rw[a6 om om]
 omega
theorem X3 {r:R} {n a:Int} (ha:0<=a) (hn:n<=8192) (h:a < n):1+dd r n (a+fY r n a)=dd r n a:=by
 have hp:=LR r n a
 have h1:=LS (r:=r) (n:=n) ha hn (dp 0) 0
 rw[ze _ _ h] at h1
 have h2:=LS (r:=r) (n:=n) (a:=a+fY r n a) om hn (gE (dp 0) 0 (fi r n a) (fH r n a) (fI r n a)) (0+1)
 omega
theorem a9X {r:R} {n a:Int} (h:n<=a):dd r n a=0:=by
 unfold dd
 rw[It _ _ h]; rfl
theorem X5 {r:R} {n a:Int} (ha:0<=a) (hn:n<=8192) (h:a < n) {t u:R} {m:Int} (hm:0<=m) (hu:∀q:Nat,(q:Int) < 3*(m+1)->u q=gE t m (fi r n a) (fH r n a) (fI r n a) q):∀q:Nat,(q:Int) < 3*(m+dd r n a)->(eB r n (a+fY r n a) u (m+1)).1 q=(eB r n a t m).1 q:=by
 intro q hq
 rw[LS ha hn t m,ze t m h] at hq
 rw[ze t m h]
 have:=aEW r n (n - (a+fY r n a)).toNat (a+fY r n a) u (gE t m (fi r n a) (fH r n a) (fI r n a)) (m+1) om hu
 refine this.2.2 q ?_
 have e:(eB r n (a+fY r n a) (gE t m (fi r n a) (fH r n a) (fI r n a)) (m+1)).2=(jt r n (n - (a+fY r n a)).toNat (a+fY r n a) u (m+1)).2:=this.1.symm
 omega
def qo (r:R) (n:Int):R:=(eB r n 0 (dp 0) 0).1
def dk (r:R) (n:Int):Int:=4+Ia (qo r n) (dd r n 0)
def jY (r:R) (n:Int):Int:=aDb (qo r n) (dd r n 0)
theorem QH (r:R) (n:Int):4<=dk r n/\dk r n<=188420:=by
 have:=aDa (qo r n) (dd r n 0)
 unfold dk
 omega
def dO (c w p:Int):Int:=if c < bU w p then 0 else 1
def kz (c w p:Int):Int:=az 0 4294967295 (if c < bU w p then c else c - bU w p)
def o7 (c w:Int):Int:=if c < w / 2 then 0 else 1
def o6 (c w:Int):Int:=az 0 4294967295 (if c < w / 2 then c else c - w / 2)
theorem aeF (c w p:Int):0<=dO c w p/\dO c w p<=1:=by unfold dO; split <;>decide
theorem UU (c w:Int):0<=o7 c w/\o7 c w<=1:=by unfold o7; split <;>decide
theorem aS3 (p:Int):hold (hold p)=hold p:=a6 (KR p).1 (KR p).2
theorem asC (p b:Int):adapt (hold p) b=adapt p b:=by unfold adapt; rw[aS3]
theorem Xd (c w p:Int):part w p (dO c w p)=if c < bU w p then bU w p else w - bU w p:=by
 unfold part dO
 by_cases h:c < bU w p
 .rw[if_pos h,if_pos rfl,if_pos h]
 .rw[if_neg h,if_neg dc,if_neg h]
end Go.Lz
namespace Go.Lz
open Go.Z (R)
def adI (r:R) (a most a7:Int) (p:Int×Int):Prop:=p.1=0\/(0 < p.1/\p.1<=most/\1<=p.2/\p.2<=a7/\∀i:Nat,(i:Int) < p.1->sameAt r a p.2 i)
theorem aem {r:R} {a most a7:Int}:∀(k:Nat) (d n dist:Int),1<=d->d+k<=a7+1->adI r a most a7 (n,dist)->adI r a most a7 (Dc r a most k d n dist)
 | 0,_,_,_,_,_,h=>h
 | k+1,d,n,dist,h1,h2,h=>by
  unfold Dc
  split
  .rename_i hn
   split
   .rename_i hs
    refine aem k (d+1) _ d om om (.inr ?_)
    have hn0:0<=n:=by
     rcases h with h | h
     .have h:n=0:=h; omega
     .have h:0 < n:=h.1; omega
    have e1:=U6 (r:=r) (a:=a) (d:=d) (most - (n+1)).toNat (n+1).toNat
    have e2:=aeV (r:=r) (a:=a) (d:=d) (most - (n+1)).toNat (n+1).toNat
    refine⟨?_,?_,h1,?_,λi hi=>?_⟩
    .show (0:Int) < (ext r a d (most - (n+1)).toNat (n+1).toNat:Nat)
     omega
    .show ((ext r a d (most - (n+1)).toNat (n+1).toNat:Nat):Int)<=most
     omega
    .show d<=a7
     omega
    .have hi:(i:Int) < (ext r a d (most - (n+1)).toNat (n+1).toNat:Nat):=hi
     show sameAt r a d i
     by_cases q:i < (n+1).toNat
     .have:=aEh hs (i:=(i:Int)) om om
      rwa [fg] at this
     .exact aeW (most - (n+1)).toNat (n+1).toNat i om om
   .exact aem k (d+1) n dist om om h
  .exact h
theorem aQf (r:R) {n a:Int} (ha:0<=a):adI r a (jF 257 (n - a)) (jF a 4096) (Db r n a):=by
 unfold Db fU
 have hm:0<=jF a 4096:=by unfold jF; split <;>omega
 exact aem _ 1 0 0 om om (.inl rfl)
theorem Uz (r:R) {n a:Int} (ha:0<=a) (h:a < n) (hb:0 < bN r n a):3<=bN r n a/\bN r n a<=257/\bN r n a<=n - a/\1<=bD r n a/\bD r n a<=a/\bD r n a<=4096/\∀i:Nat,(i:Int) < bN r n a->sameAt r a (bD r n a) i:=by
 have g:=aQf r ha (n:=n)
 have hm:=agE (n - a)
 have hl:=uM a
 have h3:¬wq r n a < 3:=λq=>by unfold bN at hb; rw[if_pos q] at hb; omega
 have e1:bN r n a=wq r n a:=if_neg h3
 have e2:bD r n a=Kn r n a:=if_neg h3
 have hmb:jF 257 (n - a)<=257/\jF 257 (n - a)<=n - a:=by rw[hm]; split <;>omega
 rcases g with g | ⟨g1,g2,g3,g4,g5⟩
 .unfold wq at h3
  rw[g] at h3
  exact absurd dc h3
 .have c1:wq r n a=(Db r n a).1:=a6 om om
  have c2:Kn r n a=(Db r n a).2:=a6 om om
  rw[e1,e2,c1,c2]
  rw[c1] at h3
  exact⟨by omega,by omega,by omega,g3,by omega,by omega,g5⟩
theorem akY (r:R) {n a:Int} (ha:0<=a) (h:a < n):fY r n a<=n - a:=by
 unfold fY
 split
 .rename_i hb; exact (Uz r ha h hb).2.2.1
 .omega
theorem afF (r:R) (n a:Int):jc (fi r n a)=fY r n a:=by
 unfold jc fi fY
 by_cases h:0 < bN r n a
 .rw[if_pos h,if_pos h,if_neg om]
 .rw[if_neg h,if_neg h,if_pos rfl]
theorem ayr (r:R) {n a:Int} (hr:∀q,0<=r q/\r q<=255) (ha:0<=a) (h:a < n):l5 (fi r n a) (fH r n a) (fI r n a) a:=by
 unfold fi fH fI
 by_cases hb:0 < bN r n a
 .rw[if_pos hb,if_pos hb,if_pos hb]
  have:=Uz r ha h hb
  exact .inr ⟨rfl,by omega,this.2.1,this.2.2.2.1,this.2.2.2.2.2.1,this.2.2.2.2.1⟩
 .rw[if_neg hb,if_neg hb,if_neg hb]
  exact .inl ⟨rfl,rfl,(hr _).1,(hr _).2⟩
theorem X4 (r:R) (n:Int):∀(k:Nat) (a:Int) (t:R) (m:Int),0<=m->∀q:Nat,(q:Int) < 3*m->(jt r n k a t m).1 q=t q
 | 0,_,_,_,_,_,_=>rfl
 | k+1,a,t,m,hm,q,hq=>by
  unfold jt
  split
  .rw[X4 r n k _ _ (m+1) om q om]
   unfold gE
   rw[if_pos hq]
  .rfl
theorem a8o (t:R) {m:Int} (hm:0<=m) (x y z:Int):gE t m x y z (3*m.toNat)=x/\gE t m x y z (3*m.toNat+1)=y/\gE t m x y z (3*m.toNat+2)=z:=by
 unfold gE
 refine⟨?_,?_,?_⟩
 .rw[if_neg om,if_pos om]
 .rw[if_neg om,if_neg om,if_pos om]
 .rw[if_neg om,if_neg om,if_neg om,if_pos om]
theorem ak0 (r:R) {n a:Int} (t:R) {m:Int} (hm:0<=m) (h:a < n):(eB r n a t m).1 (3*m.toNat)=fi r n a/\(eB r n a t m).1 (3*m.toNat+1)=fH r n a/\(eB r n a t m).1 (3*m.toNat+2)=fI r n a:=by
 rw[ze t m h]
 have p:=a8o t hm (fi r n a) (fH r n a) (fI r n a)
 unfold eB
 rw[X4 r n _ _ _ (m+1) om _ om,X4 r n _ _ _ (m+1) om _ om,X4 r n _ _ _ (m+1) om _ om]
 exact p
theorem aE0 (r:R) {n:Int} (hr:∀q,0<=r q/\r q<=255) (hn:n<=8192):∀(k:Nat) (a:Int) (t:R) (m:Int),n - a<=k->0<=a->0<=m->np (eB r n a t m).1 m (eB r n a t m).2 a
 | 0,a,t,m,hk,ha,hm=>by
  rw[It t m om]
  unfold np
  rw[show (m - m).toNat=0 by omega]
  trivial
 | k+1,a,t,m,hk,ha,hm=>by
  by_cases h:a < n
  .have hp:=LR r n a
   have ih:=aE0 r hr hn k (a+fY r n a) (gE t m (fi r n a) (fH r n a) (fI r n a)) (m+1) om om om
   have at3:=ak0 r t hm h
   have hc:=(QP r n (n - (a+fY r n a)).toNat (a+fY r n a) (gE t m (fi r n a) (fH r n a) (fI r n a)) (m+1)).1
   rw[<- ze t m h] at ih
   have hc:m+1<=(eB r n a t m).2:=by rw[ze t m h]; exact hc
   unfold np at ih ⊢
   rw[(sZ hm (show m < (eB r n a t m).2 by omega)).1]
   rw[(sZ hm (show m < (eB r n a t m).2 by omega)).2] at ih
   refine⟨?_,?_,?_⟩
   .rw[at3.1,at3.2.1,at3.2.2]; exact ayr r hr ha h
   .rw[at3.1,afF]
    have:=akY r ha h
    omega
   .rw[at3.1,afF]; exact ih
  .rw[It t m om]
   unfold np
   rw[show (m - m).toNat=0 by omega]
   trivial
theorem a91 (r:R) {n:Int} (hr:∀q,0<=r q/\r q<=255) (h0:0<=n) (hn:n<=8192) (t:R):np (eB r n 0 t 0).1 0 (dd r n 0) 0:=by
 have:=aE0 r hr hn n.toNat 0 t 0 om (aP 0) (aP 0)
 have e:=LS (r:=r) (n:=n) (a:=0) (aP 0) hn t 0
 rwa [<- e,Int.zero_add] at this
theorem a9Z {n d v made:Int} (h:l5 n d v made) (s:PS):(cg n d v s).k<=s.k+9*jc n\/(n=2/\(cg n d v s).k<=s.k+23):=by
 by_cases hn:n=0
 .left
  have hb:bq s.w (s.cp s.bh.toNat) 0<=1:=(wL _).2
  have ht:tK (aM s.w (s.cp s.bh.toNat) 0) s.rb 256 v 1 7<=8:=(cH dc _).2
  have e:(cg n d v s).k=s.k+(bq s.w (s.cp s.bh.toNat) 0+tK (aM s.w (s.cp s.bh.toNat) 0) s.rb 256 v 1 7):=by unfold cg; rw[if_pos hn]; rfl
  have el:jc n=1:=if_pos hn
  omega
 .have:=(QQ n d v s).2.2
  have el:jc n=n:=if_neg hn
  rcases h with h | h
  .omega
  .by_cases h2:n=2
   .right; exact⟨h2,this⟩
   .left; omega
theorem aEZ (r:R) {n:Int} (hr:∀q,0<=r q/\r q<=255) (hn:n<=8192):∀(k:Nat) (a:Int) (t:R) (m:Int) (s:PS),n - a<=k->0<=a->0<=m->a<=n->(gV (eB r n a t m).1 ((eB r n a t m).2 - m).toNat m.toNat s).k<=s.k+9*(n - a)
 | 0,a,t,m,s,hk,ha,hm,hle=>by
  rw[It t m om]
  rw[show ((t,m).2 - m).toNat=0 by simp]
  show s.k<=_
  omega
 | k+1,a,t,m,s,hk,ha,hm,hle=>by
  by_cases h:a < n
  .have hp:=LR r n a
   have hl:=akY r ha h
   have at3:=ak0 r t hm h
   have hc:m+1<=(eB r n a t m).2:=by
    rw[ze t m h]
    exact (QP r n (n - (a+fY r n a)).toNat (a+fY r n a) (gE t m (fi r n a) (fH r n a) (fI r n a)) (m+1)).1
   have ih:=aEZ r hr hn k (a+fY r n a) (gE t m (fi r n a) (fH r n a) (fI r n a)) (m+1) (cg (fi r n a) (fH r n a) (fI r n a) s) om om om om
   rw[<- ze t m h] at ih
   rw[(sZ hm (show m < (eB r n a t m).2 by omega)).1,A9,at3.1,at3.2.1,at3.2.2]
   rw[(sZ hm (show m < (eB r n a t m).2 by omega)).2] at ih
   have hs:=a9Z (ayr r hr ha h) s
   rw[afF] at hs
   have h2:fi r n a≠2:=λe=>by
    unfold fi at e
    split at e
    .rename_i hb; have:=Uz r ha h hb; omega
    .omega
   rcases hs with hs | hs
   .omega
   .exact absurd hs.1 h2
  .rw[It t m om]
   rw[show ((t,m).2 - m).toNat=0 by simp]
   show s.k<=_
   omega
theorem a7B (r:R) {n:Int} (hr:∀q,0<=r q/\r q<=255) (h0:0<=n) (hn:n<=8192) (t:R):Ia (eB r n 0 t 0).1 (dd r n 0)<=9*n:=by
 have:=aEZ r hr hn n.toNat 0 t 0 ⟨0,4294967295,0,dp 1024,0,dp 1024,dp 1024,dp 1024⟩ om (aP 0) (aP 0) h0
 have e:=LS (r:=r) (n:=n) (a:=0) (aP 0) hn t 0
 rw[Int.zero_add] at e
 rw[<- e] at this
 have b:=(DS (eB r n 0 t 0).1 (dd r n 0 - 0).toNat (0:Int).toNat (s:=⟨0,4294967295,0,dp 1024,0,dp 1024,dp 1024,dp 1024⟩) dc dc).2.1
 have hc:0<=dd r n 0/\dd r n 0<=8192:=cH dc _
 have b2:=(DS (eB r n 0 t 0).1 (dd r n 0 - 0).toNat (0:Int).toNat (s:=⟨0,4294967295,0,dp 1024,0,dp 1024,dp 1024,dp 1024⟩) dc dc).2.2
 simp only at this b b2
 unfold Ia iQ
 rw[a6 om om]
 omega
end Go.Lz
